/- The machine side of laws, written by wip/tools/myprint.py (the printer's way, with functions proved by hand put in); Lean checks it. -/
import Derived.Test.YtimomihjghefdaaDoorJ1
import Derived.Test.YtimomihjghefdaaDoorQx11
import Derived.Test.YtimomihjghefdaaDoorJ5
import Derived.Test.YtimomihjghefdaaDoorJ6
import Derived.Test.YtimomihjghefdaaDoorJ4
namespace Go.Proofs.YtimomihjghefdaaDoor.Q
open Go.RowKit Go.Proofs.YtimomihjghefdaaDoorW.PrintWords Go.Proofs.YtimomihjghefdaaDoorW.PrintLast Go.Proofs.YtimomihjghefdaaDoorW.PrintMore
attribute [local go_sem] max2_int min2_int max_two min_two max_three min_three max_four min_four   -- for this text's walks alone
set_option linter.unusedVariables false
set_option linter.unusedSimpArgs false

/-! ### winnowerlaw22_IntakeAlone: function 4 -/
mutual
def winnowerlaw22_IntakeAlone.j0 : Nat → Int → Bool → Bool → List (S45) → Int → Int → Int → Int → Int → Int → List (List Int) → Option (Bool)
  | 0, _, _, _, _, _, _, _, _, _, _, _ => none
  | k + 1, x1, x7, x31, x314000, x314001, x314002, x314003, x314004, x315000, x315001, x315002 => if x31 = true then (some x7) else ((intake_Take.f x314000 x314001 x314002 x314003 x314004 x1 x315000 x315001 x315002).bind fun bt318 => (if bt318.2 = 0 then (winnowerlaw22_IntakeAlone.l0 k x1 bt318.1 0 x314000 x314001 x314002 x314003 x314004 x315000 x315001 x315002) else (some ((bt318.1.length : Int) == 0))))
def winnowerlaw22_IntakeAlone.l0 : Nat → Int → List (S41) → Int → List (S45) → Int → Int → Int → Int → Int → Int → List (List Int) → Option (Bool)
  | 0, _, _, _, _, _, _, _, _, _, _, _ => none
  | k + 1, x1, x10, x12, x314000, x314001, x314002, x314003, x314004, x315000, x315001, x315002 => if x12 < (x10.length : Int) then (if 0 ≤ x12 then (if (wrap64 (((rd_T41 x10 x12).f0) - x315001)) < 0 then (winnowerlaw22_IntakeAlone.j2 k x1 x10 x12 (wrap64 (((rd_T41 x10 x12).f0) - x315001)) true x314000 x314001 x314002 x314003 x314004 x315000 x315001 x315002) else (if (wrap64 (((rd_T41 x10 x12).f0) - x315001)) ≥ (x315002.length : Int) then (winnowerlaw22_IntakeAlone.j2 k x1 x10 x12 (wrap64 (((rd_T41 x10 x12).f0) - x315001)) true x314000 x314001 x314002 x314003 x314004 x315000 x315001 x315002) else (winnowerlaw22_IntakeAlone.j2 k x1 x10 x12 (wrap64 (((rd_T41 x10 x12).f0) - x315001)) (decide (((rd_T41 x10 x12).f0) < x1)) x314000 x314001 x314002 x314003 x314004 x315000 x315001 x315002))) else (none)) else (some true)
def winnowerlaw22_IntakeAlone.j2 : Nat → Int → List (S41) → Int → Int → Bool → List (S45) → Int → Int → Int → Int → Int → Int → List (List Int) → Option (Bool)
  | 0, _, _, _, _, _, _, _, _, _, _, _, _, _ => none
  | k + 1, x1, x10, x12, x13, x76, x314000, x314001, x314002, x314003, x314004, x315000, x315001, x315002 => if x76 = true then (some false) else (if 0 ≤ x13 then (if x13 ≤ (wrap64 (x13 + 1)) then (if (wrap64 (x13 + 1)) ≤ (x315002.length : Int) then ((intake_Take.f x314000 x314001 x314002 x314003 x314004 0 0 0 ((x315002.take ((wrap64 (x13 + 1)) : Int).toNat).drop (x13 : Int).toNat)).bind fun bt328 => (if bt328.2 = 0 then (if (bt328.1.length : Int) = 1 then (if 0 < (bt328.1.length : Int) then (if 0 ≤ x12 then (if x12 < (x10.length : Int) then (winnowerlaw22_IntakeAlone.j3 k x1 x10 x12 bt328.1 (((rd_T41 bt328.1 0).f1) != ((rd_T41 x10 x12).f1)) x314000 x314001 x314002 x314003 x314004 x315000 x315001 x315002) else (none)) else (none)) else (none)) else (winnowerlaw22_IntakeAlone.j3 k x1 x10 x12 bt328.1 true x314000 x314001 x314002 x314003 x314004 x315000 x315001 x315002)) else (winnowerlaw22_IntakeAlone.j3 k x1 x10 x12 bt328.1 true x314000 x314001 x314002 x314003 x314004 x315000 x315001 x315002))) else (none)) else (none)) else (none))
def winnowerlaw22_IntakeAlone.j3 : Nat → Int → List (S41) → Int → List (S41) → Bool → List (S45) → Int → Int → Int → Int → Int → Int → List (List Int) → Option (Bool)
  | 0, _, _, _, _, _, _, _, _, _, _, _, _, _ => none
  | k + 1, x1, x10, x12, x14, x107, x314000, x314001, x314002, x314003, x314004, x315000, x315001, x315002 => if x107 = true then (some false) else (if 0 ≤ x12 then (if x12 < (x10.length : Int) then (if 0 < (x14.length : Int) then (if x12 ≤ (wrap64 (x12 + 1)) then (if (wrap64 (x12 + 1)) ≤ (x10.length : Int) then ((winnowerref22_Same.f k (x14.set (0 : Int).toNat (⟨(rd_T41 x10 x12).f0, (rd_T41 x14 0).f1, (rd_T41 x14 0).f2⟩ : S41)) ((x10.take ((wrap64 (x12 + 1)) : Int).toNat).drop (x12 : Int).toNat)).bind fun t340 => (if t340 = true then (if ((rd_T41 x10 x12).f1 = true) then (winnowerlaw22_IntakeAlone.l0 k x1 x10 (wrap64 (x12 + 1)) x314000 x314001 x314002 x314003 x314004 x315000 x315001 x315002) else (if (((rd_T41 x10 x12).f2).length : Int) > 0 then (some false) else (winnowerlaw22_IntakeAlone.l0 k x1 x10 (wrap64 (x12 + 1)) x314000 x314001 x314002 x314003 x314004 x315000 x315001 x315002))) else (some false))) else (none)) else (none)) else (none)) else (none)) else (none))
end
def winnowerlaw22_IntakeAlone.f (k : Nat) (l0_0 : List (S45)) (a0_1 : Int) (a0_2 : Int) (a0_3 : Int) (a0_4 : Int) (a1 : Int) (a2_0 : Int) (a2_1 : Int) (l2_2 : List (List Int)) : Option (Bool) := (winnowerlaw22_awake.f).bind fun t315 => ((winnowerref07_Few.f k l0_0 a0_1 a0_2 a0_3 a0_4).bind fun t316 => ((winnowerref22_Few.f k a2_0 a2_1 l2_2 100).bind fun t317 => (if t315 = true then (if t316 = true then (winnowerlaw22_IntakeAlone.j0 k a1 t315 (!t317) l0_0 a0_1 a0_2 a0_3 a0_4 a2_0 a2_1 l2_2) else (winnowerlaw22_IntakeAlone.j0 k a1 t315 true l0_0 a0_1 a0_2 a0_3 a0_4 a2_0 a2_1 l2_2)) else (winnowerlaw22_IntakeAlone.j0 k a1 t315 true l0_0 a0_1 a0_2 a0_3 a0_4 a2_0 a2_1 l2_2))))
def winnowerlaw22_IntakeAlone.T12 : Bool × List (List Nat × List Nat) := (true, [([], []), ([], []), ([0, 1], [0, 1]), ([2], [2]), ([3], [3]), ([], []), ([5], [5]), ([4, 6], [4, 6]), ([7, 0, 1, 2, 3, 4, 5, 6, 7], [7])])
def winnowerlaw22_IntakeAlone.B12 : List Nat := [0, 0, 3, 7, 15, 0, 32, 127, 255]
theorem winnowerlaw22_IntakeAlone.tab12 : rtab .any (opsOf Tryd.f4 12) = winnowerlaw22_IntakeAlone.T12 := by kernel_rfl
theorem winnowerlaw22_IntakeAlone.bits12 : waitsOk winnowerlaw22_IntakeAlone.T12.2 winnowerlaw22_IntakeAlone.B12 = true := by kernel_rfl
def winnowerlaw22_IntakeAlone.T15 : Bool × List (List Nat × List Nat) := (true, [([], []), ([], []), ([1], [1]), ([], []), ([], []), ([4], [4]), ([2, 3, 5], [2, 3, 5]), ([6], [6]), ([0, 7], [0, 7]), ([8], [8]), ([9], [9]), ([9], [9]), ([10, 8, 0, 1, 2, 3, 4, 5, 6, 7, 8, 9, 10], [10]), ([11, 12, 0, 1, 2, 3, 4, 5, 6, 7, 8, 9, 10, 11, 12], [11])])
def winnowerlaw22_IntakeAlone.B15 : List Nat := [0, 0, 2, 0, 0, 16, 62, 126, 255, 511, 1023, 1023, 2047, 8191]
theorem winnowerlaw22_IntakeAlone.tab15 : rtab .any (opsOf Tryd.f4 15) = winnowerlaw22_IntakeAlone.T15 := by kernel_rfl
theorem winnowerlaw22_IntakeAlone.bits15 : waitsOk winnowerlaw22_IntakeAlone.T15.2 winnowerlaw22_IntakeAlone.B15 = true := by kernel_rfl
def winnowerlaw22_IntakeAlone.T16 : Bool × List (List Nat × List Nat) := (true, [([], []), ([0], [0]), ([1], [1]), ([2], [2]), ([3, 2], [2, 3]), ([4, 2], [2, 4]), ([2, 5], [2, 5]), ([6, 2], [6]), ([7], [7]), ([8, 7], [7, 8]), ([9, 7], [7, 9]), ([10, 7], [7, 10]), ([7], [7]), ([7], [7]), ([12, 13, 7], [7, 12, 13]), ([14, 7], [7, 14]), ([15, 7], [7, 15]), ([11, 16, 7], [7, 11, 16]), ([7, 17], [7, 17])])
def winnowerlaw22_IntakeAlone.B16 : List Nat := [0, 1, 3, 7, 15, 31, 63, 127, 255, 511, 1023, 2047, 255, 255, 12543, 28927, 61695, 131071, 262143]
theorem winnowerlaw22_IntakeAlone.tab16 : rtab .any (opsOf Tryd.f4 16) = winnowerlaw22_IntakeAlone.T16 := by kernel_rfl
theorem winnowerlaw22_IntakeAlone.bits16 : waitsOk winnowerlaw22_IntakeAlone.T16.2 winnowerlaw22_IntakeAlone.B16 = true := by kernel_rfl
set_option maxHeartbeats 8000000 in
set_option maxRecDepth 100000 in
theorem winnowerlaw22_IntakeAlone.calls (k : Nat) (A0_0 : Option Addr) (c0_0 : Nat) (l0_0 : List (S45)) (a0_1 : Int) (a0_2 : Int) (a0_3 : Int) (a0_4 : Int) (a1 : Int) (a2_0 : Int) (a2_1 : Int) (A2_2 : Option Addr) (c2_2 : Nat) (l2_2 : List (List Int)) (r : Bool) (w : World) (hr0_0 : Kd.C k45 w A0_0 l0_0.length l0_0) (hc0_0 : l0_0.length ≤ c0_0) (hr2_2 : Kd.C (Kd.slice 5 (Kd.int .u8)) w A2_2 l2_2.length l2_2) (hc2_2 : l2_2.length ≤ c2_2) (hG : Globs w) (hT_ : r = true) (h : winnowerlaw22_IntakeAlone.f k l0_0 a0_1 a0_2 a0_3 a0_4 a1 a2_0 a2_1 l2_2 = some r) :
    Calls Tryd.prog 4 #[.agg #[.slice A0_0 l0_0.length c0_0, .int .i64 a0_1, .int .i64 a0_2, .int .i64 a0_3, .int .i64 a0_4], .int .i64 a1, .agg #[.int .i64 a2_0, .int .i64 a2_1, .slice A2_2 l2_2.length c2_2]] w fun e w' => e = .returned (.bool r) ∧ Below w.heap.size w w' := by
  have hu24 := Tryd.underlying24
  have hu27 := Tryd.underlying27
  have HR0_0 := Aside0.mk hr0_0
  have HC0_0 := Aside0.mk hc0_0
  clear hr0_0 hc0_0
  have HR2_2 := Aside0.mk hr2_2
  have HC2_2 := Aside0.mk hc2_2
  clear hr2_2 hc2_2
  have HGL := Aside0.mk hG
  clear hG
  have HTRUE := Aside0.mk hT_
  clear hT_
  have HB := Aside0.mk (Below.refl w.heap.size w)
  have H : ((winnowerlaw22_awake.f).bind fun t315 => ((winnowerref07_Few.f k l0_0 a0_1 a0_2 a0_3 a0_4).bind fun t316 => ((winnowerref22_Few.f k a2_0 a2_1 l2_2 100).bind fun t317 => (if t315 = true then (if t316 = true then (winnowerlaw22_IntakeAlone.j0 k a1 t315 (!t317) l0_0 a0_1 a0_2 a0_3 a0_4 a2_0 a2_1 l2_2) else (winnowerlaw22_IntakeAlone.j0 k a1 t315 true l0_0 a0_1 a0_2 a0_3 a0_4 a2_0 a2_1 l2_2)) else (winnowerlaw22_IntakeAlone.j0 k a1 t315 true l0_0 a0_1 a0_2 a0_3 a0_4 a2_0 a2_1 l2_2))))) = some r := h
  clear h
  replace H := Option.bind_eq_some_iff.mp H
  obtain ⟨t315, A40, H⟩ := H
  replace H : ((winnowerref07_Few.f k l0_0 a0_1 a0_2 a0_3 a0_4).bind fun t316 => ((winnowerref22_Few.f k a2_0 a2_1 l2_2 100).bind fun t317 => (if t315 = true then (if t316 = true then (winnowerlaw22_IntakeAlone.j0 k a1 t315 (!t317) l0_0 a0_1 a0_2 a0_3 a0_4 a2_0 a2_1 l2_2) else (winnowerlaw22_IntakeAlone.j0 k a1 t315 true l0_0 a0_1 a0_2 a0_3 a0_4 a2_0 a2_1 l2_2)) else (winnowerlaw22_IntakeAlone.j0 k a1 t315 true l0_0 a0_1 a0_2 a0_3 a0_4 a2_0 a2_1 l2_2)))) = some r := H
  have A4 := Aside0.mk A40
  clear A40
  replace H := Option.bind_eq_some_iff.mp H
  obtain ⟨t316, A50, H⟩ := H
  replace H : ((winnowerref22_Few.f k a2_0 a2_1 l2_2 100).bind fun t317 => (if t315 = true then (if t316 = true then (winnowerlaw22_IntakeAlone.j0 k a1 t315 (!t317) l0_0 a0_1 a0_2 a0_3 a0_4 a2_0 a2_1 l2_2) else (winnowerlaw22_IntakeAlone.j0 k a1 t315 true l0_0 a0_1 a0_2 a0_3 a0_4 a2_0 a2_1 l2_2)) else (winnowerlaw22_IntakeAlone.j0 k a1 t315 true l0_0 a0_1 a0_2 a0_3 a0_4 a2_0 a2_1 l2_2))) = some r := H
  have A5 := Aside0.mk A50
  clear A50
  replace H := Option.bind_eq_some_iff.mp H
  obtain ⟨t317, A60, H⟩ := H
  replace H : (if t315 = true then (if t316 = true then (winnowerlaw22_IntakeAlone.j0 k a1 t315 (!t317) l0_0 a0_1 a0_2 a0_3 a0_4 a2_0 a2_1 l2_2) else (winnowerlaw22_IntakeAlone.j0 k a1 t315 true l0_0 a0_1 a0_2 a0_3 a0_4 a2_0 a2_1 l2_2)) else (winnowerlaw22_IntakeAlone.j0 k a1 t315 true l0_0 a0_1 a0_2 a0_3 a0_4 a2_0 a2_1 l2_2)) = some r := H
  have A6 := Aside0.mk A60
  clear A60
  have HC7 := Aside0.mk H
  clear H
  go_enter Tryd.func4, Tryd.ntmps4
  go_upto_region 4 with (first | ((with_reducible refine gate_dst (N := 3) rfl ?_); (try (refine gate_guard (by rfl) ?_; dsimp only)); refine box_event ?hg (N := 3) ?hd (cs := #[.slice A0_0 l0_0.length c0_0, .int .i64 a0_1, .int .i64 a0_2, .int .i64 a0_3, .int .i64 a0_4]) (t := 24) ?hr ?_; (case hd => rfl); (case hg => rfl); (case hr => first | (go_simp; done) | (go_simp; rfl)); intro gb313 hg w8 hbox hb; have n0_ := Aside0.mk (below_step (by repeat (first | (with_reducible first | exact HB.out | apply below_alloc | apply pw_below_drewN | apply below_drew1) | exact HB.out)) hb); have n1_ := Aside0.mk (hbox); have n2_ := Aside0.mk ((by rw [hg]; exact (below_size (by repeat (first | (with_reducible first | exact HB.out | apply below_alloc | apply pw_below_drewN | apply below_drew1) | exact HB.out))) : w.heap.size ≤ gb313)); have n3_ := Aside0.mk ((by rw [hg]; exact (below_size (by repeat (first | (with_reducible first | exact HB.out | apply below_alloc | apply pw_below_drewN | apply below_drew1) | exact HB.out))) : w.heap.size ≤ gb313)); clear HB; have HB := n0_; have BK313 := n1_; have GW313 := n2_; have GE313 := n3_; clear n0_ n1_ n2_ n3_; clear hb hbox hg) | ((with_reducible refine gate_dst (N := 5) rfl ?_); (try (refine gate_guard (by rfl) ?_; dsimp only)); refine box_event ?hg (N := 5) ?hd (cs := #[.int .i64 a2_0, .int .i64 a2_1, .slice A2_2 l2_2.length c2_2]) (t := 27) ?hr ?_; (case hd => rfl); (case hg => rfl); (case hr => first | (go_simp; done) | (go_simp; rfl)); intro gb314 hg w9 hbox hb; have n0_ := Aside0.mk (blk_below (g := gb313) (o := .cells #[.slice A0_0 l0_0.length c0_0, .int .i64 a0_1, .int .i64 a0_2, .int .i64 a0_3, .int .i64 a0_4] 24 (0, 0)) (by (with_reducible repeat (first | refine blk_drewN ?_ _ | refine blk_drew ?_ | refine blk_alloc ?_ _)); exact BK313.out) hb); have n1_ := Aside0.mk (below_step (by repeat (first | (with_reducible first | exact HB.out | apply below_alloc | apply pw_below_drewN | apply below_drew1 | refine below_set ?_ GE313.out) | exact HB.out)) hb); have n2_ := Aside0.mk (hbox); have n3_ := Aside0.mk ((by rw [hg]; exact (below_size (by repeat (first | (with_reducible first | exact HB.out | apply below_alloc | apply pw_below_drewN | apply below_drew1 | refine below_set ?_ GE313.out) | exact HB.out))) : w.heap.size ≤ gb314)); have n4_ := Aside0.mk ((by rw [hg]; exact (below_size (by repeat (first | (with_reducible first | exact HB.out | apply below_alloc | apply pw_below_drewN | apply below_drew1 | refine below_set ?_ GE313.out) | exact HB.out))) : w.heap.size ≤ gb314)); have n5_ := Aside0.mk ((by rw [hg]; exact Nat.ne_of_lt (blk_lt (g := gb313) (o := .cells #[.slice A0_0 l0_0.length c0_0, .int .i64 a0_1, .int .i64 a0_2, .int .i64 a0_3, .int .i64 a0_4] 24 (0, 0)) (by (with_reducible repeat (first | refine blk_drewN ?_ _ | refine blk_drew ?_ | refine blk_alloc ?_ _)); exact BK313.out)) : gb313 ≠ gb314)); have n6_ := Aside0.mk ((by rw [hg]; exact Nat.ne_of_gt (blk_lt (g := gb313) (o := .cells #[.slice A0_0 l0_0.length c0_0, .int .i64 a0_1, .int .i64 a0_2, .int .i64 a0_3, .int .i64 a0_4] 24 (0, 0)) (by (with_reducible repeat (first | refine blk_drewN ?_ _ | refine blk_drew ?_ | refine blk_alloc ?_ _)); exact BK313.out)) : gb314 ≠ gb313)); clear BK313; clear HB; have BK313 := n0_; have HB := n1_; have BK314 := n2_; have GW314 := n3_; have GE314 := n4_; have NB313_314 := n5_; have NB314_313 := n6_; clear n0_ n1_ n2_ n3_ n4_ n5_ n6_; clear hb hbox hg) | ((with_reducible refine gate_callee (f := 5) rfl ?_); refine goesL_ (some 17) rfl rfl Tryd.func5 (by kernel_rfl) rfl #[] rfl (by (try simp only [List.map_toArray, List.map_cons, List.map_nil]); first | done | rfl | (simp only [List.length_drop, List.length_take]; rfl)) ?_; (with_reducible refine (winnowerlaw22_awake.calls  t315 _ ?side1 A4.out).mono ?_); (case side1 => exact globs_below HGL.out (by repeat (first | (with_reducible first | exact HB.out | apply below_alloc | apply pw_below_drewN | apply below_drew1 | refine below_set ?_ GE313.out | refine below_set ?_ GE314.out) | exact HB.out))); rintro e w10 ⟨rfl, hb⟩; refine ⟨_, rfl, ?_⟩; have n0_ := Aside0.mk (blk_below (g := gb313) (o := .cells #[.slice A0_0 l0_0.length c0_0, .int .i64 a0_1, .int .i64 a0_2, .int .i64 a0_3, .int .i64 a0_4] 24 (0, 0)) (by (with_reducible repeat (first | refine blk_drewN ?_ _ | refine blk_drew ?_ | refine blk_alloc ?_ _)); exact BK313.out) hb); have n1_ := Aside0.mk (blk_below (g := gb314) (o := .cells #[.int .i64 a2_0, .int .i64 a2_1, .slice A2_2 l2_2.length c2_2] 27 (0, 0)) (by (with_reducible repeat (first | refine blk_drewN ?_ _ | refine blk_drew ?_ | refine blk_alloc ?_ _)); exact BK314.out) hb); have n2_ := Aside0.mk (below_step (by repeat (first | (with_reducible first | exact HB.out | apply below_alloc | apply pw_below_drewN | apply below_drew1 | refine below_set ?_ GE313.out | refine below_set ?_ GE314.out) | exact HB.out)) hb); clear BK313; clear BK314; clear HB; have BK313 := n0_; have BK314 := n1_; have HB := n2_; clear n0_ n1_ n2_; (try clear hb); (try clear hb2); (try clear hk); (try clear hi); have hnb11 := NB313_314.out; have hnc11 := NB314_313.out; have hcz12_0 : w10.cell? ⟨gb313, 0, none⟩ = some (.slice A0_0 l0_0.length c0_0) := (blk_cell BK313.out 0).trans rfl; have hcz12_1 : w10.cell? ⟨gb313, 1, none⟩ = some (.int .i64 a0_1) := (blk_cell BK313.out 1).trans rfl; have hcz12_2 : w10.cell? ⟨gb313, 2, none⟩ = some (.int .i64 a0_2) := (blk_cell BK313.out 2).trans rfl; have hcz12_3 : w10.cell? ⟨gb313, 3, none⟩ = some (.int .i64 a0_3) := (blk_cell BK313.out 3).trans rfl; have hcz12_4 : w10.cell? ⟨gb313, 4, none⟩ = some (.int .i64 a0_4) := (blk_cell BK313.out 4).trans rfl; have hfz12_0 := blk_frozen BK313.out 0; have hfz12_1 := blk_frozen BK313.out 1; have hfz12_2 := blk_frozen BK313.out 2; have hfz12_3 := blk_frozen BK313.out 3; have hfz12_4 := blk_frozen BK313.out 4) | ((with_reducible refine gate_callee (f := 6) rfl ?_); refine goesL_ (some 19) rfl rfl Tryd.func6 (by kernel_rfl) rfl #[.agg #[.slice A0_0 l0_0.length c0_0, .int .i64 a0_1, .int .i64 a0_2, .int .i64 a0_3, .int .i64 a0_4]] rfl (by (try simp only [List.map_toArray, List.map_cons, List.map_nil]); first | done | rfl | (simp only [List.length_drop, List.length_take]; rfl)) ?_; (with_reducible refine (winnowerref07_Few.calls k _ _ l0_0 a0_1 a0_2 a0_3 a0_4 t316 _ ?side1 ?side2 A5.out).mono ?_); (case side1 => repeat (first | exact (Kd.C_below HR0_0.out HB.out) | (with_reducible refine Kd.C_alloc ?_ _) | (with_reducible refine Kd.C_drewN ?_ _) | (with_reducible refine Kd.C_drew ?_))); (case side2 => exact HC0_0.out); rintro e w13 ⟨rfl, hb⟩; refine ⟨_, rfl, ?_⟩; have n0_ := Aside0.mk (blk_below (g := gb313) (o := .cells #[.slice A0_0 l0_0.length c0_0, .int .i64 a0_1, .int .i64 a0_2, .int .i64 a0_3, .int .i64 a0_4] 24 (0, 0)) (by (with_reducible repeat (first | refine blk_drewN ?_ _ | refine blk_drew ?_ | refine blk_alloc ?_ _)); exact BK313.out) hb); have n1_ := Aside0.mk (blk_below (g := gb314) (o := .cells #[.int .i64 a2_0, .int .i64 a2_1, .slice A2_2 l2_2.length c2_2] 27 (0, 0)) (by (with_reducible repeat (first | refine blk_drewN ?_ _ | refine blk_drew ?_ | refine blk_alloc ?_ _)); exact BK314.out) hb); have n2_ := Aside0.mk (below_step (by repeat (first | (with_reducible first | exact HB.out | apply below_alloc | apply pw_below_drewN | apply below_drew1 | refine below_set ?_ GE313.out | refine below_set ?_ GE314.out) | exact HB.out)) hb); clear BK313; clear BK314; clear HB; have BK313 := n0_; have BK314 := n1_; have HB := n2_; clear n0_ n1_ n2_; (try clear hb); (try clear hb2); (try clear hk); (try clear hi); have hcz14_0 : w13.cell? ⟨gb314, 0, none⟩ = some (.int .i64 a2_0) := (blk_cell BK314.out 0).trans rfl; have hcz14_1 : w13.cell? ⟨gb314, 1, none⟩ = some (.int .i64 a2_1) := (blk_cell BK314.out 1).trans rfl; have hcz14_2 : w13.cell? ⟨gb314, 2, none⟩ = some (.slice A2_2 l2_2.length c2_2) := (blk_cell BK314.out 2).trans rfl; have hfz14_0 := blk_frozen BK314.out 0; have hfz14_1 := blk_frozen BK314.out 1; have hfz14_2 := blk_frozen BK314.out 2) | ((with_reducible refine gate_callee (f := 7) rfl ?_); refine goesL_ (some 21) rfl rfl Tryd.func7 (by kernel_rfl) rfl #[.agg #[.int .i64 a2_0, .int .i64 a2_1, .slice A2_2 l2_2.length c2_2], .int .i64 100] rfl (by (try simp only [List.map_toArray, List.map_cons, List.map_nil]); first | done | rfl | (simp only [List.length_drop, List.length_take]; rfl)) ?_; (with_reducible refine (winnowerref22_Few.calls k a2_0 a2_1 _ _ l2_2 100 t317 _ ?side1 ?side2 A6.out).mono ?_); (case side1 => repeat (first | exact (Kd.C_below HR2_2.out HB.out) | (with_reducible refine Kd.C_alloc ?_ _) | (with_reducible refine Kd.C_drewN ?_ _) | (with_reducible refine Kd.C_drew ?_))); (case side2 => exact HC2_2.out); rintro e w15 ⟨rfl, hb⟩; refine ⟨_, rfl, ?_⟩; have n0_ := Aside0.mk (blk_below (g := gb313) (o := .cells #[.slice A0_0 l0_0.length c0_0, .int .i64 a0_1, .int .i64 a0_2, .int .i64 a0_3, .int .i64 a0_4] 24 (0, 0)) (by (with_reducible repeat (first | refine blk_drewN ?_ _ | refine blk_drew ?_ | refine blk_alloc ?_ _)); exact BK313.out) hb); have n1_ := Aside0.mk (blk_below (g := gb314) (o := .cells #[.int .i64 a2_0, .int .i64 a2_1, .slice A2_2 l2_2.length c2_2] 27 (0, 0)) (by (with_reducible repeat (first | refine blk_drewN ?_ _ | refine blk_drew ?_ | refine blk_alloc ?_ _)); exact BK314.out) hb); have n2_ := Aside0.mk (below_step (by repeat (first | (with_reducible first | exact HB.out | apply below_alloc | apply pw_below_drewN | apply below_drew1 | refine below_set ?_ GE313.out | refine below_set ?_ GE314.out) | exact HB.out)) hb); clear BK313; clear BK314; clear HB; have BK313 := n0_; have BK314 := n1_; have HB := n2_; clear n0_ n1_ n2_; (try clear hb); (try clear hb2); (try clear hk); (try clear hi)))
  (try simp only [Act.put, List.setIfInBounds_toArray, List.set_cons_zero, List.set_cons_succ])
  go_cut [31] (fun v31 wc => ∃ (kq : Nat) (x31_6 : Bool), v31 = .bool x31_6 ∧ Aside0 (winnowerlaw22_IntakeAlone.j0 kq a1 t315 x31_6 l0_0 a0_1 a0_2 a0_3 a0_4 a2_0 a2_1 l2_2 = some r) ∧ Aside0 (kq ≤ k) ∧ Aside0 (wc.heap[gb313]? = some (.cells #[(.slice A0_0 l0_0.length c0_0), .int .i64 a0_1, .int .i64 a0_2, .int .i64 a0_3, .int .i64 a0_4] 24 (0, 0))) ∧ Aside0 (wc.heap[gb314]? = some (.cells #[.int .i64 a2_0, .int .i64 a2_1, (.slice A2_2 l2_2.length c2_2)] 27 (0, 0))) ∧ Aside0 (Below w.heap.size w wc))
  case first =>
    have H := HC7.out
    clear HC7
    by_cases c16 : t315 = true
    · subst c16
      have H1 : (if t316 = true then (winnowerlaw22_IntakeAlone.j0 k a1 true (!t317) l0_0 a0_1 a0_2 a0_3 a0_4 a2_0 a2_1 l2_2) else (winnowerlaw22_IntakeAlone.j0 k a1 true true l0_0 a0_1 a0_2 a0_3 a0_4 a2_0 a2_1 l2_2)) = some r := by rw [if_pos rfl] at H; exact H
      clear H
      have H := H1
      clear H1
      by_cases c17 : t316 = true
      · subst c17
        have H1 : (winnowerlaw22_IntakeAlone.j0 k a1 true (!t317) l0_0 a0_1 a0_2 a0_3 a0_4 a2_0 a2_1 l2_2) = some r := by rw [if_pos rfl] at H; exact H
        clear H
        have H := H1
        clear H1
        have H' := Aside0.mk H
        clear H
        go_wp2
        go_meet
        case rel => exact ⟨_, (!t317), (by first | rfl | (simp; done) | (simp [*]; done)), H', ⟨by first | omega | exact Nat.le_refl _⟩, ⟨by (with_reducible repeat (first | refine blk_drewN ?_ _ | refine blk_drew ?_ | refine blk_alloc ?_ _)); exact BK313.out⟩, ⟨by (with_reducible repeat (first | refine blk_drewN ?_ _ | refine blk_drew ?_ | refine blk_alloc ?_ _)); exact BK314.out⟩, ⟨by repeat (first | (with_reducible first | exact HB.out | apply below_alloc | apply pw_below_drewN | apply below_drew1 | refine below_set ?_ GE313.out | refine below_set ?_ GE314.out) | exact HB.out)⟩⟩
      · replace c17 := Bool.eq_false_iff.mpr c17
        subst c17
        have H1 : (winnowerlaw22_IntakeAlone.j0 k a1 true true l0_0 a0_1 a0_2 a0_3 a0_4 a2_0 a2_1 l2_2) = some r := by rw [if_neg (show ¬ (false = true) by decide)] at H; exact H
        clear H
        have H := H1
        clear H1
        have H' := Aside0.mk H
        clear H
        go_wp2
        go_meet
        case rel => exact ⟨_, (true), (by first | rfl | (simp; done) | (simp [*]; done)), H', ⟨by first | omega | exact Nat.le_refl _⟩, ⟨by (with_reducible repeat (first | refine blk_drewN ?_ _ | refine blk_drew ?_ | refine blk_alloc ?_ _)); exact BK313.out⟩, ⟨by (with_reducible repeat (first | refine blk_drewN ?_ _ | refine blk_drew ?_ | refine blk_alloc ?_ _)); exact BK314.out⟩, ⟨by repeat (first | (with_reducible first | exact HB.out | apply below_alloc | apply pw_below_drewN | apply below_drew1 | refine below_set ?_ GE313.out | refine below_set ?_ GE314.out) | exact HB.out)⟩⟩
    · replace c16 := Bool.eq_false_iff.mpr c16
      subst c16
      have H1 : (winnowerlaw22_IntakeAlone.j0 k a1 false true l0_0 a0_1 a0_2 a0_3 a0_4 a2_0 a2_1 l2_2) = some r := by rw [if_neg (show ¬ (false = true) by decide)] at H; exact H
      clear H
      have H := H1
      clear H1
      have H' := Aside0.mk H
      clear H
      go_wp2
      go_meet
      case rel => exact ⟨_, (true), (by first | rfl | (simp; done) | (simp [*]; done)), H', ⟨by first | omega | exact Nat.le_refl _⟩, ⟨by (with_reducible repeat (first | refine blk_drewN ?_ _ | refine blk_drew ?_ | refine blk_alloc ?_ _)); exact BK313.out⟩, ⟨by (with_reducible repeat (first | refine blk_drewN ?_ _ | refine blk_drew ?_ | refine blk_alloc ?_ _)); exact BK314.out⟩, ⟨by repeat (first | (with_reducible first | exact HB.out | apply below_alloc | apply pw_below_drewN | apply below_drew1 | refine below_set ?_ GE313.out | refine below_set ?_ GE314.out) | exact HB.out)⟩⟩
  case rest =>
    clear HC7
    try clear c1
    try clear c2
    try clear p2
    try clear c4
    try clear c5
    try clear c6
    try clear c7
    try clear c11
    try clear c16
    try clear c17
    try clear hcz12_0
    try clear hcz12_1
    try clear hcz12_2
    try clear hcz12_3
    try clear hcz12_4
    try clear hcz14_0
    try clear hcz14_1
    try clear hcz14_2
    try clear hfz12_0
    try clear hfz12_1
    try clear hfz12_2
    try clear hfz12_3
    try clear hfz12_4
    try clear hfz14_0
    try clear hfz14_1
    try clear hfz14_2
    obtain ⟨kq, x31_6, rfl, HA, HJ6, BK313, BK314, HB⟩ := hcut
    cases kq with
    | zero => exact absurd HA.out (by simp [winnowerlaw22_IntakeAlone.j0])
    | succ kj6 =>
      have H := HA.out
      clear HA
      simp only [winnowerlaw22_IntakeAlone.j0] at H
      by_cases c18 : x31_6 = true
      · subst c18
        have H1 : (some t315) = some r := by rw [if_pos rfl] at H; exact H
        clear H
        have H := H1
        clear H1
        obtain rfl := Option.some.inj H
        go_wp2
        go_ret
        exact ⟨by first | rfl | (simp [errW_none, errW_some] <;> rfl) | (refine congrArg (fun b_ : Bool => Ending.returned (Value.bool b_)) ?_; simp; done) | (simp [*, errW_none, errW_some] <;> rfl), by repeat (first | (with_reducible first | exact HB.out | apply below_alloc | apply pw_below_drewN | apply below_drew1 | refine below_set ?_ GE313.out | refine below_set ?_ GE314.out) | exact HB.out)⟩
      · replace c18 := Bool.eq_false_iff.mpr c18
        subst c18
        have H1 : ((intake_Take.f l0_0 a0_1 a0_2 a0_3 a0_4 a1 a2_0 a2_1 l2_2).bind fun bt318 => (if bt318.2 = 0 then (winnowerlaw22_IntakeAlone.l0 kj6 a1 bt318.1 0 l0_0 a0_1 a0_2 a0_3 a0_4 a2_0 a2_1 l2_2) else (some ((bt318.1.length : Int) == 0)))) = some r := by rw [if_neg (show ¬ (false = true) by decide)] at H; exact H
        clear H
        have H := H1
        clear H1
        replace H := Option.bind_eq_some_iff.mp H
        obtain ⟨⟨t318, t321⟩, A190, H⟩ := H
        replace H : (if t321 = 0 then (winnowerlaw22_IntakeAlone.l0 kj6 a1 t318 0 l0_0 a0_1 a0_2 a0_3 a0_4 a2_0 a2_1 l2_2) else (some ((t318.length : Int) == 0))) = some r := H
        have A19 := Aside0.mk A190
        clear A190
        by_cases c20 : t321 = 0
        · rw [if_pos c20] at H
          have c20b0 : (t321 == 0) = true := beq_iff_eq.mpr c20
          have c20b1 : (t321 != 0) = false := bne_eq_false_iff_eq.mpr c20
          clear c20
          have H' := Aside0.mk H
          clear H
          have hnb21 := NB313_314.out
          have hnc21 := NB314_313.out
          have hcz22_0 : wc.cell? ⟨gb313, 0, none⟩ = some (.slice A0_0 l0_0.length c0_0) := (blk_cell BK313.out 0).trans rfl
          have hcz22_1 : wc.cell? ⟨gb313, 1, none⟩ = some (.int .i64 a0_1) := (blk_cell BK313.out 1).trans rfl
          have hcz22_2 : wc.cell? ⟨gb313, 2, none⟩ = some (.int .i64 a0_2) := (blk_cell BK313.out 2).trans rfl
          have hcz22_3 : wc.cell? ⟨gb313, 3, none⟩ = some (.int .i64 a0_3) := (blk_cell BK313.out 3).trans rfl
          have hcz22_4 : wc.cell? ⟨gb313, 4, none⟩ = some (.int .i64 a0_4) := (blk_cell BK313.out 4).trans rfl
          have hfz22_0 := blk_frozen BK313.out 0
          have hfz22_1 := blk_frozen BK313.out 1
          have hfz22_2 := blk_frozen BK313.out 2
          have hfz22_3 := blk_frozen BK313.out 3
          have hfz22_4 := blk_frozen BK313.out 4
          have hcz23_0 : wc.cell? ⟨gb314, 0, none⟩ = some (.int .i64 a2_0) := (blk_cell BK314.out 0).trans rfl
          have hcz23_1 : wc.cell? ⟨gb314, 1, none⟩ = some (.int .i64 a2_1) := (blk_cell BK314.out 1).trans rfl
          have hcz23_2 : wc.cell? ⟨gb314, 2, none⟩ = some (.slice A2_2 l2_2.length c2_2) := (blk_cell BK314.out 2).trans rfl
          have hfz23_0 := blk_frozen BK314.out 0
          have hfz23_1 := blk_frozen BK314.out 1
          have hfz23_2 := blk_frozen BK314.out 2
          go_wp2_with (first | ((with_reducible refine gate_callee (f := 8) rfl ?_); refine goesL_ (some 37) rfl rfl Tryd.func8 (by kernel_rfl) rfl #[.agg #[.slice A0_0 l0_0.length c0_0, .int .i64 a0_1, .int .i64 a0_2, .int .i64 a0_3, .int .i64 a0_4], .int .i64 a1, .agg #[.int .i64 a2_0, .int .i64 a2_1, .slice A2_2 l2_2.length c2_2]] rfl (by (try simp only [List.map_toArray, List.map_cons, List.map_nil]); first | done | rfl | (simp only [List.length_drop, List.length_take]; rfl)) ?_; (with_reducible refine (intake_Take.calls _ _ l0_0 a0_1 a0_2 a0_3 a0_4 a1 a2_0 a2_1 _ _ l2_2 t318 t321 _ ?side1 ?side2 ?side3 ?side4 ?side5 A19.out).mono ?_); (case side1 => repeat (first | exact (Kd.C_below HR0_0.out HB.out) | (with_reducible refine Kd.C_alloc ?_ _) | (with_reducible refine Kd.C_drewN ?_ _) | (with_reducible refine Kd.C_drew ?_))); (case side2 => exact HC0_0.out); (case side3 => repeat (first | exact (Kd.C_below HR2_2.out HB.out) | (with_reducible refine Kd.C_alloc ?_ _) | (with_reducible refine Kd.C_drewN ?_ _) | (with_reducible refine Kd.C_drew ?_))); (case side4 => exact HC2_2.out); (case side5 => exact globs_below HGL.out (by repeat (first | (with_reducible first | exact HB.out | apply below_alloc | apply pw_below_drewN | apply below_drew1 | refine below_set ?_ GE313.out | refine below_set ?_ GE314.out) | exact HB.out))); rintro e w24 ⟨v319, rfl, ho0, hb⟩; refine ⟨_, rfl, ?_⟩; have n0_ := Aside0.mk (Kd.S_lower ho0 (below_size (by repeat (first | (with_reducible first | exact HB.out | apply below_alloc | apply pw_below_drewN | apply below_drew1 | refine below_set ?_ GE313.out | refine below_set ?_ GE314.out) | exact HB.out)))); have n1_ := Aside0.mk (blk_below (g := gb313) (o := .cells #[.slice A0_0 l0_0.length c0_0, .int .i64 a0_1, .int .i64 a0_2, .int .i64 a0_3, .int .i64 a0_4] 24 (0, 0)) (by (with_reducible repeat (first | refine blk_drewN ?_ _ | refine blk_drew ?_ | refine blk_alloc ?_ _)); exact BK313.out) hb); have n2_ := Aside0.mk (blk_below (g := gb314) (o := .cells #[.int .i64 a2_0, .int .i64 a2_1, .slice A2_2 l2_2.length c2_2] 27 (0, 0)) (by (with_reducible repeat (first | refine blk_drewN ?_ _ | refine blk_drew ?_ | refine blk_alloc ?_ _)); exact BK314.out) hb); have n3_ := Aside0.mk (below_step (by repeat (first | (with_reducible first | exact HB.out | apply below_alloc | apply pw_below_drewN | apply below_drew1 | refine below_set ?_ GE313.out | refine below_set ?_ GE314.out) | exact HB.out)) hb); clear BK313; clear BK314; clear HB; have HO320 := n0_; have BK313 := n1_; have BK314 := n2_; have HB := n3_; clear n0_ n1_ n2_ n3_; (try clear hb); (try clear hb2); (try clear hk); (try clear hi); (try clear ho0)))
          go_loopg [12] kj6 (fun kq v12 w' => ∃ (x10_2 : List (S41)) (x12_2 : Int), v12 = .int .i64 x12_2 ∧ Aside0 (winnowerlaw22_IntakeAlone.l0 kq a1 x10_2 x12_2 l0_0 a0_1 a0_2 a0_3 a0_4 a2_0 a2_1 l2_2 = some r) ∧ Aside0 (kq ≤ kj6) ∧ Aside0 (Kd.S k41 41 w' w.heap.size (fun _ => True) v319 x10_2) ∧ Aside0 (w'.heap[gb313]? = some (.cells #[(.slice A0_0 l0_0.length c0_0), .int .i64 a0_1, .int .i64 a0_2, .int .i64 a0_3, .int .i64 a0_4] 24 (0, 0))) ∧ Aside0 (w'.heap[gb314]? = some (.cells #[.int .i64 a2_0, .int .i64 a2_1, (.slice A2_2 l2_2.length c2_2)] 27 (0, 0))) ∧ Aside0 (Below w.heap.size w w'))
          case atStart => exact ⟨(t318), (0), (by first | rfl | (simp; done) | (simp [*]; done)), H', ⟨Nat.le_refl _⟩, ⟨by (with_reducible repeat (first | apply Kd.S_alloc | apply Kd.S_drewN | apply Kd.S_drew)); exact HO320.out⟩, ⟨by (with_reducible repeat (first | refine blk_drewN ?_ _ | refine blk_drew ?_ | refine blk_alloc ?_ _)); exact BK313.out⟩, ⟨by (with_reducible repeat (first | refine blk_drewN ?_ _ | refine blk_drew ?_ | refine blk_alloc ?_ _)); exact BK314.out⟩, ⟨by repeat (first | (with_reducible first | exact HB.out | apply below_alloc | apply pw_below_drewN | apply below_drew1 | refine below_set ?_ GE313.out | refine below_set ?_ GE314.out) | exact HB.out)⟩⟩
          case round =>
            clear H'
            try clear c1
            try clear c2
            try clear p2
            try clear c4
            try clear c5
            try clear c6
            try clear c7
            try clear c8
            try clear c11
            try clear c16
            try clear c17
            try clear c18
            try clear c20
            try clear c20b0
            try clear c20b1
            try clear c21
            try clear hcz12_0
            try clear hcz12_1
            try clear hcz12_2
            try clear hcz12_3
            try clear hcz12_4
            try clear hcz14_0
            try clear hcz14_1
            try clear hcz14_2
            try clear hcz22_0
            try clear hcz22_1
            try clear hcz22_2
            try clear hcz22_3
            try clear hcz22_4
            try clear hcz23_0
            try clear hcz23_1
            try clear hcz23_2
            try clear hfz12_0
            try clear hfz12_1
            try clear hfz12_2
            try clear hfz12_3
            try clear hfz12_4
            try clear hfz14_0
            try clear hfz14_1
            try clear hfz14_2
            try clear hfz22_0
            try clear hfz22_1
            try clear hfz22_2
            try clear hfz22_3
            try clear hfz22_4
            try clear hfz23_0
            try clear hfz23_1
            try clear hfz23_2
            try clear p2
            obtain ⟨x10_2, x12_2, rfl, HA, HK2, HO_10, BK313, BK314, HB⟩ := hrel
            cases gk with
            | zero => exact absurd HA.out (by simp [winnowerlaw22_IntakeAlone.l0])
            | succ k2 =>
              have H := HA.out
              clear HA
              simp only [winnowerlaw22_IntakeAlone.l0] at H
              by_cases c25 : x12_2 < (x10_2.length : Int)
              · rw [if_pos c25] at H
                have c25b0 : decide (x12_2 < (x10_2.length : Int)) = true := decide_eq_true c25
                have c25b0y0 := c25b0
                (try simp only [hl322_2] at c25b0y0)
                have c25b0y1 := c25b0
                (try simp only [hl323_2] at c25b0y1)
                have c25b0y2 := c25b0
                (try simp only [hl332_2] at c25b0y2)
                have c25b0y3 := c25b0
                (try simp only [hl333_2] at c25b0y3)
                have c25b0y4 := c25b0
                (try simp only [hl334_2] at c25b0y4)
                have c25b0y5 := c25b0
                (try simp only [hl341_2] at c25b0y5)
                have c25b0y6 := c25b0
                (try simp only [hl342_2] at c25b0y6)
                clear c25
                by_cases c26 : 0 ≤ x12_2
                · rw [if_pos c26] at H
                  have c26b0 : decide (0 ≤ x12_2) = true := decide_eq_true c26
                  clear c26
                  have HC27 := Aside0.mk H
                  clear H
                  obtain ⟨Ao28, co28, eo28⟩ := Kd.S_slice HO_10.out
                  subst eo28
                  try go_wp2
                  have n0_ := Aside0.mk (Kd.S_drew HO_10.out); have n1_ := Aside0.mk (blk_drew BK313.out); have n2_ := Aside0.mk (blk_drew BK314.out); have n3_ := Aside0.mk (below_drew1 HB.out); clear HO_10; clear BK313; clear BK314; clear HB; have HO_10 := n0_; have BK313 := n1_; have BK314 := n2_; have HB := n3_; clear n0_ n1_ n2_ n3_
                  have p322 : 0 ≤ (x12_2 : Int) := of_decide_eq_true (by first | (with_reducible assumption) | assumption)
                  have q322 : x12_2 < (x10_2.length : Int) := of_decide_eq_true (by first | (with_reducible assumption) | assumption)
                  obtain ⟨ad322, A322_2, c322_2, e322, hx322_0, hx322_1, hx322_2, hl322_2, hi322_2⟩ := at_T41 (Kd.S_reads' HO_10.out).2.2 x12_2 p322 q322
                  cases e322
                  obtain ⟨ce322, hce322, hMe322, hcc322⟩ := Kd.S_get HO_10.out z41 x12_2 p322 (by first | exact q322 | exact of_decide_eq_true (by first | (with_reducible assumption) | assumption) | (have e_ := (Kd.S_reads' HO_10.out).1; omega))
                  obtain ⟨ve322_2, rfl, ge322_2⟩ := k41_openM hMe322
                  have hv322_2 := hcc322 2 _ rfl
                  rw [add_field _ _ 2 (by omega)] at hv322_2
                  replace hv322_2 := Option.some.inj (hv322_2.symm.trans hx322_2)
                  rw [hv322_2] at ge322_2
                  have HL322_2 := Aside0.mk (show Kd.R k63 63 _ _ _ _ ((rd_T41 x10_2 x12_2).f2) from ge322_2)
                  clear hv322_2 ge322_2; clear hcc322 hce322
                  have HR322_2 := Aside0.mk hi322_2
                  have HC322_2 := Aside0.mk hl322_2
                  clear hi322_2 hl322_2
                  replace p322 := eq_true p322
                  replace q322 := eq_true q322
                  refine start_ (n := 9) (S := fun w' => w'.cell? ⟨gb314, 0, none⟩ = some (.int .i64 a2_0) ∧ w'.cell? ⟨gb314, 1, none⟩ = some (.int .i64 a2_1) ∧ w'.cell? ⟨gb314, 2, none⟩ = some (.slice A2_2 l2_2.length c2_2) ∧ w'.cell? (ad322.add ((x12_2).toNat * 3)) = some (.int .i64 ((rd_T41 x10_2 x12_2).f0)) ∧ w'.cell? ⟨(ad322.add ((x12_2).toNat * 3)).block, (ad322.add ((x12_2).toNat * 3)).off + 1, none⟩ = some (.bool ((rd_T41 x10_2 x12_2).f1)) ∧ w'.cell? ⟨(ad322.add ((x12_2).toNat * 3)).block, (ad322.add ((x12_2).toNat * 3)).off + 2, none⟩ = some (.slice A322_2 ((rd_T41 x10_2 x12_2).f2).length c322_2)) (ds := []) #[false, false, false, false, false, false, false, false, false] (by kernel_rfl) rfl rfl ⟨(blk_cell BK314.out 0).trans rfl, (blk_cell BK314.out 1).trans rfl, (blk_cell BK314.out 2).trans rfl, hx322_0, hx322_1, hx322_2⟩ (fun hHeld => ?_); refine with_tabW winnowerlaw22_IntakeAlone.tab12 winnowerlaw22_IntakeAlone.bits12 (fun HT_ HW_ => ?_)
                  generalize wr.drew = w29 at HO_10 BK313 BK314 HB HL322_2 HR322_2 hx322_0 hx322_1 hx322_2 hHeld ⊢
                  refine pure_ (i := 0) (N := some 51) (v := ?_) (a' := ?_) #[true, false, false, false, false, false, false, false, false] rfl rfl (any_of HT_.out (by kernel_rfl)) (fun _ _ _ h => h) (Or.inl ⟨by rfl, ?_⟩) ?_ ?_
                  rotate_left
                  · intro w'
                    go_simp
                    with_reducible rfl
                  rotate_left
                  · simp only [Act.put, List.setIfInBounds_toArray, List.set_cons_zero, List.set_cons_succ, i64_w, i32_w]
                    rfl
                  refine pure_ (i := 1) (N := some 52) (v := ?_) (a' := ?_) #[true, true, false, false, false, false, false, false, false] rfl rfl (any_of HT_.out (by kernel_rfl)) (fun _ _ _ h => h) (Or.inl ⟨by rfl, ?_⟩) ?_ ?_
                  rotate_left
                  · intro w'
                    go_simp
                    with_reducible rfl
                  rotate_left
                  · simp only [Act.put, List.setIfInBounds_toArray, List.set_cons_zero, List.set_cons_succ, i64_w, i32_w]
                    rfl
                  refine pure_ (i := 2) (N := some 53) (v := ?_) (a' := ?_) #[true, true, true, false, false, false, false, false, false] rfl rfl (any_of HT_.out (by kernel_rfl)) (fun _ _ _ h => h) (Or.inl ⟨by rfl, ?_⟩) ?_ ?_
                  rotate_left
                  · intro w'
                    go_simp
                    with_reducible rfl
                  rotate_left
                  · simp only [Act.put, List.setIfInBounds_toArray, List.set_cons_zero, List.set_cons_succ, i64_w, i32_w]
                    rfl
                  refine pure_ (i := 3) (N := some 54) (v := ?_) (a' := ?_) #[true, true, true, true, false, false, false, false, false] rfl rfl (any_of HT_.out (by kernel_rfl)) (fun _ _ _ h => h) (Or.inl ⟨by rfl, ?_⟩) ?_ ?_
                  rotate_left
                  · intro w'
                    go_simp
                    with_reducible rfl
                  rotate_left
                  · simp only [Act.put, List.setIfInBounds_toArray, List.set_cons_zero, List.set_cons_succ, i64_w, i32_w]
                    rfl
                  refine pure_ (i := 5) (N := some 56) (v := ?_) (a' := ?_) #[true, true, true, true, false, true, false, false, false] rfl rfl (any_of HT_.out (by kernel_rfl)) (fun _ _ _ h => h) (Or.inl ⟨by rfl, ?_⟩) ?_ ?_
                  rotate_left
                  · intro w'
                    go_simp
                    with_reducible rfl
                  rotate_left
                  · simp only [Act.put, List.setIfInBounds_toArray, List.set_cons_zero, List.set_cons_succ, i64_w, i32_w]
                    rfl
                  refine take_ (i := 4) (N := some 55) (v := ?_) (a' := ?_) #[true, true, true, true, true, true, false, false, false] rfl rfl (take_ofW HT_.out HW_.out (by kernel_rfl)) (fun _ _ _ h => h) (Or.inl ⟨by rfl, ?_⟩) hHeld ?_ ?_
                  rotate_left
                  · rintro w' ⟨s0, s1, s2, s3, s4, s5⟩
                    go_simp
                    with_reducible rfl
                  rotate_left
                  · simp only [Act.put, List.setIfInBounds_toArray, List.set_cons_zero, List.set_cons_succ, i64_w, i32_w]
                    rfl
                  refine take_ (i := 6) (N := some 57) (v := ?_) (a' := ?_) #[true, true, true, true, true, true, true, false, false] rfl rfl (take_ofW HT_.out HW_.out (by kernel_rfl)) (fun _ _ _ h => h) (Or.inl ⟨by rfl, ?_⟩) hHeld ?_ ?_
                  rotate_left
                  · rintro w' ⟨s0, s1, s2, s3, s4, s5⟩
                    go_simp
                    with_reducible rfl
                  rotate_left
                  · simp only [Act.put, List.setIfInBounds_toArray, List.set_cons_zero, List.set_cons_succ, i64_w, i32_w]
                    rfl
                  refine pure_ (i := 7) (N := some 58) (v := ?_) (a' := ?_) #[true, true, true, true, true, true, true, true, false] rfl rfl (any_of HT_.out (by kernel_rfl)) (fun _ _ _ h => h) (Or.inl ⟨by rfl, ?_⟩) ?_ ?_
                  rotate_left
                  · intro w'
                    go_simp
                    with_reducible rfl
                  rotate_left
                  · simp only [Act.put, List.setIfInBounds_toArray, List.set_cons_zero, List.set_cons_succ, i64_w, i32_w]
                    rfl
                  refine pure_ (i := 8) (N := some 13) (v := ?_) (a' := ?_) #[true, true, true, true, true, true, true, true, true] rfl rfl (any_of HT_.out (by kernel_rfl)) (fun _ _ _ h => h) (Or.inl ⟨by rfl, ?_⟩) ?_ ?_
                  rotate_left
                  · intro w'
                    go_simp
                    with_reducible rfl
                  rotate_left
                  · simp only [Act.put, List.setIfInBounds_toArray, List.set_cons_zero, List.set_cons_succ, i64_w, i32_w]
                    rfl
                  refine done_ (done_of HT_.out (by kernel_rfl)) ?_
                  go_upto_region 13 with (fail)
                  go_cut [76] (fun v76 wc => ∃ (kq : Nat) (x76_26 : Bool), v76 = .bool x76_26 ∧ Aside0 (winnowerlaw22_IntakeAlone.j2 kq a1 x10_2 x12_2 (wrap64 (((rd_T41 x10_2 x12_2).f0) - a2_1)) x76_26 l0_0 a0_1 a0_2 a0_3 a0_4 a2_0 a2_1 l2_2 = some r) ∧ Aside0 (kq ≤ k2) ∧ Aside0 (Kd.S k41 41 wc w.heap.size (fun _ => True) (.slice (some ad322) x10_2.length co28) x10_2) ∧ Aside0 (wc.heap[gb313]? = some (.cells #[(.slice A0_0 l0_0.length c0_0), .int .i64 a0_1, .int .i64 a0_2, .int .i64 a0_3, .int .i64 a0_4] 24 (0, 0))) ∧ Aside0 (wc.heap[gb314]? = some (.cells #[.int .i64 a2_0, .int .i64 a2_1, (.slice A2_2 l2_2.length c2_2)] 27 (0, 0))) ∧ Aside0 (Kd.C k63 wc A322_2 ((rd_T41 x10_2 x12_2).f2).length ((rd_T41 x10_2 x12_2).f2)) ∧ Aside0 (Below w.heap.size w wc))
                  case first =>
                    have H := HC27.out
                    clear HC27
                    by_cases c30 : (wrap64 (((rd_T41 x10_2 x12_2).f0) - a2_1)) < 0
                    · rw [if_pos c30] at H
                      have c30b0 : decide ((wrap64 (((rd_T41 x10_2 x12_2).f0) - a2_1)) < 0) = true := decide_eq_true c30
                      clear c30
                      (first | rw [c30b0] | (simp only [i64_w, i32_w]; rw [c30b0]) | skip)
                      have H' := Aside0.mk H
                      clear H
                      go_wp2
                      go_meet
                      case rel => exact ⟨_, (true), (by first | rfl | (simp; done) | (simp [*]; done)), H', ⟨by have := HJ6.out; have := HK2.out; first | omega | exact Nat.le_refl _⟩, ⟨by (with_reducible repeat (first | apply Kd.S_alloc | apply Kd.S_drewN | apply Kd.S_drew)); exact HO_10.out⟩, ⟨by (with_reducible repeat (first | refine blk_drewN ?_ _ | refine blk_drew ?_ | refine blk_alloc ?_ _)); exact BK313.out⟩, ⟨by (with_reducible repeat (first | refine blk_drewN ?_ _ | refine blk_drew ?_ | refine blk_alloc ?_ _)); exact BK314.out⟩, ⟨by repeat (first | (with_reducible exact HR322_2.out) | (with_reducible refine Kd.C_alloc ?_ _) | (with_reducible refine Kd.C_drewN ?_ _) | (with_reducible refine Kd.C_drew ?_) | exact HR322_2.out)⟩, ⟨by repeat (first | (with_reducible first | exact HB.out | apply below_alloc | apply pw_below_drewN | apply below_drew1 | refine below_set ?_ GE313.out | refine below_set ?_ GE314.out) | exact HB.out)⟩⟩
                    · rw [if_neg c30] at H
                      have c30b0 : decide ((wrap64 (((rd_T41 x10_2 x12_2).f0) - a2_1)) < 0) = false := decide_eq_false c30
                      clear c30
                      (first | rw [c30b0] | (simp only [i64_w, i32_w]; rw [c30b0]) | skip)
                      by_cases c31 : (wrap64 (((rd_T41 x10_2 x12_2).f0) - a2_1)) ≥ (l2_2.length : Int)
                      · rw [if_pos c31] at H
                        have c31b0 : decide ((l2_2.length : Int) ≤ (wrap64 (((rd_T41 x10_2 x12_2).f0) - a2_1))) = true := decide_eq_true c31
                        have c31b0y0 := c31b0
                        (try simp only [hl322_2] at c31b0y0)
                        have c31b0y1 := c31b0
                        (try simp only [hl323_2] at c31b0y1)
                        have c31b0y2 := c31b0
                        (try simp only [hl332_2] at c31b0y2)
                        have c31b0y3 := c31b0
                        (try simp only [hl333_2] at c31b0y3)
                        have c31b0y4 := c31b0
                        (try simp only [hl334_2] at c31b0y4)
                        have c31b0y5 := c31b0
                        (try simp only [hl341_2] at c31b0y5)
                        have c31b0y6 := c31b0
                        (try simp only [hl342_2] at c31b0y6)
                        clear c31
                        have H' := Aside0.mk H
                        clear H
                        have hnb32 := NB314_313.out
                        have hnc32 := NB313_314.out
                        have hcz33_0 : w29.cell? ⟨gb314, 0, none⟩ = some (.int .i64 a2_0) := (blk_cell BK314.out 0).trans rfl
                        have hcz33_1 : w29.cell? ⟨gb314, 1, none⟩ = some (.int .i64 a2_1) := (blk_cell BK314.out 1).trans rfl
                        have hcz33_2 : w29.cell? ⟨gb314, 2, none⟩ = some (.slice A2_2 l2_2.length c2_2) := (blk_cell BK314.out 2).trans rfl
                        have hfz33_0 := blk_frozen BK314.out 0
                        have hfz33_1 := blk_frozen BK314.out 1
                        have hfz33_2 := blk_frozen BK314.out 2
                        go_wp2
                        go_meet
                        case rel => exact ⟨_, (true), (by first | rfl | (simp; done) | (simp [*]; done)), H', ⟨by have := HJ6.out; have := HK2.out; first | omega | exact Nat.le_refl _⟩, ⟨by (with_reducible repeat (first | apply Kd.S_alloc | apply Kd.S_drewN | apply Kd.S_drew)); exact HO_10.out⟩, ⟨by (with_reducible repeat (first | refine blk_drewN ?_ _ | refine blk_drew ?_ | refine blk_alloc ?_ _)); exact BK313.out⟩, ⟨by (with_reducible repeat (first | refine blk_drewN ?_ _ | refine blk_drew ?_ | refine blk_alloc ?_ _)); exact BK314.out⟩, ⟨by repeat (first | (with_reducible exact HR322_2.out) | (with_reducible refine Kd.C_alloc ?_ _) | (with_reducible refine Kd.C_drewN ?_ _) | (with_reducible refine Kd.C_drew ?_) | exact HR322_2.out)⟩, ⟨by repeat (first | (with_reducible first | exact HB.out | apply below_alloc | apply pw_below_drewN | apply below_drew1 | refine below_set ?_ GE313.out | refine below_set ?_ GE314.out) | exact HB.out)⟩⟩
                      · rw [if_neg c31] at H
                        have c31b0 : decide ((l2_2.length : Int) ≤ (wrap64 (((rd_T41 x10_2 x12_2).f0) - a2_1))) = false := decide_eq_false c31
                        have c31b0y0 := c31b0
                        (try simp only [hl322_2] at c31b0y0)
                        have c31b0y1 := c31b0
                        (try simp only [hl323_2] at c31b0y1)
                        have c31b0y2 := c31b0
                        (try simp only [hl332_2] at c31b0y2)
                        have c31b0y3 := c31b0
                        (try simp only [hl333_2] at c31b0y3)
                        have c31b0y4 := c31b0
                        (try simp only [hl334_2] at c31b0y4)
                        have c31b0y5 := c31b0
                        (try simp only [hl341_2] at c31b0y5)
                        have c31b0y6 := c31b0
                        (try simp only [hl342_2] at c31b0y6)
                        clear c31
                        have H' := Aside0.mk H
                        clear H
                        have hnb34 := NB314_313.out
                        have hnc34 := NB313_314.out
                        have hcz35_0 : w29.cell? ⟨gb314, 0, none⟩ = some (.int .i64 a2_0) := (blk_cell BK314.out 0).trans rfl
                        have hcz35_1 : w29.cell? ⟨gb314, 1, none⟩ = some (.int .i64 a2_1) := (blk_cell BK314.out 1).trans rfl
                        have hcz35_2 : w29.cell? ⟨gb314, 2, none⟩ = some (.slice A2_2 l2_2.length c2_2) := (blk_cell BK314.out 2).trans rfl
                        have hfz35_0 := blk_frozen BK314.out 0
                        have hfz35_1 := blk_frozen BK314.out 1
                        have hfz35_2 := blk_frozen BK314.out 2
                        have p323 : 0 ≤ (x12_2 : Int) := of_decide_eq_true (by first | (with_reducible assumption) | assumption)
                        have q323 : x12_2 < (x10_2.length : Int) := of_decide_eq_true (by first | (with_reducible assumption) | assumption)
                        obtain ⟨ad323, A323_2, c323_2, e323, hx323_0, hx323_1, hx323_2, hl323_2, hi323_2⟩ := at_T41 (Kd.S_reads' HO_10.out).2.2 x12_2 p323 q323
                        obtain rfl : ad322 = ad323 := (by injection e323)
                        obtain ⟨ce323, hce323, hMe323, hcc323⟩ := Kd.S_get HO_10.out z41 x12_2 p323 (by first | exact q323 | exact of_decide_eq_true (by first | (with_reducible assumption) | assumption) | (have e_ := (Kd.S_reads' HO_10.out).1; omega))
                        obtain ⟨ve323_2, rfl, ge323_2⟩ := k41_openM hMe323
                        have hv323_2 := hcc323 2 _ rfl
                        rw [add_field _ _ 2 (by omega)] at hv323_2
                        replace hv323_2 := Option.some.inj (hv323_2.symm.trans hx323_2)
                        rw [hv323_2] at ge323_2
                        have HL323_2 := Aside0.mk (show Kd.R k63 63 _ _ _ _ ((rd_T41 x10_2 x12_2).f2) from ge323_2)
                        clear hv323_2 ge323_2; clear hcc323 hce323
                        have HR323_2 := Aside0.mk hi323_2
                        have HC323_2 := Aside0.mk hl323_2
                        clear hi323_2 hl323_2
                        replace p323 := eq_true p323
                        replace q323 := eq_true q323
                        go_wp2
                        go_meet
                        case rel => exact ⟨_, (decide (((rd_T41 x10_2 x12_2).f0) < a1)), (by first | rfl | (simp; done) | (simp [*]; done)), H', ⟨by have := HJ6.out; have := HK2.out; first | omega | exact Nat.le_refl _⟩, ⟨by (with_reducible repeat (first | apply Kd.S_alloc | apply Kd.S_drewN | apply Kd.S_drew)); exact HO_10.out⟩, ⟨by (with_reducible repeat (first | refine blk_drewN ?_ _ | refine blk_drew ?_ | refine blk_alloc ?_ _)); exact BK313.out⟩, ⟨by (with_reducible repeat (first | refine blk_drewN ?_ _ | refine blk_drew ?_ | refine blk_alloc ?_ _)); exact BK314.out⟩, ⟨by repeat (first | (with_reducible exact HR322_2.out) | (with_reducible refine Kd.C_alloc ?_ _) | (with_reducible refine Kd.C_drewN ?_ _) | (with_reducible refine Kd.C_drew ?_) | exact HR322_2.out)⟩, ⟨by repeat (first | (with_reducible first | exact HB.out | apply below_alloc | apply pw_below_drewN | apply below_drew1 | refine below_set ?_ GE313.out | refine below_set ?_ GE314.out) | exact HB.out)⟩⟩
                  case rest =>
                    clear HC27
                    try clear c1
                    try clear c2
                    try clear p2
                    try clear c3
                    try clear p3
                    try clear q3
                    try clear hx3
                    try clear c4
                    try clear c5
                    try clear c6
                    try clear p6
                    try clear c7
                    try clear c8
                    try clear c11
                    try clear c16
                    try clear c17
                    try clear c18
                    try clear c20
                    try clear c20b0
                    try clear c20b1
                    try clear c21
                    try clear c25
                    try clear c25b0
                    try clear c26
                    try clear c26b0
                    try clear c30
                    try clear c30b0
                    try clear c31
                    try clear c31b0
                    try clear c32
                    try clear p32
                    try clear q32
                    try clear hx32
                    try clear c34
                    try clear hcz12_0
                    try clear hcz12_1
                    try clear hcz12_2
                    try clear hcz12_3
                    try clear hcz12_4
                    try clear hcz14_0
                    try clear hcz14_1
                    try clear hcz14_2
                    try clear hcz22_0
                    try clear hcz22_1
                    try clear hcz22_2
                    try clear hcz22_3
                    try clear hcz22_4
                    try clear hcz23_0
                    try clear hcz23_1
                    try clear hcz23_2
                    try clear hcz33_0
                    try clear hcz33_1
                    try clear hcz33_2
                    try clear hcz35_0
                    try clear hcz35_1
                    try clear hcz35_2
                    try clear hfz12_0
                    try clear hfz12_1
                    try clear hfz12_2
                    try clear hfz12_3
                    try clear hfz12_4
                    try clear hfz14_0
                    try clear hfz14_1
                    try clear hfz14_2
                    try clear hfz22_0
                    try clear hfz22_1
                    try clear hfz22_2
                    try clear hfz22_3
                    try clear hfz22_4
                    try clear hfz23_0
                    try clear hfz23_1
                    try clear hfz23_2
                    try clear hfz33_0
                    try clear hfz33_1
                    try clear hfz33_2
                    try clear hfz35_0
                    try clear hfz35_1
                    try clear hfz35_2
                    try clear hx322_0
                    try clear hx322_1
                    try clear hx322_2
                    try clear hx323_0
                    try clear hx323_1
                    try clear hx323_2
                    try clear p2
                    try clear p322
                    try clear p323
                    try clear q322
                    try clear q323
                    obtain ⟨kq, x76_26, rfl, HA, HJ26, HO_10, BK313, BK314, HR322_2, HB⟩ := hcut
                    cases kq with
                    | zero => exact absurd HA.out (by simp [winnowerlaw22_IntakeAlone.j2])
                    | succ kj26 =>
                      have H := HA.out
                      clear HA
                      simp only [winnowerlaw22_IntakeAlone.j2] at H
                      by_cases c36 : x76_26 = true
                      · subst c36
                        have H1 : (some false) = some r := by rw [if_pos rfl] at H; exact H
                        clear H
                        have H := H1
                        clear H1
                        exact absurd (HTRUE.out.symm.trans (Option.some.inj H).symm) (by decide)
                      · replace c36 := Bool.eq_false_iff.mpr c36
                        subst c36
                        have H1 : (if 0 ≤ (wrap64 (((rd_T41 x10_2 x12_2).f0) - a2_1)) then (if (wrap64 (((rd_T41 x10_2 x12_2).f0) - a2_1)) ≤ (wrap64 ((wrap64 (((rd_T41 x10_2 x12_2).f0) - a2_1)) + 1)) then (if (wrap64 ((wrap64 (((rd_T41 x10_2 x12_2).f0) - a2_1)) + 1)) ≤ (l2_2.length : Int) then ((intake_Take.f l0_0 a0_1 a0_2 a0_3 a0_4 0 0 0 ((l2_2.take ((wrap64 ((wrap64 (((rd_T41 x10_2 x12_2).f0) - a2_1)) + 1)) : Int).toNat).drop ((wrap64 (((rd_T41 x10_2 x12_2).f0) - a2_1)) : Int).toNat)).bind fun bt328 => (if bt328.2 = 0 then (if (bt328.1.length : Int) = 1 then (if 0 < (bt328.1.length : Int) then (if 0 ≤ x12_2 then (if x12_2 < (x10_2.length : Int) then (winnowerlaw22_IntakeAlone.j3 kj26 a1 x10_2 x12_2 bt328.1 (((rd_T41 bt328.1 0).f1) != ((rd_T41 x10_2 x12_2).f1)) l0_0 a0_1 a0_2 a0_3 a0_4 a2_0 a2_1 l2_2) else (none)) else (none)) else (none)) else (winnowerlaw22_IntakeAlone.j3 kj26 a1 x10_2 x12_2 bt328.1 true l0_0 a0_1 a0_2 a0_3 a0_4 a2_0 a2_1 l2_2)) else (winnowerlaw22_IntakeAlone.j3 kj26 a1 x10_2 x12_2 bt328.1 true l0_0 a0_1 a0_2 a0_3 a0_4 a2_0 a2_1 l2_2))) else (none)) else (none)) else (none)) = some r := by rw [if_neg (show ¬ (false = true) by decide)] at H; exact H
                        clear H
                        have H := H1
                        clear H1
                        obtain ⟨ji37, hji37⟩ : ∃ j_ : Int, (wrap64 (((rd_T41 x10_2 x12_2).f0) - a2_1)) = j_ := ⟨_, rfl⟩
                        replace H : (if 0 ≤ (ji37) then (if (ji37) ≤ (wrap64 ((ji37) + 1)) then (if (wrap64 ((ji37) + 1)) ≤ (l2_2.length : Int) then ((intake_Take.f l0_0 a0_1 a0_2 a0_3 a0_4 0 0 0 ((l2_2.take ((wrap64 ((ji37) + 1)) : Int).toNat).drop ((ji37) : Int).toNat)).bind fun bt328 => (if bt328.2 = 0 then (if (bt328.1.length : Int) = 1 then (if 0 < (bt328.1.length : Int) then (if 0 ≤ x12_2 then (if x12_2 < (x10_2.length : Int) then (winnowerlaw22_IntakeAlone.j3 kj26 a1 x10_2 x12_2 bt328.1 (((rd_T41 bt328.1 0).f1) != ((rd_T41 x10_2 x12_2).f1)) l0_0 a0_1 a0_2 a0_3 a0_4 a2_0 a2_1 l2_2) else (none)) else (none)) else (none)) else (winnowerlaw22_IntakeAlone.j3 kj26 a1 x10_2 x12_2 bt328.1 true l0_0 a0_1 a0_2 a0_3 a0_4 a2_0 a2_1 l2_2)) else (winnowerlaw22_IntakeAlone.j3 kj26 a1 x10_2 x12_2 bt328.1 true l0_0 a0_1 a0_2 a0_3 a0_4 a2_0 a2_1 l2_2))) else (none)) else (none)) else (none)) = some r := by first | (rw [hji37] at H; exact H) | (simp only [hji37] at H ⊢; exact H)
                        have hji37w : (IntKind.i64.wrap (((rd_T41 x10_2 x12_2).f0) - a2_1)) = ji37 := (i64_w _).trans hji37
                        try rw [hji37]
                        by_cases c38 : 0 ≤ (ji37)
                        · rw [if_pos c38] at H
                          have c38b0 := eq_true c38
                          have c38b1 : decide (0 ≤ (ji37)) = true := decide_eq_true c38
                          clear c38
                          by_cases c39 : (ji37) ≤ (wrap64 ((ji37) + 1))
                          · rw [if_pos c39] at H
                            have c39b0 := eq_true c39
                            have c39b1 : decide ((ji37) ≤ (wrap64 ((ji37) + 1))) = true := decide_eq_true c39
                            by_cases c40 : (wrap64 ((ji37) + 1)) ≤ (l2_2.length : Int)
                            · rw [if_pos c40] at H
                              have c40b0 := eq_true c40
                              have c40b1 : decide ((wrap64 ((ji37) + 1)) ≤ (l2_2.length : Int)) = true := decide_eq_true c40
                              have c40b1y0 := c40b1
                              (try simp only [hl322_2] at c40b1y0)
                              have c40b1y1 := c40b1
                              (try simp only [hl323_2] at c40b1y1)
                              have c40b1y2 := c40b1
                              (try simp only [hl332_2] at c40b1y2)
                              have c40b1y3 := c40b1
                              (try simp only [hl333_2] at c40b1y3)
                              have c40b1y4 := c40b1
                              (try simp only [hl334_2] at c40b1y4)
                              have c40b1y5 := c40b1
                              (try simp only [hl341_2] at c40b1y5)
                              have c40b1y6 := c40b1
                              (try simp only [hl342_2] at c40b1y6)
                              obtain ⟨y324, hy324⟩ : ∃ y_ : List (List Int), y_ = ((l2_2.take ((wrap64 ((ji37) + 1)) : Int).toNat).drop ((ji37) : Int).toNat) := ⟨_, rfl⟩
                              replace H : ((intake_Take.f l0_0 a0_1 a0_2 a0_3 a0_4 0 0 0 y324).bind fun bt328 => (if bt328.2 = 0 then (if (bt328.1.length : Int) = 1 then (if 0 < (bt328.1.length : Int) then (if 0 ≤ x12_2 then (if x12_2 < (x10_2.length : Int) then (winnowerlaw22_IntakeAlone.j3 kj26 a1 x10_2 x12_2 bt328.1 (((rd_T41 bt328.1 0).f1) != ((rd_T41 x10_2 x12_2).f1)) l0_0 a0_1 a0_2 a0_3 a0_4 a2_0 a2_1 l2_2) else (none)) else (none)) else (none)) else (winnowerlaw22_IntakeAlone.j3 kj26 a1 x10_2 x12_2 bt328.1 true l0_0 a0_1 a0_2 a0_3 a0_4 a2_0 a2_1 l2_2)) else (winnowerlaw22_IntakeAlone.j3 kj26 a1 x10_2 x12_2 bt328.1 true l0_0 a0_1 a0_2 a0_3 a0_4 a2_0 a2_1 l2_2))) = some r := by first | (rw [hy324]; with_reducible exact H) | (have H2_ := (Option.bind_some _ _).symm.trans H; rw [hy324]; with_reducible exact H2_) | (have H2_ := (Option.bind_some _ _).symm.trans H; with_reducible exact H2_) | with_reducible exact H | (rw [hy324]; exact H) | exact H
                              have Ny324 := Aside0.mk hy324
                              clear hy324
                              replace H := Option.bind_eq_some_iff.mp H
                              obtain ⟨⟨t328, t331⟩, A410, H⟩ := H
                              replace H : (if t331 = 0 then (if (t328.length : Int) = 1 then (if 0 < (t328.length : Int) then (if 0 ≤ x12_2 then (if x12_2 < (x10_2.length : Int) then (winnowerlaw22_IntakeAlone.j3 kj26 a1 x10_2 x12_2 t328 (((rd_T41 t328 0).f1) != ((rd_T41 x10_2 x12_2).f1)) l0_0 a0_1 a0_2 a0_3 a0_4 a2_0 a2_1 l2_2) else (none)) else (none)) else (none)) else (winnowerlaw22_IntakeAlone.j3 kj26 a1 x10_2 x12_2 t328 true l0_0 a0_1 a0_2 a0_3 a0_4 a2_0 a2_1 l2_2)) else (winnowerlaw22_IntakeAlone.j3 kj26 a1 x10_2 x12_2 t328 true l0_0 a0_1 a0_2 a0_3 a0_4 a2_0 a2_1 l2_2)) = some r := H
                              have A41 := Aside0.mk A410
                              clear A410
                              have HC42 := Aside0.mk H
                              clear H
                              try go_wp2
                              have n0_ := Aside0.mk (Kd.S_drew HO_10.out); have n1_ := Aside0.mk (blk_drew BK313.out); have n2_ := Aside0.mk (blk_drew BK314.out); have n3_ := Aside0.mk (Kd.C_drew HR322_2.out); have n4_ := Aside0.mk (below_drew1 HB.out); clear HO_10; clear BK313; clear BK314; clear HR322_2; clear HB; have HO_10 := n0_; have BK313 := n1_; have BK314 := n2_; have HR322_2 := n3_; have HB := n4_; clear n0_ n1_ n2_ n3_ n4_
                              have q44 : ((wrap64 ((ji37) + 1)) : Int) ≤ ((l2_2.length : Int) : Int) := of_decide_eq_true (by first | (with_reducible assumption) | assumption)
                              obtain ⟨i044, hi044, _, hsz44, _⟩ := info_parts info42
                              have hroom44 : l2_2.length ≤ c2_2 := HC2_2.out
                              have hC44 : Kd.C (Kd.slice 5 (Kd.int .u8)) _ A2_2 l2_2.length l2_2 := HR2_2.out
                              have ql44 : ((ji37) : Int) ≤ ((wrap64 ((ji37) + 1)) : Int) := of_decide_eq_true (by first | (with_reducible assumption) | assumption)
                              have q044 : (0 : Int) ≤ ((ji37) : Int) := of_decide_eq_true (by first | (with_reducible assumption) | assumption)
                              have hcut44 := cut_mid (P := Tryd.prog) 25 42 .i64 .i64 Tryd.underlying25 hi044 1 hsz44 A2_2 l2_2.length c2_2 (ji37) (wrap64 ((ji37) + 1)) q044 ql44 q44 hroom44
                              have hr44 := Kd.C_mid (lo := ((ji37) : Int).toNat) (hi := ((wrap64 ((ji37) + 1)) : Int).toNat) (c := c2_2) hC44 (by omega) (by omega) hroom44
                              obtain ⟨A44, hA44⟩ : ∃ A1, A1 = (if c2_2 = ((ji37) : Int).toNat then A2_2 else (A2_2 : Option Addr).map (·.add (((ji37) : Int).toNat * 1))) := ⟨_, rfl⟩
                              obtain ⟨c44, hc44⟩ : ∃ c1, c1 = c2_2 - ((ji37) : Int).toNat := ⟨_, rfl⟩
                              have hy44 : y324.length = ((wrap64 ((ji37) + 1)) : Int).toNat - ((ji37) : Int).toNat := (by rw [Ny324.out, List.length_drop, List.length_take] <;> omega)
                              rw [show ((l2_2).take ((wrap64 ((ji37) + 1)) : Int).toNat).drop ((ji37) : Int).toNat = y324 from Ny324.out.symm] at hr44
                              replace hr44 : Kd.C (Kd.slice 5 (Kd.int .u8)) _ A44 y324.length y324 := (by rw [hA44]; exact hr44)
                              rw [← hy44, ← hA44, ← hc44] at hcut44
                              have HR327 := Aside0.mk hr44
                              have HC327 := Aside0.mk (show y324.length ≤ c44 from by rw [hy44, hc44]; exact Nat.sub_le_sub_right (Nat.le_trans (by omega) hroom44) _)
                              clear hr44 hC44 hroom44 hi044 hsz44 hc44
                              have KY44 := Aside0.mk hy44
                              have KA44 := Aside0.mk hA44
                              clear hy44 hA44
                              replace q44 := eq_true q44
                              refine start_ (n := 14) (S := fun w' => w'.cell? ⟨gb313, 0, none⟩ = some (.slice A0_0 l0_0.length c0_0) ∧ w'.cell? ⟨gb313, 1, none⟩ = some (.int .i64 a0_1) ∧ w'.cell? ⟨gb313, 2, none⟩ = some (.int .i64 a0_2) ∧ w'.cell? ⟨gb313, 3, none⟩ = some (.int .i64 a0_3) ∧ w'.cell? ⟨gb313, 4, none⟩ = some (.int .i64 a0_4) ∧ w'.cell? ⟨gb314, 0, none⟩ = some (.int .i64 a2_0) ∧ w'.cell? ⟨gb314, 1, none⟩ = some (.int .i64 a2_1) ∧ w'.cell? ⟨gb314, 2, none⟩ = some (.slice A2_2 l2_2.length c2_2)) (ds := []) #[false, false, false, false, false, false, false, false, false, false, false, false, false, false] (by kernel_rfl) rfl rfl ⟨(blk_cell BK313.out 0).trans rfl, (blk_cell BK313.out 1).trans rfl, (blk_cell BK313.out 2).trans rfl, (blk_cell BK313.out 3).trans rfl, (blk_cell BK313.out 4).trans rfl, (blk_cell BK314.out 0).trans rfl, (blk_cell BK314.out 1).trans rfl, (blk_cell BK314.out 2).trans rfl⟩ (fun hHeld => ?_); refine with_tabW winnowerlaw22_IntakeAlone.tab15 winnowerlaw22_IntakeAlone.bits15 (fun HT_ HW_ => ?_)
                              generalize wc.drew = w43 at HO_10 BK313 BK314 HR322_2 HB HR327 hHeld ⊢
                              refine pure_ (i := 1) (N := some 79) (v := ?_) (a' := ?_) #[false, true, false, false, false, false, false, false, false, false, false, false, false, false] rfl rfl (any_of HT_.out (by kernel_rfl)) (fun _ _ _ h => h) (Or.inl ⟨by rfl, ?_⟩) ?_ ?_
                              rotate_left
                              · intro w'
                                go_simp
                                with_reducible rfl
                              rotate_left
                              · simp only [Act.put, List.setIfInBounds_toArray, List.set_cons_zero, List.set_cons_succ, i64_w, i32_w]
                                rfl
                              refine pure_ (i := 3) (N := some 81) (v := ?_) (a' := ?_) #[false, true, false, true, false, false, false, false, false, false, false, false, false, false] rfl rfl (any_of HT_.out (by kernel_rfl)) (fun _ _ _ h => h) (Or.inl ⟨by rfl, ?_⟩) ?_ ?_
                              rotate_left
                              · intro w'
                                go_simp
                                with_reducible rfl
                              rotate_left
                              · simp only [Act.put, List.setIfInBounds_toArray, List.set_cons_zero, List.set_cons_succ, i64_w, i32_w]
                                rfl
                              refine pure_ (i := 4) (N := some 82) (v := ?_) (a' := ?_) #[false, true, false, true, true, false, false, false, false, false, false, false, false, false] rfl rfl (any_of HT_.out (by kernel_rfl)) (fun _ _ _ h => h) (Or.inl ⟨by rfl, ?_⟩) ?_ ?_
                              rotate_left
                              · intro w'
                                go_simp
                                with_reducible rfl
                              rotate_left
                              · simp only [Act.put, List.setIfInBounds_toArray, List.set_cons_zero, List.set_cons_succ, i64_w, i32_w]
                                rfl
                              refine pure_ (i := 5) (N := some 83) (v := ?_) (a' := ?_) #[false, true, false, true, true, true, false, false, false, false, false, false, false, false] rfl rfl (any_of HT_.out (by kernel_rfl)) (fun _ _ _ h => h) (Or.inl ⟨by rfl, ?_⟩) ?_ ?_
                              rotate_left
                              · intro w'
                                go_simp
                                with_reducible rfl
                              rotate_left
                              · simp only [Act.put, List.setIfInBounds_toArray, List.set_cons_zero, List.set_cons_succ, i64_w, i32_w]
                                rfl
                              refine take_ (i := 0) (N := some 78) (v := ?_) (a' := ?_) #[true, true, false, true, true, true, false, false, false, false, false, false, false, false] rfl rfl (take_ofW HT_.out HW_.out (by kernel_rfl)) (fun _ _ _ h => h) (Or.inl ⟨by rfl, ?_⟩) hHeld ?_ ?_
                              rotate_left
                              · rintro w' ⟨s0, s1, s2, s3, s4, s5, s6, s7⟩
                                go_simp
                                with_reducible rfl
                              rotate_left
                              · simp only [Act.put, List.setIfInBounds_toArray, List.set_cons_zero, List.set_cons_succ, i64_w, i32_w]
                                rfl
                              refine take_ (i := 2) (N := some 80) (v := ?_) (a' := ?_) #[true, true, true, true, true, true, false, false, false, false, false, false, false, false] rfl rfl (take_ofW HT_.out HW_.out (by kernel_rfl)) (fun _ _ _ h => h) (Or.inl ⟨by rfl, ?_⟩) hHeld ?_ ?_
                              rotate_left
                              · rintro w' ⟨s0, s1, s2, s3, s4, s5, s6, s7⟩
                                go_simp
                                with_reducible rfl
                              rotate_left
                              · simp only [Act.put, List.setIfInBounds_toArray, List.set_cons_zero, List.set_cons_succ, i64_w, i32_w]
                                rfl
                              refine pure_ (i := 6) (N := some 84) (v := ?_) (a' := ?_) #[true, true, true, true, true, true, true, false, false, false, false, false, false, false] rfl rfl (any_of HT_.out (by kernel_rfl)) (fun _ _ _ h => h) (Or.inl ⟨by rfl, ?_⟩) ?_ ?_
                              rotate_left
                              · intro w'
                                go_simp
                                with_reducible rfl
                              rotate_left
                              · simp only [Act.put, List.setIfInBounds_toArray, List.set_cons_zero, List.set_cons_succ, i64_w, i32_w]
                                rfl
                              refine pure_ (i := 7) (N := some 85) (v := ?_) (a' := ?_) #[true, true, true, true, true, true, true, true, false, false, false, false, false, false] rfl rfl (any_of HT_.out (by kernel_rfl)) (fun _ _ _ h => h) (Or.inl ⟨by rfl, ?_⟩) ?_ ?_
                              rotate_left
                              · intro w'
                                go_simp
                                with_reducible rfl
                              rotate_left
                              · simp only [Act.put, List.setIfInBounds_toArray, List.set_cons_zero, List.set_cons_succ, i64_w, i32_w]
                                rfl
                              refine one_ (i := 8) (N := some 86) #[true, true, true, true, true, true, true, true, true, false, false, false, false, false] rfl rfl (one_of HT_.out (by kernel_rfl)) (by decide) (fun K hK => ?_)
                              refine goes_ Tryd.func8 (by kernel_rfl) rfl #[.agg #[.slice A0_0 l0_0.length c0_0, .int .i64 a0_1, .int .i64 a0_2, .int .i64 a0_3, .int .i64 a0_4], .int .i64 0, .agg #[.int .i64 0, .int .i64 0, .slice A44 y324.length c44]] (by rfl) rfl rfl (by (try simp only [List.map_toArray, List.map_cons, List.map_nil]); first | done | rfl | (simp only [List.length_drop, List.length_take]; rfl)) ?_
                              with_reducible refine (intake_Take.calls _ _ l0_0 a0_1 a0_2 a0_3 a0_4 0 0 0 _ _ y324 t328 t331 _ ?side1 ?side2 ?side3 ?side4 ?side5 A41.out).mono ?_
                              (case side1 => repeat (first | exact (Kd.C_below HR0_0.out HB.out) | (with_reducible refine Kd.C_alloc ?_ _) | (with_reducible refine Kd.C_drewN ?_ _) | (with_reducible refine Kd.C_drew ?_)))
                              (case side2 => exact HC0_0.out)
                              (case side3 => repeat (first | exact (Kd.C_below HR327.out HB.out) | (with_reducible refine Kd.C_alloc ?_ _) | (with_reducible refine Kd.C_drewN ?_ _) | (with_reducible refine Kd.C_drew ?_)))
                              (case side4 => exact HC327.out)
                              (case side5 => exact globs_below HGL.out (by repeat (first | (with_reducible first | exact HB.out | apply below_alloc | apply pw_below_drewN | apply below_drew1 | refine below_set ?_ GE313.out | refine below_set ?_ GE314.out) | exact HB.out)))
                              rintro e w45 ⟨v329, rfl, ho0, hb⟩
                              refine ⟨_, rfl, ?_⟩
                              have n0_ := Aside0.mk (Kd.S_elder' (by (with_reducible repeat (first | apply Kd.S_alloc | apply Kd.S_drewN | apply Kd.S_drew)); exact HO_10.out) (Kd.S_base ho0) hb); have n1_ := Aside0.mk (Kd.S_lower (Kd.S_new' ho0 (Kd.S_lt (by (with_reducible repeat (first | apply Kd.S_alloc | apply Kd.S_drewN | apply Kd.S_drew)); exact HO_10.out))) (below_size (by repeat (first | (with_reducible first | exact HB.out | apply below_alloc | apply pw_below_drewN | apply below_drew1 | refine below_set ?_ GE313.out | refine below_set ?_ GE314.out) | exact HB.out)))); have n2_ := Aside0.mk (blk_below (g := gb313) (o := .cells #[.slice A0_0 l0_0.length c0_0, .int .i64 a0_1, .int .i64 a0_2, .int .i64 a0_3, .int .i64 a0_4] 24 (0, 0)) (by (with_reducible repeat (first | refine blk_drewN ?_ _ | refine blk_drew ?_ | refine blk_alloc ?_ _)); exact BK313.out) hb); have n3_ := Aside0.mk (blk_below (g := gb314) (o := .cells #[.int .i64 a2_0, .int .i64 a2_1, .slice A2_2 l2_2.length c2_2] 27 (0, 0)) (by (with_reducible repeat (first | refine blk_drewN ?_ _ | refine blk_drew ?_ | refine blk_alloc ?_ _)); exact BK314.out) hb); have n4_ := Aside0.mk (Kd.C_below (by repeat (first | (with_reducible exact HR322_2.out) | (with_reducible refine Kd.C_alloc ?_ _) | (with_reducible refine Kd.C_drewN ?_ _) | (with_reducible refine Kd.C_drew ?_) | exact HR322_2.out)) hb); have n5_ := Aside0.mk (below_step (by repeat (first | (with_reducible first | exact HB.out | apply below_alloc | apply pw_below_drewN | apply below_drew1 | refine below_set ?_ GE313.out | refine below_set ?_ GE314.out) | exact HB.out)) hb); clear HO_10; clear BK313; clear BK314; clear HR322_2; clear HB; have HO_10 := n0_; have HO330 := n1_; have BK313 := n2_; have BK314 := n3_; have HR322_2 := n4_; have HB := n5_; clear n0_ n1_ n2_ n3_ n4_ n5_; (try clear hb); (try clear hb2); (try clear hk); (try clear hi); (try clear ho0)
                              refine hK.out _ _ ⟨(blk_cell BK313.out 0).trans rfl, (blk_cell BK313.out 1).trans rfl, (blk_cell BK313.out 2).trans rfl, (blk_cell BK313.out 3).trans rfl, (blk_cell BK313.out 4).trans rfl, (blk_cell BK314.out 0).trans rfl, (blk_cell BK314.out 1).trans rfl, (blk_cell BK314.out 2).trans rfl⟩ (fun hHeld => ?_)
                              clear hK K
                              refine norm_ (a' := ?_) ?_ ?_
                              rotate_left
                              · show Act.put _ (some 86) _ = _
                                simp only [Act.put, List.setIfInBounds_toArray, List.set_cons_zero, List.set_cons_succ, i64_w, i32_w]
                                rfl
                              refine pure_ (i := 9) (N := some 77) (v := ?_) (a' := ?_) #[true, true, true, true, true, true, true, true, true, true, false, false, false, false] rfl rfl (any_of HT_.out (by kernel_rfl)) (fun _ _ _ h => h) (Or.inl ⟨by rfl, ?_⟩) ?_ ?_
                              rotate_left
                              · intro w'
                                go_simp
                                with_reducible rfl
                              rotate_left
                              · simp only [Act.put, List.setIfInBounds_toArray, List.set_cons_zero, List.set_cons_succ, i64_w, i32_w]
                                rfl
                              refine pure_ (i := 10) (N := some 87) (v := ?_) (a' := ?_) #[true, true, true, true, true, true, true, true, true, true, true, false, false, false] rfl rfl (any_of HT_.out (by kernel_rfl)) (fun _ _ _ h => h) (Or.inl ⟨by rfl, ?_⟩) ?_ ?_
                              rotate_left
                              · intro w'
                                go_simp
                                with_reducible rfl
                              rotate_left
                              · simp only [Act.put, List.setIfInBounds_toArray, List.set_cons_zero, List.set_cons_succ, i64_w, i32_w]
                                rfl
                              refine pure_ (i := 11) (N := some 88) (v := ?_) (a' := ?_) #[true, true, true, true, true, true, true, true, true, true, true, true, false, false] rfl rfl (any_of HT_.out (by kernel_rfl)) (fun _ _ _ h => h) (Or.inl ⟨by rfl, ?_⟩) ?_ ?_
                              rotate_left
                              · intro w'
                                go_simp
                                with_reducible rfl
                              rotate_left
                              · simp only [Act.put, List.setIfInBounds_toArray, List.set_cons_zero, List.set_cons_succ, i64_w, i32_w]
                                rfl
                              refine pure_ (i := 12) (N := some 14) (v := ?_) (a' := ?_) #[true, true, true, true, true, true, true, true, true, true, true, true, true, false] rfl rfl (any_of HT_.out (by kernel_rfl)) (fun _ _ _ h => h) (Or.inl ⟨by rfl, ?_⟩) ?_ ?_
                              rotate_left
                              · intro w'
                                go_simp
                                with_reducible rfl
                              rotate_left
                              · simp only [Act.put, List.setIfInBounds_toArray, List.set_cons_zero, List.set_cons_succ, i64_w, i32_w]
                                rfl
                              refine pure_ (i := 13) (N := some 15) (v := ?_) (a' := ?_) #[true, true, true, true, true, true, true, true, true, true, true, true, true, true] rfl rfl (any_of HT_.out (by kernel_rfl)) (fun _ _ _ h => h) (Or.inl ⟨by rfl, ?_⟩) ?_ ?_
                              rotate_left
                              · intro w'
                                go_simp
                                with_reducible rfl
                              rotate_left
                              · simp only [Act.put, List.setIfInBounds_toArray, List.set_cons_zero, List.set_cons_succ, i64_w, i32_w]
                                rfl
                              refine done_ (done_of HT_.out (by kernel_rfl)) ?_
                              go_upto_region 16 with (fail)
                              go_cut [107] (fun v107 wc => ∃ (kq : Nat) (x107_41 : Bool), v107 = .bool x107_41 ∧ Aside0 (winnowerlaw22_IntakeAlone.j3 kq a1 x10_2 x12_2 t328 x107_41 l0_0 a0_1 a0_2 a0_3 a0_4 a2_0 a2_1 l2_2 = some r) ∧ Aside0 (kq ≤ kj26) ∧ Aside0 (Kd.S k41 41 wc w.heap.size (fun k_ => some k_ ≠ (v329 : Value).ownBlock) (.slice (some ad322) x10_2.length co28) x10_2) ∧ Aside0 (Kd.S k41 41 wc w.heap.size (fun k_ => some k_ ≠ ((.slice (some ad322) x10_2.length co28) : Value).ownBlock) v329 t328) ∧ Aside0 (wc.heap[gb313]? = some (.cells #[(.slice A0_0 l0_0.length c0_0), .int .i64 a0_1, .int .i64 a0_2, .int .i64 a0_3, .int .i64 a0_4] 24 (0, 0))) ∧ Aside0 (wc.heap[gb314]? = some (.cells #[.int .i64 a2_0, .int .i64 a2_1, (.slice A2_2 l2_2.length c2_2)] 27 (0, 0))) ∧ Aside0 (Kd.C k63 wc A322_2 ((rd_T41 x10_2 x12_2).f2).length ((rd_T41 x10_2 x12_2).f2)) ∧ Aside0 (Below w.heap.size w wc))
                              case first =>
                                have H := HC42.out
                                clear HC42
                                by_cases c46 : t331 = 0
                                · rw [if_pos c46] at H
                                  have c46b0 : (t331 == 0) = true := beq_iff_eq.mpr c46
                                  have c46b1 : (t331 != 0) = false := bne_eq_false_iff_eq.mpr c46
                                  clear c46
                                  (first | rw [c46b0] | (simp only [i64_w, i32_w]; rw [c46b0]) | skip)
                                  by_cases c47 : (t328.length : Int) = 1
                                  · rw [if_pos c47] at H
                                    have c47b0 : ((t328.length : Int) == 1) = true := beq_iff_eq.mpr c47
                                    have c47b0y0 := c47b0
                                    (try simp only [hl322_2] at c47b0y0)
                                    have c47b0y1 := c47b0
                                    (try simp only [hl323_2] at c47b0y1)
                                    have c47b0y2 := c47b0
                                    (try simp only [hl332_2] at c47b0y2)
                                    have c47b0y3 := c47b0
                                    (try simp only [hl333_2] at c47b0y3)
                                    have c47b0y4 := c47b0
                                    (try simp only [hl334_2] at c47b0y4)
                                    have c47b0y5 := c47b0
                                    (try simp only [hl341_2] at c47b0y5)
                                    have c47b0y6 := c47b0
                                    (try simp only [hl342_2] at c47b0y6)
                                    have c47b1 : ((t328.length : Int) != 1) = false := bne_eq_false_iff_eq.mpr c47
                                    have c47b1y0 := c47b1
                                    (try simp only [hl322_2] at c47b1y0)
                                    have c47b1y1 := c47b1
                                    (try simp only [hl323_2] at c47b1y1)
                                    have c47b1y2 := c47b1
                                    (try simp only [hl332_2] at c47b1y2)
                                    have c47b1y3 := c47b1
                                    (try simp only [hl333_2] at c47b1y3)
                                    have c47b1y4 := c47b1
                                    (try simp only [hl334_2] at c47b1y4)
                                    have c47b1y5 := c47b1
                                    (try simp only [hl341_2] at c47b1y5)
                                    have c47b1y6 := c47b1
                                    (try simp only [hl342_2] at c47b1y6)
                                    clear c47
                                    by_cases c48 : 0 < (t328.length : Int)
                                    · rw [if_pos c48] at H
                                      have c48b0 : decide (0 < (t328.length : Int)) = true := decide_eq_true c48
                                      have c48b0y0 := c48b0
                                      (try simp only [hl322_2] at c48b0y0)
                                      have c48b0y1 := c48b0
                                      (try simp only [hl323_2] at c48b0y1)
                                      have c48b0y2 := c48b0
                                      (try simp only [hl332_2] at c48b0y2)
                                      have c48b0y3 := c48b0
                                      (try simp only [hl333_2] at c48b0y3)
                                      have c48b0y4 := c48b0
                                      (try simp only [hl334_2] at c48b0y4)
                                      have c48b0y5 := c48b0
                                      (try simp only [hl341_2] at c48b0y5)
                                      have c48b0y6 := c48b0
                                      (try simp only [hl342_2] at c48b0y6)
                                      have c48b1 : decide (0 < t328.length) = true := decide_eq_true (by omega)
                                      have c48b1y0 := c48b1
                                      (try simp only [hl322_2] at c48b1y0)
                                      have c48b1y1 := c48b1
                                      (try simp only [hl323_2] at c48b1y1)
                                      have c48b1y2 := c48b1
                                      (try simp only [hl332_2] at c48b1y2)
                                      have c48b1y3 := c48b1
                                      (try simp only [hl333_2] at c48b1y3)
                                      have c48b1y4 := c48b1
                                      (try simp only [hl334_2] at c48b1y4)
                                      have c48b1y5 := c48b1
                                      (try simp only [hl341_2] at c48b1y5)
                                      have c48b1y6 := c48b1
                                      (try simp only [hl342_2] at c48b1y6)
                                      clear c48
                                      by_cases c49 : 0 ≤ x12_2
                                      · rw [if_pos c49] at H
                                        have c49b0 : decide (0 ≤ x12_2) = true := decide_eq_true c49
                                        clear c49
                                        by_cases c50 : x12_2 < (x10_2.length : Int)
                                        · rw [if_pos c50] at H
                                          have c50b0 : decide (x12_2 < (x10_2.length : Int)) = true := decide_eq_true c50
                                          have c50b0y0 := c50b0
                                          (try simp only [hl322_2] at c50b0y0)
                                          have c50b0y1 := c50b0
                                          (try simp only [hl323_2] at c50b0y1)
                                          have c50b0y2 := c50b0
                                          (try simp only [hl332_2] at c50b0y2)
                                          have c50b0y3 := c50b0
                                          (try simp only [hl333_2] at c50b0y3)
                                          have c50b0y4 := c50b0
                                          (try simp only [hl334_2] at c50b0y4)
                                          have c50b0y5 := c50b0
                                          (try simp only [hl341_2] at c50b0y5)
                                          have c50b0y6 := c50b0
                                          (try simp only [hl342_2] at c50b0y6)
                                          clear c50
                                          have H' := Aside0.mk H
                                          clear H
                                          try go_wp2
                                          have n0_ := Aside0.mk (Kd.S_drew HO_10.out); have n1_ := Aside0.mk (Kd.S_drew HO330.out); have n2_ := Aside0.mk (blk_drew BK313.out); have n3_ := Aside0.mk (blk_drew BK314.out); have n4_ := Aside0.mk (Kd.C_drew HR322_2.out); have n5_ := Aside0.mk (below_drew1 HB.out); clear HO_10; clear HO330; clear BK313; clear BK314; clear HR322_2; clear HB; have HO_10 := n0_; have HO330 := n1_; have BK313 := n2_; have BK314 := n3_; have HR322_2 := n4_; have HB := n5_; clear n0_ n1_ n2_ n3_ n4_ n5_
                                          obtain ⟨Ao52, co52, eo52⟩ := Kd.S_slice HO330.out
                                          (first | subst eo52 | (injection eo52 with f1_ f2_ f3_; have f4_ := f1_.symm; have f5_ := f3_.symm; clear f1_ f2_ f3_; subst f4_; subst f5_))
                                          have p332 : 0 ≤ (0 : Int) := (by omega)
                                          have q332 : 0 < (t328.length : Int) := of_decide_eq_true (by first | (with_reducible assumption) | assumption)
                                          obtain ⟨ad332, A332_2, c332_2, e332, hx332_0, hx332_1, hx332_2, hl332_2, hi332_2⟩ := at_T41 (Kd.S_reads' HO330.out).2.2 0 p332 q332
                                          cases e332
                                          obtain ⟨ce332, hce332, hMe332, hcc332⟩ := Kd.S_get HO330.out z41 0 p332 (by first | exact q332 | exact of_decide_eq_true (by first | (with_reducible assumption) | assumption) | (have e_ := (Kd.S_reads' HO330.out).1; omega))
                                          obtain ⟨ve332_2, rfl, ge332_2⟩ := k41_openM hMe332
                                          have hv332_2 := hcc332 2 _ rfl
                                          rw [add_field _ _ 2 (by omega)] at hv332_2
                                          replace hv332_2 := Option.some.inj (hv332_2.symm.trans hx332_2)
                                          rw [hv332_2] at ge332_2
                                          have HL332_2 := Aside0.mk (show Kd.R k63 63 _ _ _ _ ((rd_T41 t328 0).f2) from ge332_2)
                                          clear hv332_2 ge332_2; clear hcc332 hce332
                                          have qi332 : (0 < t328.length) = True := eq_true (by omega)
                                          (try rw [show ((0 : Int)).toNat = 0 from rfl] at hx332_0)
                                          (try rw [show 0 * 3 = 0 from rfl] at hx332_0)
                                          (try rw [Addr.add_zero'] at hx332_0)
                                          (try rw [show ((0 : Int)).toNat = 0 from rfl] at hx332_1)
                                          (try rw [show 0 * 3 = 0 from rfl] at hx332_1)
                                          (try rw [Addr.add_zero'] at hx332_1)
                                          (try rw [show ((0 : Int)).toNat = 0 from rfl] at hx332_2)
                                          (try rw [show 0 * 3 = 0 from rfl] at hx332_2)
                                          (try rw [Addr.add_zero'] at hx332_2)
                                          have HR332_2 := Aside0.mk hi332_2
                                          have HC332_2 := Aside0.mk hl332_2
                                          clear hi332_2 hl332_2
                                          replace p332 := eq_true p332
                                          replace q332 := eq_true q332
                                          have p333 : 0 ≤ (x12_2 : Int) := of_decide_eq_true (by first | (with_reducible assumption) | assumption)
                                          have q333 : x12_2 < (x10_2.length : Int) := of_decide_eq_true (by first | (with_reducible assumption) | assumption)
                                          obtain ⟨ad333, A333_2, c333_2, e333, hx333_0, hx333_1, hx333_2, hl333_2, hi333_2⟩ := at_T41 (Kd.S_reads' HO_10.out).2.2 x12_2 p333 q333
                                          obtain rfl : ad322 = ad333 := (by injection e333)
                                          obtain ⟨ce333, hce333, hMe333, hcc333⟩ := Kd.S_get HO_10.out z41 x12_2 p333 (by first | exact q333 | exact of_decide_eq_true (by first | (with_reducible assumption) | assumption) | (have e_ := (Kd.S_reads' HO_10.out).1; omega))
                                          obtain ⟨ve333_2, rfl, ge333_2⟩ := k41_openM hMe333
                                          have hv333_2 := hcc333 2 _ rfl
                                          rw [add_field _ _ 2 (by omega)] at hv333_2
                                          replace hv333_2 := Option.some.inj (hv333_2.symm.trans hx333_2)
                                          rw [hv333_2] at ge333_2
                                          have HL333_2 := Aside0.mk (show Kd.R k63 63 _ _ _ _ ((rd_T41 x10_2 x12_2).f2) from ge333_2)
                                          clear hv333_2 ge333_2; clear hcc333 hce333
                                          have HR333_2 := Aside0.mk hi333_2
                                          have HC333_2 := Aside0.mk hl333_2
                                          clear hi333_2 hl333_2
                                          replace p333 := eq_true p333
                                          replace q333 := eq_true q333
                                          refine start_ (n := 19) (S := fun w' => w'.cell? ad332 = some (.int .i64 ((rd_T41 t328 0).f0)) ∧ w'.cell? ⟨ad332.block, ad332.off + 1, none⟩ = some (.bool ((rd_T41 t328 0).f1)) ∧ w'.cell? ⟨ad332.block, ad332.off + 2, none⟩ = some (.slice A332_2 ((rd_T41 t328 0).f2).length c332_2) ∧ w'.cell? (ad322.add ((x12_2).toNat * 3)) = some (.int .i64 ((rd_T41 x10_2 x12_2).f0)) ∧ w'.cell? ⟨(ad322.add ((x12_2).toNat * 3)).block, (ad322.add ((x12_2).toNat * 3)).off + 1, none⟩ = some (.bool ((rd_T41 x10_2 x12_2).f1)) ∧ w'.cell? ⟨(ad322.add ((x12_2).toNat * 3)).block, (ad322.add ((x12_2).toNat * 3)).off + 2, none⟩ = some (.slice A333_2 ((rd_T41 x10_2 x12_2).f2).length c333_2)) (ds := []) #[false, false, false, false, false, false, false, false, false, false, false, false, false, false, false, false, false, false, false] (by kernel_rfl) rfl rfl ⟨hx332_0, hx332_1, hx332_2, hx333_0, hx333_1, hx333_2⟩ (fun hHeld => ?_); refine with_tabW winnowerlaw22_IntakeAlone.tab16 winnowerlaw22_IntakeAlone.bits16 (fun HT_ HW_ => ?_)
                                          generalize w45.drew = w51 at HO_10 HO330 BK313 BK314 HR322_2 HB HL332_2 HL333_2 HR332_2 HR333_2 hx332_0 hx332_1 hx332_2 hx333_0 hx333_1 hx333_2 hHeld ⊢
                                          refine pure_ (i := 0) (N := some 89) (v := ?_) (a' := ?_) #[true, false, false, false, false, false, false, false, false, false, false, false, false, false, false, false, false, false, false] rfl rfl (any_of HT_.out (by kernel_rfl)) (fun _ _ _ h => h) (Or.inl ⟨by rfl, ?_⟩) ?_ ?_
                                          rotate_left
                                          · intro w'
                                            go_simp
                                            with_reducible rfl
                                          rotate_left
                                          · simp only [Act.put, List.setIfInBounds_toArray, List.set_cons_zero, List.set_cons_succ, i64_w, i32_w]
                                            rfl
                                          refine pure_ (i := 1) (N := some 90) (v := ?_) (a' := ?_) #[true, true, false, false, false, false, false, false, false, false, false, false, false, false, false, false, false, false, false] rfl rfl (any_of HT_.out (by kernel_rfl)) (fun _ _ _ h => h) (Or.inl ⟨by rfl, ?_⟩) ?_ ?_
                                          rotate_left
                                          · intro w'
                                            go_simp
                                            with_reducible rfl
                                          rotate_left
                                          · simp only [Act.put, List.setIfInBounds_toArray, List.set_cons_zero, List.set_cons_succ, i64_w, i32_w]
                                            rfl
                                          refine pure_ (i := 2) (N := some 91) (v := ?_) (a' := ?_) #[true, true, true, false, false, false, false, false, false, false, false, false, false, false, false, false, false, false, false] rfl rfl (any_of HT_.out (by kernel_rfl)) (fun _ _ _ h => h) (Or.inl ⟨by rfl, ?_⟩) ?_ ?_
                                          rotate_left
                                          · intro w'
                                            go_simp
                                            with_reducible rfl
                                          rotate_left
                                          · simp only [Act.put, List.setIfInBounds_toArray, List.set_cons_zero, List.set_cons_succ, i64_w, i32_w]
                                            rfl
                                          refine pure_ (i := 3) (N := some 92) (v := ?_) (a' := ?_) #[true, true, true, true, false, false, false, false, false, false, false, false, false, false, false, false, false, false, false] rfl rfl (any_of HT_.out (by kernel_rfl)) (fun _ _ _ h => h) (Or.inl ⟨by rfl, ?_⟩) ?_ ?_
                                          rotate_left
                                          · intro w'
                                            go_simp
                                            with_reducible rfl
                                          rotate_left
                                          · simp only [Act.put, List.setIfInBounds_toArray, List.set_cons_zero, List.set_cons_succ, i64_w, i32_w]
                                            rfl
                                          refine pure_ (i := 4) (N := some 93) (v := ?_) (a' := ?_) #[true, true, true, true, true, false, false, false, false, false, false, false, false, false, false, false, false, false, false] rfl rfl (any_of HT_.out (by kernel_rfl)) (fun _ _ _ h => h) (Or.inl ⟨by rfl, ?_⟩) ?_ ?_
                                          rotate_left
                                          · intro w'
                                            go_simp
                                            with_reducible rfl
                                          rotate_left
                                          · simp only [Act.put, List.setIfInBounds_toArray, List.set_cons_zero, List.set_cons_succ, i64_w, i32_w]
                                            rfl
                                          refine pure_ (i := 5) (N := some 94) (v := ?_) (a' := ?_) #[true, true, true, true, true, true, false, false, false, false, false, false, false, false, false, false, false, false, false] rfl rfl (any_of HT_.out (by kernel_rfl)) (fun _ _ _ h => h) (Or.inl ⟨by rfl, ?_⟩) ?_ ?_
                                          rotate_left
                                          · intro w'
                                            go_simp
                                            with_reducible rfl
                                          rotate_left
                                          · simp only [Act.put, List.setIfInBounds_toArray, List.set_cons_zero, List.set_cons_succ, i64_w, i32_w]
                                            rfl
                                          refine pure_ (i := 6) (N := some 95) (v := ?_) (a' := ?_) #[true, true, true, true, true, true, true, false, false, false, false, false, false, false, false, false, false, false, false] rfl rfl (any_of HT_.out (by kernel_rfl)) (fun _ _ _ h => h) (Or.inl ⟨by rfl, ?_⟩) ?_ ?_
                                          rotate_left
                                          · intro w'
                                            go_simp
                                            with_reducible rfl
                                          rotate_left
                                          · simp only [Act.put, List.setIfInBounds_toArray, List.set_cons_zero, List.set_cons_succ, i64_w, i32_w]
                                            rfl
                                          refine pure_ (i := 7) (N := some 96) (v := ?_) (a' := ?_) #[true, true, true, true, true, true, true, true, false, false, false, false, false, false, false, false, false, false, false] rfl rfl (any_of HT_.out (by kernel_rfl)) (fun _ _ _ h => h) (Or.inl ⟨by rfl, ?_⟩) ?_ ?_
                                          rotate_left
                                          · intro w'
                                            go_simp
                                            with_reducible rfl
                                          rotate_left
                                          · simp only [Act.put, List.setIfInBounds_toArray, List.set_cons_zero, List.set_cons_succ, i64_w, i32_w]
                                            rfl
                                          refine pure_ (i := 8) (N := some 97) (v := ?_) (a' := ?_) #[true, true, true, true, true, true, true, true, true, false, false, false, false, false, false, false, false, false, false] rfl rfl (any_of HT_.out (by kernel_rfl)) (fun _ _ _ h => h) (Or.inl ⟨by rfl, ?_⟩) ?_ ?_
                                          rotate_left
                                          · intro w'
                                            go_simp
                                            with_reducible rfl
                                          rotate_left
                                          · simp only [Act.put, List.setIfInBounds_toArray, List.set_cons_zero, List.set_cons_succ, i64_w, i32_w]
                                            rfl
                                          refine pure_ (i := 9) (N := some 98) (v := ?_) (a' := ?_) #[true, true, true, true, true, true, true, true, true, true, false, false, false, false, false, false, false, false, false] rfl rfl (any_of HT_.out (by kernel_rfl)) (fun _ _ _ h => h) (Or.inl ⟨by rfl, ?_⟩) ?_ ?_
                                          rotate_left
                                          · intro w'
                                            go_simp
                                            with_reducible rfl
                                          rotate_left
                                          · simp only [Act.put, List.setIfInBounds_toArray, List.set_cons_zero, List.set_cons_succ, i64_w, i32_w]
                                            rfl
                                          refine pure_ (i := 10) (N := some 99) (v := ?_) (a' := ?_) #[true, true, true, true, true, true, true, true, true, true, true, false, false, false, false, false, false, false, false] rfl rfl (any_of HT_.out (by kernel_rfl)) (fun _ _ _ h => h) (Or.inl ⟨by rfl, ?_⟩) ?_ ?_
                                          rotate_left
                                          · intro w'
                                            go_simp
                                            with_reducible rfl
                                          rotate_left
                                          · simp only [Act.put, List.setIfInBounds_toArray, List.set_cons_zero, List.set_cons_succ, i64_w, i32_w]
                                            rfl
                                          refine pure_ (i := 12) (N := some 101) (v := ?_) (a' := ?_) #[true, true, true, true, true, true, true, true, true, true, true, false, true, false, false, false, false, false, false] rfl rfl (any_of HT_.out (by kernel_rfl)) (fun _ _ _ h => h) (Or.inl ⟨by rfl, ?_⟩) ?_ ?_
                                          rotate_left
                                          · intro w'
                                            go_simp
                                            with_reducible rfl
                                          rotate_left
                                          · simp only [Act.put, List.setIfInBounds_toArray, List.set_cons_zero, List.set_cons_succ, i64_w, i32_w]
                                            rfl
                                          refine pure_ (i := 13) (N := some 102) (v := ?_) (a' := ?_) #[true, true, true, true, true, true, true, true, true, true, true, false, true, true, false, false, false, false, false] rfl rfl (any_of HT_.out (by kernel_rfl)) (fun _ _ _ h => h) (Or.inl ⟨by rfl, ?_⟩) ?_ ?_
                                          rotate_left
                                          · intro w'
                                            go_simp
                                            with_reducible rfl
                                          rotate_left
                                          · simp only [Act.put, List.setIfInBounds_toArray, List.set_cons_zero, List.set_cons_succ, i64_w, i32_w]
                                            rfl
                                          refine pure_ (i := 14) (N := some 103) (v := ?_) (a' := ?_) #[true, true, true, true, true, true, true, true, true, true, true, false, true, true, true, false, false, false, false] rfl rfl (any_of HT_.out (by kernel_rfl)) (fun _ _ _ h => h) (Or.inl ⟨by rfl, ?_⟩) ?_ ?_
                                          rotate_left
                                          · intro w'
                                            go_simp
                                            with_reducible rfl
                                          rotate_left
                                          · simp only [Act.put, List.setIfInBounds_toArray, List.set_cons_zero, List.set_cons_succ, i64_w, i32_w]
                                            rfl
                                          refine pure_ (i := 15) (N := some 104) (v := ?_) (a' := ?_) #[true, true, true, true, true, true, true, true, true, true, true, false, true, true, true, true, false, false, false] rfl rfl (any_of HT_.out (by kernel_rfl)) (fun _ _ _ h => h) (Or.inl ⟨by rfl, ?_⟩) ?_ ?_
                                          rotate_left
                                          · intro w'
                                            go_simp
                                            with_reducible rfl
                                          rotate_left
                                          · simp only [Act.put, List.setIfInBounds_toArray, List.set_cons_zero, List.set_cons_succ, i64_w, i32_w]
                                            rfl
                                          refine take_ (i := 11) (N := some 100) (v := ?_) (a' := ?_) #[true, true, true, true, true, true, true, true, true, true, true, true, true, true, true, true, false, false, false] rfl rfl (take_ofW HT_.out HW_.out (by kernel_rfl)) (fun _ _ _ h => h) (Or.inl ⟨by rfl, ?_⟩) hHeld ?_ ?_
                                          rotate_left
                                          · rintro w' ⟨s0, s1, s2, s3, s4, s5⟩
                                            go_simp
                                            with_reducible rfl
                                          rotate_left
                                          · simp only [Act.put, List.setIfInBounds_toArray, List.set_cons_zero, List.set_cons_succ, i64_w, i32_w]
                                            rfl
                                          refine take_ (i := 16) (N := some 105) (v := ?_) (a' := ?_) #[true, true, true, true, true, true, true, true, true, true, true, true, true, true, true, true, true, false, false] rfl rfl (take_ofW HT_.out HW_.out (by kernel_rfl)) (fun _ _ _ h => h) (Or.inl ⟨by rfl, ?_⟩) hHeld ?_ ?_
                                          rotate_left
                                          · rintro w' ⟨s0, s1, s2, s3, s4, s5⟩
                                            go_simp
                                            with_reducible rfl
                                          rotate_left
                                          · simp only [Act.put, List.setIfInBounds_toArray, List.set_cons_zero, List.set_cons_succ, i64_w, i32_w]
                                            rfl
                                          refine pure_ (i := 17) (N := some 106) (v := ?_) (a' := ?_) #[true, true, true, true, true, true, true, true, true, true, true, true, true, true, true, true, true, true, false] rfl rfl (any_of HT_.out (by kernel_rfl)) (fun _ _ _ h => h) (Or.inl ⟨by rfl, ?_⟩) ?_ ?_
                                          rotate_left
                                          · intro w'
                                            go_simp
                                            with_reducible rfl
                                          rotate_left
                                          · simp only [Act.put, List.setIfInBounds_toArray, List.set_cons_zero, List.set_cons_succ, i64_w, i32_w]
                                            rfl
                                          refine pure_ (i := 18) (N := some 107) (v := ?_) (a' := ?_) #[true, true, true, true, true, true, true, true, true, true, true, true, true, true, true, true, true, true, true] rfl rfl (any_of HT_.out (by kernel_rfl)) (fun _ _ _ h => h) (Or.inl ⟨by rfl, ?_⟩) ?_ ?_
                                          rotate_left
                                          · intro w'
                                            go_simp
                                            with_reducible rfl
                                          rotate_left
                                          · simp only [Act.put, List.setIfInBounds_toArray, List.set_cons_zero, List.set_cons_succ, i64_w, i32_w]
                                            rfl
                                          refine done_ (done_of HT_.out (by kernel_rfl)) ?_
                                          try go_wp2
                                          go_meet
                                          case rel => exact ⟨_, ((((rd_T41 t328 0).f1) != ((rd_T41 x10_2 x12_2).f1))), (by first | rfl | (simp; done) | (simp [*]; done)), H', ⟨by have := HJ6.out; have := HK2.out; have := HJ26.out; first | omega | exact Nat.le_refl _⟩, ⟨by (with_reducible repeat (first | apply Kd.S_alloc | apply Kd.S_drewN | apply Kd.S_drew)); exact Kd.S_mono HO_10.out (fun _ hk => hk.2)⟩, ⟨by (with_reducible repeat (first | apply Kd.S_alloc | apply Kd.S_drewN | apply Kd.S_drew)); exact Kd.S_mono HO330.out (fun _ hk => hk.2)⟩, ⟨by (with_reducible repeat (first | refine blk_drewN ?_ _ | refine blk_drew ?_ | refine blk_alloc ?_ _)); exact BK313.out⟩, ⟨by (with_reducible repeat (first | refine blk_drewN ?_ _ | refine blk_drew ?_ | refine blk_alloc ?_ _)); exact BK314.out⟩, ⟨by repeat (first | (with_reducible exact HR322_2.out) | (with_reducible refine Kd.C_alloc ?_ _) | (with_reducible refine Kd.C_drewN ?_ _) | (with_reducible refine Kd.C_drew ?_) | exact HR322_2.out)⟩, ⟨by repeat (first | (with_reducible first | exact HB.out | apply below_alloc | apply pw_below_drewN | apply below_drew1 | refine below_set ?_ GE313.out | refine below_set ?_ GE314.out) | exact HB.out)⟩⟩
                                        · rw [if_neg c50] at H
                                          exact absurd H (by simp)
                                      · rw [if_neg c49] at H
                                        exact absurd H (by simp)
                                    · rw [if_neg c48] at H
                                      exact absurd H (by simp)
                                  · rw [if_neg c47] at H
                                    have c47b0 : ((t328.length : Int) == 1) = false := beq_eq_false_iff_ne.mpr c47
                                    have c47b0y0 := c47b0
                                    (try simp only [hl322_2] at c47b0y0)
                                    have c47b0y1 := c47b0
                                    (try simp only [hl323_2] at c47b0y1)
                                    have c47b0y2 := c47b0
                                    (try simp only [hl332_2] at c47b0y2)
                                    have c47b0y3 := c47b0
                                    (try simp only [hl333_2] at c47b0y3)
                                    have c47b0y4 := c47b0
                                    (try simp only [hl334_2] at c47b0y4)
                                    have c47b0y5 := c47b0
                                    (try simp only [hl341_2] at c47b0y5)
                                    have c47b0y6 := c47b0
                                    (try simp only [hl342_2] at c47b0y6)
                                    have c47b1 : ((t328.length : Int) != 1) = true := bne_iff_ne.mpr c47
                                    have c47b1y0 := c47b1
                                    (try simp only [hl322_2] at c47b1y0)
                                    have c47b1y1 := c47b1
                                    (try simp only [hl323_2] at c47b1y1)
                                    have c47b1y2 := c47b1
                                    (try simp only [hl332_2] at c47b1y2)
                                    have c47b1y3 := c47b1
                                    (try simp only [hl333_2] at c47b1y3)
                                    have c47b1y4 := c47b1
                                    (try simp only [hl334_2] at c47b1y4)
                                    have c47b1y5 := c47b1
                                    (try simp only [hl341_2] at c47b1y5)
                                    have c47b1y6 := c47b1
                                    (try simp only [hl342_2] at c47b1y6)
                                    have H' := Aside0.mk H
                                    clear H
                                    try go_wp2
                                    have n0_ := Aside0.mk (Kd.S_drew HO_10.out); have n1_ := Aside0.mk (Kd.S_drew HO330.out); have n2_ := Aside0.mk (blk_drew BK313.out); have n3_ := Aside0.mk (blk_drew BK314.out); have n4_ := Aside0.mk (Kd.C_drew HR322_2.out); have n5_ := Aside0.mk (below_drew1 HB.out); clear HO_10; clear HO330; clear BK313; clear BK314; clear HR322_2; clear HB; have HO_10 := n0_; have HO330 := n1_; have BK313 := n2_; have BK314 := n3_; have HR322_2 := n4_; have HB := n5_; clear n0_ n1_ n2_ n3_ n4_ n5_
                                    obtain ⟨Ao54, co54, eo54⟩ := Kd.S_slice HO330.out
                                    (first | subst eo54 | (injection eo54 with f1_ f2_ f3_; have f4_ := f1_.symm; have f5_ := f3_.symm; clear f1_ f2_ f3_; subst f4_; subst f5_))
                                    refine start_ (n := 19) (S := fun w' => True) (ds := []) #[false, false, false, false, false, false, false, false, false, false, false, false, false, false, false, false, false, false, false] (by kernel_rfl) rfl rfl trivial (fun hHeld => ?_); refine with_tabW winnowerlaw22_IntakeAlone.tab16 winnowerlaw22_IntakeAlone.bits16 (fun HT_ HW_ => ?_)
                                    generalize w45.drew = w53 at HO_10 HO330 BK313 BK314 HR322_2 HB hHeld ⊢
                                    refine pure_ (i := 0) (N := some 89) (v := ?_) (a' := ?_) #[true, false, false, false, false, false, false, false, false, false, false, false, false, false, false, false, false, false, false] rfl rfl (any_of HT_.out (by kernel_rfl)) (fun _ _ _ h => h) (Or.inl ⟨by rfl, ?_⟩) ?_ ?_
                                    rotate_left
                                    · intro w'
                                      go_simp
                                      with_reducible rfl
                                    rotate_left
                                    · simp only [Act.put, List.setIfInBounds_toArray, List.set_cons_zero, List.set_cons_succ, i64_w, i32_w]
                                      rfl
                                    refine pure_ (i := 1) (N := some 90) (v := ?_) (a' := ?_) #[true, true, false, false, false, false, false, false, false, false, false, false, false, false, false, false, false, false, false] rfl rfl (any_of HT_.out (by kernel_rfl)) (fun _ _ _ h => h) (Or.inl ⟨by rfl, ?_⟩) ?_ ?_
                                    rotate_left
                                    · intro w'
                                      go_simp
                                      with_reducible rfl
                                    rotate_left
                                    · simp only [Act.put, List.setIfInBounds_toArray, List.set_cons_zero, List.set_cons_succ, i64_w, i32_w]
                                      rfl
                                    refine pure_ (i := 2) (N := some 91) (v := ?_) (a' := ?_) #[true, true, true, false, false, false, false, false, false, false, false, false, false, false, false, false, false, false, false] rfl rfl (any_of HT_.out (by kernel_rfl)) (fun _ _ _ h => h) (Or.inl ⟨by rfl, ?_⟩) ?_ ?_
                                    rotate_left
                                    · intro w'
                                      go_simp
                                      with_reducible rfl
                                    rotate_left
                                    · simp only [Act.put, List.setIfInBounds_toArray, List.set_cons_zero, List.set_cons_succ, i64_w, i32_w]
                                      rfl
                                    refine pure_ (i := 3) (N := some 92) (v := ?_) (a' := ?_) #[true, true, true, true, false, false, false, false, false, false, false, false, false, false, false, false, false, false, false] rfl rfl (any_of HT_.out (by kernel_rfl)) (fun _ _ _ h => h) (Or.inl ⟨by rfl, ?_⟩) ?_ ?_
                                    rotate_left
                                    · intro w'
                                      go_simp
                                      with_reducible rfl
                                    rotate_left
                                    · simp only [Act.put, List.setIfInBounds_toArray, List.set_cons_zero, List.set_cons_succ, i64_w, i32_w]
                                      rfl
                                    refine pure_ (i := 4) (N := some 93) (v := ?_) (a' := ?_) #[true, true, true, true, true, false, false, false, false, false, false, false, false, false, false, false, false, false, false] rfl rfl (any_of HT_.out (by kernel_rfl)) (fun _ _ _ h => h) (Or.inl ⟨by rfl, ?_⟩) ?_ ?_
                                    rotate_left
                                    · intro w'
                                      go_simp
                                      with_reducible rfl
                                    rotate_left
                                    · simp only [Act.put, List.setIfInBounds_toArray, List.set_cons_zero, List.set_cons_succ, i64_w, i32_w]
                                      rfl
                                    refine pure_ (i := 5) (N := some 94) (v := ?_) (a' := ?_) #[true, true, true, true, true, true, false, false, false, false, false, false, false, false, false, false, false, false, false] rfl rfl (any_of HT_.out (by kernel_rfl)) (fun _ _ _ h => h) (Or.inl ⟨by rfl, ?_⟩) ?_ ?_
                                    rotate_left
                                    · intro w'
                                      go_simp
                                      with_reducible rfl
                                    rotate_left
                                    · simp only [Act.put, List.setIfInBounds_toArray, List.set_cons_zero, List.set_cons_succ, i64_w, i32_w]
                                      rfl
                                    refine pure_ (i := 6) (N := some 95) (v := ?_) (a' := ?_) #[true, true, true, true, true, true, true, false, false, false, false, false, false, false, false, false, false, false, false] rfl rfl (any_of HT_.out (by kernel_rfl)) (fun _ _ _ h => h) (Or.inl ⟨by rfl, ?_⟩) ?_ ?_
                                    rotate_left
                                    · intro w'
                                      go_simp
                                      with_reducible rfl
                                    rotate_left
                                    · simp only [Act.put, List.setIfInBounds_toArray, List.set_cons_zero, List.set_cons_succ, i64_w, i32_w]
                                      rfl
                                    refine pure_ (i := 7) (N := some 96) (v := ?_) (a' := ?_) #[true, true, true, true, true, true, true, true, false, false, false, false, false, false, false, false, false, false, false] rfl rfl (any_of HT_.out (by kernel_rfl)) (fun _ _ _ h => h) (Or.inl ⟨by rfl, ?_⟩) ?_ ?_
                                    rotate_left
                                    · intro w'
                                      go_simp
                                      with_reducible rfl
                                    rotate_left
                                    · simp only [Act.put, List.setIfInBounds_toArray, List.set_cons_zero, List.set_cons_succ, i64_w, i32_w]
                                      rfl
                                    refine pure_ (i := 8) (N := some 97) (v := undef) (a' := ?_) #[true, true, true, true, true, true, true, true, true, false, false, false, false, false, false, false, false, false, false] rfl rfl (any_of HT_.out (by kernel_rfl)) (fun _ _ _ h => h) (Or.inr ⟨by rfl, rfl⟩) ?_ ?_
                                    rotate_left
                                    · simp only [Act.put, List.setIfInBounds_toArray, List.set_cons_zero, List.set_cons_succ, i64_w, i32_w]
                                      rfl
                                    refine pure_ (i := 9) (N := some 98) (v := undef) (a' := ?_) #[true, true, true, true, true, true, true, true, true, true, false, false, false, false, false, false, false, false, false] rfl rfl (any_of HT_.out (by kernel_rfl)) (fun _ _ _ h => h) (Or.inr ⟨by rfl, rfl⟩) ?_ ?_
                                    rotate_left
                                    · simp only [Act.put, List.setIfInBounds_toArray, List.set_cons_zero, List.set_cons_succ, i64_w, i32_w]
                                      rfl
                                    refine pure_ (i := 10) (N := some 99) (v := undef) (a' := ?_) #[true, true, true, true, true, true, true, true, true, true, true, false, false, false, false, false, false, false, false] rfl rfl (any_of HT_.out (by kernel_rfl)) (fun _ _ _ h => h) (Or.inr ⟨by rfl, rfl⟩) ?_ ?_
                                    rotate_left
                                    · simp only [Act.put, List.setIfInBounds_toArray, List.set_cons_zero, List.set_cons_succ, i64_w, i32_w]
                                      rfl
                                    refine pure_ (i := 11) (N := some 100) (v := undef) (a' := ?_) #[true, true, true, true, true, true, true, true, true, true, true, true, false, false, false, false, false, false, false] rfl rfl (any_of HT_.out (by kernel_rfl)) (fun _ _ _ h => h) (Or.inr ⟨by rfl, rfl⟩) ?_ ?_
                                    rotate_left
                                    · simp only [Act.put, List.setIfInBounds_toArray, List.set_cons_zero, List.set_cons_succ, i64_w, i32_w]
                                      rfl
                                    refine pure_ (i := 12) (N := some 101) (v := undef) (a' := ?_) #[true, true, true, true, true, true, true, true, true, true, true, true, true, false, false, false, false, false, false] rfl rfl (any_of HT_.out (by kernel_rfl)) (fun _ _ _ h => h) (Or.inr ⟨by rfl, rfl⟩) ?_ ?_
                                    rotate_left
                                    · simp only [Act.put, List.setIfInBounds_toArray, List.set_cons_zero, List.set_cons_succ, i64_w, i32_w]
                                      rfl
                                    refine pure_ (i := 13) (N := some 102) (v := undef) (a' := ?_) #[true, true, true, true, true, true, true, true, true, true, true, true, true, true, false, false, false, false, false] rfl rfl (any_of HT_.out (by kernel_rfl)) (fun _ _ _ h => h) (Or.inr ⟨by rfl, rfl⟩) ?_ ?_
                                    rotate_left
                                    · simp only [Act.put, List.setIfInBounds_toArray, List.set_cons_zero, List.set_cons_succ, i64_w, i32_w]
                                      rfl
                                    refine pure_ (i := 14) (N := some 103) (v := undef) (a' := ?_) #[true, true, true, true, true, true, true, true, true, true, true, true, true, true, true, false, false, false, false] rfl rfl (any_of HT_.out (by kernel_rfl)) (fun _ _ _ h => h) (Or.inr ⟨by rfl, rfl⟩) ?_ ?_
                                    rotate_left
                                    · simp only [Act.put, List.setIfInBounds_toArray, List.set_cons_zero, List.set_cons_succ, i64_w, i32_w]
                                      rfl
                                    refine pure_ (i := 15) (N := some 104) (v := undef) (a' := ?_) #[true, true, true, true, true, true, true, true, true, true, true, true, true, true, true, true, false, false, false] rfl rfl (any_of HT_.out (by kernel_rfl)) (fun _ _ _ h => h) (Or.inr ⟨by rfl, rfl⟩) ?_ ?_
                                    rotate_left
                                    · simp only [Act.put, List.setIfInBounds_toArray, List.set_cons_zero, List.set_cons_succ, i64_w, i32_w]
                                      rfl
                                    refine pure_ (i := 16) (N := some 105) (v := undef) (a' := ?_) #[true, true, true, true, true, true, true, true, true, true, true, true, true, true, true, true, true, false, false] rfl rfl (any_of HT_.out (by kernel_rfl)) (fun _ _ _ h => h) (Or.inr ⟨by rfl, rfl⟩) ?_ ?_
                                    rotate_left
                                    · simp only [Act.put, List.setIfInBounds_toArray, List.set_cons_zero, List.set_cons_succ, i64_w, i32_w]
                                      rfl
                                    refine pure_ (i := 17) (N := some 106) (v := undef) (a' := ?_) #[true, true, true, true, true, true, true, true, true, true, true, true, true, true, true, true, true, true, false] rfl rfl (any_of HT_.out (by kernel_rfl)) (fun _ _ _ h => h) (Or.inr ⟨by rfl, rfl⟩) ?_ ?_
                                    rotate_left
                                    · simp only [Act.put, List.setIfInBounds_toArray, List.set_cons_zero, List.set_cons_succ, i64_w, i32_w]
                                      rfl
                                    refine pure_ (i := 18) (N := some 107) (v := ?_) (a' := ?_) #[true, true, true, true, true, true, true, true, true, true, true, true, true, true, true, true, true, true, true] rfl rfl (any_of HT_.out (by kernel_rfl)) (fun _ _ _ h => h) (Or.inl ⟨by rfl, ?_⟩) ?_ ?_
                                    rotate_left
                                    · intro w'
                                      go_simp
                                      with_reducible rfl
                                    rotate_left
                                    · simp only [Act.put, List.setIfInBounds_toArray, List.set_cons_zero, List.set_cons_succ, i64_w, i32_w]
                                      rfl
                                    refine done_ (done_of HT_.out (by kernel_rfl)) ?_
                                    try go_wp2
                                    go_meet
                                    case rel => exact ⟨_, (true), (by first | rfl | (simp; done) | (simp [*]; done)), H', ⟨by have := HJ6.out; have := HK2.out; have := HJ26.out; first | omega | exact Nat.le_refl _⟩, ⟨by (with_reducible repeat (first | apply Kd.S_alloc | apply Kd.S_drewN | apply Kd.S_drew)); exact Kd.S_mono HO_10.out (fun _ hk => hk.2)⟩, ⟨by (with_reducible repeat (first | apply Kd.S_alloc | apply Kd.S_drewN | apply Kd.S_drew)); exact Kd.S_mono HO330.out (fun _ hk => hk.2)⟩, ⟨by (with_reducible repeat (first | refine blk_drewN ?_ _ | refine blk_drew ?_ | refine blk_alloc ?_ _)); exact BK313.out⟩, ⟨by (with_reducible repeat (first | refine blk_drewN ?_ _ | refine blk_drew ?_ | refine blk_alloc ?_ _)); exact BK314.out⟩, ⟨by repeat (first | (with_reducible exact HR322_2.out) | (with_reducible refine Kd.C_alloc ?_ _) | (with_reducible refine Kd.C_drewN ?_ _) | (with_reducible refine Kd.C_drew ?_) | exact HR322_2.out)⟩, ⟨by repeat (first | (with_reducible first | exact HB.out | apply below_alloc | apply pw_below_drewN | apply below_drew1 | refine below_set ?_ GE313.out | refine below_set ?_ GE314.out) | exact HB.out)⟩⟩
                                · rw [if_neg c46] at H
                                  have c46b0 : (t331 == 0) = false := beq_eq_false_iff_ne.mpr c46
                                  have c46b1 : (t331 != 0) = true := bne_iff_ne.mpr c46
                                  (first | rw [c46b0] | (simp only [i64_w, i32_w]; rw [c46b0]) | skip)
                                  have H' := Aside0.mk H
                                  clear H
                                  try go_wp2
                                  have n0_ := Aside0.mk (Kd.S_drew HO_10.out); have n1_ := Aside0.mk (Kd.S_drew HO330.out); have n2_ := Aside0.mk (blk_drew BK313.out); have n3_ := Aside0.mk (blk_drew BK314.out); have n4_ := Aside0.mk (Kd.C_drew HR322_2.out); have n5_ := Aside0.mk (below_drew1 HB.out); clear HO_10; clear HO330; clear BK313; clear BK314; clear HR322_2; clear HB; have HO_10 := n0_; have HO330 := n1_; have BK313 := n2_; have BK314 := n3_; have HR322_2 := n4_; have HB := n5_; clear n0_ n1_ n2_ n3_ n4_ n5_
                                  refine start_ (n := 19) (S := fun w' => True) (ds := []) #[false, false, false, false, false, false, false, false, false, false, false, false, false, false, false, false, false, false, false] (by kernel_rfl) rfl rfl trivial (fun hHeld => ?_); refine with_tabW winnowerlaw22_IntakeAlone.tab16 winnowerlaw22_IntakeAlone.bits16 (fun HT_ HW_ => ?_)
                                  generalize w45.drew = w55 at HO_10 HO330 BK313 BK314 HR322_2 HB hHeld ⊢
                                  refine pure_ (i := 0) (N := some 89) (v := ?_) (a' := ?_) #[true, false, false, false, false, false, false, false, false, false, false, false, false, false, false, false, false, false, false] rfl rfl (any_of HT_.out (by kernel_rfl)) (fun _ _ _ h => h) (Or.inl ⟨by rfl, ?_⟩) ?_ ?_
                                  rotate_left
                                  · intro w'
                                    go_simp
                                    with_reducible rfl
                                  rotate_left
                                  · simp only [Act.put, List.setIfInBounds_toArray, List.set_cons_zero, List.set_cons_succ, i64_w, i32_w]
                                    rfl
                                  refine pure_ (i := 1) (N := some 90) (v := ?_) (a' := ?_) #[true, true, false, false, false, false, false, false, false, false, false, false, false, false, false, false, false, false, false] rfl rfl (any_of HT_.out (by kernel_rfl)) (fun _ _ _ h => h) (Or.inl ⟨by rfl, ?_⟩) ?_ ?_
                                  rotate_left
                                  · intro w'
                                    go_simp
                                    with_reducible rfl
                                  rotate_left
                                  · simp only [Act.put, List.setIfInBounds_toArray, List.set_cons_zero, List.set_cons_succ, i64_w, i32_w]
                                    rfl
                                  refine pure_ (i := 2) (N := some 91) (v := ?_) (a' := ?_) #[true, true, true, false, false, false, false, false, false, false, false, false, false, false, false, false, false, false, false] rfl rfl (any_of HT_.out (by kernel_rfl)) (fun _ _ _ h => h) (Or.inl ⟨by rfl, ?_⟩) ?_ ?_
                                  rotate_left
                                  · intro w'
                                    go_simp
                                    with_reducible rfl
                                  rotate_left
                                  · simp only [Act.put, List.setIfInBounds_toArray, List.set_cons_zero, List.set_cons_succ, i64_w, i32_w]
                                    rfl
                                  refine pure_ (i := 3) (N := some 92) (v := undef) (a' := ?_) #[true, true, true, true, false, false, false, false, false, false, false, false, false, false, false, false, false, false, false] rfl rfl (any_of HT_.out (by kernel_rfl)) (fun _ _ _ h => h) (Or.inr ⟨by rfl, rfl⟩) ?_ ?_
                                  rotate_left
                                  · simp only [Act.put, List.setIfInBounds_toArray, List.set_cons_zero, List.set_cons_succ, i64_w, i32_w]
                                    rfl
                                  refine pure_ (i := 4) (N := some 93) (v := undef) (a' := ?_) #[true, true, true, true, true, false, false, false, false, false, false, false, false, false, false, false, false, false, false] rfl rfl (any_of HT_.out (by kernel_rfl)) (fun _ _ _ h => h) (Or.inr ⟨by rfl, rfl⟩) ?_ ?_
                                  rotate_left
                                  · simp only [Act.put, List.setIfInBounds_toArray, List.set_cons_zero, List.set_cons_succ, i64_w, i32_w]
                                    rfl
                                  refine pure_ (i := 5) (N := some 94) (v := undef) (a' := ?_) #[true, true, true, true, true, true, false, false, false, false, false, false, false, false, false, false, false, false, false] rfl rfl (any_of HT_.out (by kernel_rfl)) (fun _ _ _ h => h) (Or.inr ⟨by rfl, rfl⟩) ?_ ?_
                                  rotate_left
                                  · simp only [Act.put, List.setIfInBounds_toArray, List.set_cons_zero, List.set_cons_succ, i64_w, i32_w]
                                    rfl
                                  refine pure_ (i := 6) (N := some 95) (v := ?_) (a' := ?_) #[true, true, true, true, true, true, true, false, false, false, false, false, false, false, false, false, false, false, false] rfl rfl (any_of HT_.out (by kernel_rfl)) (fun _ _ _ h => h) (Or.inl ⟨by rfl, ?_⟩) ?_ ?_
                                  rotate_left
                                  · intro w'
                                    go_simp
                                    with_reducible rfl
                                  rotate_left
                                  · simp only [Act.put, List.setIfInBounds_toArray, List.set_cons_zero, List.set_cons_succ, i64_w, i32_w]
                                    rfl
                                  refine pure_ (i := 7) (N := some 96) (v := ?_) (a' := ?_) #[true, true, true, true, true, true, true, true, false, false, false, false, false, false, false, false, false, false, false] rfl rfl (any_of HT_.out (by kernel_rfl)) (fun _ _ _ h => h) (Or.inl ⟨by rfl, ?_⟩) ?_ ?_
                                  rotate_left
                                  · intro w'
                                    go_simp
                                    with_reducible rfl
                                  rotate_left
                                  · simp only [Act.put, List.setIfInBounds_toArray, List.set_cons_zero, List.set_cons_succ, i64_w, i32_w]
                                    rfl
                                  refine pure_ (i := 8) (N := some 97) (v := undef) (a' := ?_) #[true, true, true, true, true, true, true, true, true, false, false, false, false, false, false, false, false, false, false] rfl rfl (any_of HT_.out (by kernel_rfl)) (fun _ _ _ h => h) (Or.inr ⟨by rfl, rfl⟩) ?_ ?_
                                  rotate_left
                                  · simp only [Act.put, List.setIfInBounds_toArray, List.set_cons_zero, List.set_cons_succ, i64_w, i32_w]
                                    rfl
                                  refine pure_ (i := 9) (N := some 98) (v := undef) (a' := ?_) #[true, true, true, true, true, true, true, true, true, true, false, false, false, false, false, false, false, false, false] rfl rfl (any_of HT_.out (by kernel_rfl)) (fun _ _ _ h => h) (Or.inr ⟨by rfl, rfl⟩) ?_ ?_
                                  rotate_left
                                  · simp only [Act.put, List.setIfInBounds_toArray, List.set_cons_zero, List.set_cons_succ, i64_w, i32_w]
                                    rfl
                                  refine pure_ (i := 10) (N := some 99) (v := undef) (a' := ?_) #[true, true, true, true, true, true, true, true, true, true, true, false, false, false, false, false, false, false, false] rfl rfl (any_of HT_.out (by kernel_rfl)) (fun _ _ _ h => h) (Or.inr ⟨by rfl, rfl⟩) ?_ ?_
                                  rotate_left
                                  · simp only [Act.put, List.setIfInBounds_toArray, List.set_cons_zero, List.set_cons_succ, i64_w, i32_w]
                                    rfl
                                  refine pure_ (i := 11) (N := some 100) (v := undef) (a' := ?_) #[true, true, true, true, true, true, true, true, true, true, true, true, false, false, false, false, false, false, false] rfl rfl (any_of HT_.out (by kernel_rfl)) (fun _ _ _ h => h) (Or.inr ⟨by rfl, rfl⟩) ?_ ?_
                                  rotate_left
                                  · simp only [Act.put, List.setIfInBounds_toArray, List.set_cons_zero, List.set_cons_succ, i64_w, i32_w]
                                    rfl
                                  refine pure_ (i := 12) (N := some 101) (v := undef) (a' := ?_) #[true, true, true, true, true, true, true, true, true, true, true, true, true, false, false, false, false, false, false] rfl rfl (any_of HT_.out (by kernel_rfl)) (fun _ _ _ h => h) (Or.inr ⟨by rfl, rfl⟩) ?_ ?_
                                  rotate_left
                                  · simp only [Act.put, List.setIfInBounds_toArray, List.set_cons_zero, List.set_cons_succ, i64_w, i32_w]
                                    rfl
                                  refine pure_ (i := 13) (N := some 102) (v := undef) (a' := ?_) #[true, true, true, true, true, true, true, true, true, true, true, true, true, true, false, false, false, false, false] rfl rfl (any_of HT_.out (by kernel_rfl)) (fun _ _ _ h => h) (Or.inr ⟨by rfl, rfl⟩) ?_ ?_
                                  rotate_left
                                  · simp only [Act.put, List.setIfInBounds_toArray, List.set_cons_zero, List.set_cons_succ, i64_w, i32_w]
                                    rfl
                                  refine pure_ (i := 14) (N := some 103) (v := undef) (a' := ?_) #[true, true, true, true, true, true, true, true, true, true, true, true, true, true, true, false, false, false, false] rfl rfl (any_of HT_.out (by kernel_rfl)) (fun _ _ _ h => h) (Or.inr ⟨by rfl, rfl⟩) ?_ ?_
                                  rotate_left
                                  · simp only [Act.put, List.setIfInBounds_toArray, List.set_cons_zero, List.set_cons_succ, i64_w, i32_w]
                                    rfl
                                  refine pure_ (i := 15) (N := some 104) (v := undef) (a' := ?_) #[true, true, true, true, true, true, true, true, true, true, true, true, true, true, true, true, false, false, false] rfl rfl (any_of HT_.out (by kernel_rfl)) (fun _ _ _ h => h) (Or.inr ⟨by rfl, rfl⟩) ?_ ?_
                                  rotate_left
                                  · simp only [Act.put, List.setIfInBounds_toArray, List.set_cons_zero, List.set_cons_succ, i64_w, i32_w]
                                    rfl
                                  refine pure_ (i := 16) (N := some 105) (v := undef) (a' := ?_) #[true, true, true, true, true, true, true, true, true, true, true, true, true, true, true, true, true, false, false] rfl rfl (any_of HT_.out (by kernel_rfl)) (fun _ _ _ h => h) (Or.inr ⟨by rfl, rfl⟩) ?_ ?_
                                  rotate_left
                                  · simp only [Act.put, List.setIfInBounds_toArray, List.set_cons_zero, List.set_cons_succ, i64_w, i32_w]
                                    rfl
                                  refine pure_ (i := 17) (N := some 106) (v := undef) (a' := ?_) #[true, true, true, true, true, true, true, true, true, true, true, true, true, true, true, true, true, true, false] rfl rfl (any_of HT_.out (by kernel_rfl)) (fun _ _ _ h => h) (Or.inr ⟨by rfl, rfl⟩) ?_ ?_
                                  rotate_left
                                  · simp only [Act.put, List.setIfInBounds_toArray, List.set_cons_zero, List.set_cons_succ, i64_w, i32_w]
                                    rfl
                                  refine pure_ (i := 18) (N := some 107) (v := ?_) (a' := ?_) #[true, true, true, true, true, true, true, true, true, true, true, true, true, true, true, true, true, true, true] rfl rfl (any_of HT_.out (by kernel_rfl)) (fun _ _ _ h => h) (Or.inl ⟨by rfl, ?_⟩) ?_ ?_
                                  rotate_left
                                  · intro w'
                                    go_simp
                                    with_reducible rfl
                                  rotate_left
                                  · simp only [Act.put, List.setIfInBounds_toArray, List.set_cons_zero, List.set_cons_succ, i64_w, i32_w]
                                    rfl
                                  refine done_ (done_of HT_.out (by kernel_rfl)) ?_
                                  try go_wp2
                                  go_meet
                                  case rel => exact ⟨_, (true), (by first | rfl | (simp; done) | (simp [*]; done)), H', ⟨by have := HJ6.out; have := HK2.out; have := HJ26.out; first | omega | exact Nat.le_refl _⟩, ⟨by (with_reducible repeat (first | apply Kd.S_alloc | apply Kd.S_drewN | apply Kd.S_drew)); exact Kd.S_mono HO_10.out (fun _ hk => hk.2)⟩, ⟨by (with_reducible repeat (first | apply Kd.S_alloc | apply Kd.S_drewN | apply Kd.S_drew)); exact Kd.S_mono HO330.out (fun _ hk => hk.2)⟩, ⟨by (with_reducible repeat (first | refine blk_drewN ?_ _ | refine blk_drew ?_ | refine blk_alloc ?_ _)); exact BK313.out⟩, ⟨by (with_reducible repeat (first | refine blk_drewN ?_ _ | refine blk_drew ?_ | refine blk_alloc ?_ _)); exact BK314.out⟩, ⟨by repeat (first | (with_reducible exact HR322_2.out) | (with_reducible refine Kd.C_alloc ?_ _) | (with_reducible refine Kd.C_drewN ?_ _) | (with_reducible refine Kd.C_drew ?_) | exact HR322_2.out)⟩, ⟨by repeat (first | (with_reducible first | exact HB.out | apply below_alloc | apply pw_below_drewN | apply below_drew1 | refine below_set ?_ GE313.out | refine below_set ?_ GE314.out) | exact HB.out)⟩⟩
                              case rest =>
                                clear HC42
                                try clear c2
                                try clear p2
                                try clear c3
                                try clear p3
                                try clear q3
                                try clear hx3
                                try clear qi3
                                try clear c4
                                try clear c5
                                try clear c33
                                try clear p33
                                try clear q33
                                try clear hx33
                                try clear qi33
                                try clear c46
                                try clear c46b0
                                try clear c46b1
                                try clear c47
                                try clear c47b0
                                try clear c47b1
                                try clear c48
                                try clear c48b0
                                try clear c48b1
                                try clear c49
                                try clear c49b0
                                try clear c50
                                try clear c50b0
                                try clear hx332_0
                                try clear hx332_1
                                try clear hx332_2
                                try clear hx333_0
                                try clear hx333_1
                                try clear hx333_2
                                try clear p332
                                try clear p333
                                try clear q332
                                try clear q333
                                obtain ⟨kq, x107_41, rfl, HA, HJ41, HO_10, HO_14, BK313, BK314, HR322_2, HB⟩ := hcut
                                cases kq with
                                | zero => exact absurd HA.out (by simp [winnowerlaw22_IntakeAlone.j3])
                                | succ kj41 =>
                                  have H := HA.out
                                  clear HA
                                  simp only [winnowerlaw22_IntakeAlone.j3] at H
                                  by_cases c56 : x107_41 = true
                                  · subst c56
                                    have H1 : (some false) = some r := by rw [if_pos rfl] at H; exact H
                                    clear H
                                    have H := H1
                                    clear H1
                                    exact absurd (HTRUE.out.symm.trans (Option.some.inj H).symm) (by decide)
                                  · replace c56 := Bool.eq_false_iff.mpr c56
                                    subst c56
                                    have H1 : (if 0 ≤ x12_2 then (if x12_2 < (x10_2.length : Int) then (if 0 < (t328.length : Int) then (if x12_2 ≤ (wrap64 (x12_2 + 1)) then (if (wrap64 (x12_2 + 1)) ≤ (x10_2.length : Int) then ((winnowerref22_Same.f kj41 (t328.set (0 : Int).toNat (⟨(rd_T41 x10_2 x12_2).f0, (rd_T41 t328 0).f1, (rd_T41 t328 0).f2⟩ : S41)) ((x10_2.take ((wrap64 (x12_2 + 1)) : Int).toNat).drop (x12_2 : Int).toNat)).bind fun t340 => (if t340 = true then (if ((rd_T41 x10_2 x12_2).f1 = true) then (winnowerlaw22_IntakeAlone.l0 kj41 a1 x10_2 (wrap64 (x12_2 + 1)) l0_0 a0_1 a0_2 a0_3 a0_4 a2_0 a2_1 l2_2) else (if (((rd_T41 x10_2 x12_2).f2).length : Int) > 0 then (some false) else (winnowerlaw22_IntakeAlone.l0 kj41 a1 x10_2 (wrap64 (x12_2 + 1)) l0_0 a0_1 a0_2 a0_3 a0_4 a2_0 a2_1 l2_2))) else (some false))) else (none)) else (none)) else (none)) else (none)) else (none)) = some r := by rw [if_neg (show ¬ (false = true) by decide)] at H; exact H
                                    clear H
                                    have H := H1
                                    clear H1
                                    by_cases c57 : 0 ≤ x12_2
                                    · rw [if_pos c57] at H
                                      have c57b0 : decide (0 ≤ x12_2) = true := decide_eq_true c57
                                      clear c57
                                      by_cases c58 : x12_2 < (x10_2.length : Int)
                                      · rw [if_pos c58] at H
                                        have c58b0 : decide (x12_2 < (x10_2.length : Int)) = true := decide_eq_true c58
                                        have c58b0y0 := c58b0
                                        (try simp only [hl322_2] at c58b0y0)
                                        have c58b0y1 := c58b0
                                        (try simp only [hl323_2] at c58b0y1)
                                        have c58b0y2 := c58b0
                                        (try simp only [hl332_2] at c58b0y2)
                                        have c58b0y3 := c58b0
                                        (try simp only [hl333_2] at c58b0y3)
                                        have c58b0y4 := c58b0
                                        (try simp only [hl334_2] at c58b0y4)
                                        have c58b0y5 := c58b0
                                        (try simp only [hl341_2] at c58b0y5)
                                        have c58b0y6 := c58b0
                                        (try simp only [hl342_2] at c58b0y6)
                                        clear c58
                                        by_cases c59 : 0 < (t328.length : Int)
                                        · rw [if_pos c59] at H
                                          have c59b0 : decide (0 < (t328.length : Int)) = true := decide_eq_true c59
                                          have c59b0y0 := c59b0
                                          (try simp only [hl322_2] at c59b0y0)
                                          have c59b0y1 := c59b0
                                          (try simp only [hl323_2] at c59b0y1)
                                          have c59b0y2 := c59b0
                                          (try simp only [hl332_2] at c59b0y2)
                                          have c59b0y3 := c59b0
                                          (try simp only [hl333_2] at c59b0y3)
                                          have c59b0y4 := c59b0
                                          (try simp only [hl334_2] at c59b0y4)
                                          have c59b0y5 := c59b0
                                          (try simp only [hl341_2] at c59b0y5)
                                          have c59b0y6 := c59b0
                                          (try simp only [hl342_2] at c59b0y6)
                                          have c59b1 : decide (0 < t328.length) = true := decide_eq_true (by omega)
                                          have c59b1y0 := c59b1
                                          (try simp only [hl322_2] at c59b1y0)
                                          have c59b1y1 := c59b1
                                          (try simp only [hl323_2] at c59b1y1)
                                          have c59b1y2 := c59b1
                                          (try simp only [hl332_2] at c59b1y2)
                                          have c59b1y3 := c59b1
                                          (try simp only [hl333_2] at c59b1y3)
                                          have c59b1y4 := c59b1
                                          (try simp only [hl334_2] at c59b1y4)
                                          have c59b1y5 := c59b1
                                          (try simp only [hl341_2] at c59b1y5)
                                          have c59b1y6 := c59b1
                                          (try simp only [hl342_2] at c59b1y6)
                                          clear c59
                                          obtain ⟨y335, hy335⟩ : ∃ y_ : List (S41), y_ = (t328.set (0 : Int).toNat (⟨(rd_T41 x10_2 x12_2).f0, (rd_T41 t328 0).f1, (rd_T41 t328 0).f2⟩ : S41)) := ⟨_, rfl⟩
                                          replace H : (if x12_2 ≤ (wrap64 (x12_2 + 1)) then (if (wrap64 (x12_2 + 1)) ≤ (x10_2.length : Int) then ((winnowerref22_Same.f kj41 y335 ((x10_2.take ((wrap64 (x12_2 + 1)) : Int).toNat).drop (x12_2 : Int).toNat)).bind fun t340 => (if t340 = true then (if ((rd_T41 x10_2 x12_2).f1 = true) then (winnowerlaw22_IntakeAlone.l0 kj41 a1 x10_2 (wrap64 (x12_2 + 1)) l0_0 a0_1 a0_2 a0_3 a0_4 a2_0 a2_1 l2_2) else (if (((rd_T41 x10_2 x12_2).f2).length : Int) > 0 then (some false) else (winnowerlaw22_IntakeAlone.l0 kj41 a1 x10_2 (wrap64 (x12_2 + 1)) l0_0 a0_1 a0_2 a0_3 a0_4 a2_0 a2_1 l2_2))) else (some false))) else (none)) else (none)) = some r := by first | (rw [hy335]; with_reducible exact H) | (have H2_ := (Option.bind_some _ _).symm.trans H; rw [hy335]; with_reducible exact H2_) | (have H2_ := (Option.bind_some _ _).symm.trans H; with_reducible exact H2_) | with_reducible exact H | (rw [hy335]; exact H) | exact H
                                          have Ny335 := Aside0.mk hy335
                                          clear hy335
                                          have c61b0 := eq_true (of_decide_eq_true (by first | (with_reducible assumption) | assumption) : 0 ≤ x12_2)
                                          by_cases c62 : x12_2 ≤ (wrap64 (x12_2 + 1))
                                          · rw [if_pos c62] at H
                                            have c62b0 := eq_true c62
                                            have c62b1 : decide (x12_2 ≤ (wrap64 (x12_2 + 1))) = true := decide_eq_true c62
                                            by_cases c63 : (wrap64 (x12_2 + 1)) ≤ (x10_2.length : Int)
                                            · rw [if_pos c63] at H
                                              have c63b0 := eq_true c63
                                              have c63b1 : decide ((wrap64 (x12_2 + 1)) ≤ (x10_2.length : Int)) = true := decide_eq_true c63
                                              have c63b1y0 := c63b1
                                              (try simp only [hl322_2] at c63b1y0)
                                              have c63b1y1 := c63b1
                                              (try simp only [hl323_2] at c63b1y1)
                                              have c63b1y2 := c63b1
                                              (try simp only [hl332_2] at c63b1y2)
                                              have c63b1y3 := c63b1
                                              (try simp only [hl333_2] at c63b1y3)
                                              have c63b1y4 := c63b1
                                              (try simp only [hl334_2] at c63b1y4)
                                              have c63b1y5 := c63b1
                                              (try simp only [hl341_2] at c63b1y5)
                                              have c63b1y6 := c63b1
                                              (try simp only [hl342_2] at c63b1y6)
                                              obtain ⟨y336, hy336⟩ : ∃ y_ : List (S41), y_ = ((x10_2.take ((wrap64 (x12_2 + 1)) : Int).toNat).drop (x12_2 : Int).toNat) := ⟨_, rfl⟩
                                              replace H : ((winnowerref22_Same.f kj41 y335 y336).bind fun t340 => (if t340 = true then (if ((rd_T41 x10_2 x12_2).f1 = true) then (winnowerlaw22_IntakeAlone.l0 kj41 a1 x10_2 (wrap64 (x12_2 + 1)) l0_0 a0_1 a0_2 a0_3 a0_4 a2_0 a2_1 l2_2) else (if (((rd_T41 x10_2 x12_2).f2).length : Int) > 0 then (some false) else (winnowerlaw22_IntakeAlone.l0 kj41 a1 x10_2 (wrap64 (x12_2 + 1)) l0_0 a0_1 a0_2 a0_3 a0_4 a2_0 a2_1 l2_2))) else (some false))) = some r := by first | (rw [hy336]; with_reducible exact H) | (have H2_ := (Option.bind_some _ _).symm.trans H; rw [hy336]; with_reducible exact H2_) | (have H2_ := (Option.bind_some _ _).symm.trans H; with_reducible exact H2_) | with_reducible exact H | (rw [hy336]; exact H) | exact H
                                              have Ny336 := Aside0.mk hy336
                                              clear hy336
                                              replace H := Option.bind_eq_some_iff.mp H
                                              obtain ⟨t340, A640, H⟩ := H
                                              replace H : (if t340 = true then (if ((rd_T41 x10_2 x12_2).f1 = true) then (winnowerlaw22_IntakeAlone.l0 kj41 a1 x10_2 (wrap64 (x12_2 + 1)) l0_0 a0_1 a0_2 a0_3 a0_4 a2_0 a2_1 l2_2) else (if (((rd_T41 x10_2 x12_2).f2).length : Int) > 0 then (some false) else (winnowerlaw22_IntakeAlone.l0 kj41 a1 x10_2 (wrap64 (x12_2 + 1)) l0_0 a0_1 a0_2 a0_3 a0_4 a2_0 a2_1 l2_2))) else (some false)) = some r := H
                                              have A64 := Aside0.mk A640
                                              clear A640
                                              by_cases c65 : t340 = true
                                              · subst c65
                                                have H1 : (if ((rd_T41 x10_2 x12_2).f1 = true) then (winnowerlaw22_IntakeAlone.l0 kj41 a1 x10_2 (wrap64 (x12_2 + 1)) l0_0 a0_1 a0_2 a0_3 a0_4 a2_0 a2_1 l2_2) else (if (((rd_T41 x10_2 x12_2).f2).length : Int) > 0 then (some false) else (winnowerlaw22_IntakeAlone.l0 kj41 a1 x10_2 (wrap64 (x12_2 + 1)) l0_0 a0_1 a0_2 a0_3 a0_4 a2_0 a2_1 l2_2))) = some r := by rw [if_pos rfl] at H; exact H
                                                clear H
                                                have H := H1
                                                clear H1
                                                obtain ⟨bq66, hbq66⟩ : ∃ b_ : Bool, b_ = ((rd_T41 x10_2 x12_2).f1) := ⟨_, rfl⟩
                                                replace H : (if (bq66 = true) then (winnowerlaw22_IntakeAlone.l0 kj41 a1 x10_2 (wrap64 (x12_2 + 1)) l0_0 a0_1 a0_2 a0_3 a0_4 a2_0 a2_1 l2_2) else (if (((rd_T41 x10_2 x12_2).f2).length : Int) > 0 then (some false) else (winnowerlaw22_IntakeAlone.l0 kj41 a1 x10_2 (wrap64 (x12_2 + 1)) l0_0 a0_1 a0_2 a0_3 a0_4 a2_0 a2_1 l2_2))) = some r := by rw [← hbq66] at H; exact H
                                                have Nbq66 := Aside0.mk hbq66
                                                clear hbq66
                                                by_cases c67 : (bq66 = true)
                                                · subst c67
                                                  have H1 : (winnowerlaw22_IntakeAlone.l0 kj41 a1 x10_2 (wrap64 (x12_2 + 1)) l0_0 a0_1 a0_2 a0_3 a0_4 a2_0 a2_1 l2_2) = some r := by rw [if_pos rfl] at H; exact H
                                                  clear H
                                                  have H := H1
                                                  clear H1
                                                  have H' := Aside0.mk H
                                                  clear H
                                                  have p334 : 0 ≤ (x12_2 : Int) := of_decide_eq_true (by first | (with_reducible assumption) | assumption)
                                                  have q334 : x12_2 < (x10_2.length : Int) := of_decide_eq_true (by first | (with_reducible assumption) | assumption)
                                                  obtain ⟨ad334, A334_2, c334_2, e334, hx334_0, hx334_1, hx334_2, hl334_2, hi334_2⟩ := at_T41 (Kd.S_reads' HO_10.out).2.2 x12_2 p334 q334
                                                  (try rw [← Nbq66.out] at hx334_1)
                                                  obtain rfl : ad322 = ad334 := (by injection e334)
                                                  obtain ⟨ce334, hce334, hMe334, hcc334⟩ := Kd.S_get HO_10.out z41 x12_2 p334 (by first | exact q334 | exact of_decide_eq_true (by first | (with_reducible assumption) | assumption) | (have e_ := (Kd.S_reads' HO_10.out).1; omega))
                                                  obtain ⟨ve334_2, rfl, ge334_2⟩ := k41_openM hMe334
                                                  have hv334_2 := hcc334 2 _ rfl
                                                  rw [add_field _ _ 2 (by omega)] at hv334_2
                                                  replace hv334_2 := Option.some.inj (hv334_2.symm.trans hx334_2)
                                                  rw [hv334_2] at ge334_2
                                                  have HL334_2 := Aside0.mk (show Kd.R k63 63 _ _ _ _ ((rd_T41 x10_2 x12_2).f2) from ge334_2)
                                                  clear hv334_2 ge334_2; clear hcc334 hce334
                                                  have HR334_2 := Aside0.mk hi334_2
                                                  have HC334_2 := Aside0.mk hl334_2
                                                  clear hi334_2 hl334_2
                                                  replace p334 := eq_true p334
                                                  replace q334 := eq_true q334
                                                  have p60 : 0 ≤ (0 : Int) := (by omega)
                                                  have q60 : (0 : Int) < ((t328.length : Int) : Int) := of_decide_eq_true (by first | (with_reducible assumption) | assumption)
                                                  have qi60 : (0 < t328.length) = True := eq_true (by omega)
                                                  obtain ⟨go60, co60, eo60, gb60, gl60, cl60, HG60⟩ := Kd.S_form HO_14.out (by omega)
                                                  (first | cases eo60 | (injection eo60 with ea_ en_ ec_; (first | subst ea_ | (injection ea_ with ea_; subst ea_)); subst ec_; clear en_))
                                                  have GB60 := Aside0.mk gb60
                                                  have GG60 := Aside0.mk HG60
                                                  clear gb60 gl60 HG60
                                                  obtain ⟨_, ce60, hcl60, hM60, hcc60, hfr60, _, _⟩ := Kd.S_elem HO_14.out z41 (0 : Int) p60 q60
                                                  obtain ⟨ve60_2, rfl, ge60_2⟩ := k41_openM hM60
                                                  have hx60_0 : wc.cell? ⟨go60, (0 : Int).toNat * 3, none⟩ = some (.int .i64 ((rd_T41 t328 0).f0)) := hcc60 0 _ rfl
                                                  have hx60_1 : wc.cell? ⟨go60, (0 : Int).toNat * 3 + 1, none⟩ = some (.bool ((rd_T41 t328 0).f1)) := hcc60 1 _ rfl
                                                  have hx60_2 : wc.cell? ⟨go60, (0 : Int).toNat * 3 + 2, none⟩ = some (ve60_2) := hcc60 2 _ rfl
                                                  have hf60_0 : wc.frozen? ⟨go60, (0 : Int).toNat * 3, none⟩ = false := hfr60 0
                                                  have hf60_1 : wc.frozen? ⟨go60, (0 : Int).toNat * 3 + 1, none⟩ = false := hfr60 1
                                                  have hf60_2 : wc.frozen? ⟨go60, (0 : Int).toNat * 3 + 2, none⟩ = false := hfr60 2
                                                  clear hcl60 hcc60 hfr60 hM60
                                                  (try rw [show ((0 : Int)).toNat = 0 from rfl] at hx60_0)
                                                  (try simp only [Nat.reduceMul, Nat.zero_mul, Nat.zero_add, Nat.reduceAdd] at hx60_0)
                                                  (try rw [show ((0 : Int)).toNat = 0 from rfl] at hf60_0)
                                                  (try simp only [Nat.reduceMul, Nat.zero_mul, Nat.zero_add, Nat.reduceAdd] at hf60_0)
                                                  (try rw [show ((0 : Int)).toNat = 0 from rfl] at hx60_1)
                                                  (try simp only [Nat.reduceMul, Nat.zero_mul, Nat.zero_add, Nat.reduceAdd] at hx60_1)
                                                  (try rw [show ((0 : Int)).toNat = 0 from rfl] at hf60_1)
                                                  (try simp only [Nat.reduceMul, Nat.zero_mul, Nat.zero_add, Nat.reduceAdd] at hf60_1)
                                                  (try rw [show ((0 : Int)).toNat = 0 from rfl] at hx60_2)
                                                  (try simp only [Nat.reduceMul, Nat.zero_mul, Nat.zero_add, Nat.reduceAdd] at hx60_2)
                                                  (try rw [show ((0 : Int)).toNat = 0 from rfl] at hf60_2)
                                                  (try simp only [Nat.reduceMul, Nat.zero_mul, Nat.zero_add, Nat.reduceAdd] at hf60_2)
                                                  replace p60 := eq_true p60
                                                  replace q60 := eq_true q60
                                                  have HX68 := Aside0.mk (show Kd.S k41 41 wc w.heap.size (fun k_ => ((fun k_ => some k_ ≠ (.slice (some ad322) x10_2.length co28 : Value).ownBlock)) k_ ∧ ¬ ((fun _ => False)) k_) (.slice (some ⟨go60, 0, none⟩) t328.length co60) t328 from (by (with_reducible repeat (first | apply Kd.S_alloc | apply Kd.S_drewN | apply Kd.S_drew)); exact Kd.S_mono HO_14.out (fun k_ hk => ⟨hk, fun e_ => e_⟩)))
                                                  obtain ⟨oki68, ce68, hcl68, hM68, hcc68, hfr68, hoki68, hH68⟩ := Kd.S_elem HX68.out z41 (0 : Int) (by omega) (by have h_ : (0 : Int) < ((t328.length : Int) : Int) := of_decide_eq_true (by first | (with_reducible assumption) | assumption); first | exact h_ | (have e_ := (Kd.S_reads' HO_14.out).1; omega) | simpa using h_)
                                                  obtain ⟨ve68_2, rfl, ge68_2⟩ := k41_openM hM68
                                                  have HP68 := Kd.S_seg hH68 (by omega) (by have h_ : (0 : Int) < ((t328.length : Int) : Int) := of_decide_eq_true (by first | (with_reducible assumption) | assumption); first | exact h_ | (have e_ := (Kd.S_reads' HO_14.out).1; omega) | simpa using h_) (seg := [.int .i64 ((rd_T41 x10_2 x12_2).f0)]) (j := 0) (show 1 ≤ 3 from by decide) (x' := (⟨(rd_T41 x10_2 x12_2).f0, (rd_T41 t328 0).f1, (rd_T41 t328 0).f2⟩ : S41)) (k41_mkM _ _ _ (⟨(rd_T41 x10_2 x12_2).f0, (rd_T41 t328 0).f1, (rd_T41 t328 0).f2⟩ : S41) (Kd.R_mono ge68_2 (fun _ h_ => Or.inl h_))) (fun _ hk => hk) (fun k_ hk_ => hk_.elim)
                                                  have hx68_0 := hcc68 0 _ rfl
                                                  (try simp only [show (k41).sz = 3 from rfl, Nat.mul_one, Nat.add_zero] at hx68_0)
                                                  (try rw [show ((0 : Int)).toNat = 0 from rfl] at hx68_0)
                                                  (try simp only [Nat.reduceMul, Nat.zero_mul, Nat.zero_add, Nat.reduceAdd] at hx68_0)
                                                  have hf68_0 := hfr68 0
                                                  (try simp only [show (k41).sz = 3 from rfl, Nat.mul_one, Nat.add_zero] at hf68_0)
                                                  (try rw [show ((0 : Int)).toNat = 0 from rfl] at hf68_0)
                                                  (try simp only [Nat.reduceMul, Nat.zero_mul, Nat.zero_add, Nat.reduceAdd] at hf68_0)
                                                  clear hcl68 hcc68 hfr68 hM68 hoki68 hH68
                                                  go_wp2_with (first | ((with_reducible refine gate_store (t := 3) (p := 115) rfl ?_); refine store_event (t := 3) (p := 115) (v := ?vo_w69) (w1 := (wc.setCell ⟨go60, 0, none⟩ (.int .i64 ((rd_T41 x10_2 x12_2).f0)))) ?hg ?ho ?hn ?hr ?_; (case ho => rfl); (case hg => rfl); (case hn => rfl); (case hr => first | (go_simp; done) | (go_simp; rfl)); intro w69 hw; have hg : wc.grownBy w69 (some go60) := (by rw [hw]; exact HP68.2); have hp_ : Kd.S k41 41 w69 w.heap.size (fun k_ => some k_ ≠ (.slice (some ad322) x10_2.length co28 : Value).ownBlock) (.slice (some ⟨go60, 0, none⟩) t328.length co60) y335 := (by rw [hw, Ny335.out]; exact HP68.1); clear HP68; have n0_ := Aside0.mk (Kd.S_after (v := (.slice (some ⟨go60, 0, none⟩) t328.length co60)) (v1 := (.slice (some ⟨go60, 0, none⟩) t328.length co60)) (ok := (fun _ => True)) (by (with_reducible repeat (first | apply Kd.S_alloc | apply Kd.S_drewN | apply Kd.S_drew)); exact Kd.S_mono HO_10.out (fun _ hk => ⟨trivial, hk⟩)) hg (.inl rfl)); have n1_ := Aside0.mk (hp_); have n2_ := Aside0.mk (blk_grown (g := gb313) (o := .cells #[.slice A0_0 l0_0.length c0_0, .int .i64 a0_1, .int .i64 a0_2, .int .i64 a0_3, .int .i64 a0_4] 24 (0, 0)) (by (with_reducible repeat (first | refine blk_drewN ?_ _ | refine blk_drew ?_ | refine blk_alloc ?_ _)); exact BK313.out) hg (Kd.S_ne HO_14.out BK313.out (by decide))); have n3_ := Aside0.mk (blk_grown (g := gb314) (o := .cells #[.int .i64 a2_0, .int .i64 a2_1, .slice A2_2 l2_2.length c2_2] 27 (0, 0)) (by (with_reducible repeat (first | refine blk_drewN ?_ _ | refine blk_drew ?_ | refine blk_alloc ?_ _)); exact BK314.out) hg (Kd.S_ne HO_14.out BK314.out (by decide))); have n4_ := Aside0.mk (Kd.R_after (v := (.slice (some ⟨go60, 0, none⟩) t328.length co60)) (v1 := (.slice (some ⟨go60, 0, none⟩) t328.length co60)) (ok := (fun k_ => some k_ ≠ (.slice (some ad322) x10_2.length co28 : Value).ownBlock)) (by (with_reducible repeat (first | apply Kd.R_alloc | apply Kd.R_drewN | apply Kd.R_drew)); exact Kd.R_mono HL334_2.out (fun _ hk => ⟨hk.2, hk.1⟩)) hg (.inl rfl)); have n5_ := Aside0.mk ((by rw [hw]; exact below_set (HB.out) GB60.out : Below w.heap.size w w69)); clear HO_10; clear HO_14; clear BK313; clear BK314; clear HL334_2; clear HB; have HO_10 := n0_; have HO_14 := n1_; have BK313 := n2_; have BK314 := n3_; have HL334_2 := n4_; have HB := n5_; clear n0_ n1_ n2_ n3_ n4_ n5_; clear hg hw hp_; have q70 : ((wrap64 (x12_2 + 1)) : Int) ≤ ((x10_2.length : Int) : Int) := of_decide_eq_true (by first | (with_reducible assumption) | assumption); obtain ⟨i070, hi070, _, hsz70, _⟩ := info_parts info41; have hroom70 : x10_2.length ≤ co28 := (Kd.S_reads' HO_10.out).2.1; have hC70 : Kd.C k41 _ (some ad322) x10_2.length x10_2 := (Kd.S_reads' HO_10.out).2.2; have ql70 : (x12_2 : Int) ≤ ((wrap64 (x12_2 + 1)) : Int) := of_decide_eq_true (by first | (with_reducible assumption) | assumption); have q070 : (0 : Int) ≤ (x12_2 : Int) := of_decide_eq_true (by first | (with_reducible assumption) | assumption); have hcut70 := cut_mid (P := Tryd.prog) 31 41 .i64 .i64 Tryd.underlying31 hi070 3 hsz70 (some ad322) x10_2.length co28 x12_2 (wrap64 (x12_2 + 1)) q070 ql70 q70 hroom70; have hr70 := Kd.C_mid (lo := (x12_2 : Int).toNat) (hi := ((wrap64 (x12_2 + 1)) : Int).toNat) (c := co28) hC70 (by omega) (by omega) hroom70; obtain ⟨A70, hA70⟩ : ∃ A1, A1 = (if co28 = (x12_2 : Int).toNat then (some ad322) else ((some ad322) : Option Addr).map (·.add ((x12_2 : Int).toNat * 3))) := ⟨_, rfl⟩; obtain ⟨c70, hc70⟩ : ∃ c1, c1 = co28 - (x12_2 : Int).toNat := ⟨_, rfl⟩; have hy70 : y336.length = ((wrap64 (x12_2 + 1)) : Int).toNat - (x12_2 : Int).toNat := (by rw [Ny336.out, List.length_drop, List.length_take] <;> omega); rw [show ((x10_2).take ((wrap64 (x12_2 + 1)) : Int).toNat).drop (x12_2 : Int).toNat = y336 from Ny336.out.symm] at hr70; replace hr70 : Kd.C k41 _ A70 y336.length y336 := (by rw [hA70]; exact hr70); rw [← hy70, ← hA70, ← hc70] at hcut70; have HR339 := Aside0.mk hr70; have HC339 := Aside0.mk (show y336.length ≤ c70 from by rw [hy70, hc70]; exact Nat.sub_le_sub_right (Nat.le_trans (by omega) hroom70) _); clear hr70 hC70 hroom70 hi070 hsz70 hc70; have KY70 := Aside0.mk hy70; have KA70 := Aside0.mk hA70; clear hy70 hA70; have KL70 := Aside0.mk (show ((wrap64 (x12_2 + 1)) : Int).toNat ≤ x10_2.length from by omega); have KM70 := Aside0.mk (show (x12_2 : Int).toNat ≤ ((wrap64 (x12_2 + 1)) : Int).toNat from by omega); replace q70 := eq_true q70) | ((with_reducible refine gate_callee (f := 10) rfl ?_); refine goesL_ (some 122) rfl rfl Tryd.func10 (by kernel_rfl) rfl #[.slice (some ⟨go60, 0, none⟩) y335.length co60, .slice A70 y336.length c70] rfl (by (try simp only [List.map_toArray, List.map_cons, List.map_nil]); first | done | (rw [show y335.length = t328.length from (Kd.S_reads' HO_14.out).1.symm] <;> rfl) | rfl | (simp only [List.length_drop, List.length_take]; rfl)) ?_; (with_reducible refine (winnowerref22_Same.calls kj41 _ _ y335 _ _ y336 true _ ?side1 ?side2 ?side3 ?side4 A64.out).mono ?_); (case side1 => repeat (first | exact (Kd.S_reads' HO_14.out).2.2 | (with_reducible refine Kd.C_alloc ?_ _) | (with_reducible refine Kd.C_drewN ?_ _) | (with_reducible refine Kd.C_drew ?_))); (case side2 => rw [show y335.length = t328.length from (Kd.S_reads' HO_14.out).1.symm]; exact (Kd.S_reads' HO_14.out).2.1); (case side3 => repeat (first | exact (by repeat (first | (with_reducible exact HR339.out) | (with_reducible refine Kd.C_alloc ?_ _) | (with_reducible refine Kd.C_drewN ?_ _) | (with_reducible refine Kd.C_drew ?_) | exact HR339.out)) | (with_reducible refine Kd.C_alloc ?_ _) | (with_reducible refine Kd.C_drewN ?_ _) | (with_reducible refine Kd.C_drew ?_))); (case side4 => exact HC339.out); rintro e w' ⟨rfl, ⟨nd, rfl⟩⟩; refine ⟨_, rfl, ?_⟩; have p341 : 0 ≤ (x12_2 : Int) := of_decide_eq_true (by first | (with_reducible assumption) | assumption); have q341 : x12_2 < (x10_2.length : Int) := of_decide_eq_true (by first | (with_reducible assumption) | assumption); obtain ⟨ad341, A341_2, c341_2, e341, hx341_0, hx341_1, hx341_2, hl341_2, hi341_2⟩ := at_T41 (Kd.S_reads' HO_10.out).2.2 x12_2 p341 q341; (try rw [← Nbq66.out] at hx341_1); obtain rfl : ad322 = ad341 := (by injection e341); obtain ⟨ce341, hce341, hMe341, hcc341⟩ := Kd.S_get HO_10.out z41 x12_2 p341 (by first | exact q341 | exact of_decide_eq_true (by first | (with_reducible assumption) | assumption) | (have e_ := (Kd.S_reads' HO_10.out).1; omega)); obtain ⟨ve341_2, rfl, ge341_2⟩ := k41_openM hMe341; have hv341_2 := hcc341 2 _ rfl; rw [add_field _ _ 2 (by omega)] at hv341_2; replace hv341_2 := Option.some.inj (hv341_2.symm.trans hx341_2); rw [hv341_2] at ge341_2; have HL341_2 := Aside0.mk (show Kd.R k63 63 _ _ _ _ ((rd_T41 x10_2 x12_2).f2) from ge341_2); clear hv341_2 ge341_2; clear hcc341 hce341; have HR341_2 := Aside0.mk hi341_2; have HC341_2 := Aside0.mk hl341_2; clear hi341_2 hl341_2; replace p341 := eq_true p341; replace q341 := eq_true q341))
                                                  go_roundg kj41
                                                  case measure => have := HJ6.out; have := HK2.out; have := HJ26.out; have := HJ41.out; omega
                                                  case rel => exact ⟨(x10_2), (wrap64 (x12_2 + 1)), (by first | rfl | (simp; done) | (simp [*]; done)), (by first | exact H' | (rw [← Nbq66.out]; exact H')), ⟨by have := HJ6.out; have := HK2.out; have := HJ26.out; have := HJ41.out; omega⟩, ⟨by (with_reducible repeat (first | apply Kd.S_alloc | apply Kd.S_drewN | apply Kd.S_drew)); exact Kd.S_mono HO_10.out (fun _ hk => trivial)⟩, ⟨by (with_reducible repeat (first | refine blk_drewN ?_ _ | refine blk_drew ?_ | refine blk_alloc ?_ _)); exact BK313.out⟩, ⟨by (with_reducible repeat (first | refine blk_drewN ?_ _ | refine blk_drew ?_ | refine blk_alloc ?_ _)); exact BK314.out⟩, ⟨by repeat (first | (with_reducible first | exact HB.out | apply below_alloc | apply pw_below_drewN | apply below_drew1 | refine below_set ?_ GE313.out | refine below_set ?_ GE314.out) | exact HB.out)⟩⟩
                                                · replace c67 := Bool.eq_false_iff.mpr c67
                                                  subst c67
                                                  have H1 : (if (((rd_T41 x10_2 x12_2).f2).length : Int) > 0 then (some false) else (winnowerlaw22_IntakeAlone.l0 kj41 a1 x10_2 (wrap64 (x12_2 + 1)) l0_0 a0_1 a0_2 a0_3 a0_4 a2_0 a2_1 l2_2)) = some r := by rw [if_neg (show ¬ (false = true) by decide)] at H; exact H
                                                  clear H
                                                  have H := H1
                                                  clear H1
                                                  by_cases c71 : (((rd_T41 x10_2 x12_2).f2).length : Int) > 0
                                                  · rw [if_pos c71] at H
                                                    have c71b0 : decide (0 < (((rd_T41 x10_2 x12_2).f2).length : Int)) = true := decide_eq_true c71
                                                    have c71b0y0 := c71b0
                                                    (try simp only [hl322_2] at c71b0y0)
                                                    have c71b0y1 := c71b0
                                                    (try simp only [hl323_2] at c71b0y1)
                                                    have c71b0y2 := c71b0
                                                    (try simp only [hl332_2] at c71b0y2)
                                                    have c71b0y3 := c71b0
                                                    (try simp only [hl333_2] at c71b0y3)
                                                    have c71b0y4 := c71b0
                                                    (try simp only [hl334_2] at c71b0y4)
                                                    have c71b0y5 := c71b0
                                                    (try simp only [hl341_2] at c71b0y5)
                                                    have c71b0y6 := c71b0
                                                    (try simp only [hl342_2] at c71b0y6)
                                                    have c71b1 : decide (0 < ((rd_T41 x10_2 x12_2).f2).length) = true := decide_eq_true (by omega)
                                                    have c71b1y0 := c71b1
                                                    (try simp only [hl322_2] at c71b1y0)
                                                    have c71b1y1 := c71b1
                                                    (try simp only [hl323_2] at c71b1y1)
                                                    have c71b1y2 := c71b1
                                                    (try simp only [hl332_2] at c71b1y2)
                                                    have c71b1y3 := c71b1
                                                    (try simp only [hl333_2] at c71b1y3)
                                                    have c71b1y4 := c71b1
                                                    (try simp only [hl334_2] at c71b1y4)
                                                    have c71b1y5 := c71b1
                                                    (try simp only [hl341_2] at c71b1y5)
                                                    have c71b1y6 := c71b1
                                                    (try simp only [hl342_2] at c71b1y6)
                                                    clear c71
                                                    exact absurd (HTRUE.out.symm.trans (Option.some.inj H).symm) (by decide)
                                                  · rw [if_neg c71] at H
                                                    have c71b0 : decide (0 < (((rd_T41 x10_2 x12_2).f2).length : Int)) = false := decide_eq_false c71
                                                    have c71b0y0 := c71b0
                                                    (try simp only [hl322_2] at c71b0y0)
                                                    have c71b0y1 := c71b0
                                                    (try simp only [hl323_2] at c71b0y1)
                                                    have c71b0y2 := c71b0
                                                    (try simp only [hl332_2] at c71b0y2)
                                                    have c71b0y3 := c71b0
                                                    (try simp only [hl333_2] at c71b0y3)
                                                    have c71b0y4 := c71b0
                                                    (try simp only [hl334_2] at c71b0y4)
                                                    have c71b0y5 := c71b0
                                                    (try simp only [hl341_2] at c71b0y5)
                                                    have c71b0y6 := c71b0
                                                    (try simp only [hl342_2] at c71b0y6)
                                                    have c71b1 : decide (0 < ((rd_T41 x10_2 x12_2).f2).length) = false := decide_eq_false (by omega)
                                                    have c71b1y0 := c71b1
                                                    (try simp only [hl322_2] at c71b1y0)
                                                    have c71b1y1 := c71b1
                                                    (try simp only [hl323_2] at c71b1y1)
                                                    have c71b1y2 := c71b1
                                                    (try simp only [hl332_2] at c71b1y2)
                                                    have c71b1y3 := c71b1
                                                    (try simp only [hl333_2] at c71b1y3)
                                                    have c71b1y4 := c71b1
                                                    (try simp only [hl334_2] at c71b1y4)
                                                    have c71b1y5 := c71b1
                                                    (try simp only [hl341_2] at c71b1y5)
                                                    have c71b1y6 := c71b1
                                                    (try simp only [hl342_2] at c71b1y6)
                                                    clear c71
                                                    have H' := Aside0.mk H
                                                    clear H
                                                    have p334 : 0 ≤ (x12_2 : Int) := of_decide_eq_true (by first | (with_reducible assumption) | assumption)
                                                    have q334 : x12_2 < (x10_2.length : Int) := of_decide_eq_true (by first | (with_reducible assumption) | assumption)
                                                    obtain ⟨ad334, A334_2, c334_2, e334, hx334_0, hx334_1, hx334_2, hl334_2, hi334_2⟩ := at_T41 (Kd.S_reads' HO_10.out).2.2 x12_2 p334 q334
                                                    (try rw [← Nbq66.out] at hx334_1)
                                                    obtain rfl : ad322 = ad334 := (by injection e334)
                                                    obtain ⟨ce334, hce334, hMe334, hcc334⟩ := Kd.S_get HO_10.out z41 x12_2 p334 (by first | exact q334 | exact of_decide_eq_true (by first | (with_reducible assumption) | assumption) | (have e_ := (Kd.S_reads' HO_10.out).1; omega))
                                                    obtain ⟨ve334_2, rfl, ge334_2⟩ := k41_openM hMe334
                                                    have hv334_2 := hcc334 2 _ rfl
                                                    rw [add_field _ _ 2 (by omega)] at hv334_2
                                                    replace hv334_2 := Option.some.inj (hv334_2.symm.trans hx334_2)
                                                    rw [hv334_2] at ge334_2
                                                    have HL334_2 := Aside0.mk (show Kd.R k63 63 _ _ _ _ ((rd_T41 x10_2 x12_2).f2) from ge334_2)
                                                    clear hv334_2 ge334_2; clear hcc334 hce334
                                                    have HR334_2 := Aside0.mk hi334_2
                                                    have HC334_2 := Aside0.mk hl334_2
                                                    clear hi334_2 hl334_2
                                                    replace p334 := eq_true p334
                                                    replace q334 := eq_true q334
                                                    have p60 : 0 ≤ (0 : Int) := (by omega)
                                                    have q60 : (0 : Int) < ((t328.length : Int) : Int) := of_decide_eq_true (by first | (with_reducible assumption) | assumption)
                                                    have qi60 : (0 < t328.length) = True := eq_true (by omega)
                                                    obtain ⟨go60, co60, eo60, gb60, gl60, cl60, HG60⟩ := Kd.S_form HO_14.out (by omega)
                                                    (first | cases eo60 | (injection eo60 with ea_ en_ ec_; (first | subst ea_ | (injection ea_ with ea_; subst ea_)); subst ec_; clear en_))
                                                    have GB60 := Aside0.mk gb60
                                                    have GG60 := Aside0.mk HG60
                                                    clear gb60 gl60 HG60
                                                    obtain ⟨_, ce60, hcl60, hM60, hcc60, hfr60, _, _⟩ := Kd.S_elem HO_14.out z41 (0 : Int) p60 q60
                                                    obtain ⟨ve60_2, rfl, ge60_2⟩ := k41_openM hM60
                                                    have hx60_0 : wc.cell? ⟨go60, (0 : Int).toNat * 3, none⟩ = some (.int .i64 ((rd_T41 t328 0).f0)) := hcc60 0 _ rfl
                                                    have hx60_1 : wc.cell? ⟨go60, (0 : Int).toNat * 3 + 1, none⟩ = some (.bool ((rd_T41 t328 0).f1)) := hcc60 1 _ rfl
                                                    have hx60_2 : wc.cell? ⟨go60, (0 : Int).toNat * 3 + 2, none⟩ = some (ve60_2) := hcc60 2 _ rfl
                                                    have hf60_0 : wc.frozen? ⟨go60, (0 : Int).toNat * 3, none⟩ = false := hfr60 0
                                                    have hf60_1 : wc.frozen? ⟨go60, (0 : Int).toNat * 3 + 1, none⟩ = false := hfr60 1
                                                    have hf60_2 : wc.frozen? ⟨go60, (0 : Int).toNat * 3 + 2, none⟩ = false := hfr60 2
                                                    clear hcl60 hcc60 hfr60 hM60
                                                    (try rw [show ((0 : Int)).toNat = 0 from rfl] at hx60_0)
                                                    (try simp only [Nat.reduceMul, Nat.zero_mul, Nat.zero_add, Nat.reduceAdd] at hx60_0)
                                                    (try rw [show ((0 : Int)).toNat = 0 from rfl] at hf60_0)
                                                    (try simp only [Nat.reduceMul, Nat.zero_mul, Nat.zero_add, Nat.reduceAdd] at hf60_0)
                                                    (try rw [show ((0 : Int)).toNat = 0 from rfl] at hx60_1)
                                                    (try simp only [Nat.reduceMul, Nat.zero_mul, Nat.zero_add, Nat.reduceAdd] at hx60_1)
                                                    (try rw [show ((0 : Int)).toNat = 0 from rfl] at hf60_1)
                                                    (try simp only [Nat.reduceMul, Nat.zero_mul, Nat.zero_add, Nat.reduceAdd] at hf60_1)
                                                    (try rw [show ((0 : Int)).toNat = 0 from rfl] at hx60_2)
                                                    (try simp only [Nat.reduceMul, Nat.zero_mul, Nat.zero_add, Nat.reduceAdd] at hx60_2)
                                                    (try rw [show ((0 : Int)).toNat = 0 from rfl] at hf60_2)
                                                    (try simp only [Nat.reduceMul, Nat.zero_mul, Nat.zero_add, Nat.reduceAdd] at hf60_2)
                                                    replace p60 := eq_true p60
                                                    replace q60 := eq_true q60
                                                    have HX72 := Aside0.mk (show Kd.S k41 41 wc w.heap.size (fun k_ => ((fun k_ => some k_ ≠ (.slice (some ad322) x10_2.length co28 : Value).ownBlock)) k_ ∧ ¬ ((fun _ => False)) k_) (.slice (some ⟨go60, 0, none⟩) t328.length co60) t328 from (by (with_reducible repeat (first | apply Kd.S_alloc | apply Kd.S_drewN | apply Kd.S_drew)); exact Kd.S_mono HO_14.out (fun k_ hk => ⟨hk, fun e_ => e_⟩)))
                                                    obtain ⟨oki72, ce72, hcl72, hM72, hcc72, hfr72, hoki72, hH72⟩ := Kd.S_elem HX72.out z41 (0 : Int) (by omega) (by have h_ : (0 : Int) < ((t328.length : Int) : Int) := of_decide_eq_true (by first | (with_reducible assumption) | assumption); first | exact h_ | (have e_ := (Kd.S_reads' HO_14.out).1; omega) | simpa using h_)
                                                    obtain ⟨ve72_2, rfl, ge72_2⟩ := k41_openM hM72
                                                    have HP72 := Kd.S_seg hH72 (by omega) (by have h_ : (0 : Int) < ((t328.length : Int) : Int) := of_decide_eq_true (by first | (with_reducible assumption) | assumption); first | exact h_ | (have e_ := (Kd.S_reads' HO_14.out).1; omega) | simpa using h_) (seg := [.int .i64 ((rd_T41 x10_2 x12_2).f0)]) (j := 0) (show 1 ≤ 3 from by decide) (x' := (⟨(rd_T41 x10_2 x12_2).f0, (rd_T41 t328 0).f1, (rd_T41 t328 0).f2⟩ : S41)) (k41_mkM _ _ _ (⟨(rd_T41 x10_2 x12_2).f0, (rd_T41 t328 0).f1, (rd_T41 t328 0).f2⟩ : S41) (Kd.R_mono ge72_2 (fun _ h_ => Or.inl h_))) (fun _ hk => hk) (fun k_ hk_ => hk_.elim)
                                                    have hx72_0 := hcc72 0 _ rfl
                                                    (try simp only [show (k41).sz = 3 from rfl, Nat.mul_one, Nat.add_zero] at hx72_0)
                                                    (try rw [show ((0 : Int)).toNat = 0 from rfl] at hx72_0)
                                                    (try simp only [Nat.reduceMul, Nat.zero_mul, Nat.zero_add, Nat.reduceAdd] at hx72_0)
                                                    have hf72_0 := hfr72 0
                                                    (try simp only [show (k41).sz = 3 from rfl, Nat.mul_one, Nat.add_zero] at hf72_0)
                                                    (try rw [show ((0 : Int)).toNat = 0 from rfl] at hf72_0)
                                                    (try simp only [Nat.reduceMul, Nat.zero_mul, Nat.zero_add, Nat.reduceAdd] at hf72_0)
                                                    clear hcl72 hcc72 hfr72 hM72 hoki72 hH72
                                                    go_wp2_with (first | ((with_reducible refine gate_store (t := 3) (p := 115) rfl ?_); refine store_event (t := 3) (p := 115) (v := ?vo_w73) (w1 := (wc.setCell ⟨go60, 0, none⟩ (.int .i64 ((rd_T41 x10_2 x12_2).f0)))) ?hg ?ho ?hn ?hr ?_; (case ho => rfl); (case hg => rfl); (case hn => rfl); (case hr => first | (go_simp; done) | (go_simp; rfl)); intro w73 hw; have hg : wc.grownBy w73 (some go60) := (by rw [hw]; exact HP72.2); have hp_ : Kd.S k41 41 w73 w.heap.size (fun k_ => some k_ ≠ (.slice (some ad322) x10_2.length co28 : Value).ownBlock) (.slice (some ⟨go60, 0, none⟩) t328.length co60) y335 := (by rw [hw, Ny335.out]; exact HP72.1); clear HP72; have n0_ := Aside0.mk (Kd.S_after (v := (.slice (some ⟨go60, 0, none⟩) t328.length co60)) (v1 := (.slice (some ⟨go60, 0, none⟩) t328.length co60)) (ok := (fun _ => True)) (by (with_reducible repeat (first | apply Kd.S_alloc | apply Kd.S_drewN | apply Kd.S_drew)); exact Kd.S_mono HO_10.out (fun _ hk => ⟨trivial, hk⟩)) hg (.inl rfl)); have n1_ := Aside0.mk (hp_); have n2_ := Aside0.mk (blk_grown (g := gb313) (o := .cells #[.slice A0_0 l0_0.length c0_0, .int .i64 a0_1, .int .i64 a0_2, .int .i64 a0_3, .int .i64 a0_4] 24 (0, 0)) (by (with_reducible repeat (first | refine blk_drewN ?_ _ | refine blk_drew ?_ | refine blk_alloc ?_ _)); exact BK313.out) hg (Kd.S_ne HO_14.out BK313.out (by decide))); have n3_ := Aside0.mk (blk_grown (g := gb314) (o := .cells #[.int .i64 a2_0, .int .i64 a2_1, .slice A2_2 l2_2.length c2_2] 27 (0, 0)) (by (with_reducible repeat (first | refine blk_drewN ?_ _ | refine blk_drew ?_ | refine blk_alloc ?_ _)); exact BK314.out) hg (Kd.S_ne HO_14.out BK314.out (by decide))); have n4_ := Aside0.mk (Kd.R_after (v := (.slice (some ⟨go60, 0, none⟩) t328.length co60)) (v1 := (.slice (some ⟨go60, 0, none⟩) t328.length co60)) (ok := (fun k_ => some k_ ≠ (.slice (some ad322) x10_2.length co28 : Value).ownBlock)) (by (with_reducible repeat (first | apply Kd.R_alloc | apply Kd.R_drewN | apply Kd.R_drew)); exact Kd.R_mono HL334_2.out (fun _ hk => ⟨hk.2, hk.1⟩)) hg (.inl rfl)); have n5_ := Aside0.mk ((by rw [hw]; exact below_set (HB.out) GB60.out : Below w.heap.size w w73)); clear HO_10; clear HO_14; clear BK313; clear BK314; clear HL334_2; clear HB; have HO_10 := n0_; have HO_14 := n1_; have BK313 := n2_; have BK314 := n3_; have HL334_2 := n4_; have HB := n5_; clear n0_ n1_ n2_ n3_ n4_ n5_; clear hg hw hp_; have q74 : ((wrap64 (x12_2 + 1)) : Int) ≤ ((x10_2.length : Int) : Int) := of_decide_eq_true (by first | (with_reducible assumption) | assumption); obtain ⟨i074, hi074, _, hsz74, _⟩ := info_parts info41; have hroom74 : x10_2.length ≤ co28 := (Kd.S_reads' HO_10.out).2.1; have hC74 : Kd.C k41 _ (some ad322) x10_2.length x10_2 := (Kd.S_reads' HO_10.out).2.2; have ql74 : (x12_2 : Int) ≤ ((wrap64 (x12_2 + 1)) : Int) := of_decide_eq_true (by first | (with_reducible assumption) | assumption); have q074 : (0 : Int) ≤ (x12_2 : Int) := of_decide_eq_true (by first | (with_reducible assumption) | assumption); have hcut74 := cut_mid (P := Tryd.prog) 31 41 .i64 .i64 Tryd.underlying31 hi074 3 hsz74 (some ad322) x10_2.length co28 x12_2 (wrap64 (x12_2 + 1)) q074 ql74 q74 hroom74; have hr74 := Kd.C_mid (lo := (x12_2 : Int).toNat) (hi := ((wrap64 (x12_2 + 1)) : Int).toNat) (c := co28) hC74 (by omega) (by omega) hroom74; obtain ⟨A74, hA74⟩ : ∃ A1, A1 = (if co28 = (x12_2 : Int).toNat then (some ad322) else ((some ad322) : Option Addr).map (·.add ((x12_2 : Int).toNat * 3))) := ⟨_, rfl⟩; obtain ⟨c74, hc74⟩ : ∃ c1, c1 = co28 - (x12_2 : Int).toNat := ⟨_, rfl⟩; have hy74 : y336.length = ((wrap64 (x12_2 + 1)) : Int).toNat - (x12_2 : Int).toNat := (by rw [Ny336.out, List.length_drop, List.length_take] <;> omega); rw [show ((x10_2).take ((wrap64 (x12_2 + 1)) : Int).toNat).drop (x12_2 : Int).toNat = y336 from Ny336.out.symm] at hr74; replace hr74 : Kd.C k41 _ A74 y336.length y336 := (by rw [hA74]; exact hr74); rw [← hy74, ← hA74, ← hc74] at hcut74; have HR339 := Aside0.mk hr74; have HC339 := Aside0.mk (show y336.length ≤ c74 from by rw [hy74, hc74]; exact Nat.sub_le_sub_right (Nat.le_trans (by omega) hroom74) _); clear hr74 hC74 hroom74 hi074 hsz74 hc74; have KY74 := Aside0.mk hy74; have KA74 := Aside0.mk hA74; clear hy74 hA74; have KL74 := Aside0.mk (show ((wrap64 (x12_2 + 1)) : Int).toNat ≤ x10_2.length from by omega); have KM74 := Aside0.mk (show (x12_2 : Int).toNat ≤ ((wrap64 (x12_2 + 1)) : Int).toNat from by omega); replace q74 := eq_true q74) | ((with_reducible refine gate_callee (f := 10) rfl ?_); refine goesL_ (some 122) rfl rfl Tryd.func10 (by kernel_rfl) rfl #[.slice (some ⟨go60, 0, none⟩) y335.length co60, .slice A74 y336.length c74] rfl (by (try simp only [List.map_toArray, List.map_cons, List.map_nil]); first | done | (rw [show y335.length = t328.length from (Kd.S_reads' HO_14.out).1.symm] <;> rfl) | rfl | (simp only [List.length_drop, List.length_take]; rfl)) ?_; (with_reducible refine (winnowerref22_Same.calls kj41 _ _ y335 _ _ y336 true _ ?side1 ?side2 ?side3 ?side4 A64.out).mono ?_); (case side1 => repeat (first | exact (Kd.S_reads' HO_14.out).2.2 | (with_reducible refine Kd.C_alloc ?_ _) | (with_reducible refine Kd.C_drewN ?_ _) | (with_reducible refine Kd.C_drew ?_))); (case side2 => rw [show y335.length = t328.length from (Kd.S_reads' HO_14.out).1.symm]; exact (Kd.S_reads' HO_14.out).2.1); (case side3 => repeat (first | exact (by repeat (first | (with_reducible exact HR339.out) | (with_reducible refine Kd.C_alloc ?_ _) | (with_reducible refine Kd.C_drewN ?_ _) | (with_reducible refine Kd.C_drew ?_) | exact HR339.out)) | (with_reducible refine Kd.C_alloc ?_ _) | (with_reducible refine Kd.C_drewN ?_ _) | (with_reducible refine Kd.C_drew ?_))); (case side4 => exact HC339.out); rintro e w' ⟨rfl, ⟨nd, rfl⟩⟩; refine ⟨_, rfl, ?_⟩; have p341 : 0 ≤ (x12_2 : Int) := of_decide_eq_true (by first | (with_reducible assumption) | assumption); have q341 : x12_2 < (x10_2.length : Int) := of_decide_eq_true (by first | (with_reducible assumption) | assumption); obtain ⟨ad341, A341_2, c341_2, e341, hx341_0, hx341_1, hx341_2, hl341_2, hi341_2⟩ := at_T41 (Kd.S_reads' HO_10.out).2.2 x12_2 p341 q341; (try rw [← Nbq66.out] at hx341_1); obtain rfl : ad322 = ad341 := (by injection e341); obtain ⟨ce341, hce341, hMe341, hcc341⟩ := Kd.S_get HO_10.out z41 x12_2 p341 (by first | exact q341 | exact of_decide_eq_true (by first | (with_reducible assumption) | assumption) | (have e_ := (Kd.S_reads' HO_10.out).1; omega)); obtain ⟨ve341_2, rfl, ge341_2⟩ := k41_openM hMe341; have hv341_2 := hcc341 2 _ rfl; rw [add_field _ _ 2 (by omega)] at hv341_2; replace hv341_2 := Option.some.inj (hv341_2.symm.trans hx341_2); rw [hv341_2] at ge341_2; have HL341_2 := Aside0.mk (show Kd.R k63 63 _ _ _ _ ((rd_T41 x10_2 x12_2).f2) from ge341_2); clear hv341_2 ge341_2; clear hcc341 hce341; have HR341_2 := Aside0.mk hi341_2; have HC341_2 := Aside0.mk hl341_2; clear hi341_2 hl341_2; replace p341 := eq_true p341; replace q341 := eq_true q341; have p342 : 0 ≤ (x12_2 : Int) := of_decide_eq_true (by first | (with_reducible assumption) | assumption); have q342 : x12_2 < (x10_2.length : Int) := of_decide_eq_true (by first | (with_reducible assumption) | assumption); obtain ⟨ad342, A342_2, c342_2, e342, hx342_0, hx342_1, hx342_2, hl342_2, hi342_2⟩ := at_T41 (Kd.S_reads' HO_10.out).2.2 x12_2 p342 q342; (try rw [← Nbq66.out] at hx342_1); obtain rfl : ad322 = ad342 := (by injection e342); obtain ⟨ce342, hce342, hMe342, hcc342⟩ := Kd.S_get HO_10.out z41 x12_2 p342 (by first | exact q342 | exact of_decide_eq_true (by first | (with_reducible assumption) | assumption) | (have e_ := (Kd.S_reads' HO_10.out).1; omega)); obtain ⟨ve342_2, rfl, ge342_2⟩ := k41_openM hMe342; have hv342_2 := hcc342 2 _ rfl; rw [add_field _ _ 2 (by omega)] at hv342_2; replace hv342_2 := Option.some.inj (hv342_2.symm.trans hx342_2); rw [hv342_2] at ge342_2; have HL342_2 := Aside0.mk (show Kd.R k63 63 _ _ _ _ ((rd_T41 x10_2 x12_2).f2) from ge342_2); clear hv342_2 ge342_2; clear hcc342 hce342; have HR342_2 := Aside0.mk hi342_2; have HC342_2 := Aside0.mk hl342_2; clear hi342_2 hl342_2; replace p342 := eq_true p342; replace q342 := eq_true q342; have ea_ := Option.some.inj (hx341_2.symm.trans hx342_2); injection ea_ with ea_ en_ ec_; subst ea_; subst ec_; clear en_))
                                                    go_roundg kj41
                                                    case measure => have := HJ6.out; have := HK2.out; have := HJ26.out; have := HJ41.out; omega
                                                    case rel => exact ⟨(x10_2), (wrap64 (x12_2 + 1)), (by first | rfl | (simp; done) | (simp [*]; done)), (by first | exact H' | (rw [← Nbq66.out]; exact H')), ⟨by have := HJ6.out; have := HK2.out; have := HJ26.out; have := HJ41.out; omega⟩, ⟨by (with_reducible repeat (first | apply Kd.S_alloc | apply Kd.S_drewN | apply Kd.S_drew)); exact Kd.S_mono HO_10.out (fun _ hk => trivial)⟩, ⟨by (with_reducible repeat (first | refine blk_drewN ?_ _ | refine blk_drew ?_ | refine blk_alloc ?_ _)); exact BK313.out⟩, ⟨by (with_reducible repeat (first | refine blk_drewN ?_ _ | refine blk_drew ?_ | refine blk_alloc ?_ _)); exact BK314.out⟩, ⟨by repeat (first | (with_reducible first | exact HB.out | apply below_alloc | apply pw_below_drewN | apply below_drew1 | refine below_set ?_ GE313.out | refine below_set ?_ GE314.out) | exact HB.out)⟩⟩
                                              · replace c65 := Bool.eq_false_iff.mpr c65
                                                subst c65
                                                have H1 : (some false) = some r := by rw [if_neg (show ¬ (false = true) by decide)] at H; exact H
                                                clear H
                                                have H := H1
                                                clear H1
                                                exact absurd (HTRUE.out.symm.trans (Option.some.inj H).symm) (by decide)
                                            · rw [if_neg c63] at H
                                              exact absurd H (by simp)
                                          · rw [if_neg c62] at H
                                            exact absurd H (by simp)
                                        · rw [if_neg c59] at H
                                          exact absurd H (by simp)
                                      · rw [if_neg c58] at H
                                        exact absurd H (by simp)
                                    · rw [if_neg c57] at H
                                      exact absurd H (by simp)
                            · rw [if_neg c40] at H
                              exact absurd H (by simp)
                          · rw [if_neg c39] at H
                            exact absurd H (by simp)
                        · rw [if_neg c38] at H
                          exact absurd H (by simp)
                · rw [if_neg c26] at H
                  exact absurd H (by simp)
              · rw [if_neg c25] at H
                have c25b0 : decide (x12_2 < (x10_2.length : Int)) = false := decide_eq_false c25
                have c25b0y0 := c25b0
                (try simp only [hl322_2] at c25b0y0)
                have c25b0y1 := c25b0
                (try simp only [hl323_2] at c25b0y1)
                have c25b0y2 := c25b0
                (try simp only [hl332_2] at c25b0y2)
                have c25b0y3 := c25b0
                (try simp only [hl333_2] at c25b0y3)
                have c25b0y4 := c25b0
                (try simp only [hl334_2] at c25b0y4)
                have c25b0y5 := c25b0
                (try simp only [hl341_2] at c25b0y5)
                have c25b0y6 := c25b0
                (try simp only [hl342_2] at c25b0y6)
                clear c25
                obtain rfl := Option.some.inj H
                obtain ⟨Ao75, co75, eo75⟩ := Kd.S_slice HO_10.out
                subst eo75
                go_wp2
                go_ret
                exact ⟨by first | rfl | (simp [errW_none, errW_some] <;> rfl) | (refine congrArg (fun b_ : Bool => Ending.returned (Value.bool b_)) ?_; simp; done) | (simp [*, errW_none, errW_some] <;> rfl), by repeat (first | (with_reducible first | exact HB.out | apply below_alloc | apply pw_below_drewN | apply below_drew1 | refine below_set ?_ GE313.out | refine below_set ?_ GE314.out) | exact HB.out)⟩
        · rw [if_neg c20] at H
          have c20b0 : (t321 == 0) = false := beq_eq_false_iff_ne.mpr c20
          have c20b1 : (t321 != 0) = true := bne_iff_ne.mpr c20
          obtain rfl := Option.some.inj H
          have hnb76 := NB313_314.out
          have hnc76 := NB314_313.out
          have hcz77_0 : wc.cell? ⟨gb313, 0, none⟩ = some (.slice A0_0 l0_0.length c0_0) := (blk_cell BK313.out 0).trans rfl
          have hcz77_1 : wc.cell? ⟨gb313, 1, none⟩ = some (.int .i64 a0_1) := (blk_cell BK313.out 1).trans rfl
          have hcz77_2 : wc.cell? ⟨gb313, 2, none⟩ = some (.int .i64 a0_2) := (blk_cell BK313.out 2).trans rfl
          have hcz77_3 : wc.cell? ⟨gb313, 3, none⟩ = some (.int .i64 a0_3) := (blk_cell BK313.out 3).trans rfl
          have hcz77_4 : wc.cell? ⟨gb313, 4, none⟩ = some (.int .i64 a0_4) := (blk_cell BK313.out 4).trans rfl
          have hfz77_0 := blk_frozen BK313.out 0
          have hfz77_1 := blk_frozen BK313.out 1
          have hfz77_2 := blk_frozen BK313.out 2
          have hfz77_3 := blk_frozen BK313.out 3
          have hfz77_4 := blk_frozen BK313.out 4
          have hcz78_0 : wc.cell? ⟨gb314, 0, none⟩ = some (.int .i64 a2_0) := (blk_cell BK314.out 0).trans rfl
          have hcz78_1 : wc.cell? ⟨gb314, 1, none⟩ = some (.int .i64 a2_1) := (blk_cell BK314.out 1).trans rfl
          have hcz78_2 : wc.cell? ⟨gb314, 2, none⟩ = some (.slice A2_2 l2_2.length c2_2) := (blk_cell BK314.out 2).trans rfl
          have hfz78_0 := blk_frozen BK314.out 0
          have hfz78_1 := blk_frozen BK314.out 1
          have hfz78_2 := blk_frozen BK314.out 2
          go_wp2_with (first | ((with_reducible refine gate_callee (f := 8) rfl ?_); refine goesL_ (some 37) rfl rfl Tryd.func8 (by kernel_rfl) rfl #[.agg #[.slice A0_0 l0_0.length c0_0, .int .i64 a0_1, .int .i64 a0_2, .int .i64 a0_3, .int .i64 a0_4], .int .i64 a1, .agg #[.int .i64 a2_0, .int .i64 a2_1, .slice A2_2 l2_2.length c2_2]] rfl (by (try simp only [List.map_toArray, List.map_cons, List.map_nil]); first | done | rfl | (simp only [List.length_drop, List.length_take]; rfl)) ?_; (with_reducible refine (intake_Take.calls _ _ l0_0 a0_1 a0_2 a0_3 a0_4 a1 a2_0 a2_1 _ _ l2_2 t318 t321 _ ?side1 ?side2 ?side3 ?side4 ?side5 A19.out).mono ?_); (case side1 => repeat (first | exact (Kd.C_below HR0_0.out HB.out) | (with_reducible refine Kd.C_alloc ?_ _) | (with_reducible refine Kd.C_drewN ?_ _) | (with_reducible refine Kd.C_drew ?_))); (case side2 => exact HC0_0.out); (case side3 => repeat (first | exact (Kd.C_below HR2_2.out HB.out) | (with_reducible refine Kd.C_alloc ?_ _) | (with_reducible refine Kd.C_drewN ?_ _) | (with_reducible refine Kd.C_drew ?_))); (case side4 => exact HC2_2.out); (case side5 => exact globs_below HGL.out (by repeat (first | (with_reducible first | exact HB.out | apply below_alloc | apply pw_below_drewN | apply below_drew1 | refine below_set ?_ GE313.out | refine below_set ?_ GE314.out) | exact HB.out))); rintro e w79 ⟨v319, rfl, ho0, hb⟩; refine ⟨_, rfl, ?_⟩; have n0_ := Aside0.mk (Kd.S_lower ho0 (below_size (by repeat (first | (with_reducible first | exact HB.out | apply below_alloc | apply pw_below_drewN | apply below_drew1 | refine below_set ?_ GE313.out | refine below_set ?_ GE314.out) | exact HB.out)))); have n3_ := Aside0.mk (below_step (by repeat (first | (with_reducible first | exact HB.out | apply below_alloc | apply pw_below_drewN | apply below_drew1 | refine below_set ?_ GE313.out | refine below_set ?_ GE314.out) | exact HB.out)) hb); clear BK313; clear BK314; clear HB; have HO320 := n0_; have HB := n3_; clear n0_ n3_; (try clear hb); (try clear hb2); (try clear hk); (try clear hi); (try clear ho0); obtain ⟨Ao80, co80, eo80⟩ := Kd.S_slice HO320.out; subst eo80))
          go_ret
          exact ⟨by first | rfl | (simp [errW_none, errW_some] <;> rfl) | (refine congrArg (fun b_ : Bool => Ending.returned (Value.bool b_)) ?_; simp; done) | (simp [*, errW_none, errW_some] <;> rfl), by repeat (first | (with_reducible first | exact HB.out | apply below_alloc | apply pw_below_drewN | apply below_drew1 | refine below_set ?_ GE313.out | refine below_set ?_ GE314.out) | exact HB.out)⟩

end Go.Proofs.YtimomihjghefdaaDoor.Q
