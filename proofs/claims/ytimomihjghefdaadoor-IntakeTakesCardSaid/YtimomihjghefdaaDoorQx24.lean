/- The machine side of laws, written by wip/tools/myprint.py (the printer's way, with functions proved by hand put in); Lean checks it. -/
import Derived.Test.YtimomihjghefdaaDoorJ1
import Derived.Test.YtimomihjghefdaaDoorQx1
import Derived.Test.YtimomihjghefdaaDoorJ6
import Derived.Test.YtimomihjghefdaaDoorQx17
import Derived.Test.YtimomihjghefdaaDoorQx23
namespace Go.Proofs.YtimomihjghefdaaDoor.Q
open Go.RowKit Go.Proofs.YtimomihjghefdaaDoorW.PrintWords Go.Proofs.YtimomihjghefdaaDoorW.PrintLast Go.Proofs.YtimomihjghefdaaDoorW.PrintMore
attribute [local go_sem] z0y z0v z0z z10 z0s z0t z0w z0x   -- for this text's walks alone
set_option linter.unusedVariables false
set_option linter.unusedSimpArgs false

attribute [local go_sem high] eqA63
/-! ### winnowerref22_Take: function 9 -/
def winnowerref22_Take.l0 : Nat → Int → List (S41) → Int → List (S45) → Int → Int → Int → Int → Int → Int → List (List Int) → Option ((List (S41)) × Int)
  | 0, _, _, _, _, _, _, _, _, _, _, _ => none
  | k + 1, x1, x10, x11, x273000, x273001, x273002, x273003, x273004, x274000, x274001, x274002 => if x11 < (x274002.length : Int) then (if (wrap64 (x274001 + x11)) < x1 then (winnowerref22_Take.l0 k x1 x10 (wrap64 (x11 + 1)) x273000 x273001 x273002 x273003 x273004 x274000 x274001 x274002) else (if 0 ≤ x11 then ((winnowerref07_Decode.f k x273000 x273001 x273002 x273003 x273004 (rd_L1 x274002 x11)).bind fun bt277 => (if x10.length < 3518437208883 then (winnowerref22_Take.l0 k x1 (x10 ++ [(⟨wrap64 (x274001 + x11), (bt277.2 == 0), bt277.1⟩ : S41)]) (wrap64 (x11 + 1)) x273000 x273001 x273002 x273003 x273004 x274000 x274001 x274002) else (none))) else (none))) else (some (x10, 0))
def winnowerref22_Take.f (k : Nat) (l0_0 : List (S45)) (a0_1 : Int) (a0_2 : Int) (a0_3 : Int) (a0_4 : Int) (a1 : Int) (a2_0 : Int) (a2_1 : Int) (l2_2 : List (List Int)) : Option ((List (S41)) × Int) := (winnowerref07_May.f k l0_0 a0_1 a0_2 a0_3 a0_4).bind fun t274 => (if t274 = true then ((winnowerref22_Check.f k a1 a2_0 a2_1 l2_2).bind fun t275 => (if t275 = 0 then (winnowerref22_Take.l0 k a1 ([] : List (S41)) 0 l0_0 a0_1 a0_2 a0_3 a0_4 a2_0 a2_1 l2_2) else (some (([] : List (S41)), t275)))) else (some (([] : List (S41)), 1)))
def winnowerref22_Take.T12 : Bool × List (List Nat × List Nat) := (true, [([], []), ([], []), ([1], [1]), ([], []), ([2, 3], [2, 3]), ([4], [4]), ([0, 5], [0, 5]), ([6], [6]), ([7], [7]), ([7], [7]), ([8, 6, 0, 1, 2, 3, 4, 5, 6, 7, 8], [8]), ([9, 10, 0, 1, 2, 3, 4, 5, 6, 7, 8, 9, 10], [9])])
def winnowerref22_Take.B12 : List Nat := [0, 0, 2, 0, 14, 30, 63, 127, 255, 255, 511, 2047]
theorem winnowerref22_Take.tab12 : rtab .any (opsOf Tryd.f9 12) = winnowerref22_Take.T12 := by kernel_rfl
theorem winnowerref22_Take.bits12 : z29 winnowerref22_Take.T12.2 winnowerref22_Take.B12 = true := by kernel_rfl
set_option maxHeartbeats 8000000 in
set_option maxRecDepth 100000 in
theorem winnowerref22_Take.calls (k : Nat) (A0_0 : Option Addr) (c0_0 : Nat) (l0_0 : List (S45)) (a0_1 : Int) (a0_2 : Int) (a0_3 : Int) (a0_4 : Int) (a1 : Int) (a2_0 : Int) (a2_1 : Int) (A2_2 : Option Addr) (c2_2 : Nat) (l2_2 : List (List Int)) (r1 : List (S41)) (r2 : Int) (w : World) (hr0_0 : Kd.C k45 w A0_0 l0_0.length l0_0) (hc0_0 : l0_0.length ≤ c0_0) (hr2_2 : Kd.C (Kd.slice 5 (Kd.int .u8)) w A2_2 l2_2.length l2_2) (hc2_2 : l2_2.length ≤ c2_2) (h : winnowerref22_Take.f k l0_0 a0_1 a0_2 a0_3 a0_4 a1 a2_0 a2_1 l2_2 = some (r1, r2)) :
    Calls Tryd.prog 9 #[.agg #[.slice A0_0 l0_0.length c0_0, .int .i64 a0_1, .int .i64 a0_2, .int .i64 a0_3, .int .i64 a0_4], .int .i64 a1, .agg #[.int .i64 a2_0, .int .i64 a2_1, .slice A2_2 l2_2.length c2_2]] w fun e w' => ∃ v0_ : Value, e = .returned (.tuple #[v0_, .int .i64 r2]) ∧ Kd.S k41 41 w' w.heap.size (fun _ => True) v0_ r1 ∧ Below w.heap.size w w' := by
  have hu24 := Tryd.underlying24
  have hu27 := Tryd.underlying27
  have hu41 := Tryd.underlying41
  have HR0_0 := z05.mk hr0_0
  have HC0_0 := z05.mk hc0_0
  clear hr0_0 hc0_0
  have HR2_2 := z05.mk hr2_2
  have HC2_2 := z05.mk hc2_2
  clear hr2_2 hc2_2
  have HB := z05.mk (Below.refl w.heap.size w)
  have H : ((winnowerref07_May.f k l0_0 a0_1 a0_2 a0_3 a0_4).bind fun t274 => (if t274 = true then ((winnowerref22_Check.f k a1 a2_0 a2_1 l2_2).bind fun t275 => (if t275 = 0 then (winnowerref22_Take.l0 k a1 ([] : List (S41)) 0 l0_0 a0_1 a0_2 a0_3 a0_4 a2_0 a2_1 l2_2) else (some (([] : List (S41)), t275)))) else (some (([] : List (S41)), 1)))) = some (r1, r2) := h
  clear h
  replace H := Option.bind_eq_some_iff.mp H
  obtain ⟨t274, A40, H⟩ := H
  replace H : (if t274 = true then ((winnowerref22_Check.f k a1 a2_0 a2_1 l2_2).bind fun t275 => (if t275 = 0 then (winnowerref22_Take.l0 k a1 ([] : List (S41)) 0 l0_0 a0_1 a0_2 a0_3 a0_4 a2_0 a2_1 l2_2) else (some (([] : List (S41)), t275)))) else (some (([] : List (S41)), 1))) = some (r1, r2) := H
  have A4 := z05.mk A40
  clear A40
  by_cases c5 : t274 = true
  · subst c5
    have H1 : ((winnowerref22_Check.f k a1 a2_0 a2_1 l2_2).bind fun t275 => (if t275 = 0 then (winnowerref22_Take.l0 k a1 ([] : List (S41)) 0 l0_0 a0_1 a0_2 a0_3 a0_4 a2_0 a2_1 l2_2) else (some (([] : List (S41)), t275)))) = some (r1, r2) := by rw [if_pos rfl] at H; exact H
    clear H
    have H := H1
    clear H1
    replace H := Option.bind_eq_some_iff.mp H
    obtain ⟨t275, A60, H⟩ := H
    replace H : (if t275 = 0 then (winnowerref22_Take.l0 k a1 ([] : List (S41)) 0 l0_0 a0_1 a0_2 a0_3 a0_4 a2_0 a2_1 l2_2) else (some (([] : List (S41)), t275))) = some (r1, r2) := H
    have A6 := z05.mk A60
    clear A60
    by_cases c7 : t275 = 0
    · rw [if_pos c7] at H
      have c7b0 : (t275 == 0) = true := beq_iff_eq.mpr c7
      have c7b1 : (t275 != 0) = false := bne_eq_false_iff_eq.mpr c7
      clear c7
      have H' := z05.mk H
      clear H
      go_enter Tryd.func9, Tryd.ntmps9
      go_wp2_with (first | ((with_reducible refine z0h (N := 3) rfl ?_); refine z0g ?hg (N := 3) ?hd (cs := #[.slice A0_0 l0_0.length c0_0, .int .i64 a0_1, .int .i64 a0_2, .int .i64 a0_3, .int .i64 a0_4]) (t := 24) ?hr ?_; (case hd => rfl); (case hg => rfl); (case hr => first | (go_simp; done) | (go_simp; rfl)); intro gb272 hg w8 hbox hb; have n0_ := z05.mk (z0a (by repeat (first | (with_reducible first | exact HB.out | apply z02 | apply z00 | apply z03) | exact HB.out)) hb); have n1_ := z05.mk (hbox); have n2_ := z05.mk ((by rw [hg]; exact (z0b (by repeat (first | (with_reducible first | exact HB.out | apply z02 | apply z00 | apply z03) | exact HB.out))) : w.heap.size ≤ gb272)); have n3_ := z05.mk ((by rw [hg]; exact (z0b (by repeat (first | (with_reducible first | exact HB.out | apply z02 | apply z00 | apply z03) | exact HB.out))) : w.heap.size ≤ gb272)); clear HB; have HB := n0_; have BK272 := n1_; have GW272 := n2_; have GE272 := n3_; clear n0_ n1_ n2_ n3_; clear hb hbox hg) | ((with_reducible refine z0h (N := 5) rfl ?_); refine z0g ?hg (N := 5) ?hd (cs := #[.int .i64 a2_0, .int .i64 a2_1, .slice A2_2 l2_2.length c2_2]) (t := 27) ?hr ?_; (case hd => rfl); (case hg => rfl); (case hr => first | (go_simp; done) | (go_simp; rfl)); intro gb273 hg w9 hbox hb; have n0_ := z05.mk (z0e (g := gb272) (o := .cells #[.slice A0_0 l0_0.length c0_0, .int .i64 a0_1, .int .i64 a0_2, .int .i64 a0_3, .int .i64 a0_4] 24 (0, 0)) (by (with_reducible repeat (first | refine z07 ?_ _ | refine z08 ?_ | refine z06 ?_ _)); exact BK272.out) hb); have n1_ := z05.mk (z0a (by repeat (first | (with_reducible first | exact HB.out | apply z02 | apply z00 | apply z03 | refine z09 ?_ GE272.out) | exact HB.out)) hb); have n2_ := z05.mk (hbox); have n3_ := z05.mk ((by rw [hg]; exact (z0b (by repeat (first | (with_reducible first | exact HB.out | apply z02 | apply z00 | apply z03 | refine z09 ?_ GE272.out) | exact HB.out))) : w.heap.size ≤ gb273)); have n4_ := z05.mk ((by rw [hg]; exact (z0b (by repeat (first | (with_reducible first | exact HB.out | apply z02 | apply z00 | apply z03 | refine z09 ?_ GE272.out) | exact HB.out))) : w.heap.size ≤ gb273)); have n5_ := z05.mk ((by rw [hg]; exact Nat.ne_of_lt (z0q (g := gb272) (o := .cells #[.slice A0_0 l0_0.length c0_0, .int .i64 a0_1, .int .i64 a0_2, .int .i64 a0_3, .int .i64 a0_4] 24 (0, 0)) (by (with_reducible repeat (first | refine z07 ?_ _ | refine z08 ?_ | refine z06 ?_ _)); exact BK272.out)) : gb272 ≠ gb273)); have n6_ := z05.mk ((by rw [hg]; exact Nat.ne_of_gt (z0q (g := gb272) (o := .cells #[.slice A0_0 l0_0.length c0_0, .int .i64 a0_1, .int .i64 a0_2, .int .i64 a0_3, .int .i64 a0_4] 24 (0, 0)) (by (with_reducible repeat (first | refine z07 ?_ _ | refine z08 ?_ | refine z06 ?_ _)); exact BK272.out)) : gb273 ≠ gb272)); clear BK272; clear HB; have BK272 := n0_; have HB := n1_; have BK273 := n2_; have GW273 := n3_; have GE273 := n4_; have NB272_273 := n5_; have NB273_272 := n6_; clear n0_ n1_ n2_ n3_ n4_ n5_ n6_; clear hb hbox hg; have hnb10 := NB272_273.out; have hnc10 := NB273_272.out; have hcz11_0 : w9.cell? ⟨gb272, 0, none⟩ = some (.slice A0_0 l0_0.length c0_0) := (z04 BK272.out 0).trans rfl; have hcz11_1 : w9.cell? ⟨gb272, 1, none⟩ = some (.int .i64 a0_1) := (z04 BK272.out 1).trans rfl; have hcz11_2 : w9.cell? ⟨gb272, 2, none⟩ = some (.int .i64 a0_2) := (z04 BK272.out 2).trans rfl; have hcz11_3 : w9.cell? ⟨gb272, 3, none⟩ = some (.int .i64 a0_3) := (z04 BK272.out 3).trans rfl; have hcz11_4 : w9.cell? ⟨gb272, 4, none⟩ = some (.int .i64 a0_4) := (z04 BK272.out 4).trans rfl; have hfz11_0 := z01 BK272.out 0; have hfz11_1 := z01 BK272.out 1; have hfz11_2 := z01 BK272.out 2; have hfz11_3 := z01 BK272.out 3; have hfz11_4 := z01 BK272.out 4) | ((with_reducible refine z0j (f := 19) rfl ?_); refine z0u (some 15) rfl rfl Tryd.func19 (by kernel_rfl) rfl #[.agg #[.slice A0_0 l0_0.length c0_0, .int .i64 a0_1, .int .i64 a0_2, .int .i64 a0_3, .int .i64 a0_4]] rfl (by (try simp only [List.map_toArray, List.map_cons, List.map_nil]); first | done | rfl | (simp only [List.length_drop, List.length_take]; rfl)) ?_; (with_reducible refine (winnowerref07_May.calls k _ _ l0_0 a0_1 a0_2 a0_3 a0_4 true _ ?side1 ?side2 A4.out).mono ?_); (case side1 => repeat (first | exact (Kd.C_below HR0_0.out HB.out) | (with_reducible refine Kd.C_alloc ?_ _) | (with_reducible refine Kd.C_drewN ?_ _) | (with_reducible refine Kd.C_drew ?_))); (case side2 => exact HC0_0.out); rintro e w12 ⟨rfl, hb⟩; refine ⟨_, rfl, ?_⟩; have n0_ := z05.mk (z0e (g := gb272) (o := .cells #[.slice A0_0 l0_0.length c0_0, .int .i64 a0_1, .int .i64 a0_2, .int .i64 a0_3, .int .i64 a0_4] 24 (0, 0)) (by (with_reducible repeat (first | refine z07 ?_ _ | refine z08 ?_ | refine z06 ?_ _)); exact BK272.out) hb); have n1_ := z05.mk (z0e (g := gb273) (o := .cells #[.int .i64 a2_0, .int .i64 a2_1, .slice A2_2 l2_2.length c2_2] 27 (0, 0)) (by (with_reducible repeat (first | refine z07 ?_ _ | refine z08 ?_ | refine z06 ?_ _)); exact BK273.out) hb); have n2_ := z05.mk (z0a (by repeat (first | (with_reducible first | exact HB.out | apply z02 | apply z00 | apply z03 | refine z09 ?_ GE272.out | refine z09 ?_ GE273.out) | exact HB.out)) hb); clear BK272; clear BK273; clear HB; have BK272 := n0_; have BK273 := n1_; have HB := n2_; clear n0_ n1_ n2_; (try clear hb); (try clear hb2); (try clear hk); (try clear hi); have hcz13_0 : w12.cell? ⟨gb273, 0, none⟩ = some (.int .i64 a2_0) := (z04 BK273.out 0).trans rfl; have hcz13_1 : w12.cell? ⟨gb273, 1, none⟩ = some (.int .i64 a2_1) := (z04 BK273.out 1).trans rfl; have hcz13_2 : w12.cell? ⟨gb273, 2, none⟩ = some (.slice A2_2 l2_2.length c2_2) := (z04 BK273.out 2).trans rfl; have hfz13_0 := z01 BK273.out 0; have hfz13_1 := z01 BK273.out 1; have hfz13_2 := z01 BK273.out 2) | ((with_reducible refine z0j (f := 12) rfl ?_); refine z0u (some 20) rfl rfl Tryd.func12 (by kernel_rfl) rfl #[.int .i64 a1, .agg #[.int .i64 a2_0, .int .i64 a2_1, .slice A2_2 l2_2.length c2_2]] rfl (by (try simp only [List.map_toArray, List.map_cons, List.map_nil]); first | done | rfl | (simp only [List.length_drop, List.length_take]; rfl)) ?_; (with_reducible refine (winnowerref22_Check.calls k a1 a2_0 a2_1 _ _ l2_2 t275 _ ?side1 ?side2 A6.out).mono ?_); (case side1 => repeat (first | exact (Kd.C_below HR2_2.out HB.out) | (with_reducible refine Kd.C_alloc ?_ _) | (with_reducible refine Kd.C_drewN ?_ _) | (with_reducible refine Kd.C_drew ?_))); (case side2 => exact HC2_2.out); rintro e w14 ⟨rfl, hb⟩; refine ⟨_, rfl, ?_⟩; have n0_ := z05.mk (z0e (g := gb272) (o := .cells #[.slice A0_0 l0_0.length c0_0, .int .i64 a0_1, .int .i64 a0_2, .int .i64 a0_3, .int .i64 a0_4] 24 (0, 0)) (by (with_reducible repeat (first | refine z07 ?_ _ | refine z08 ?_ | refine z06 ?_ _)); exact BK272.out) hb); have n1_ := z05.mk (z0e (g := gb273) (o := .cells #[.int .i64 a2_0, .int .i64 a2_1, .slice A2_2 l2_2.length c2_2] 27 (0, 0)) (by (with_reducible repeat (first | refine z07 ?_ _ | refine z08 ?_ | refine z06 ?_ _)); exact BK273.out) hb); have n2_ := z05.mk (z0a (by repeat (first | (with_reducible first | exact HB.out | apply z02 | apply z00 | apply z03 | refine z09 ?_ GE272.out | refine z09 ?_ GE273.out) | exact HB.out)) hb); clear BK272; clear BK273; clear HB; have BK272 := n0_; have BK273 := n1_; have HB := n2_; clear n0_ n1_ n2_; (try clear hb); (try clear hb2); (try clear hk); (try clear hi)))
      go_loopg [10, 11] k (fun kq v10 v11 w' => ∃ (x10_1 : List (S41)) (x11_1 : Int), v11 = .int .i64 x11_1 ∧ z05 (winnowerref22_Take.l0 kq a1 x10_1 x11_1 l0_0 a0_1 a0_2 a0_3 a0_4 a2_0 a2_1 l2_2 = some (r1, r2)) ∧ z05 (kq ≤ k) ∧ z05 (Kd.S k41 41 w' w.heap.size (fun _ => True) v10 x10_1) ∧ z05 (w'.heap[gb272]? = some (.cells #[(.slice A0_0 l0_0.length c0_0), .int .i64 a0_1, .int .i64 a0_2, .int .i64 a0_3, .int .i64 a0_4] 24 (0, 0))) ∧ z05 (w'.heap[gb273]? = some (.cells #[.int .i64 a2_0, .int .i64 a2_1, (.slice A2_2 l2_2.length c2_2)] 27 (0, 0))) ∧ z05 (Below w.heap.size w w'))
      case atStart => exact ⟨(([] : List (S41))), (0), (by first | rfl | (simp; done) | (simp [*]; done)), H', ⟨Nat.le_refl _⟩, ⟨by first | exact Kd.S_nil _ _ _ _ _ | exact Kd.N_nil _ _ _ _ _ | exact Kd.V_nil _ _ _ _ _ | exact Kd.Q_nil _ _ _ _ _ | exact Kd.R_nil _ _ _ _ _⟩, ⟨by (with_reducible repeat (first | refine z07 ?_ _ | refine z08 ?_ | refine z06 ?_ _)); exact BK272.out⟩, ⟨by (with_reducible repeat (first | refine z07 ?_ _ | refine z08 ?_ | refine z06 ?_ _)); exact BK273.out⟩, ⟨by repeat (first | (with_reducible first | exact HB.out | apply z02 | apply z00 | apply z03 | refine z09 ?_ GE272.out | refine z09 ?_ GE273.out) | exact HB.out)⟩⟩
      case round =>
        clear H'
        try clear c1
        try clear c2
        try clear p2
        try clear c5
        try clear c7
        try clear c7b0
        try clear c7b1
        try clear c9
        try clear c10
        try clear c12
        try clear hcz11_0
        try clear hcz11_1
        try clear hcz11_2
        try clear hcz11_3
        try clear hcz11_4
        try clear hcz13_0
        try clear hcz13_1
        try clear hcz13_2
        try clear hfz11_0
        try clear hfz11_1
        try clear hfz11_2
        try clear hfz11_3
        try clear hfz11_4
        try clear hfz13_0
        try clear hfz13_1
        try clear hfz13_2
        obtain ⟨x10_1, x11_1, rfl, HA, HK1, HO_10, BK272, BK273, HB⟩ := hrel
        cases gk with
        | zero => exact absurd HA.out (by simp [winnowerref22_Take.l0])
        | succ k1 =>
          have H := HA.out
          clear HA
          simp only [winnowerref22_Take.l0] at H
          by_cases c15 : x11_1 < (l2_2.length : Int)
          · rw [if_pos c15] at H
            have c15b0 : decide (x11_1 < (l2_2.length : Int)) = true := decide_eq_true c15
            have c15b0y0 := c15b0
            (try simp only [hl276_0] at c15b0y0)
            clear c15
            by_cases c16 : (wrap64 (a2_1 + x11_1)) < a1
            · rw [if_pos c16] at H
              have c16b0 : decide ((wrap64 (a2_1 + x11_1)) < a1) = true := decide_eq_true c16
              clear c16
              have H' := z05.mk H
              clear H
              have hnb17 := NB273_272.out
              have hnc17 := NB272_273.out
              have hcz18_0 : wr.cell? ⟨gb273, 0, none⟩ = some (.int .i64 a2_0) := (z04 BK273.out 0).trans rfl
              have hcz18_1 : wr.cell? ⟨gb273, 1, none⟩ = some (.int .i64 a2_1) := (z04 BK273.out 1).trans rfl
              have hcz18_2 : wr.cell? ⟨gb273, 2, none⟩ = some (.slice A2_2 l2_2.length c2_2) := (z04 BK273.out 2).trans rfl
              have hfz18_0 := z01 BK273.out 0
              have hfz18_1 := z01 BK273.out 1
              have hfz18_2 := z01 BK273.out 2
              go_wp2
              go_roundg k1
              case measure => have := HK1.out; omega
              case rel => exact ⟨(x10_1), (wrap64 (x11_1 + 1)), (by first | rfl | (simp; done) | (simp [*]; done)), H', ⟨by have := HK1.out; omega⟩, ⟨by (with_reducible repeat (first | apply Kd.S_alloc | apply Kd.S_drewN | apply Kd.S_drew)); exact HO_10.out⟩, ⟨by (with_reducible repeat (first | refine z07 ?_ _ | refine z08 ?_ | refine z06 ?_ _)); exact BK272.out⟩, ⟨by (with_reducible repeat (first | refine z07 ?_ _ | refine z08 ?_ | refine z06 ?_ _)); exact BK273.out⟩, ⟨by repeat (first | (with_reducible first | exact HB.out | apply z02 | apply z00 | apply z03 | refine z09 ?_ GE272.out | refine z09 ?_ GE273.out) | exact HB.out)⟩⟩
            · rw [if_neg c16] at H
              have c16b0 : decide ((wrap64 (a2_1 + x11_1)) < a1) = false := decide_eq_false c16
              clear c16
              by_cases c19 : 0 ≤ x11_1
              · rw [if_pos c19] at H
                have c19b0 : decide (0 ≤ x11_1) = true := decide_eq_true c19
                clear c19
                replace H := Option.bind_eq_some_iff.mp H
                obtain ⟨⟨t277, t280⟩, A200, H⟩ := H
                replace H : (if x10_1.length < 3518437208883 then (winnowerref22_Take.l0 k1 a1 (x10_1 ++ [(⟨wrap64 (a2_1 + x11_1), (t280 == 0), t277⟩ : S41)]) (wrap64 (x11_1 + 1)) l0_0 a0_1 a0_2 a0_3 a0_4 a2_0 a2_1 l2_2) else (none)) = some (r1, r2) := H
                have A20 := z05.mk A200
                clear A200
                by_cases c21 : x10_1.length < 3518437208883
                · rw [if_pos c21] at H
                  have LMc21 := z05.mk c21
                  clear c21
                  obtain ⟨y281, hy281⟩ : ∃ y_ : List (S41), y_ = (x10_1 ++ [(⟨wrap64 (a2_1 + x11_1), (t280 == 0), t277⟩ : S41)]) := ⟨_, rfl⟩
                  replace H : (winnowerref22_Take.l0 k1 a1 y281 (wrap64 (x11_1 + 1)) l0_0 a0_1 a0_2 a0_3 a0_4 a2_0 a2_1 l2_2) = some (r1, r2) := by first | (rw [hy281]; with_reducible exact H) | (have H2_ := (Option.bind_some _ _).symm.trans H; rw [hy281]; with_reducible exact H2_) | (have H2_ := (Option.bind_some _ _).symm.trans H; with_reducible exact H2_) | with_reducible exact H | (rw [hy281]; exact H) | exact H
                  have Ny281 := z05.mk hy281
                  clear hy281
                  have H' := z05.mk H
                  clear H
                  have hnb22 := NB273_272.out
                  have hnc22 := NB272_273.out
                  have hcz23_0 : wr.cell? ⟨gb273, 0, none⟩ = some (.int .i64 a2_0) := (z04 BK273.out 0).trans rfl
                  have hcz23_1 : wr.cell? ⟨gb273, 1, none⟩ = some (.int .i64 a2_1) := (z04 BK273.out 1).trans rfl
                  have hcz23_2 : wr.cell? ⟨gb273, 2, none⟩ = some (.slice A2_2 l2_2.length c2_2) := (z04 BK273.out 2).trans rfl
                  have hfz23_0 := z01 BK273.out 0
                  have hfz23_1 := z01 BK273.out 1
                  have hfz23_2 := z01 BK273.out 2
                  try go_wp2
                  have n0_ := z05.mk (Kd.S_drew HO_10.out); have n1_ := z05.mk (z08 BK272.out); have n2_ := z05.mk (z08 BK273.out); have n3_ := z05.mk (z03 HB.out); clear HO_10; clear BK272; clear BK273; clear HB; have HO_10 := n0_; have BK272 := n1_; have BK273 := n2_; have HB := n3_; clear n0_ n1_ n2_ n3_
                  have p276 : 0 ≤ (x11_1 : Int) := of_decide_eq_true (by first | (with_reducible assumption) | assumption)
                  have q276 : x11_1 < (l2_2.length : Int) := of_decide_eq_true (by first | (with_reducible assumption) | assumption)
                  obtain ⟨ad276, A276_0, c276_0, e276, hx276_0, hl276_0, hi276_0⟩ := at_L1 HR2_2.out x11_1 p276 q276
                  have hw276_0 := hx276_0
                  cases e276
                  replace hx276_0 := (HB.out.cell (World.block_lt_of_cell? w _ hx276_0)).trans hx276_0
                  have HR276_0 := z05.mk hi276_0
                  have HC276_0 := z05.mk hl276_0
                  clear hi276_0 hl276_0
                  replace p276 := eq_true p276
                  replace q276 := eq_true q276
                  refine z6f (n := 12) (S := fun w' => w'.cell? ⟨gb272, 0, none⟩ = some (.slice A0_0 l0_0.length c0_0) ∧ w'.cell? ⟨gb272, 1, none⟩ = some (.int .i64 a0_1) ∧ w'.cell? ⟨gb272, 2, none⟩ = some (.int .i64 a0_2) ∧ w'.cell? ⟨gb272, 3, none⟩ = some (.int .i64 a0_3) ∧ w'.cell? ⟨gb272, 4, none⟩ = some (.int .i64 a0_4) ∧ w'.cell? ⟨gb273, 0, none⟩ = some (.int .i64 a2_0) ∧ w'.cell? ⟨gb273, 1, none⟩ = some (.int .i64 a2_1) ∧ w'.cell? ⟨gb273, 2, none⟩ = some (.slice (some ad276) l2_2.length c2_2) ∧ w'.cell? (ad276.add (x11_1).toNat) = some (.slice A276_0 (rd_L1 l2_2 x11_1).length c276_0)) (ds := []) #[false, false, false, false, false, false, false, false, false, false, false, false] (by kernel_rfl) rfl rfl ⟨(z04 BK272.out 0).trans rfl, (z04 BK272.out 1).trans rfl, (z04 BK272.out 2).trans rfl, (z04 BK272.out 3).trans rfl, (z04 BK272.out 4).trans rfl, (z04 BK273.out 0).trans rfl, (z04 BK273.out 1).trans rfl, (z04 BK273.out 2).trans rfl, ((HB.out.cell (World.block_lt_of_cell? w _ hw276_0)).trans hw276_0)⟩ (fun hHeld => ?_); refine z39 winnowerref22_Take.tab12 winnowerref22_Take.bits12 (fun HT_ HW_ => ?_)
                  generalize wr.drew = w24 at HO_10 BK272 BK273 HB HR276_0 hx276_0 hHeld ⊢
                  refine pure_ (i := 1) (N := some 39) (v := ?_) (a' := ?_) #[false, true, false, false, false, false, false, false, false, false, false, false] rfl rfl (z1a HT_.out (by kernel_rfl)) (fun _ _ _ h => h) (Or.inl ⟨by rfl, ?_⟩) ?_ ?_
                  rotate_left
                  · intro w'
                    go_simp
                    with_reducible rfl
                  rotate_left
                  · simp only [Act.put, List.setIfInBounds_toArray, List.set_cons_zero, List.set_cons_succ, i64_w, i32_w]
                    rfl
                  refine pure_ (i := 3) (N := some 41) (v := ?_) (a' := ?_) #[false, true, false, true, false, false, false, false, false, false, false, false] rfl rfl (z1a HT_.out (by kernel_rfl)) (fun _ _ _ h => h) (Or.inl ⟨by rfl, ?_⟩) ?_ ?_
                  rotate_left
                  · intro w'
                    go_simp
                    with_reducible rfl
                  rotate_left
                  · simp only [Act.put, List.setIfInBounds_toArray, List.set_cons_zero, List.set_cons_succ, i64_w, i32_w]
                    rfl
                  refine take_ (i := 0) (N := some 38) (v := ?_) (a' := ?_) #[true, true, false, true, false, false, false, false, false, false, false, false] rfl rfl (z1u HT_.out HW_.out (by kernel_rfl)) (fun _ _ _ h => h) (Or.inl ⟨by rfl, ?_⟩) hHeld ?_ ?_
                  rotate_left
                  · rintro w' ⟨s0, s1, s2, s3, s4, s5, s6, s7, s8⟩
                    go_simp
                    with_reducible rfl
                  rotate_left
                  · simp only [Act.put, List.setIfInBounds_toArray, List.set_cons_zero, List.set_cons_succ, i64_w, i32_w]
                    rfl
                  refine take_ (i := 2) (N := some 40) (v := ?_) (a' := ?_) #[true, true, true, true, false, false, false, false, false, false, false, false] rfl rfl (z1u HT_.out HW_.out (by kernel_rfl)) (fun _ _ _ h => h) (Or.inl ⟨by rfl, ?_⟩) hHeld ?_ ?_
                  rotate_left
                  · rintro w' ⟨s0, s1, s2, s3, s4, s5, s6, s7, s8⟩
                    go_simp
                    with_reducible rfl
                  rotate_left
                  · simp only [Act.put, List.setIfInBounds_toArray, List.set_cons_zero, List.set_cons_succ, i64_w, i32_w]
                    rfl
                  refine pure_ (i := 4) (N := some 42) (v := ?_) (a' := ?_) #[true, true, true, true, true, false, false, false, false, false, false, false] rfl rfl (z1a HT_.out (by kernel_rfl)) (fun _ _ _ h => h) (Or.inl ⟨by rfl, ?_⟩) ?_ ?_
                  rotate_left
                  · intro w'
                    go_simp
                    with_reducible rfl
                  rotate_left
                  · simp only [Act.put, List.setIfInBounds_toArray, List.set_cons_zero, List.set_cons_succ, i64_w, i32_w]
                    rfl
                  refine take_ (i := 5) (N := some 43) (v := ?_) (a' := ?_) #[true, true, true, true, true, true, false, false, false, false, false, false] rfl rfl (z1u HT_.out HW_.out (by kernel_rfl)) (fun _ _ _ h => h) (Or.inl ⟨by rfl, ?_⟩) hHeld ?_ ?_
                  rotate_left
                  · rintro w' ⟨s0, s1, s2, s3, s4, s5, s6, s7, s8⟩
                    go_simp
                    with_reducible rfl
                  rotate_left
                  · simp only [Act.put, List.setIfInBounds_toArray, List.set_cons_zero, List.set_cons_succ, i64_w, i32_w]
                    rfl
                  refine one_ (i := 6) (N := some 44) #[true, true, true, true, true, true, true, false, false, false, false, false] rfl rfl (z2x HT_.out (by kernel_rfl)) (by decide) (fun K hK => ?_)
                  refine goes_ Tryd.func20 (by kernel_rfl) rfl #[.agg #[.slice A0_0 l0_0.length c0_0, .int .i64 a0_1, .int .i64 a0_2, .int .i64 a0_3, .int .i64 a0_4], .slice A276_0 (rd_L1 l2_2 x11_1).length c276_0] (by rfl) rfl rfl (by (try simp only [List.map_toArray, List.map_cons, List.map_nil]); first | done | rfl | (simp only [List.length_drop, List.length_take]; rfl)) ?_
                  with_reducible refine (winnowerref07_Decode.calls k1 _ _ l0_0 a0_1 a0_2 a0_3 a0_4 (fun k_ => k_ < w.heap.size) _ _ (rd_L1 l2_2 x11_1) t277 t280 _ ?side1 ?side2 ?side3 A20.out).mono ?_
                  (case side1 => repeat (first | exact (Kd.C_below HR0_0.out HB.out) | (with_reducible refine Kd.C_alloc ?_ _) | (with_reducible refine Kd.C_drewN ?_ _) | (with_reducible refine Kd.C_drew ?_)))
                  (case side2 => exact HC0_0.out)
                  (case side3 => exact Kd.V_mk HC276_0.out (Kd.F_below (Kd.C_F (Kd.heap_int .u8) HR276_0.out) (by repeat (first | (with_reducible first | exact HB.out | apply z02 | apply z00 | apply z03 | refine z09 ?_ GE272.out | refine z09 ?_ GE273.out) | exact HB.out))))
                  rintro e w25 ⟨v278, rfl, ho0, hb⟩
                  refine ⟨_, rfl, ?_⟩
                  have n0_ := z05.mk (Kd.S_elder' (by (with_reducible repeat (first | apply Kd.S_alloc | apply Kd.S_drewN | apply Kd.S_drew)); exact HO_10.out) (Kd.R_base ho0) hb); have n1_ := z05.mk (Kd.R_lower (Kd.R_mono (ok' := fun k_ => True) ho0 (fun _ hk_ => trivial)) (z0b (by repeat (first | (with_reducible first | exact HB.out | apply z02 | apply z00 | apply z03 | refine z09 ?_ GE272.out | refine z09 ?_ GE273.out) | exact HB.out)))); have n2_ := z05.mk (z0e (g := gb272) (o := .cells #[.slice A0_0 l0_0.length c0_0, .int .i64 a0_1, .int .i64 a0_2, .int .i64 a0_3, .int .i64 a0_4] 24 (0, 0)) (by (with_reducible repeat (first | refine z07 ?_ _ | refine z08 ?_ | refine z06 ?_ _)); exact BK272.out) hb); have n3_ := z05.mk (z0e (g := gb273) (o := .cells #[.int .i64 a2_0, .int .i64 a2_1, .slice (some ad276) l2_2.length c2_2] 27 (0, 0)) (by (with_reducible repeat (first | refine z07 ?_ _ | refine z08 ?_ | refine z06 ?_ _)); exact BK273.out) hb); have n4_ := z05.mk (z0a (by repeat (first | (with_reducible first | exact HB.out | apply z02 | apply z00 | apply z03 | refine z09 ?_ GE272.out | refine z09 ?_ GE273.out) | exact HB.out)) hb); clear HO_10; clear BK272; clear BK273; clear HB; have HO_10 := n0_; have HO279 := n1_; have BK272 := n2_; have BK273 := n3_; have HB := n4_; clear n0_ n1_ n2_ n3_ n4_; (try clear hb); (try clear hb2); (try clear hk); (try clear hi); (try clear ho0)
                  refine hK.out _ _ ⟨(z04 BK272.out 0).trans rfl, (z04 BK272.out 1).trans rfl, (z04 BK272.out 2).trans rfl, (z04 BK272.out 3).trans rfl, (z04 BK272.out 4).trans rfl, (z04 BK273.out 0).trans rfl, (z04 BK273.out 1).trans rfl, (z04 BK273.out 2).trans rfl, ((HB.out.cell (World.block_lt_of_cell? w _ hw276_0)).trans hw276_0)⟩ (fun hHeld => ?_)
                  clear hK K
                  refine norm_ (a' := ?_) ?_ ?_
                  rotate_left
                  · show Act.put _ (some 44) _ = _
                    simp only [Act.put, List.setIfInBounds_toArray, List.set_cons_zero, List.set_cons_succ, i64_w, i32_w]
                    rfl
                  refine pure_ (i := 7) (N := some 37) (v := ?_) (a' := ?_) #[true, true, true, true, true, true, true, true, false, false, false, false] rfl rfl (z1a HT_.out (by kernel_rfl)) (fun _ _ _ h => h) (Or.inl ⟨by rfl, ?_⟩) ?_ ?_
                  rotate_left
                  · intro w'
                    go_simp
                    with_reducible rfl
                  rotate_left
                  · simp only [Act.put, List.setIfInBounds_toArray, List.set_cons_zero, List.set_cons_succ, i64_w, i32_w]
                    rfl
                  refine pure_ (i := 8) (N := some 45) (v := ?_) (a' := ?_) #[true, true, true, true, true, true, true, true, true, false, false, false] rfl rfl (z1a HT_.out (by kernel_rfl)) (fun _ _ _ h => h) (Or.inl ⟨by rfl, ?_⟩) ?_ ?_
                  rotate_left
                  · intro w'
                    go_simp
                    with_reducible rfl
                  rotate_left
                  · simp only [Act.put, List.setIfInBounds_toArray, List.set_cons_zero, List.set_cons_succ, i64_w, i32_w]
                    rfl
                  refine pure_ (i := 9) (N := some 46) (v := ?_) (a' := ?_) #[true, true, true, true, true, true, true, true, true, true, false, false] rfl rfl (z1a HT_.out (by kernel_rfl)) (fun _ _ _ h => h) (Or.inl ⟨by rfl, ?_⟩) ?_ ?_
                  rotate_left
                  · intro w'
                    go_simp
                    with_reducible rfl
                  rotate_left
                  · simp only [Act.put, List.setIfInBounds_toArray, List.set_cons_zero, List.set_cons_succ, i64_w, i32_w]
                    rfl
                  refine pure_ (i := 10) (N := some 12) (v := ?_) (a' := ?_) #[true, true, true, true, true, true, true, true, true, true, true, false] rfl rfl (z1a HT_.out (by kernel_rfl)) (fun _ _ _ h => h) (Or.inl ⟨by rfl, ?_⟩) ?_ ?_
                  rotate_left
                  · intro w'
                    go_simp
                    with_reducible rfl
                  rotate_left
                  · simp only [Act.put, List.setIfInBounds_toArray, List.set_cons_zero, List.set_cons_succ, i64_w, i32_w]
                    rfl
                  refine pure_ (i := 11) (N := some 13) (v := ?_) (a' := ?_) #[true, true, true, true, true, true, true, true, true, true, true, true] rfl rfl (z1a HT_.out (by kernel_rfl)) (fun _ _ _ h => h) (Or.inl ⟨by rfl, ?_⟩) ?_ ?_
                  rotate_left
                  · intro w'
                    go_simp
                    with_reducible rfl
                  rotate_left
                  · simp only [Act.put, List.setIfInBounds_toArray, List.set_cons_zero, List.set_cons_succ, i64_w, i32_w]
                    rfl
                  refine done_ (z4q HT_.out (by kernel_rfl)) ?_
                  have hcz26_0 : w25.cell? ⟨gb273, 0, none⟩ = some (.int .i64 a2_0) := (z04 BK273.out 0).trans rfl
                  have hcz26_1 : w25.cell? ⟨gb273, 1, none⟩ = some (.int .i64 a2_1) := (z04 BK273.out 1).trans rfl
                  have hcz26_2 : w25.cell? ⟨gb273, 2, none⟩ = some (.slice (some ad276) l2_2.length c2_2) := (z04 BK273.out 2).trans rfl
                  have hfz26_0 := z01 BK273.out 0
                  have hfz26_1 := z01 BK273.out 1
                  have hfz26_2 := z01 BK273.out 2
                  obtain ⟨Ao27, co27, eo27⟩ := Kd.R_slice HO279.out
                  subst eo27
                  try go_wp2_with (first | ((with_reducible refine z1s (b := .append) (xs := #[.tmp 47, .tmp 56]) rfl ?_); at_builtin; refine Kd.S_append k41 (w0 := w) w.heap.size rfl (.tmp 47) (.tmp 56) 31 41 (.agg #[(.int .i64 0), (.bool false), (.slice none 0 0)]) 40 rfl Tryd.underlying31 z8h rfl (by decide) (by omega) u10 x10_1 (⟨wrap64 (a2_1 + x11_1), (t280 == 0), t277⟩ : S41) [.int .i64 (wrap64 (a2_1 + x11_1)), .bool (t280 == 0), .slice Ao27 t277.length co27] (fun _ => True) (fun k_ => some k_ = (.slice Ao27 t277.length co27 : Value).ownBlock) rfl rfl ?aP (fun k_ hk_ => ((Kd.R_mono (ok' := fun k_ => ((fun _ => True)) k_ ∧ some k_ ≠ (u10 : Value).ownBlock) (Kd.R_apart' (HO279.out) (Kd.S_typed HO_10.out) (by decide)) (fun k_ hk => ⟨trivial, hk.2⟩))).1 k_ hk_.symm) ?aF ?aO ?aB ?aS ?aL ?_; (case aP => exact z6b _ _ _ (⟨wrap64 (a2_1 + x11_1), (t280 == 0), t277⟩ : S41) (Kd.R_mono (Kd.R_tight rfl (Kd.R_mono (ok' := fun k_ => ((fun _ => True)) k_ ∧ some k_ ≠ (u10 : Value).ownBlock) (Kd.R_apart' (HO279.out) (Kd.S_typed HO_10.out) (by decide)) (fun k_ hk => ⟨trivial, hk.2⟩))) (fun _ h_ => h_))); (case aB => exact (by repeat (first | (with_reducible first | exact HB.out | apply z02 | apply z00 | apply z03 | refine z09 ?_ GE272.out | refine z09 ?_ GE273.out) | exact HB.out))); (case aF => exact (fun _ _ => trivial)); (case aO => exact (by (with_reducible repeat (first | apply Kd.S_alloc | apply Kd.S_drewN | apply Kd.S_drew)); exact Kd.S_mono HO_10.out (fun k_ hk => ⟨trivial, fun e_ => hk.2 e_⟩))); (case aS => exact (z0b (by repeat (first | (with_reducible first | exact HB.out | apply z02 | apply z00 | apply z03 | refine z09 ?_ GE272.out | refine z09 ?_ GE273.out) | exact HB.out)))); (case aL => have := LMc21.out; omega); intro v282 w28 ho hb hg hat; rw [← Ny281.out] at ho; have n0_ := z05.mk (z1p (g := gb272) (o := .cells #[.slice A0_0 l0_0.length c0_0, .int .i64 a0_1, .int .i64 a0_2, .int .i64 a0_3, .int .i64 a0_4] 24 (0, 0)) (by (with_reducible repeat (first | refine z07 ?_ _ | refine z08 ?_ | refine z06 ?_ _)); exact BK272.out) hg (Kd.S_ne HO_10.out BK272.out (by decide))); have n1_ := z05.mk (z1p (g := gb273) (o := .cells #[.int .i64 a2_0, .int .i64 a2_1, .slice (some ad276) l2_2.length c2_2] 27 (0, 0)) (by (with_reducible repeat (first | refine z07 ?_ _ | refine z08 ?_ | refine z06 ?_ _)); exact BK273.out) hg (Kd.S_ne HO_10.out BK273.out (by decide))); have n2_ := z05.mk (hb); have n3_ := z05.mk (ho); clear BK272; clear BK273; clear HB; clear HO_10; clear HO279; have BK272 := n0_; have BK273 := n1_; have HB := n2_; have HO283 := n3_; clear n0_ n1_ n2_ n3_; clear ho hb hg hat))
                  go_roundg k1
                  case measure => have := HK1.out; omega
                  case rel => exact ⟨(y281), (wrap64 (x11_1 + 1)), (by first | rfl | (simp; done) | (simp [*]; done)), H', ⟨by have := HK1.out; omega⟩, ⟨by (with_reducible repeat (first | apply Kd.S_alloc | apply Kd.S_drewN | apply Kd.S_drew)); exact HO283.out⟩, ⟨by (with_reducible repeat (first | refine z07 ?_ _ | refine z08 ?_ | refine z06 ?_ _)); exact BK272.out⟩, ⟨by (with_reducible repeat (first | refine z07 ?_ _ | refine z08 ?_ | refine z06 ?_ _)); exact BK273.out⟩, ⟨by repeat (first | (with_reducible first | exact HB.out | apply z02 | apply z00 | apply z03 | refine z09 ?_ GE272.out | refine z09 ?_ GE273.out) | exact HB.out)⟩⟩
                · rw [if_neg c21] at H
                  exact absurd H (by simp)
              · rw [if_neg c19] at H
                exact absurd H (by simp)
          · rw [if_neg c15] at H
            have c15b0 : decide (x11_1 < (l2_2.length : Int)) = false := decide_eq_false c15
            have c15b0y0 := c15b0
            (try simp only [hl276_0] at c15b0y0)
            clear c15
            simp only [Option.some.injEq, Prod.mk.injEq] at H
            obtain ⟨rfl, rfl⟩ := H
            have hnb29 := NB273_272.out
            have hnc29 := NB272_273.out
            have hcz30_0 : wr.cell? ⟨gb273, 0, none⟩ = some (.int .i64 a2_0) := (z04 BK273.out 0).trans rfl
            have hcz30_1 : wr.cell? ⟨gb273, 1, none⟩ = some (.int .i64 a2_1) := (z04 BK273.out 1).trans rfl
            have hcz30_2 : wr.cell? ⟨gb273, 2, none⟩ = some (.slice A2_2 l2_2.length c2_2) := (z04 BK273.out 2).trans rfl
            have hfz30_0 := z01 BK273.out 0
            have hfz30_1 := z01 BK273.out 1
            have hfz30_2 := z01 BK273.out 2
            go_wp2
            go_ret2
            exact ⟨_, by first | rfl | (simp [z0d, z0c] <;> rfl) | (refine congrArg (fun b_ : Bool => Ending.returned (Value.bool b_)) ?_; simp; done) | (simp [*, z0d, z0c] <;> rfl), by (with_reducible repeat (first | apply Kd.S_alloc | apply Kd.S_drewN | apply Kd.S_drew)); exact HO_10.out, by repeat (first | (with_reducible first | exact HB.out | apply z02 | apply z00 | apply z03 | refine z09 ?_ GE272.out | refine z09 ?_ GE273.out) | exact HB.out)⟩
    · rw [if_neg c7] at H
      have c7b0 : (t275 == 0) = false := beq_eq_false_iff_ne.mpr c7
      have c7b1 : (t275 != 0) = true := bne_iff_ne.mpr c7
      simp only [Option.some.injEq, Prod.mk.injEq] at H
      obtain ⟨rfl, rfl⟩ := H
      go_enter Tryd.func9, Tryd.ntmps9
      go_wp2_with (first | ((with_reducible refine z0h (N := 3) rfl ?_); refine z0g ?hg (N := 3) ?hd (cs := #[.slice A0_0 l0_0.length c0_0, .int .i64 a0_1, .int .i64 a0_2, .int .i64 a0_3, .int .i64 a0_4]) (t := 24) ?hr ?_; (case hd => rfl); (case hg => rfl); (case hr => first | (go_simp; done) | (go_simp; rfl)); intro gb272 hg w31 hbox hb; have n0_ := z05.mk (z0a (by repeat (first | (with_reducible first | exact HB.out | apply z02 | apply z00 | apply z03) | exact HB.out)) hb); have n1_ := z05.mk (hbox); have n2_ := z05.mk ((by rw [hg]; exact (z0b (by repeat (first | (with_reducible first | exact HB.out | apply z02 | apply z00 | apply z03) | exact HB.out))) : w.heap.size ≤ gb272)); have n3_ := z05.mk ((by rw [hg]; exact (z0b (by repeat (first | (with_reducible first | exact HB.out | apply z02 | apply z00 | apply z03) | exact HB.out))) : w.heap.size ≤ gb272)); clear HB; have HB := n0_; have BK272 := n1_; have GW272 := n2_; have GE272 := n3_; clear n0_ n1_ n2_ n3_; clear hb hbox hg) | ((with_reducible refine z0h (N := 5) rfl ?_); refine z0g ?hg (N := 5) ?hd (cs := #[.int .i64 a2_0, .int .i64 a2_1, .slice A2_2 l2_2.length c2_2]) (t := 27) ?hr ?_; (case hd => rfl); (case hg => rfl); (case hr => first | (go_simp; done) | (go_simp; rfl)); intro gb273 hg w32 hbox hb; have n0_ := z05.mk (z0e (g := gb272) (o := .cells #[.slice A0_0 l0_0.length c0_0, .int .i64 a0_1, .int .i64 a0_2, .int .i64 a0_3, .int .i64 a0_4] 24 (0, 0)) (by (with_reducible repeat (first | refine z07 ?_ _ | refine z08 ?_ | refine z06 ?_ _)); exact BK272.out) hb); have n1_ := z05.mk (z0a (by repeat (first | (with_reducible first | exact HB.out | apply z02 | apply z00 | apply z03 | refine z09 ?_ GE272.out) | exact HB.out)) hb); have n2_ := z05.mk (hbox); have n3_ := z05.mk ((by rw [hg]; exact (z0b (by repeat (first | (with_reducible first | exact HB.out | apply z02 | apply z00 | apply z03 | refine z09 ?_ GE272.out) | exact HB.out))) : w.heap.size ≤ gb273)); have n4_ := z05.mk ((by rw [hg]; exact (z0b (by repeat (first | (with_reducible first | exact HB.out | apply z02 | apply z00 | apply z03 | refine z09 ?_ GE272.out) | exact HB.out))) : w.heap.size ≤ gb273)); have n5_ := z05.mk ((by rw [hg]; exact Nat.ne_of_lt (z0q (g := gb272) (o := .cells #[.slice A0_0 l0_0.length c0_0, .int .i64 a0_1, .int .i64 a0_2, .int .i64 a0_3, .int .i64 a0_4] 24 (0, 0)) (by (with_reducible repeat (first | refine z07 ?_ _ | refine z08 ?_ | refine z06 ?_ _)); exact BK272.out)) : gb272 ≠ gb273)); have n6_ := z05.mk ((by rw [hg]; exact Nat.ne_of_gt (z0q (g := gb272) (o := .cells #[.slice A0_0 l0_0.length c0_0, .int .i64 a0_1, .int .i64 a0_2, .int .i64 a0_3, .int .i64 a0_4] 24 (0, 0)) (by (with_reducible repeat (first | refine z07 ?_ _ | refine z08 ?_ | refine z06 ?_ _)); exact BK272.out)) : gb273 ≠ gb272)); clear BK272; clear HB; have BK272 := n0_; have HB := n1_; have BK273 := n2_; have GW273 := n3_; have GE273 := n4_; have NB272_273 := n5_; have NB273_272 := n6_; clear n0_ n1_ n2_ n3_ n4_ n5_ n6_; clear hb hbox hg; have hnb33 := NB272_273.out; have hnc33 := NB273_272.out; have hcz34_0 : w32.cell? ⟨gb272, 0, none⟩ = some (.slice A0_0 l0_0.length c0_0) := (z04 BK272.out 0).trans rfl; have hcz34_1 : w32.cell? ⟨gb272, 1, none⟩ = some (.int .i64 a0_1) := (z04 BK272.out 1).trans rfl; have hcz34_2 : w32.cell? ⟨gb272, 2, none⟩ = some (.int .i64 a0_2) := (z04 BK272.out 2).trans rfl; have hcz34_3 : w32.cell? ⟨gb272, 3, none⟩ = some (.int .i64 a0_3) := (z04 BK272.out 3).trans rfl; have hcz34_4 : w32.cell? ⟨gb272, 4, none⟩ = some (.int .i64 a0_4) := (z04 BK272.out 4).trans rfl; have hfz34_0 := z01 BK272.out 0; have hfz34_1 := z01 BK272.out 1; have hfz34_2 := z01 BK272.out 2; have hfz34_3 := z01 BK272.out 3; have hfz34_4 := z01 BK272.out 4) | ((with_reducible refine z0j (f := 19) rfl ?_); refine z0u (some 15) rfl rfl Tryd.func19 (by kernel_rfl) rfl #[.agg #[.slice A0_0 l0_0.length c0_0, .int .i64 a0_1, .int .i64 a0_2, .int .i64 a0_3, .int .i64 a0_4]] rfl (by (try simp only [List.map_toArray, List.map_cons, List.map_nil]); first | done | rfl | (simp only [List.length_drop, List.length_take]; rfl)) ?_; (with_reducible refine (winnowerref07_May.calls k _ _ l0_0 a0_1 a0_2 a0_3 a0_4 true _ ?side1 ?side2 A4.out).mono ?_); (case side1 => repeat (first | exact (Kd.C_below HR0_0.out HB.out) | (with_reducible refine Kd.C_alloc ?_ _) | (with_reducible refine Kd.C_drewN ?_ _) | (with_reducible refine Kd.C_drew ?_))); (case side2 => exact HC0_0.out); rintro e w35 ⟨rfl, hb⟩; refine ⟨_, rfl, ?_⟩; have n0_ := z05.mk (z0e (g := gb272) (o := .cells #[.slice A0_0 l0_0.length c0_0, .int .i64 a0_1, .int .i64 a0_2, .int .i64 a0_3, .int .i64 a0_4] 24 (0, 0)) (by (with_reducible repeat (first | refine z07 ?_ _ | refine z08 ?_ | refine z06 ?_ _)); exact BK272.out) hb); have n1_ := z05.mk (z0e (g := gb273) (o := .cells #[.int .i64 a2_0, .int .i64 a2_1, .slice A2_2 l2_2.length c2_2] 27 (0, 0)) (by (with_reducible repeat (first | refine z07 ?_ _ | refine z08 ?_ | refine z06 ?_ _)); exact BK273.out) hb); have n2_ := z05.mk (z0a (by repeat (first | (with_reducible first | exact HB.out | apply z02 | apply z00 | apply z03 | refine z09 ?_ GE272.out | refine z09 ?_ GE273.out) | exact HB.out)) hb); clear BK272; clear BK273; clear HB; have BK272 := n0_; have BK273 := n1_; have HB := n2_; clear n0_ n1_ n2_; (try clear hb); (try clear hb2); (try clear hk); (try clear hi); have hcz36_0 : w35.cell? ⟨gb273, 0, none⟩ = some (.int .i64 a2_0) := (z04 BK273.out 0).trans rfl; have hcz36_1 : w35.cell? ⟨gb273, 1, none⟩ = some (.int .i64 a2_1) := (z04 BK273.out 1).trans rfl; have hcz36_2 : w35.cell? ⟨gb273, 2, none⟩ = some (.slice A2_2 l2_2.length c2_2) := (z04 BK273.out 2).trans rfl; have hfz36_0 := z01 BK273.out 0; have hfz36_1 := z01 BK273.out 1; have hfz36_2 := z01 BK273.out 2) | ((with_reducible refine z0j (f := 12) rfl ?_); refine z0u (some 20) rfl rfl Tryd.func12 (by kernel_rfl) rfl #[.int .i64 a1, .agg #[.int .i64 a2_0, .int .i64 a2_1, .slice A2_2 l2_2.length c2_2]] rfl (by (try simp only [List.map_toArray, List.map_cons, List.map_nil]); first | done | rfl | (simp only [List.length_drop, List.length_take]; rfl)) ?_; (with_reducible refine (winnowerref22_Check.calls k a1 a2_0 a2_1 _ _ l2_2 t275 _ ?side1 ?side2 A6.out).mono ?_); (case side1 => repeat (first | exact (Kd.C_below HR2_2.out HB.out) | (with_reducible refine Kd.C_alloc ?_ _) | (with_reducible refine Kd.C_drewN ?_ _) | (with_reducible refine Kd.C_drew ?_))); (case side2 => exact HC2_2.out); rintro e w37 ⟨rfl, hb⟩; refine ⟨_, rfl, ?_⟩; have n0_ := z05.mk (z0e (g := gb272) (o := .cells #[.slice A0_0 l0_0.length c0_0, .int .i64 a0_1, .int .i64 a0_2, .int .i64 a0_3, .int .i64 a0_4] 24 (0, 0)) (by (with_reducible repeat (first | refine z07 ?_ _ | refine z08 ?_ | refine z06 ?_ _)); exact BK272.out) hb); have n1_ := z05.mk (z0e (g := gb273) (o := .cells #[.int .i64 a2_0, .int .i64 a2_1, .slice A2_2 l2_2.length c2_2] 27 (0, 0)) (by (with_reducible repeat (first | refine z07 ?_ _ | refine z08 ?_ | refine z06 ?_ _)); exact BK273.out) hb); have n2_ := z05.mk (z0a (by repeat (first | (with_reducible first | exact HB.out | apply z02 | apply z00 | apply z03 | refine z09 ?_ GE272.out | refine z09 ?_ GE273.out) | exact HB.out)) hb); clear BK272; clear BK273; clear HB; have BK272 := n0_; have BK273 := n1_; have HB := n2_; clear n0_ n1_ n2_; (try clear hb); (try clear hb2); (try clear hk); (try clear hi)))
      go_ret2
      exact ⟨_, by first | rfl | (simp [z0d, z0c] <;> rfl) | (refine congrArg (fun b_ : Bool => Ending.returned (Value.bool b_)) ?_; simp; done) | (simp [*, z0d, z0c] <;> rfl), by first | exact Kd.S_nil _ _ _ _ _ | exact Kd.N_nil _ _ _ _ _ | exact Kd.V_nil _ _ _ _ _ | exact Kd.Q_nil _ _ _ _ _ | exact Kd.R_nil _ _ _ _ _, by repeat (first | (with_reducible first | exact HB.out | apply z02 | apply z00 | apply z03 | refine z09 ?_ GE272.out | refine z09 ?_ GE273.out) | exact HB.out)⟩
  · replace c5 := Bool.eq_false_iff.mpr c5
    subst c5
    have H1 : (some (([] : List (S41)), 1)) = some (r1, r2) := by rw [if_neg (show ¬ (false = true) by decide)] at H; exact H
    clear H
    have H := H1
    clear H1
    simp only [Option.some.injEq, Prod.mk.injEq] at H
    obtain ⟨rfl, rfl⟩ := H
    go_enter Tryd.func9, Tryd.ntmps9
    go_wp2_with (first | ((with_reducible refine z0h (N := 3) rfl ?_); refine z0g ?hg (N := 3) ?hd (cs := #[.slice A0_0 l0_0.length c0_0, .int .i64 a0_1, .int .i64 a0_2, .int .i64 a0_3, .int .i64 a0_4]) (t := 24) ?hr ?_; (case hd => rfl); (case hg => rfl); (case hr => first | (go_simp; done) | (go_simp; rfl)); intro gb272 hg w38 hbox hb; have n0_ := z05.mk (z0a (by repeat (first | (with_reducible first | exact HB.out | apply z02 | apply z00 | apply z03) | exact HB.out)) hb); have n1_ := z05.mk (hbox); have n2_ := z05.mk ((by rw [hg]; exact (z0b (by repeat (first | (with_reducible first | exact HB.out | apply z02 | apply z00 | apply z03) | exact HB.out))) : w.heap.size ≤ gb272)); have n3_ := z05.mk ((by rw [hg]; exact (z0b (by repeat (first | (with_reducible first | exact HB.out | apply z02 | apply z00 | apply z03) | exact HB.out))) : w.heap.size ≤ gb272)); clear HB; have HB := n0_; have BK272 := n1_; have GW272 := n2_; have GE272 := n3_; clear n0_ n1_ n2_ n3_; clear hb hbox hg) | ((with_reducible refine z0h (N := 5) rfl ?_); refine z0g ?hg (N := 5) ?hd (cs := #[.int .i64 a2_0, .int .i64 a2_1, .slice A2_2 l2_2.length c2_2]) (t := 27) ?hr ?_; (case hd => rfl); (case hg => rfl); (case hr => first | (go_simp; done) | (go_simp; rfl)); intro gb273 hg w39 hbox hb; have n0_ := z05.mk (z0e (g := gb272) (o := .cells #[.slice A0_0 l0_0.length c0_0, .int .i64 a0_1, .int .i64 a0_2, .int .i64 a0_3, .int .i64 a0_4] 24 (0, 0)) (by (with_reducible repeat (first | refine z07 ?_ _ | refine z08 ?_ | refine z06 ?_ _)); exact BK272.out) hb); have n1_ := z05.mk (z0a (by repeat (first | (with_reducible first | exact HB.out | apply z02 | apply z00 | apply z03 | refine z09 ?_ GE272.out) | exact HB.out)) hb); have n2_ := z05.mk (hbox); have n3_ := z05.mk ((by rw [hg]; exact (z0b (by repeat (first | (with_reducible first | exact HB.out | apply z02 | apply z00 | apply z03 | refine z09 ?_ GE272.out) | exact HB.out))) : w.heap.size ≤ gb273)); have n4_ := z05.mk ((by rw [hg]; exact (z0b (by repeat (first | (with_reducible first | exact HB.out | apply z02 | apply z00 | apply z03 | refine z09 ?_ GE272.out) | exact HB.out))) : w.heap.size ≤ gb273)); have n5_ := z05.mk ((by rw [hg]; exact Nat.ne_of_lt (z0q (g := gb272) (o := .cells #[.slice A0_0 l0_0.length c0_0, .int .i64 a0_1, .int .i64 a0_2, .int .i64 a0_3, .int .i64 a0_4] 24 (0, 0)) (by (with_reducible repeat (first | refine z07 ?_ _ | refine z08 ?_ | refine z06 ?_ _)); exact BK272.out)) : gb272 ≠ gb273)); have n6_ := z05.mk ((by rw [hg]; exact Nat.ne_of_gt (z0q (g := gb272) (o := .cells #[.slice A0_0 l0_0.length c0_0, .int .i64 a0_1, .int .i64 a0_2, .int .i64 a0_3, .int .i64 a0_4] 24 (0, 0)) (by (with_reducible repeat (first | refine z07 ?_ _ | refine z08 ?_ | refine z06 ?_ _)); exact BK272.out)) : gb273 ≠ gb272)); clear BK272; clear HB; have BK272 := n0_; have HB := n1_; have BK273 := n2_; have GW273 := n3_; have GE273 := n4_; have NB272_273 := n5_; have NB273_272 := n6_; clear n0_ n1_ n2_ n3_ n4_ n5_ n6_; clear hb hbox hg; have hnb40 := NB272_273.out; have hnc40 := NB273_272.out; have hcz41_0 : w39.cell? ⟨gb272, 0, none⟩ = some (.slice A0_0 l0_0.length c0_0) := (z04 BK272.out 0).trans rfl; have hcz41_1 : w39.cell? ⟨gb272, 1, none⟩ = some (.int .i64 a0_1) := (z04 BK272.out 1).trans rfl; have hcz41_2 : w39.cell? ⟨gb272, 2, none⟩ = some (.int .i64 a0_2) := (z04 BK272.out 2).trans rfl; have hcz41_3 : w39.cell? ⟨gb272, 3, none⟩ = some (.int .i64 a0_3) := (z04 BK272.out 3).trans rfl; have hcz41_4 : w39.cell? ⟨gb272, 4, none⟩ = some (.int .i64 a0_4) := (z04 BK272.out 4).trans rfl; have hfz41_0 := z01 BK272.out 0; have hfz41_1 := z01 BK272.out 1; have hfz41_2 := z01 BK272.out 2; have hfz41_3 := z01 BK272.out 3; have hfz41_4 := z01 BK272.out 4) | ((with_reducible refine z0j (f := 19) rfl ?_); refine z0u (some 15) rfl rfl Tryd.func19 (by kernel_rfl) rfl #[.agg #[.slice A0_0 l0_0.length c0_0, .int .i64 a0_1, .int .i64 a0_2, .int .i64 a0_3, .int .i64 a0_4]] rfl (by (try simp only [List.map_toArray, List.map_cons, List.map_nil]); first | done | rfl | (simp only [List.length_drop, List.length_take]; rfl)) ?_; (with_reducible refine (winnowerref07_May.calls k _ _ l0_0 a0_1 a0_2 a0_3 a0_4 false _ ?side1 ?side2 A4.out).mono ?_); (case side1 => repeat (first | exact (Kd.C_below HR0_0.out HB.out) | (with_reducible refine Kd.C_alloc ?_ _) | (with_reducible refine Kd.C_drewN ?_ _) | (with_reducible refine Kd.C_drew ?_))); (case side2 => exact HC0_0.out); rintro e w42 ⟨rfl, hb⟩; refine ⟨_, rfl, ?_⟩; have n0_ := z05.mk (z0e (g := gb272) (o := .cells #[.slice A0_0 l0_0.length c0_0, .int .i64 a0_1, .int .i64 a0_2, .int .i64 a0_3, .int .i64 a0_4] 24 (0, 0)) (by (with_reducible repeat (first | refine z07 ?_ _ | refine z08 ?_ | refine z06 ?_ _)); exact BK272.out) hb); have n1_ := z05.mk (z0e (g := gb273) (o := .cells #[.int .i64 a2_0, .int .i64 a2_1, .slice A2_2 l2_2.length c2_2] 27 (0, 0)) (by (with_reducible repeat (first | refine z07 ?_ _ | refine z08 ?_ | refine z06 ?_ _)); exact BK273.out) hb); have n2_ := z05.mk (z0a (by repeat (first | (with_reducible first | exact HB.out | apply z02 | apply z00 | apply z03 | refine z09 ?_ GE272.out | refine z09 ?_ GE273.out) | exact HB.out)) hb); clear BK272; clear BK273; clear HB; have BK272 := n0_; have BK273 := n1_; have HB := n2_; clear n0_ n1_ n2_; (try clear hb); (try clear hb2); (try clear hk); (try clear hi)))
    go_ret2
    exact ⟨_, by first | rfl | (simp [z0d, z0c] <;> rfl) | (refine congrArg (fun b_ : Bool => Ending.returned (Value.bool b_)) ?_; simp; done) | (simp [*, z0d, z0c] <;> rfl), by first | exact Kd.S_nil _ _ _ _ _ | exact Kd.N_nil _ _ _ _ _ | exact Kd.V_nil _ _ _ _ _ | exact Kd.Q_nil _ _ _ _ _ | exact Kd.R_nil _ _ _ _ _, by repeat (first | (with_reducible first | exact HB.out | apply z02 | apply z00 | apply z03 | refine z09 ?_ GE272.out | refine z09 ?_ GE273.out) | exact HB.out)⟩

/-! ### winnowerref06_Same: function 21 -/
def winnowerref06_Same.l0 : Nat → List (S63) → List (S63) → Int → Option (Bool)
  | 0, _, _, _ => none
  | k + 1, x0, x1, x5 => if x5 < (x0.length : Int) then (if 0 ≤ x5 then (if x5 < (x1.length : Int) then (if (!(((z14 x0 x5).f0) == ((z14 x1 x5).f0)) || (!(((z14 x0 x5).f1) == ((z14 x1 x5).f1)) || (!((((z14 x0 x5).f2).toList) == (((z14 x1 x5).f2).toList)) || (!(((z14 x0 x5).f3) == ((z14 x1 x5).f3)))))) = true then (some false) else (winnowerref06_Same.l0 k x0 x1 (wrap64 (x5 + 1)))) else (none)) else (none)) else (some true)
def winnowerref06_Same.f (k : Nat) (l0 : List (S63)) (l1 : List (S63)) : Option (Bool) := if (l0.length : Int) = (l1.length : Int) then (winnowerref06_Same.l0 k l0 l1 0) else (some false)
set_option maxHeartbeats 8000000 in
set_option maxRecDepth 100000 in
theorem winnowerref06_Same.calls (k : Nat) (A0 : Option Addr) (c0 : Nat) (l0 : List (S63)) (A1 : Option Addr) (c1 : Nat) (l1 : List (S63)) (r : Bool) (w : World) (hr0 : Kd.C k63 w A0 l0.length l0) (hc0 : l0.length ≤ c0) (hr1 : Kd.C k63 w A1 l1.length l1) (hc1 : l1.length ≤ c1) (h : winnowerref06_Same.f k l0 l1 = some r) :
    Calls Tryd.prog 21 #[.slice A0 l0.length c0, .slice A1 l1.length c1] w fun e w' => e = .returned (.bool r) ∧ z0k w w' := by
  have hu63 := Tryd.underlying63
  have HR0 := z05.mk hr0
  have HC0 := z05.mk hc0
  clear hr0 hc0
  have HR1 := z05.mk hr1
  have HC1 := z05.mk hc1
  clear hr1 hc1
  have H : (if (l0.length : Int) = (l1.length : Int) then (winnowerref06_Same.l0 k l0 l1 0) else (some false)) = some r := h
  clear h
  by_cases c3 : (l0.length : Int) = (l1.length : Int)
  · rw [if_pos c3] at H
    have c3b0 : ((l0.length : Int) == (l1.length : Int)) = true := beq_iff_eq.mpr c3
    have c3b1 : ((l0.length : Int) != (l1.length : Int)) = false := bne_eq_false_iff_eq.mpr c3
    have c3b2 : (l0.length == l1.length) = true := by first | simpa using c3 | (simp at c3 ⊢; omega)
    clear c3
    have H' := z05.mk H
    clear H
    go_enter Tryd.func21, Tryd.ntmps21
    go_wp2
    repeat (go_quiet (fail); try go_wp2)
    go_loopg [5] k (fun kq v5 w' => ∃ (x5_1 : Int), v5 = .int .i64 x5_1 ∧ z05 (winnowerref06_Same.l0 kq l0 l1 x5_1 = some r) ∧ z05 (kq ≤ k) ∧ z0k w w')
    case atStart => exact ⟨(0), (by first | rfl | (simp; done) | (simp [*]; done)), H', ⟨Nat.le_refl _⟩, by repeat (first | exact z0k.refl _ | apply z0k.step)⟩
    case round =>
      clear H'
      try clear c1
      try clear c2
      try clear p2
      try clear c3
      try clear c3b0
      try clear c3b1
      try clear c3b2
      obtain ⟨x5_1, rfl, HA, HK1, ⟨m1, rfl⟩⟩ := hrel
      cases gk with
      | zero => exact absurd HA.out (by simp [winnowerref06_Same.l0])
      | succ k1 =>
        have H := HA.out
        clear HA
        simp only [winnowerref06_Same.l0] at H
        by_cases c4 : x5_1 < (l0.length : Int)
        · rw [if_pos c4] at H
          have c4b0 : decide (x5_1 < (l0.length : Int)) = true := decide_eq_true c4
          clear c4
          by_cases c5 : 0 ≤ x5_1
          · rw [if_pos c5] at H
            have c5b0 : decide (0 ≤ x5_1) = true := decide_eq_true c5
            clear c5
            by_cases c6 : x5_1 < (l1.length : Int)
            · rw [if_pos c6] at H
              have c6b0 : decide (x5_1 < (l1.length : Int)) = true := decide_eq_true c6
              clear c6
              by_cases c7 : (!(((z14 l0 x5_1).f0) == ((z14 l1 x5_1).f0)) || (!(((z14 l0 x5_1).f1) == ((z14 l1 x5_1).f1)) || (!((((z14 l0 x5_1).f2).toList) == (((z14 l1 x5_1).f2).toList)) || (!(((z14 l0 x5_1).f3) == ((z14 l1 x5_1).f3)))))) = true
              · rw [if_pos c7] at H
                have c7b0 : (!(((z14 l0 x5_1).f0) == ((z14 l1 x5_1).f0)) || (!(((z14 l0 x5_1).f1) == ((z14 l1 x5_1).f1)) || (!((((z14 l0 x5_1).f2).toList) == (((z14 l1 x5_1).f2).toList)) || (!(((z14 l0 x5_1).f3) == ((z14 l1 x5_1).f3)))))) = true := c7
                clear c7
                obtain rfl := Option.some.inj H
                have p284 : 0 ≤ (x5_1 : Int) := of_decide_eq_true (by first | (with_reducible assumption) | assumption)
                have q284 : x5_1 < (l0.length : Int) := of_decide_eq_true (by first | (with_reducible assumption) | assumption)
                obtain ⟨ad284, e284, hx284_0, hx284_1, hx284_2, hx284_3⟩ := z58 HR0.out x5_1 p284 q284
                cases e284
                replace p284 := eq_true p284
                replace q284 := eq_true q284
                have p285 : 0 ≤ (x5_1 : Int) := of_decide_eq_true (by first | (with_reducible assumption) | assumption)
                have q285 : x5_1 < (l1.length : Int) := of_decide_eq_true (by first | (with_reducible assumption) | assumption)
                obtain ⟨ad285, e285, hx285_0, hx285_1, hx285_2, hx285_3⟩ := z58 HR1.out x5_1 p285 q285
                cases e285
                replace p285 := eq_true p285
                replace q285 := eq_true q285
                go_wp2
                repeat (go_quiet (fail); try go_wp2)
                go_ret
                exact ⟨by first | rfl | (simp; done) | (simp [*]; done), by repeat (first | exact z0k.refl _ | apply z0k.step)⟩
              · rw [if_neg c7] at H
                have c7b0 : (!(((z14 l0 x5_1).f0) == ((z14 l1 x5_1).f0)) || (!(((z14 l0 x5_1).f1) == ((z14 l1 x5_1).f1)) || (!((((z14 l0 x5_1).f2).toList) == (((z14 l1 x5_1).f2).toList)) || (!(((z14 l0 x5_1).f3) == ((z14 l1 x5_1).f3)))))) = false := by simpa using c7
                clear c7
                have H' := z05.mk H
                clear H
                have p284 : 0 ≤ (x5_1 : Int) := of_decide_eq_true (by first | (with_reducible assumption) | assumption)
                have q284 : x5_1 < (l0.length : Int) := of_decide_eq_true (by first | (with_reducible assumption) | assumption)
                obtain ⟨ad284, e284, hx284_0, hx284_1, hx284_2, hx284_3⟩ := z58 HR0.out x5_1 p284 q284
                cases e284
                replace p284 := eq_true p284
                replace q284 := eq_true q284
                have p285 : 0 ≤ (x5_1 : Int) := of_decide_eq_true (by first | (with_reducible assumption) | assumption)
                have q285 : x5_1 < (l1.length : Int) := of_decide_eq_true (by first | (with_reducible assumption) | assumption)
                obtain ⟨ad285, e285, hx285_0, hx285_1, hx285_2, hx285_3⟩ := z58 HR1.out x5_1 p285 q285
                cases e285
                replace p285 := eq_true p285
                replace q285 := eq_true q285
                go_wp2
                repeat (go_quiet (fail); try go_wp2)
                go_roundg k1
                case measure => have := HK1.out; omega
                case rel => exact ⟨(wrap64 (x5_1 + 1)), (by first | rfl | (simp; done) | (simp [*]; done)), H', ⟨by have := HK1.out; omega⟩, by repeat (first | exact z0k.refl _ | apply z0k.step)⟩
            · rw [if_neg c6] at H
              exact absurd H (by simp)
          · rw [if_neg c5] at H
            exact absurd H (by simp)
        · rw [if_neg c4] at H
          have c4b0 : decide (x5_1 < (l0.length : Int)) = false := decide_eq_false c4
          clear c4
          obtain rfl := Option.some.inj H
          go_wp2
          repeat (go_quiet (fail); try go_wp2)
          go_ret
          exact ⟨by first | rfl | (simp; done) | (simp [*]; done), by repeat (first | exact z0k.refl _ | apply z0k.step)⟩
  · rw [if_neg c3] at H
    have c3b0 : ((l0.length : Int) == (l1.length : Int)) = false := beq_eq_false_iff_ne.mpr c3
    have c3b1 : ((l0.length : Int) != (l1.length : Int)) = true := bne_iff_ne.mpr c3
    have c3b2 : (l0.length == l1.length) = false := by first | simpa using c3 | (simp at c3 ⊢; omega)
    obtain rfl := Option.some.inj H
    go_enter Tryd.func21, Tryd.ntmps21
    go_wp2
    repeat (go_quiet (fail); try go_wp2)
    go_ret
    exact ⟨by first | rfl | (simp; done) | (simp [*]; done), by repeat (first | exact z0k.refl _ | apply z0k.step)⟩

/-! ### winnowerref22_Same: function 10 -/
def winnowerref22_Same.l0 : Nat → List (S41) → List (S41) → Int → Option (Bool)
  | 0, _, _, _ => none
  | k + 1, x0, x1, x5 => if x5 < (x0.length : Int) then (if 0 ≤ x5 then (if x5 < (x1.length : Int) then ((winnowerref06_Same.f k ((z0l x0 x5).f2) ((z0l x1 x5).f2)).bind fun t288 => (if t288 = true then (if ((z0l x0 x5).f0) = ((z0l x1 x5).f0) then (if (((z0l x0 x5).f1) != ((z0l x1 x5).f1)) = true then (some false) else (winnowerref22_Same.l0 k x0 x1 (wrap64 (x5 + 1)))) else (some false)) else (some false))) else (none)) else (none)) else (some true)
def winnowerref22_Same.f (k : Nat) (l0 : List (S41)) (l1 : List (S41)) : Option (Bool) := if (l0.length : Int) = (l1.length : Int) then (winnowerref22_Same.l0 k l0 l1 0) else (some false)
set_option maxHeartbeats 8000000 in
set_option maxRecDepth 100000 in
theorem winnowerref22_Same.calls (k : Nat) (A0 : Option Addr) (c0 : Nat) (l0 : List (S41)) (A1 : Option Addr) (c1 : Nat) (l1 : List (S41)) (r : Bool) (w : World) (hr0 : Kd.C k41 w A0 l0.length l0) (hc0 : l0.length ≤ c0) (hr1 : Kd.C k41 w A1 l1.length l1) (hc1 : l1.length ≤ c1) (h : winnowerref22_Same.f k l0 l1 = some r) :
    Calls Tryd.prog 10 #[.slice A0 l0.length c0, .slice A1 l1.length c1] w fun e w' => e = .returned (.bool r) ∧ z0k w w' := by
  have HR0 := z05.mk hr0
  have HC0 := z05.mk hc0
  clear hr0 hc0
  have HR1 := z05.mk hr1
  have HC1 := z05.mk hc1
  clear hr1 hc1
  have H : (if (l0.length : Int) = (l1.length : Int) then (winnowerref22_Same.l0 k l0 l1 0) else (some false)) = some r := h
  clear h
  by_cases c3 : (l0.length : Int) = (l1.length : Int)
  · rw [if_pos c3] at H
    have c3b0 : ((l0.length : Int) == (l1.length : Int)) = true := beq_iff_eq.mpr c3
    have c3b0y0 := c3b0
    (try simp only [hl286_2] at c3b0y0)
    have c3b0y1 := c3b0
    (try simp only [hl287_2] at c3b0y1)
    have c3b0y2 := c3b0
    (try simp only [hl289_2] at c3b0y2)
    have c3b0y3 := c3b0
    (try simp only [hl290_2] at c3b0y3)
    have c3b0y4 := c3b0
    (try simp only [hl291_2] at c3b0y4)
    have c3b0y5 := c3b0
    (try simp only [hl292_2] at c3b0y5)
    have c3b1 : ((l0.length : Int) != (l1.length : Int)) = false := bne_eq_false_iff_eq.mpr c3
    have c3b1y0 := c3b1
    (try simp only [hl286_2] at c3b1y0)
    have c3b1y1 := c3b1
    (try simp only [hl287_2] at c3b1y1)
    have c3b1y2 := c3b1
    (try simp only [hl289_2] at c3b1y2)
    have c3b1y3 := c3b1
    (try simp only [hl290_2] at c3b1y3)
    have c3b1y4 := c3b1
    (try simp only [hl291_2] at c3b1y4)
    have c3b1y5 := c3b1
    (try simp only [hl292_2] at c3b1y5)
    have c3b2 : (l0.length == l1.length) = true := by first | simpa using c3 | (simp at c3 ⊢; omega)
    have c3b2y0 := c3b2
    (try simp only [hl286_2] at c3b2y0)
    have c3b2y1 := c3b2
    (try simp only [hl287_2] at c3b2y1)
    have c3b2y2 := c3b2
    (try simp only [hl289_2] at c3b2y2)
    have c3b2y3 := c3b2
    (try simp only [hl290_2] at c3b2y3)
    have c3b2y4 := c3b2
    (try simp only [hl291_2] at c3b2y4)
    have c3b2y5 := c3b2
    (try simp only [hl292_2] at c3b2y5)
    clear c3
    have H' := z05.mk H
    clear H
    go_enter Tryd.func10, Tryd.ntmps10
    go_wp2
    repeat (go_quiet (fail); try go_wp2)
    go_loopg [5] k (fun kq v5 w' => ∃ (x5_1 : Int), v5 = .int .i64 x5_1 ∧ z05 (winnowerref22_Same.l0 kq l0 l1 x5_1 = some r) ∧ z05 (kq ≤ k) ∧ z0k w w')
    case atStart => exact ⟨(0), (by first | rfl | (simp; done) | (simp [*]; done)), H', ⟨Nat.le_refl _⟩, by repeat (first | exact z0k.refl _ | apply z0k.step)⟩
    case round =>
      clear H'
      try clear c1
      try clear p2
      try clear c3
      try clear c3b0
      try clear c3b1
      try clear c3b2
      obtain ⟨x5_1, rfl, HA, HK1, ⟨m1, rfl⟩⟩ := hrel
      cases gk with
      | zero => exact absurd HA.out (by simp [winnowerref22_Same.l0])
      | succ k1 =>
        have H := HA.out
        clear HA
        simp only [winnowerref22_Same.l0] at H
        by_cases c4 : x5_1 < (l0.length : Int)
        · rw [if_pos c4] at H
          have c4b0 : decide (x5_1 < (l0.length : Int)) = true := decide_eq_true c4
          have c4b0y0 := c4b0
          (try simp only [hl286_2] at c4b0y0)
          have c4b0y1 := c4b0
          (try simp only [hl287_2] at c4b0y1)
          have c4b0y2 := c4b0
          (try simp only [hl289_2] at c4b0y2)
          have c4b0y3 := c4b0
          (try simp only [hl290_2] at c4b0y3)
          have c4b0y4 := c4b0
          (try simp only [hl291_2] at c4b0y4)
          have c4b0y5 := c4b0
          (try simp only [hl292_2] at c4b0y5)
          clear c4
          by_cases c5 : 0 ≤ x5_1
          · rw [if_pos c5] at H
            have c5b0 : decide (0 ≤ x5_1) = true := decide_eq_true c5
            clear c5
            by_cases c6 : x5_1 < (l1.length : Int)
            · rw [if_pos c6] at H
              have c6b0 : decide (x5_1 < (l1.length : Int)) = true := decide_eq_true c6
              have c6b0y0 := c6b0
              (try simp only [hl286_2] at c6b0y0)
              have c6b0y1 := c6b0
              (try simp only [hl287_2] at c6b0y1)
              have c6b0y2 := c6b0
              (try simp only [hl289_2] at c6b0y2)
              have c6b0y3 := c6b0
              (try simp only [hl290_2] at c6b0y3)
              have c6b0y4 := c6b0
              (try simp only [hl291_2] at c6b0y4)
              have c6b0y5 := c6b0
              (try simp only [hl292_2] at c6b0y5)
              clear c6
              replace H := Option.bind_eq_some_iff.mp H
              obtain ⟨t288, A70, H⟩ := H
              replace H : (if t288 = true then (if ((z0l l0 x5_1).f0) = ((z0l l1 x5_1).f0) then (if (((z0l l0 x5_1).f1) != ((z0l l1 x5_1).f1)) = true then (some false) else (winnowerref22_Same.l0 k1 l0 l1 (wrap64 (x5_1 + 1)))) else (some false)) else (some false)) = some r := H
              have A7 := z05.mk A70
              clear A70
              by_cases c8 : t288 = true
              · subst c8
                have H1 : (if ((z0l l0 x5_1).f0) = ((z0l l1 x5_1).f0) then (if (((z0l l0 x5_1).f1) != ((z0l l1 x5_1).f1)) = true then (some false) else (winnowerref22_Same.l0 k1 l0 l1 (wrap64 (x5_1 + 1)))) else (some false)) = some r := by rw [if_pos rfl] at H; exact H
                clear H
                have H := H1
                clear H1
                by_cases c9 : ((z0l l0 x5_1).f0) = ((z0l l1 x5_1).f0)
                · rw [if_pos c9] at H
                  have c9b0 : (((z0l l0 x5_1).f0) == ((z0l l1 x5_1).f0)) = true := beq_iff_eq.mpr c9
                  have c9b1 : (((z0l l0 x5_1).f0) != ((z0l l1 x5_1).f0)) = false := bne_eq_false_iff_eq.mpr c9
                  clear c9
                  by_cases c10 : (((z0l l0 x5_1).f1) != ((z0l l1 x5_1).f1)) = true
                  · rw [if_pos c10] at H
                    have c10b0 : (((z0l l0 x5_1).f1) != ((z0l l1 x5_1).f1)) = true := c10
                    (try (have c10b1 : decide (((z0l l0 x5_1).f1) = ((z0l l1 x5_1).f1)) = false := by simpa using c10))
                    (try (have c10b2 : (((z0l l0 x5_1).f1) == ((z0l l1 x5_1).f1)) = false := by simpa using c10))
                    (try (have c10b3 : ¬ (((z0l l0 x5_1).f1) = ((z0l l1 x5_1).f1)) := by simpa using c10))
                    clear c10
                    obtain rfl := Option.some.inj H
                    have p286 : 0 ≤ (x5_1 : Int) := of_decide_eq_true (by first | (with_reducible assumption) | assumption)
                    have q286 : x5_1 < (l0.length : Int) := of_decide_eq_true (by first | (with_reducible assumption) | assumption)
                    obtain ⟨ad286, A286_2, c286_2, e286, hx286_0, hx286_1, hx286_2, hl286_2, hi286_2⟩ := z12 HR0.out x5_1 p286 q286
                    cases e286
                    have HR286_2 := z05.mk hi286_2
                    have HC286_2 := z05.mk hl286_2
                    clear hi286_2 hl286_2
                    replace p286 := eq_true p286
                    replace q286 := eq_true q286
                    have p287 : 0 ≤ (x5_1 : Int) := of_decide_eq_true (by first | (with_reducible assumption) | assumption)
                    have q287 : x5_1 < (l1.length : Int) := of_decide_eq_true (by first | (with_reducible assumption) | assumption)
                    obtain ⟨ad287, A287_2, c287_2, e287, hx287_0, hx287_1, hx287_2, hl287_2, hi287_2⟩ := z12 HR1.out x5_1 p287 q287
                    cases e287
                    have HR287_2 := z05.mk hi287_2
                    have HC287_2 := z05.mk hl287_2
                    clear hi287_2 hl287_2
                    replace p287 := eq_true p287
                    replace q287 := eq_true q287
                    go_wp2_with (first | (go_at_call 21; (with_reducible refine (winnowerref06_Same.calls k1 _ _ ((z0l l0 x5_1).f2) _ _ ((z0l l1 x5_1).f2) true _ ?side1 ?side2 ?side3 ?side4 A7.out).mono ?_); (case side1 => repeat (first | exact HR286_2.out | (with_reducible refine Kd.C_alloc ?_ _) | (with_reducible refine Kd.C_drewN ?_ _) | (with_reducible refine Kd.C_drew ?_))); (case side2 => exact HC286_2.out); (case side3 => repeat (first | exact HR287_2.out | (with_reducible refine Kd.C_alloc ?_ _) | (with_reducible refine Kd.C_drewN ?_ _) | (with_reducible refine Kd.C_drew ?_))); (case side4 => exact HC287_2.out); rintro e w' ⟨rfl, ⟨nd, rfl⟩⟩; (try first | exact ⟨rfl, _, World.drewN_drewN _ _ _⟩ | exact ⟨rfl, _, Eq.trans (World.drewN_drewN _ _ _) (congrArg (World.drewN _) (Nat.add_assoc _ _ _))⟩); have p289 : 0 ≤ (x5_1 : Int) := of_decide_eq_true (by first | (with_reducible assumption) | assumption); have q289 : x5_1 < (l0.length : Int) := of_decide_eq_true (by first | (with_reducible assumption) | assumption); obtain ⟨ad289, A289_2, c289_2, e289, hx289_0, hx289_1, hx289_2, hl289_2, hi289_2⟩ := z12 HR0.out x5_1 p289 q289; obtain rfl : ad286 = ad289 := (by injection e289); have HR289_2 := z05.mk hi289_2; have HC289_2 := z05.mk hl289_2; clear hi289_2 hl289_2; replace p289 := eq_true p289; replace q289 := eq_true q289; have ea_ := Option.some.inj (hx286_2.symm.trans hx289_2); injection ea_ with ea_ en_ ec_; subst ea_; subst ec_; clear en_; have p290 : 0 ≤ (x5_1 : Int) := of_decide_eq_true (by first | (with_reducible assumption) | assumption); have q290 : x5_1 < (l1.length : Int) := of_decide_eq_true (by first | (with_reducible assumption) | assumption); obtain ⟨ad290, A290_2, c290_2, e290, hx290_0, hx290_1, hx290_2, hl290_2, hi290_2⟩ := z12 HR1.out x5_1 p290 q290; obtain rfl : ad287 = ad290 := (by injection e290); have HR290_2 := z05.mk hi290_2; have HC290_2 := z05.mk hl290_2; clear hi290_2 hl290_2; replace p290 := eq_true p290; replace q290 := eq_true q290; have ea_ := Option.some.inj (hx287_2.symm.trans hx290_2); injection ea_ with ea_ en_ ec_; subst ea_; subst ec_; clear en_; have p291 : 0 ≤ (x5_1 : Int) := of_decide_eq_true (by first | (with_reducible assumption) | assumption); have q291 : x5_1 < (l0.length : Int) := of_decide_eq_true (by first | (with_reducible assumption) | assumption); obtain ⟨ad291, A291_2, c291_2, e291, hx291_0, hx291_1, hx291_2, hl291_2, hi291_2⟩ := z12 HR0.out x5_1 p291 q291; obtain rfl : ad286 = ad291 := (by injection e291); have HR291_2 := z05.mk hi291_2; have HC291_2 := z05.mk hl291_2; clear hi291_2 hl291_2; replace p291 := eq_true p291; replace q291 := eq_true q291; have ea_ := Option.some.inj (hx286_2.symm.trans hx291_2); injection ea_ with ea_ en_ ec_; subst ea_; subst ec_; clear en_; have p292 : 0 ≤ (x5_1 : Int) := of_decide_eq_true (by first | (with_reducible assumption) | assumption); have q292 : x5_1 < (l1.length : Int) := of_decide_eq_true (by first | (with_reducible assumption) | assumption); obtain ⟨ad292, A292_2, c292_2, e292, hx292_0, hx292_1, hx292_2, hl292_2, hi292_2⟩ := z12 HR1.out x5_1 p292 q292; obtain rfl : ad287 = ad292 := (by injection e292); have HR292_2 := z05.mk hi292_2; have HC292_2 := z05.mk hl292_2; clear hi292_2 hl292_2; replace p292 := eq_true p292; replace q292 := eq_true q292; have ea_ := Option.some.inj (hx287_2.symm.trans hx292_2); injection ea_ with ea_ en_ ec_; subst ea_; subst ec_; clear en_))
                    repeat (go_quiet (first | (go_at_call 21; (with_reducible refine (winnowerref06_Same.calls k1 _ _ ((z0l l0 x5_1).f2) _ _ ((z0l l1 x5_1).f2) true _ ?side1 ?side2 ?side3 ?side4 A7.out).mono ?_); (case side1 => repeat (first | exact HR286_2.out | (with_reducible refine Kd.C_alloc ?_ _) | (with_reducible refine Kd.C_drewN ?_ _) | (with_reducible refine Kd.C_drew ?_))); (case side2 => exact HC286_2.out); (case side3 => repeat (first | exact HR287_2.out | (with_reducible refine Kd.C_alloc ?_ _) | (with_reducible refine Kd.C_drewN ?_ _) | (with_reducible refine Kd.C_drew ?_))); (case side4 => exact HC287_2.out); rintro e w' ⟨rfl, ⟨nd, rfl⟩⟩; (try first | exact ⟨rfl, _, World.drewN_drewN _ _ _⟩ | exact ⟨rfl, _, Eq.trans (World.drewN_drewN _ _ _) (congrArg (World.drewN _) (Nat.add_assoc _ _ _))⟩); have p289 : 0 ≤ (x5_1 : Int) := of_decide_eq_true (by first | (with_reducible assumption) | assumption); have q289 : x5_1 < (l0.length : Int) := of_decide_eq_true (by first | (with_reducible assumption) | assumption); obtain ⟨ad289, A289_2, c289_2, e289, hx289_0, hx289_1, hx289_2, hl289_2, hi289_2⟩ := z12 HR0.out x5_1 p289 q289; obtain rfl : ad286 = ad289 := (by injection e289); have HR289_2 := z05.mk hi289_2; have HC289_2 := z05.mk hl289_2; clear hi289_2 hl289_2; replace p289 := eq_true p289; replace q289 := eq_true q289; have ea_ := Option.some.inj (hx286_2.symm.trans hx289_2); injection ea_ with ea_ en_ ec_; subst ea_; subst ec_; clear en_; have p290 : 0 ≤ (x5_1 : Int) := of_decide_eq_true (by first | (with_reducible assumption) | assumption); have q290 : x5_1 < (l1.length : Int) := of_decide_eq_true (by first | (with_reducible assumption) | assumption); obtain ⟨ad290, A290_2, c290_2, e290, hx290_0, hx290_1, hx290_2, hl290_2, hi290_2⟩ := z12 HR1.out x5_1 p290 q290; obtain rfl : ad287 = ad290 := (by injection e290); have HR290_2 := z05.mk hi290_2; have HC290_2 := z05.mk hl290_2; clear hi290_2 hl290_2; replace p290 := eq_true p290; replace q290 := eq_true q290; have ea_ := Option.some.inj (hx287_2.symm.trans hx290_2); injection ea_ with ea_ en_ ec_; subst ea_; subst ec_; clear en_; have p291 : 0 ≤ (x5_1 : Int) := of_decide_eq_true (by first | (with_reducible assumption) | assumption); have q291 : x5_1 < (l0.length : Int) := of_decide_eq_true (by first | (with_reducible assumption) | assumption); obtain ⟨ad291, A291_2, c291_2, e291, hx291_0, hx291_1, hx291_2, hl291_2, hi291_2⟩ := z12 HR0.out x5_1 p291 q291; obtain rfl : ad286 = ad291 := (by injection e291); have HR291_2 := z05.mk hi291_2; have HC291_2 := z05.mk hl291_2; clear hi291_2 hl291_2; replace p291 := eq_true p291; replace q291 := eq_true q291; have ea_ := Option.some.inj (hx286_2.symm.trans hx291_2); injection ea_ with ea_ en_ ec_; subst ea_; subst ec_; clear en_; have p292 : 0 ≤ (x5_1 : Int) := of_decide_eq_true (by first | (with_reducible assumption) | assumption); have q292 : x5_1 < (l1.length : Int) := of_decide_eq_true (by first | (with_reducible assumption) | assumption); obtain ⟨ad292, A292_2, c292_2, e292, hx292_0, hx292_1, hx292_2, hl292_2, hi292_2⟩ := z12 HR1.out x5_1 p292 q292; obtain rfl : ad287 = ad292 := (by injection e292); have HR292_2 := z05.mk hi292_2; have HC292_2 := z05.mk hl292_2; clear hi292_2 hl292_2; replace p292 := eq_true p292; replace q292 := eq_true q292; have ea_ := Option.some.inj (hx287_2.symm.trans hx292_2); injection ea_ with ea_ en_ ec_; subst ea_; subst ec_; clear en_)); try go_wp2_with (first | (go_at_call 21; (with_reducible refine (winnowerref06_Same.calls k1 _ _ ((z0l l0 x5_1).f2) _ _ ((z0l l1 x5_1).f2) true _ ?side1 ?side2 ?side3 ?side4 A7.out).mono ?_); (case side1 => repeat (first | exact HR286_2.out | (with_reducible refine Kd.C_alloc ?_ _) | (with_reducible refine Kd.C_drewN ?_ _) | (with_reducible refine Kd.C_drew ?_))); (case side2 => exact HC286_2.out); (case side3 => repeat (first | exact HR287_2.out | (with_reducible refine Kd.C_alloc ?_ _) | (with_reducible refine Kd.C_drewN ?_ _) | (with_reducible refine Kd.C_drew ?_))); (case side4 => exact HC287_2.out); rintro e w' ⟨rfl, ⟨nd, rfl⟩⟩; (try first | exact ⟨rfl, _, World.drewN_drewN _ _ _⟩ | exact ⟨rfl, _, Eq.trans (World.drewN_drewN _ _ _) (congrArg (World.drewN _) (Nat.add_assoc _ _ _))⟩); have p289 : 0 ≤ (x5_1 : Int) := of_decide_eq_true (by first | (with_reducible assumption) | assumption); have q289 : x5_1 < (l0.length : Int) := of_decide_eq_true (by first | (with_reducible assumption) | assumption); obtain ⟨ad289, A289_2, c289_2, e289, hx289_0, hx289_1, hx289_2, hl289_2, hi289_2⟩ := z12 HR0.out x5_1 p289 q289; obtain rfl : ad286 = ad289 := (by injection e289); have HR289_2 := z05.mk hi289_2; have HC289_2 := z05.mk hl289_2; clear hi289_2 hl289_2; replace p289 := eq_true p289; replace q289 := eq_true q289; have ea_ := Option.some.inj (hx286_2.symm.trans hx289_2); injection ea_ with ea_ en_ ec_; subst ea_; subst ec_; clear en_; have p290 : 0 ≤ (x5_1 : Int) := of_decide_eq_true (by first | (with_reducible assumption) | assumption); have q290 : x5_1 < (l1.length : Int) := of_decide_eq_true (by first | (with_reducible assumption) | assumption); obtain ⟨ad290, A290_2, c290_2, e290, hx290_0, hx290_1, hx290_2, hl290_2, hi290_2⟩ := z12 HR1.out x5_1 p290 q290; obtain rfl : ad287 = ad290 := (by injection e290); have HR290_2 := z05.mk hi290_2; have HC290_2 := z05.mk hl290_2; clear hi290_2 hl290_2; replace p290 := eq_true p290; replace q290 := eq_true q290; have ea_ := Option.some.inj (hx287_2.symm.trans hx290_2); injection ea_ with ea_ en_ ec_; subst ea_; subst ec_; clear en_; have p291 : 0 ≤ (x5_1 : Int) := of_decide_eq_true (by first | (with_reducible assumption) | assumption); have q291 : x5_1 < (l0.length : Int) := of_decide_eq_true (by first | (with_reducible assumption) | assumption); obtain ⟨ad291, A291_2, c291_2, e291, hx291_0, hx291_1, hx291_2, hl291_2, hi291_2⟩ := z12 HR0.out x5_1 p291 q291; obtain rfl : ad286 = ad291 := (by injection e291); have HR291_2 := z05.mk hi291_2; have HC291_2 := z05.mk hl291_2; clear hi291_2 hl291_2; replace p291 := eq_true p291; replace q291 := eq_true q291; have ea_ := Option.some.inj (hx286_2.symm.trans hx291_2); injection ea_ with ea_ en_ ec_; subst ea_; subst ec_; clear en_; have p292 : 0 ≤ (x5_1 : Int) := of_decide_eq_true (by first | (with_reducible assumption) | assumption); have q292 : x5_1 < (l1.length : Int) := of_decide_eq_true (by first | (with_reducible assumption) | assumption); obtain ⟨ad292, A292_2, c292_2, e292, hx292_0, hx292_1, hx292_2, hl292_2, hi292_2⟩ := z12 HR1.out x5_1 p292 q292; obtain rfl : ad287 = ad292 := (by injection e292); have HR292_2 := z05.mk hi292_2; have HC292_2 := z05.mk hl292_2; clear hi292_2 hl292_2; replace p292 := eq_true p292; replace q292 := eq_true q292; have ea_ := Option.some.inj (hx287_2.symm.trans hx292_2); injection ea_ with ea_ en_ ec_; subst ea_; subst ec_; clear en_)))
                    go_ret
                    exact ⟨by first | rfl | (simp; done) | (simp [*]; done), by repeat (first | exact z0k.refl _ | apply z0k.step)⟩
                  · rw [if_neg c10] at H
                    have c10b0 : (((z0l l0 x5_1).f1) != ((z0l l1 x5_1).f1)) = false := by simpa using c10
                    (try (have c10b1 : decide (((z0l l0 x5_1).f1) = ((z0l l1 x5_1).f1)) = true := by simpa using c10))
                    (try (have c10b2 : (((z0l l0 x5_1).f1) == ((z0l l1 x5_1).f1)) = true := by simpa using c10))
                    clear c10
                    have H' := z05.mk H
                    clear H
                    have p286 : 0 ≤ (x5_1 : Int) := of_decide_eq_true (by first | (with_reducible assumption) | assumption)
                    have q286 : x5_1 < (l0.length : Int) := of_decide_eq_true (by first | (with_reducible assumption) | assumption)
                    obtain ⟨ad286, A286_2, c286_2, e286, hx286_0, hx286_1, hx286_2, hl286_2, hi286_2⟩ := z12 HR0.out x5_1 p286 q286
                    cases e286
                    have HR286_2 := z05.mk hi286_2
                    have HC286_2 := z05.mk hl286_2
                    clear hi286_2 hl286_2
                    replace p286 := eq_true p286
                    replace q286 := eq_true q286
                    have p287 : 0 ≤ (x5_1 : Int) := of_decide_eq_true (by first | (with_reducible assumption) | assumption)
                    have q287 : x5_1 < (l1.length : Int) := of_decide_eq_true (by first | (with_reducible assumption) | assumption)
                    obtain ⟨ad287, A287_2, c287_2, e287, hx287_0, hx287_1, hx287_2, hl287_2, hi287_2⟩ := z12 HR1.out x5_1 p287 q287
                    cases e287
                    have HR287_2 := z05.mk hi287_2
                    have HC287_2 := z05.mk hl287_2
                    clear hi287_2 hl287_2
                    replace p287 := eq_true p287
                    replace q287 := eq_true q287
                    go_wp2_with (first | (go_at_call 21; (with_reducible refine (winnowerref06_Same.calls k1 _ _ ((z0l l0 x5_1).f2) _ _ ((z0l l1 x5_1).f2) true _ ?side1 ?side2 ?side3 ?side4 A7.out).mono ?_); (case side1 => repeat (first | exact HR286_2.out | (with_reducible refine Kd.C_alloc ?_ _) | (with_reducible refine Kd.C_drewN ?_ _) | (with_reducible refine Kd.C_drew ?_))); (case side2 => exact HC286_2.out); (case side3 => repeat (first | exact HR287_2.out | (with_reducible refine Kd.C_alloc ?_ _) | (with_reducible refine Kd.C_drewN ?_ _) | (with_reducible refine Kd.C_drew ?_))); (case side4 => exact HC287_2.out); rintro e w' ⟨rfl, ⟨nd, rfl⟩⟩; (try first | exact ⟨rfl, _, World.drewN_drewN _ _ _⟩ | exact ⟨rfl, _, Eq.trans (World.drewN_drewN _ _ _) (congrArg (World.drewN _) (Nat.add_assoc _ _ _))⟩); have p289 : 0 ≤ (x5_1 : Int) := of_decide_eq_true (by first | (with_reducible assumption) | assumption); have q289 : x5_1 < (l0.length : Int) := of_decide_eq_true (by first | (with_reducible assumption) | assumption); obtain ⟨ad289, A289_2, c289_2, e289, hx289_0, hx289_1, hx289_2, hl289_2, hi289_2⟩ := z12 HR0.out x5_1 p289 q289; obtain rfl : ad286 = ad289 := (by injection e289); have HR289_2 := z05.mk hi289_2; have HC289_2 := z05.mk hl289_2; clear hi289_2 hl289_2; replace p289 := eq_true p289; replace q289 := eq_true q289; have ea_ := Option.some.inj (hx286_2.symm.trans hx289_2); injection ea_ with ea_ en_ ec_; subst ea_; subst ec_; clear en_; have p290 : 0 ≤ (x5_1 : Int) := of_decide_eq_true (by first | (with_reducible assumption) | assumption); have q290 : x5_1 < (l1.length : Int) := of_decide_eq_true (by first | (with_reducible assumption) | assumption); obtain ⟨ad290, A290_2, c290_2, e290, hx290_0, hx290_1, hx290_2, hl290_2, hi290_2⟩ := z12 HR1.out x5_1 p290 q290; obtain rfl : ad287 = ad290 := (by injection e290); have HR290_2 := z05.mk hi290_2; have HC290_2 := z05.mk hl290_2; clear hi290_2 hl290_2; replace p290 := eq_true p290; replace q290 := eq_true q290; have ea_ := Option.some.inj (hx287_2.symm.trans hx290_2); injection ea_ with ea_ en_ ec_; subst ea_; subst ec_; clear en_; have p291 : 0 ≤ (x5_1 : Int) := of_decide_eq_true (by first | (with_reducible assumption) | assumption); have q291 : x5_1 < (l0.length : Int) := of_decide_eq_true (by first | (with_reducible assumption) | assumption); obtain ⟨ad291, A291_2, c291_2, e291, hx291_0, hx291_1, hx291_2, hl291_2, hi291_2⟩ := z12 HR0.out x5_1 p291 q291; obtain rfl : ad286 = ad291 := (by injection e291); have HR291_2 := z05.mk hi291_2; have HC291_2 := z05.mk hl291_2; clear hi291_2 hl291_2; replace p291 := eq_true p291; replace q291 := eq_true q291; have ea_ := Option.some.inj (hx286_2.symm.trans hx291_2); injection ea_ with ea_ en_ ec_; subst ea_; subst ec_; clear en_; have p292 : 0 ≤ (x5_1 : Int) := of_decide_eq_true (by first | (with_reducible assumption) | assumption); have q292 : x5_1 < (l1.length : Int) := of_decide_eq_true (by first | (with_reducible assumption) | assumption); obtain ⟨ad292, A292_2, c292_2, e292, hx292_0, hx292_1, hx292_2, hl292_2, hi292_2⟩ := z12 HR1.out x5_1 p292 q292; obtain rfl : ad287 = ad292 := (by injection e292); have HR292_2 := z05.mk hi292_2; have HC292_2 := z05.mk hl292_2; clear hi292_2 hl292_2; replace p292 := eq_true p292; replace q292 := eq_true q292; have ea_ := Option.some.inj (hx287_2.symm.trans hx292_2); injection ea_ with ea_ en_ ec_; subst ea_; subst ec_; clear en_))
                    repeat (go_quiet (first | (go_at_call 21; (with_reducible refine (winnowerref06_Same.calls k1 _ _ ((z0l l0 x5_1).f2) _ _ ((z0l l1 x5_1).f2) true _ ?side1 ?side2 ?side3 ?side4 A7.out).mono ?_); (case side1 => repeat (first | exact HR286_2.out | (with_reducible refine Kd.C_alloc ?_ _) | (with_reducible refine Kd.C_drewN ?_ _) | (with_reducible refine Kd.C_drew ?_))); (case side2 => exact HC286_2.out); (case side3 => repeat (first | exact HR287_2.out | (with_reducible refine Kd.C_alloc ?_ _) | (with_reducible refine Kd.C_drewN ?_ _) | (with_reducible refine Kd.C_drew ?_))); (case side4 => exact HC287_2.out); rintro e w' ⟨rfl, ⟨nd, rfl⟩⟩; (try first | exact ⟨rfl, _, World.drewN_drewN _ _ _⟩ | exact ⟨rfl, _, Eq.trans (World.drewN_drewN _ _ _) (congrArg (World.drewN _) (Nat.add_assoc _ _ _))⟩); have p289 : 0 ≤ (x5_1 : Int) := of_decide_eq_true (by first | (with_reducible assumption) | assumption); have q289 : x5_1 < (l0.length : Int) := of_decide_eq_true (by first | (with_reducible assumption) | assumption); obtain ⟨ad289, A289_2, c289_2, e289, hx289_0, hx289_1, hx289_2, hl289_2, hi289_2⟩ := z12 HR0.out x5_1 p289 q289; obtain rfl : ad286 = ad289 := (by injection e289); have HR289_2 := z05.mk hi289_2; have HC289_2 := z05.mk hl289_2; clear hi289_2 hl289_2; replace p289 := eq_true p289; replace q289 := eq_true q289; have ea_ := Option.some.inj (hx286_2.symm.trans hx289_2); injection ea_ with ea_ en_ ec_; subst ea_; subst ec_; clear en_; have p290 : 0 ≤ (x5_1 : Int) := of_decide_eq_true (by first | (with_reducible assumption) | assumption); have q290 : x5_1 < (l1.length : Int) := of_decide_eq_true (by first | (with_reducible assumption) | assumption); obtain ⟨ad290, A290_2, c290_2, e290, hx290_0, hx290_1, hx290_2, hl290_2, hi290_2⟩ := z12 HR1.out x5_1 p290 q290; obtain rfl : ad287 = ad290 := (by injection e290); have HR290_2 := z05.mk hi290_2; have HC290_2 := z05.mk hl290_2; clear hi290_2 hl290_2; replace p290 := eq_true p290; replace q290 := eq_true q290; have ea_ := Option.some.inj (hx287_2.symm.trans hx290_2); injection ea_ with ea_ en_ ec_; subst ea_; subst ec_; clear en_; have p291 : 0 ≤ (x5_1 : Int) := of_decide_eq_true (by first | (with_reducible assumption) | assumption); have q291 : x5_1 < (l0.length : Int) := of_decide_eq_true (by first | (with_reducible assumption) | assumption); obtain ⟨ad291, A291_2, c291_2, e291, hx291_0, hx291_1, hx291_2, hl291_2, hi291_2⟩ := z12 HR0.out x5_1 p291 q291; obtain rfl : ad286 = ad291 := (by injection e291); have HR291_2 := z05.mk hi291_2; have HC291_2 := z05.mk hl291_2; clear hi291_2 hl291_2; replace p291 := eq_true p291; replace q291 := eq_true q291; have ea_ := Option.some.inj (hx286_2.symm.trans hx291_2); injection ea_ with ea_ en_ ec_; subst ea_; subst ec_; clear en_; have p292 : 0 ≤ (x5_1 : Int) := of_decide_eq_true (by first | (with_reducible assumption) | assumption); have q292 : x5_1 < (l1.length : Int) := of_decide_eq_true (by first | (with_reducible assumption) | assumption); obtain ⟨ad292, A292_2, c292_2, e292, hx292_0, hx292_1, hx292_2, hl292_2, hi292_2⟩ := z12 HR1.out x5_1 p292 q292; obtain rfl : ad287 = ad292 := (by injection e292); have HR292_2 := z05.mk hi292_2; have HC292_2 := z05.mk hl292_2; clear hi292_2 hl292_2; replace p292 := eq_true p292; replace q292 := eq_true q292; have ea_ := Option.some.inj (hx287_2.symm.trans hx292_2); injection ea_ with ea_ en_ ec_; subst ea_; subst ec_; clear en_)); try go_wp2_with (first | (go_at_call 21; (with_reducible refine (winnowerref06_Same.calls k1 _ _ ((z0l l0 x5_1).f2) _ _ ((z0l l1 x5_1).f2) true _ ?side1 ?side2 ?side3 ?side4 A7.out).mono ?_); (case side1 => repeat (first | exact HR286_2.out | (with_reducible refine Kd.C_alloc ?_ _) | (with_reducible refine Kd.C_drewN ?_ _) | (with_reducible refine Kd.C_drew ?_))); (case side2 => exact HC286_2.out); (case side3 => repeat (first | exact HR287_2.out | (with_reducible refine Kd.C_alloc ?_ _) | (with_reducible refine Kd.C_drewN ?_ _) | (with_reducible refine Kd.C_drew ?_))); (case side4 => exact HC287_2.out); rintro e w' ⟨rfl, ⟨nd, rfl⟩⟩; (try first | exact ⟨rfl, _, World.drewN_drewN _ _ _⟩ | exact ⟨rfl, _, Eq.trans (World.drewN_drewN _ _ _) (congrArg (World.drewN _) (Nat.add_assoc _ _ _))⟩); have p289 : 0 ≤ (x5_1 : Int) := of_decide_eq_true (by first | (with_reducible assumption) | assumption); have q289 : x5_1 < (l0.length : Int) := of_decide_eq_true (by first | (with_reducible assumption) | assumption); obtain ⟨ad289, A289_2, c289_2, e289, hx289_0, hx289_1, hx289_2, hl289_2, hi289_2⟩ := z12 HR0.out x5_1 p289 q289; obtain rfl : ad286 = ad289 := (by injection e289); have HR289_2 := z05.mk hi289_2; have HC289_2 := z05.mk hl289_2; clear hi289_2 hl289_2; replace p289 := eq_true p289; replace q289 := eq_true q289; have ea_ := Option.some.inj (hx286_2.symm.trans hx289_2); injection ea_ with ea_ en_ ec_; subst ea_; subst ec_; clear en_; have p290 : 0 ≤ (x5_1 : Int) := of_decide_eq_true (by first | (with_reducible assumption) | assumption); have q290 : x5_1 < (l1.length : Int) := of_decide_eq_true (by first | (with_reducible assumption) | assumption); obtain ⟨ad290, A290_2, c290_2, e290, hx290_0, hx290_1, hx290_2, hl290_2, hi290_2⟩ := z12 HR1.out x5_1 p290 q290; obtain rfl : ad287 = ad290 := (by injection e290); have HR290_2 := z05.mk hi290_2; have HC290_2 := z05.mk hl290_2; clear hi290_2 hl290_2; replace p290 := eq_true p290; replace q290 := eq_true q290; have ea_ := Option.some.inj (hx287_2.symm.trans hx290_2); injection ea_ with ea_ en_ ec_; subst ea_; subst ec_; clear en_; have p291 : 0 ≤ (x5_1 : Int) := of_decide_eq_true (by first | (with_reducible assumption) | assumption); have q291 : x5_1 < (l0.length : Int) := of_decide_eq_true (by first | (with_reducible assumption) | assumption); obtain ⟨ad291, A291_2, c291_2, e291, hx291_0, hx291_1, hx291_2, hl291_2, hi291_2⟩ := z12 HR0.out x5_1 p291 q291; obtain rfl : ad286 = ad291 := (by injection e291); have HR291_2 := z05.mk hi291_2; have HC291_2 := z05.mk hl291_2; clear hi291_2 hl291_2; replace p291 := eq_true p291; replace q291 := eq_true q291; have ea_ := Option.some.inj (hx286_2.symm.trans hx291_2); injection ea_ with ea_ en_ ec_; subst ea_; subst ec_; clear en_; have p292 : 0 ≤ (x5_1 : Int) := of_decide_eq_true (by first | (with_reducible assumption) | assumption); have q292 : x5_1 < (l1.length : Int) := of_decide_eq_true (by first | (with_reducible assumption) | assumption); obtain ⟨ad292, A292_2, c292_2, e292, hx292_0, hx292_1, hx292_2, hl292_2, hi292_2⟩ := z12 HR1.out x5_1 p292 q292; obtain rfl : ad287 = ad292 := (by injection e292); have HR292_2 := z05.mk hi292_2; have HC292_2 := z05.mk hl292_2; clear hi292_2 hl292_2; replace p292 := eq_true p292; replace q292 := eq_true q292; have ea_ := Option.some.inj (hx287_2.symm.trans hx292_2); injection ea_ with ea_ en_ ec_; subst ea_; subst ec_; clear en_)))
                    go_roundg k1
                    case measure => have := HK1.out; omega
                    case rel => exact ⟨(wrap64 (x5_1 + 1)), (by first | rfl | (simp; done) | (simp [*]; done)), H', ⟨by have := HK1.out; omega⟩, by repeat (first | exact z0k.refl _ | apply z0k.step)⟩
                · rw [if_neg c9] at H
                  have c9b0 : (((z0l l0 x5_1).f0) == ((z0l l1 x5_1).f0)) = false := beq_eq_false_iff_ne.mpr c9
                  have c9b1 : (((z0l l0 x5_1).f0) != ((z0l l1 x5_1).f0)) = true := bne_iff_ne.mpr c9
                  obtain rfl := Option.some.inj H
                  have p286 : 0 ≤ (x5_1 : Int) := of_decide_eq_true (by first | (with_reducible assumption) | assumption)
                  have q286 : x5_1 < (l0.length : Int) := of_decide_eq_true (by first | (with_reducible assumption) | assumption)
                  obtain ⟨ad286, A286_2, c286_2, e286, hx286_0, hx286_1, hx286_2, hl286_2, hi286_2⟩ := z12 HR0.out x5_1 p286 q286
                  cases e286
                  have HR286_2 := z05.mk hi286_2
                  have HC286_2 := z05.mk hl286_2
                  clear hi286_2 hl286_2
                  replace p286 := eq_true p286
                  replace q286 := eq_true q286
                  have p287 : 0 ≤ (x5_1 : Int) := of_decide_eq_true (by first | (with_reducible assumption) | assumption)
                  have q287 : x5_1 < (l1.length : Int) := of_decide_eq_true (by first | (with_reducible assumption) | assumption)
                  obtain ⟨ad287, A287_2, c287_2, e287, hx287_0, hx287_1, hx287_2, hl287_2, hi287_2⟩ := z12 HR1.out x5_1 p287 q287
                  cases e287
                  have HR287_2 := z05.mk hi287_2
                  have HC287_2 := z05.mk hl287_2
                  clear hi287_2 hl287_2
                  replace p287 := eq_true p287
                  replace q287 := eq_true q287
                  go_wp2_with (first | (go_at_call 21; (with_reducible refine (winnowerref06_Same.calls k1 _ _ ((z0l l0 x5_1).f2) _ _ ((z0l l1 x5_1).f2) true _ ?side1 ?side2 ?side3 ?side4 A7.out).mono ?_); (case side1 => repeat (first | exact HR286_2.out | (with_reducible refine Kd.C_alloc ?_ _) | (with_reducible refine Kd.C_drewN ?_ _) | (with_reducible refine Kd.C_drew ?_))); (case side2 => exact HC286_2.out); (case side3 => repeat (first | exact HR287_2.out | (with_reducible refine Kd.C_alloc ?_ _) | (with_reducible refine Kd.C_drewN ?_ _) | (with_reducible refine Kd.C_drew ?_))); (case side4 => exact HC287_2.out); rintro e w' ⟨rfl, ⟨nd, rfl⟩⟩; (try first | exact ⟨rfl, _, World.drewN_drewN _ _ _⟩ | exact ⟨rfl, _, Eq.trans (World.drewN_drewN _ _ _) (congrArg (World.drewN _) (Nat.add_assoc _ _ _))⟩); have p289 : 0 ≤ (x5_1 : Int) := of_decide_eq_true (by first | (with_reducible assumption) | assumption); have q289 : x5_1 < (l0.length : Int) := of_decide_eq_true (by first | (with_reducible assumption) | assumption); obtain ⟨ad289, A289_2, c289_2, e289, hx289_0, hx289_1, hx289_2, hl289_2, hi289_2⟩ := z12 HR0.out x5_1 p289 q289; obtain rfl : ad286 = ad289 := (by injection e289); have HR289_2 := z05.mk hi289_2; have HC289_2 := z05.mk hl289_2; clear hi289_2 hl289_2; replace p289 := eq_true p289; replace q289 := eq_true q289; have ea_ := Option.some.inj (hx286_2.symm.trans hx289_2); injection ea_ with ea_ en_ ec_; subst ea_; subst ec_; clear en_; have p290 : 0 ≤ (x5_1 : Int) := of_decide_eq_true (by first | (with_reducible assumption) | assumption); have q290 : x5_1 < (l1.length : Int) := of_decide_eq_true (by first | (with_reducible assumption) | assumption); obtain ⟨ad290, A290_2, c290_2, e290, hx290_0, hx290_1, hx290_2, hl290_2, hi290_2⟩ := z12 HR1.out x5_1 p290 q290; obtain rfl : ad287 = ad290 := (by injection e290); have HR290_2 := z05.mk hi290_2; have HC290_2 := z05.mk hl290_2; clear hi290_2 hl290_2; replace p290 := eq_true p290; replace q290 := eq_true q290; have ea_ := Option.some.inj (hx287_2.symm.trans hx290_2); injection ea_ with ea_ en_ ec_; subst ea_; subst ec_; clear en_))
                  repeat (go_quiet (first | (go_at_call 21; (with_reducible refine (winnowerref06_Same.calls k1 _ _ ((z0l l0 x5_1).f2) _ _ ((z0l l1 x5_1).f2) true _ ?side1 ?side2 ?side3 ?side4 A7.out).mono ?_); (case side1 => repeat (first | exact HR286_2.out | (with_reducible refine Kd.C_alloc ?_ _) | (with_reducible refine Kd.C_drewN ?_ _) | (with_reducible refine Kd.C_drew ?_))); (case side2 => exact HC286_2.out); (case side3 => repeat (first | exact HR287_2.out | (with_reducible refine Kd.C_alloc ?_ _) | (with_reducible refine Kd.C_drewN ?_ _) | (with_reducible refine Kd.C_drew ?_))); (case side4 => exact HC287_2.out); rintro e w' ⟨rfl, ⟨nd, rfl⟩⟩; (try first | exact ⟨rfl, _, World.drewN_drewN _ _ _⟩ | exact ⟨rfl, _, Eq.trans (World.drewN_drewN _ _ _) (congrArg (World.drewN _) (Nat.add_assoc _ _ _))⟩); have p289 : 0 ≤ (x5_1 : Int) := of_decide_eq_true (by first | (with_reducible assumption) | assumption); have q289 : x5_1 < (l0.length : Int) := of_decide_eq_true (by first | (with_reducible assumption) | assumption); obtain ⟨ad289, A289_2, c289_2, e289, hx289_0, hx289_1, hx289_2, hl289_2, hi289_2⟩ := z12 HR0.out x5_1 p289 q289; obtain rfl : ad286 = ad289 := (by injection e289); have HR289_2 := z05.mk hi289_2; have HC289_2 := z05.mk hl289_2; clear hi289_2 hl289_2; replace p289 := eq_true p289; replace q289 := eq_true q289; have ea_ := Option.some.inj (hx286_2.symm.trans hx289_2); injection ea_ with ea_ en_ ec_; subst ea_; subst ec_; clear en_; have p290 : 0 ≤ (x5_1 : Int) := of_decide_eq_true (by first | (with_reducible assumption) | assumption); have q290 : x5_1 < (l1.length : Int) := of_decide_eq_true (by first | (with_reducible assumption) | assumption); obtain ⟨ad290, A290_2, c290_2, e290, hx290_0, hx290_1, hx290_2, hl290_2, hi290_2⟩ := z12 HR1.out x5_1 p290 q290; obtain rfl : ad287 = ad290 := (by injection e290); have HR290_2 := z05.mk hi290_2; have HC290_2 := z05.mk hl290_2; clear hi290_2 hl290_2; replace p290 := eq_true p290; replace q290 := eq_true q290; have ea_ := Option.some.inj (hx287_2.symm.trans hx290_2); injection ea_ with ea_ en_ ec_; subst ea_; subst ec_; clear en_)); try go_wp2_with (first | (go_at_call 21; (with_reducible refine (winnowerref06_Same.calls k1 _ _ ((z0l l0 x5_1).f2) _ _ ((z0l l1 x5_1).f2) true _ ?side1 ?side2 ?side3 ?side4 A7.out).mono ?_); (case side1 => repeat (first | exact HR286_2.out | (with_reducible refine Kd.C_alloc ?_ _) | (with_reducible refine Kd.C_drewN ?_ _) | (with_reducible refine Kd.C_drew ?_))); (case side2 => exact HC286_2.out); (case side3 => repeat (first | exact HR287_2.out | (with_reducible refine Kd.C_alloc ?_ _) | (with_reducible refine Kd.C_drewN ?_ _) | (with_reducible refine Kd.C_drew ?_))); (case side4 => exact HC287_2.out); rintro e w' ⟨rfl, ⟨nd, rfl⟩⟩; (try first | exact ⟨rfl, _, World.drewN_drewN _ _ _⟩ | exact ⟨rfl, _, Eq.trans (World.drewN_drewN _ _ _) (congrArg (World.drewN _) (Nat.add_assoc _ _ _))⟩); have p289 : 0 ≤ (x5_1 : Int) := of_decide_eq_true (by first | (with_reducible assumption) | assumption); have q289 : x5_1 < (l0.length : Int) := of_decide_eq_true (by first | (with_reducible assumption) | assumption); obtain ⟨ad289, A289_2, c289_2, e289, hx289_0, hx289_1, hx289_2, hl289_2, hi289_2⟩ := z12 HR0.out x5_1 p289 q289; obtain rfl : ad286 = ad289 := (by injection e289); have HR289_2 := z05.mk hi289_2; have HC289_2 := z05.mk hl289_2; clear hi289_2 hl289_2; replace p289 := eq_true p289; replace q289 := eq_true q289; have ea_ := Option.some.inj (hx286_2.symm.trans hx289_2); injection ea_ with ea_ en_ ec_; subst ea_; subst ec_; clear en_; have p290 : 0 ≤ (x5_1 : Int) := of_decide_eq_true (by first | (with_reducible assumption) | assumption); have q290 : x5_1 < (l1.length : Int) := of_decide_eq_true (by first | (with_reducible assumption) | assumption); obtain ⟨ad290, A290_2, c290_2, e290, hx290_0, hx290_1, hx290_2, hl290_2, hi290_2⟩ := z12 HR1.out x5_1 p290 q290; obtain rfl : ad287 = ad290 := (by injection e290); have HR290_2 := z05.mk hi290_2; have HC290_2 := z05.mk hl290_2; clear hi290_2 hl290_2; replace p290 := eq_true p290; replace q290 := eq_true q290; have ea_ := Option.some.inj (hx287_2.symm.trans hx290_2); injection ea_ with ea_ en_ ec_; subst ea_; subst ec_; clear en_)))
                  go_ret
                  exact ⟨by first | rfl | (simp; done) | (simp [*]; done), by repeat (first | exact z0k.refl _ | apply z0k.step)⟩
              · replace c8 := Bool.eq_false_iff.mpr c8
                subst c8
                have H1 : (some false) = some r := by rw [if_neg (show ¬ (false = true) by decide)] at H; exact H
                clear H
                have H := H1
                clear H1
                obtain rfl := Option.some.inj H
                have p286 : 0 ≤ (x5_1 : Int) := of_decide_eq_true (by first | (with_reducible assumption) | assumption)
                have q286 : x5_1 < (l0.length : Int) := of_decide_eq_true (by first | (with_reducible assumption) | assumption)
                obtain ⟨ad286, A286_2, c286_2, e286, hx286_0, hx286_1, hx286_2, hl286_2, hi286_2⟩ := z12 HR0.out x5_1 p286 q286
                cases e286
                have HR286_2 := z05.mk hi286_2
                have HC286_2 := z05.mk hl286_2
                clear hi286_2 hl286_2
                replace p286 := eq_true p286
                replace q286 := eq_true q286
                have p287 : 0 ≤ (x5_1 : Int) := of_decide_eq_true (by first | (with_reducible assumption) | assumption)
                have q287 : x5_1 < (l1.length : Int) := of_decide_eq_true (by first | (with_reducible assumption) | assumption)
                obtain ⟨ad287, A287_2, c287_2, e287, hx287_0, hx287_1, hx287_2, hl287_2, hi287_2⟩ := z12 HR1.out x5_1 p287 q287
                cases e287
                have HR287_2 := z05.mk hi287_2
                have HC287_2 := z05.mk hl287_2
                clear hi287_2 hl287_2
                replace p287 := eq_true p287
                replace q287 := eq_true q287
                go_wp2_with (first | (go_at_call 21; (with_reducible refine (winnowerref06_Same.calls k1 _ _ ((z0l l0 x5_1).f2) _ _ ((z0l l1 x5_1).f2) false _ ?side1 ?side2 ?side3 ?side4 A7.out).mono ?_); (case side1 => repeat (first | exact HR286_2.out | (with_reducible refine Kd.C_alloc ?_ _) | (with_reducible refine Kd.C_drewN ?_ _) | (with_reducible refine Kd.C_drew ?_))); (case side2 => exact HC286_2.out); (case side3 => repeat (first | exact HR287_2.out | (with_reducible refine Kd.C_alloc ?_ _) | (with_reducible refine Kd.C_drewN ?_ _) | (with_reducible refine Kd.C_drew ?_))); (case side4 => exact HC287_2.out); rintro e w' ⟨rfl, ⟨nd, rfl⟩⟩; (try first | exact ⟨rfl, _, World.drewN_drewN _ _ _⟩ | exact ⟨rfl, _, Eq.trans (World.drewN_drewN _ _ _) (congrArg (World.drewN _) (Nat.add_assoc _ _ _))⟩)))
                repeat (go_quiet (first | (go_at_call 21; (with_reducible refine (winnowerref06_Same.calls k1 _ _ ((z0l l0 x5_1).f2) _ _ ((z0l l1 x5_1).f2) false _ ?side1 ?side2 ?side3 ?side4 A7.out).mono ?_); (case side1 => repeat (first | exact HR286_2.out | (with_reducible refine Kd.C_alloc ?_ _) | (with_reducible refine Kd.C_drewN ?_ _) | (with_reducible refine Kd.C_drew ?_))); (case side2 => exact HC286_2.out); (case side3 => repeat (first | exact HR287_2.out | (with_reducible refine Kd.C_alloc ?_ _) | (with_reducible refine Kd.C_drewN ?_ _) | (with_reducible refine Kd.C_drew ?_))); (case side4 => exact HC287_2.out); rintro e w' ⟨rfl, ⟨nd, rfl⟩⟩; (try first | exact ⟨rfl, _, World.drewN_drewN _ _ _⟩ | exact ⟨rfl, _, Eq.trans (World.drewN_drewN _ _ _) (congrArg (World.drewN _) (Nat.add_assoc _ _ _))⟩))); try go_wp2_with (first | (go_at_call 21; (with_reducible refine (winnowerref06_Same.calls k1 _ _ ((z0l l0 x5_1).f2) _ _ ((z0l l1 x5_1).f2) false _ ?side1 ?side2 ?side3 ?side4 A7.out).mono ?_); (case side1 => repeat (first | exact HR286_2.out | (with_reducible refine Kd.C_alloc ?_ _) | (with_reducible refine Kd.C_drewN ?_ _) | (with_reducible refine Kd.C_drew ?_))); (case side2 => exact HC286_2.out); (case side3 => repeat (first | exact HR287_2.out | (with_reducible refine Kd.C_alloc ?_ _) | (with_reducible refine Kd.C_drewN ?_ _) | (with_reducible refine Kd.C_drew ?_))); (case side4 => exact HC287_2.out); rintro e w' ⟨rfl, ⟨nd, rfl⟩⟩; (try first | exact ⟨rfl, _, World.drewN_drewN _ _ _⟩ | exact ⟨rfl, _, Eq.trans (World.drewN_drewN _ _ _) (congrArg (World.drewN _) (Nat.add_assoc _ _ _))⟩))))
                go_ret
                exact ⟨by first | rfl | (simp; done) | (simp [*]; done), by repeat (first | exact z0k.refl _ | apply z0k.step)⟩
            · rw [if_neg c6] at H
              exact absurd H (by simp)
          · rw [if_neg c5] at H
            exact absurd H (by simp)
        · rw [if_neg c4] at H
          have c4b0 : decide (x5_1 < (l0.length : Int)) = false := decide_eq_false c4
          have c4b0y0 := c4b0
          (try simp only [hl286_2] at c4b0y0)
          have c4b0y1 := c4b0
          (try simp only [hl287_2] at c4b0y1)
          have c4b0y2 := c4b0
          (try simp only [hl289_2] at c4b0y2)
          have c4b0y3 := c4b0
          (try simp only [hl290_2] at c4b0y3)
          have c4b0y4 := c4b0
          (try simp only [hl291_2] at c4b0y4)
          have c4b0y5 := c4b0
          (try simp only [hl292_2] at c4b0y5)
          clear c4
          obtain rfl := Option.some.inj H
          go_wp2
          repeat (go_quiet (fail); try go_wp2)
          go_ret
          exact ⟨by first | rfl | (simp; done) | (simp [*]; done), by repeat (first | exact z0k.refl _ | apply z0k.step)⟩
  · rw [if_neg c3] at H
    have c3b0 : ((l0.length : Int) == (l1.length : Int)) = false := beq_eq_false_iff_ne.mpr c3
    have c3b0y0 := c3b0
    (try simp only [hl286_2] at c3b0y0)
    have c3b0y1 := c3b0
    (try simp only [hl287_2] at c3b0y1)
    have c3b0y2 := c3b0
    (try simp only [hl289_2] at c3b0y2)
    have c3b0y3 := c3b0
    (try simp only [hl290_2] at c3b0y3)
    have c3b0y4 := c3b0
    (try simp only [hl291_2] at c3b0y4)
    have c3b0y5 := c3b0
    (try simp only [hl292_2] at c3b0y5)
    have c3b1 : ((l0.length : Int) != (l1.length : Int)) = true := bne_iff_ne.mpr c3
    have c3b1y0 := c3b1
    (try simp only [hl286_2] at c3b1y0)
    have c3b1y1 := c3b1
    (try simp only [hl287_2] at c3b1y1)
    have c3b1y2 := c3b1
    (try simp only [hl289_2] at c3b1y2)
    have c3b1y3 := c3b1
    (try simp only [hl290_2] at c3b1y3)
    have c3b1y4 := c3b1
    (try simp only [hl291_2] at c3b1y4)
    have c3b1y5 := c3b1
    (try simp only [hl292_2] at c3b1y5)
    have c3b2 : (l0.length == l1.length) = false := by first | simpa using c3 | (simp at c3 ⊢; omega)
    have c3b2y0 := c3b2
    (try simp only [hl286_2] at c3b2y0)
    have c3b2y1 := c3b2
    (try simp only [hl287_2] at c3b2y1)
    have c3b2y2 := c3b2
    (try simp only [hl289_2] at c3b2y2)
    have c3b2y3 := c3b2
    (try simp only [hl290_2] at c3b2y3)
    have c3b2y4 := c3b2
    (try simp only [hl291_2] at c3b2y4)
    have c3b2y5 := c3b2
    (try simp only [hl292_2] at c3b2y5)
    obtain rfl := Option.some.inj H
    go_enter Tryd.func10, Tryd.ntmps10
    go_wp2
    repeat (go_quiet (fail); try go_wp2)
    go_ret
    exact ⟨by first | rfl | (simp; done) | (simp [*]; done), by repeat (first | exact z0k.refl _ | apply z0k.step)⟩

end Go.Proofs.YtimomihjghefdaaDoor.Q
