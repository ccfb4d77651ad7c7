/- The machine side of laws, written by wip/tools/myprint.py (the printer's way, with functions proved by hand put in); Lean checks it. -/
import Derived.Test.YteefchdfdgfaaaaDoorJ1
import Derived.Test.YteefchdfdgfaaaaDoorJ4
import Derived.Test.YteefchdfdgfaaaaDoorQx22
import Derived.Test.YteefchdfdgfaaaaDoorQx32
namespace Go.Proofs.YteefchdfdgfaaaaDoor.Q
open Go.RowKit Go.Proofs.YteefchdfdgfaaaaDoorW.PrintWords Go.Proofs.YteefchdfdgfaaaaDoorW.PrintLast Go.Proofs.YteefchdfdgfaaaaDoorW.PrintMore
attribute [local go_sem] max2_int min2_int max_two min_two max_three min_three max_four min_four   -- for this text's walks alone
set_option linter.unusedVariables false
set_option linter.unusedSimpArgs false

attribute [local go_sem high] eqA46
/-! ### winnowerref07_Decode: function 21 -/
def winnowerref07_Decode.l0 : Nat → List Int → List (S46) → Int → List (S48) → Int → Int → Int → Int → Option ((List (S46)) × Int)
  | 0, _, _, _, _, _, _, _, _ => none
  | k + 1, x1, x7, x8, x347000, x347001, x347002, x347003, x347004 => if x8 < (x347000.length : Int) then (if 0 ≤ x8 then (if (rd_T48 x347000 x8).f2 = true then (if (x1.length : Int) = 0 then (some (([] : List (S46)), 6)) else (if 0 < (x1.length : Int) then (if (rd x1 0) > 1 then (some (([] : List (S46)), 7)) else (if 1 ≤ (x1.length : Int) then ((some (x1.drop 1 : List Int)).bind fun y351 => (if (rd x1 0) = 0 then (if x7.length < 3518437208883 then (winnowerref07_Decode.l0 k y351 (x7 ++ [(⟨0, 0, (⟨#[]⟩ : ByteArray), false⟩ : S46)]) (wrap64 (x8 + 1)) x347000 x347001 x347002 x347003 x347004) else (none)) else ((winnowerref06_Get.f y351 ((rd_T48 x347000 x8).f1)).bind fun bt360 => (if bt360.2.2.2.2.2 = 0 then (if x7.length < 3518437208883 then (if 0 ≤ bt360.2.2.2.2.1 then (if bt360.2.2.2.2.1 ≤ (y351.length : Int) then (winnowerref07_Decode.l0 k (y351.drop (bt360.2.2.2.2.1 : Int).toNat) (x7 ++ [(⟨bt360.1, bt360.2.1, bt360.2.2.1, bt360.2.2.2.1⟩ : S46)]) (wrap64 (x8 + 1)) x347000 x347001 x347002 x347003 x347004) else (none)) else (none)) else (none)) else (some (([] : List (S46)), bt360.2.2.2.2.2)))))) else (none))) else (none))) else ((winnowerref06_Get.f x1 ((rd_T48 x347000 x8).f1)).bind fun bt376 => (if bt376.2.2.2.2.2 = 0 then (if x7.length < 3518437208883 then (if 0 ≤ bt376.2.2.2.2.1 then (if bt376.2.2.2.2.1 ≤ (x1.length : Int) then (winnowerref07_Decode.l0 k (x1.drop (bt376.2.2.2.2.1 : Int).toNat) (x7 ++ [(⟨bt376.1, bt376.2.1, bt376.2.2.1, bt376.2.2.2.1⟩ : S46)]) (wrap64 (x8 + 1)) x347000 x347001 x347002 x347003 x347004) else (none)) else (none)) else (none)) else (some (([] : List (S46)), bt376.2.2.2.2.2))))) else (none)) else (if (x1.length : Int) > 0 then (some (([] : List (S46)), 7)) else (some (x7, 0)))
def winnowerref07_Decode.f (k : Nat) (l0_0 : List (S48)) (a0_1 : Int) (a0_2 : Int) (a0_3 : Int) (a0_4 : Int) (l1 : List Int) : Option ((List (S46)) × Int) := (winnowerref07_May.f k l0_0 a0_1 a0_2 a0_3 a0_4).bind fun t347 => (if t347 = true then (winnowerref07_Decode.l0 k l1 ([] : List (S46)) 0 l0_0 a0_1 a0_2 a0_3 a0_4) else (some (([] : List (S46)), 1)))
set_option maxHeartbeats 8000000 in
set_option maxRecDepth 100000 in
theorem winnowerref07_Decode.calls (k : Nat) (A0_0 : Option Addr) (c0_0 : Nat) (l0_0 : List (S48)) (a0_1 : Int) (a0_2 : Int) (a0_3 : Int) (a0_4 : Int) (P1_ : Nat → Prop) (A1 : Option Addr) (c1 : Nat) (l1 : List Int) (r1 : List (S46)) (r2 : Int) (w : World) (hr0_0 : Kd.C k48 w A0_0 l0_0.length l0_0) (hc0_0 : l0_0.length ≤ c0_0) (hs1 : Kd.V (Kd.int .u8) 5 w w.heap.size (fun k_ => P1_ k_) (.slice A1 l1.length c1) l1) (h : winnowerref07_Decode.f k l0_0 a0_1 a0_2 a0_3 a0_4 l1 = some (r1, r2)) :
    Calls Tryd.prog 21 #[.agg #[.slice A0_0 l0_0.length c0_0, .int .i64 a0_1, .int .i64 a0_2, .int .i64 a0_3, .int .i64 a0_4], .slice A1 l1.length c1] w fun e w' => ∃ v0_ : Value, e = .returned (.tuple #[v0_, .int .i64 r2]) ∧ Kd.R k46 46 w' w.heap.size (fun k_ => (w.heap.size ≤ k_)) v0_ r1 ∧ Below w.heap.size w w' := by
  have hu24 := Tryd.underlying24
  have hu46 := Tryd.underlying46
  have HR0_0 := z05.mk hr0_0
  have HC0_0 := z05.mk hc0_0
  clear hr0_0 hc0_0
  have HO1 := z05.mk (show Kd.V (Kd.int .u8) 5 w w.heap.size (fun k_ => (P1_ k_ ∨ w.heap.size ≤ k_)) (.slice A1 l1.length c1) l1 from Kd.V_mono hs1 (fun k_ hk => .inl hk))
  have HB := z05.mk (Below.refl w.heap.size w)
  have H : ((winnowerref07_May.f k l0_0 a0_1 a0_2 a0_3 a0_4).bind fun t347 => (if t347 = true then (winnowerref07_Decode.l0 k l1 ([] : List (S46)) 0 l0_0 a0_1 a0_2 a0_3 a0_4) else (some (([] : List (S46)), 1)))) = some (r1, r2) := h
  clear h
  replace H := Option.bind_eq_some_iff.mp H
  obtain ⟨t347, A30, H⟩ := H
  replace H : (if t347 = true then (winnowerref07_Decode.l0 k l1 ([] : List (S46)) 0 l0_0 a0_1 a0_2 a0_3 a0_4) else (some (([] : List (S46)), 1))) = some (r1, r2) := H
  have A3 := z05.mk A30
  clear A30
  by_cases c4 : t347 = true
  · subst c4
    have H1 : (winnowerref07_Decode.l0 k l1 ([] : List (S46)) 0 l0_0 a0_1 a0_2 a0_3 a0_4) = some (r1, r2) := by rw [if_pos rfl] at H; exact H
    clear H
    have H := H1
    clear H1
    have H' := z05.mk H
    clear H
    go_enter Tryd.func21, Tryd.ntmps21
    go_wp2_with (first | ((with_reducible refine gate_dst (N := 2) rfl ?_); refine box_event ?hg (N := 2) ?hd (cs := #[.slice A0_0 l0_0.length c0_0, .int .i64 a0_1, .int .i64 a0_2, .int .i64 a0_3, .int .i64 a0_4]) (t := 24) ?hr ?_; (case hd => rfl); (case hg => rfl); (case hr => first | (go_simp; done) | (go_simp; rfl)); intro gb346 hg w5 hbox hb; have n0_ := z05.mk (Kd.V_below (Kd.V_elderB (by (with_reducible repeat (first | apply Kd.V_alloc | apply Kd.V_drewN | apply Kd.V_drew)); exact HO1.out) gb346 (Nat.le_of_eq hg.symm)) hb); have n1_ := z05.mk (below_step (by repeat (first | (with_reducible first | exact HB.out | apply z02 | apply z00 | apply z03) | exact HB.out)) hb); have n2_ := z05.mk (hbox); have n3_ := z05.mk ((by rw [hg]; exact (below_size (by repeat (first | (with_reducible first | exact HB.out | apply z02 | apply z00 | apply z03) | exact HB.out))) : w.heap.size ≤ gb346)); have n4_ := z05.mk ((by rw [hg]; exact (below_size (by repeat (first | (with_reducible first | exact HB.out | apply z02 | apply z00 | apply z03) | exact HB.out))) : w.heap.size ≤ gb346)); clear HO1; clear HB; have HO1 := n0_; have HB := n1_; have BK346 := n2_; have GW346 := n3_; have GE346 := n4_; clear n0_ n1_ n2_ n3_ n4_; clear hb hbox hg; have hcz6_0 : w5.cell? ⟨gb346, 0, none⟩ = some (.slice A0_0 l0_0.length c0_0) := (z04 BK346.out 0).trans rfl; have hcz6_1 : w5.cell? ⟨gb346, 1, none⟩ = some (.int .i64 a0_1) := (z04 BK346.out 1).trans rfl; have hcz6_2 : w5.cell? ⟨gb346, 2, none⟩ = some (.int .i64 a0_2) := (z04 BK346.out 2).trans rfl; have hcz6_3 : w5.cell? ⟨gb346, 3, none⟩ = some (.int .i64 a0_3) := (z04 BK346.out 3).trans rfl; have hcz6_4 : w5.cell? ⟨gb346, 4, none⟩ = some (.int .i64 a0_4) := (z04 BK346.out 4).trans rfl; have hfz6_0 := z01 BK346.out 0; have hfz6_1 := z01 BK346.out 1; have hfz6_2 := z01 BK346.out 2; have hfz6_3 := z01 BK346.out 3; have hfz6_4 := z01 BK346.out 4) | ((with_reducible refine gate_callee (f := 15) rfl ?_); refine goesL_ (some 14) rfl rfl Tryd.func15 (by kernel_rfl) rfl #[.agg #[.slice A0_0 l0_0.length c0_0, .int .i64 a0_1, .int .i64 a0_2, .int .i64 a0_3, .int .i64 a0_4]] rfl (by (try simp only [List.map_toArray, List.map_cons, List.map_nil]); first | done | rfl | (simp only [List.length_drop, List.length_take]; rfl)) ?_; (with_reducible refine (winnowerref07_May.calls k _ _ l0_0 a0_1 a0_2 a0_3 a0_4 true _ ?side1 ?side2 A3.out).mono ?_); (case side1 => repeat (first | exact (Kd.C_below HR0_0.out HB.out) | (with_reducible refine Kd.C_alloc ?_ _) | (with_reducible refine Kd.C_drewN ?_ _) | (with_reducible refine Kd.C_drew ?_))); (case side2 => exact HC0_0.out); rintro e w7 ⟨rfl, hb⟩; refine ⟨_, rfl, ?_⟩; have n0_ := z05.mk (Kd.V_below (by (with_reducible repeat (first | apply Kd.V_alloc | apply Kd.V_drewN | apply Kd.V_drew)); exact HO1.out) hb); have n1_ := z05.mk (blk_below (g := gb346) (o := .cells #[.slice A0_0 l0_0.length c0_0, .int .i64 a0_1, .int .i64 a0_2, .int .i64 a0_3, .int .i64 a0_4] 24 (0, 0)) (by (with_reducible repeat (first | refine z07 ?_ _ | refine z08 ?_ | refine z06 ?_ _)); exact BK346.out) hb); have n2_ := z05.mk (below_step (by repeat (first | (with_reducible first | exact HB.out | apply z02 | apply z00 | apply z03 | refine z09 ?_ GE346.out) | exact HB.out)) hb); clear HO1; clear BK346; clear HB; have HO1 := n0_; have BK346 := n1_; have HB := n2_; clear n0_ n1_ n2_; (try clear hb); (try clear hb2); (try clear hk); (try clear hi)))
    go_loopg [1, 7, 8] k (fun kq v1 v7 v8 w' => ∃ (x1_1 : List Int) (x7_1 : List (S46)) (x8_1 : Int), v8 = .int .i64 x8_1 ∧ z05 (winnowerref07_Decode.l0 kq x1_1 x7_1 x8_1 l0_0 a0_1 a0_2 a0_3 a0_4 = some (r1, r2)) ∧ z05 (kq ≤ k) ∧ z05 (Kd.V (Kd.int .u8) 5 w' w.heap.size (fun k_ => (P1_ k_ ∨ w.heap.size ≤ k_) ∧ some k_ ≠ (v7 : Value).ownBlock ∧ k_ ≠ gb346) v1 x1_1) ∧ z05 (Kd.R k46 46 w' w.heap.size (fun k_ => (w.heap.size ≤ k_)) v7 x7_1) ∧ z05 (w'.heap[gb346]? = some (.cells #[(.slice A0_0 l0_0.length c0_0), .int .i64 a0_1, .int .i64 a0_2, .int .i64 a0_3, .int .i64 a0_4] 24 (0, 0))) ∧ z05 (Below w.heap.size w w'))
    case atStart => exact ⟨(l1), (([] : List (S46))), (0), (by first | rfl | (simp; done) | (simp [*]; done)), H', ⟨Nat.le_refl _⟩, ⟨by (with_reducible repeat (first | apply Kd.V_alloc | apply Kd.V_drewN | apply Kd.V_drew)); exact Kd.V_mono HO1.out (fun _ hk => ⟨hk.1, ⟨(by simp [Value.ownBlock]), hk.2⟩⟩)⟩, ⟨by first | exact Kd.R_nil _ _ _ _ _ | exact Kd.N_nil _ _ _ _ _ | exact Kd.V_nil _ _ _ _ _ | exact Kd.Q_nil _ _ _ _ _ | exact Kd.S_nil _ _ _ _ _⟩, ⟨by (with_reducible repeat (first | refine z07 ?_ _ | refine z08 ?_ | refine z06 ?_ _)); exact BK346.out⟩, ⟨by repeat (first | (with_reducible first | exact HB.out | apply z02 | apply z00 | apply z03 | refine z09 ?_ GE346.out) | exact HB.out)⟩⟩
    case round =>
      clear H'
      try clear c1
      try clear c2
      try clear p2
      try clear c4
      try clear hcz6_0
      try clear hcz6_1
      try clear hcz6_2
      try clear hcz6_3
      try clear hcz6_4
      try clear hfz6_0
      try clear hfz6_1
      try clear hfz6_2
      try clear hfz6_3
      try clear hfz6_4
      obtain ⟨x1_1, x7_1, x8_1, rfl, HA, HK1, HO_1, HO_7, BK346, HB⟩ := hrel
      cases gk with
      | zero => exact absurd HA.out (by simp [winnowerref07_Decode.l0])
      | succ k1 =>
        have H := HA.out
        clear HA
        simp only [winnowerref07_Decode.l0] at H
        by_cases c8 : x8_1 < (l0_0.length : Int)
        · rw [if_pos c8] at H
          have c8b0 : decide (x8_1 < (l0_0.length : Int)) = true := decide_eq_true c8
          clear c8
          by_cases c9 : 0 ≤ x8_1
          · rw [if_pos c9] at H
            have c9b0 : decide (0 ≤ x8_1) = true := decide_eq_true c9
            clear c9
            obtain ⟨bq10, hbq10⟩ : ∃ b_ : Bool, b_ = ((rd_T48 l0_0 x8_1).f2) := ⟨_, rfl⟩
            replace H : (if bq10 = true then (if (x1_1.length : Int) = 0 then (some (([] : List (S46)), 6)) else (if 0 < (x1_1.length : Int) then (if (rd x1_1 0) > 1 then (some (([] : List (S46)), 7)) else (if 1 ≤ (x1_1.length : Int) then ((some (x1_1.drop 1 : List Int)).bind fun y351 => (if (rd x1_1 0) = 0 then (if x7_1.length < 3518437208883 then (winnowerref07_Decode.l0 k1 y351 (x7_1 ++ [(⟨0, 0, (⟨#[]⟩ : ByteArray), false⟩ : S46)]) (wrap64 (x8_1 + 1)) l0_0 a0_1 a0_2 a0_3 a0_4) else (none)) else ((winnowerref06_Get.f y351 ((rd_T48 l0_0 x8_1).f1)).bind fun bt360 => (if bt360.2.2.2.2.2 = 0 then (if x7_1.length < 3518437208883 then (if 0 ≤ bt360.2.2.2.2.1 then (if bt360.2.2.2.2.1 ≤ (y351.length : Int) then (winnowerref07_Decode.l0 k1 (y351.drop (bt360.2.2.2.2.1 : Int).toNat) (x7_1 ++ [(⟨bt360.1, bt360.2.1, bt360.2.2.1, bt360.2.2.2.1⟩ : S46)]) (wrap64 (x8_1 + 1)) l0_0 a0_1 a0_2 a0_3 a0_4) else (none)) else (none)) else (none)) else (some (([] : List (S46)), bt360.2.2.2.2.2)))))) else (none))) else (none))) else ((winnowerref06_Get.f x1_1 ((rd_T48 l0_0 x8_1).f1)).bind fun bt376 => (if bt376.2.2.2.2.2 = 0 then (if x7_1.length < 3518437208883 then (if 0 ≤ bt376.2.2.2.2.1 then (if bt376.2.2.2.2.1 ≤ (x1_1.length : Int) then (winnowerref07_Decode.l0 k1 (x1_1.drop (bt376.2.2.2.2.1 : Int).toNat) (x7_1 ++ [(⟨bt376.1, bt376.2.1, bt376.2.2.1, bt376.2.2.2.1⟩ : S46)]) (wrap64 (x8_1 + 1)) l0_0 a0_1 a0_2 a0_3 a0_4) else (none)) else (none)) else (none)) else (some (([] : List (S46)), bt376.2.2.2.2.2))))) = some (r1, r2) := by rw [← hbq10] at H; exact H
            have Nbq10 := z05.mk hbq10
            clear hbq10
            by_cases c11 : bq10 = true
            · subst c11
              have H1 : (if (x1_1.length : Int) = 0 then (some (([] : List (S46)), 6)) else (if 0 < (x1_1.length : Int) then (if (rd x1_1 0) > 1 then (some (([] : List (S46)), 7)) else (if 1 ≤ (x1_1.length : Int) then ((some (x1_1.drop 1 : List Int)).bind fun y351 => (if (rd x1_1 0) = 0 then (if x7_1.length < 3518437208883 then (winnowerref07_Decode.l0 k1 y351 (x7_1 ++ [(⟨0, 0, (⟨#[]⟩ : ByteArray), false⟩ : S46)]) (wrap64 (x8_1 + 1)) l0_0 a0_1 a0_2 a0_3 a0_4) else (none)) else ((winnowerref06_Get.f y351 ((rd_T48 l0_0 x8_1).f1)).bind fun bt360 => (if bt360.2.2.2.2.2 = 0 then (if x7_1.length < 3518437208883 then (if 0 ≤ bt360.2.2.2.2.1 then (if bt360.2.2.2.2.1 ≤ (y351.length : Int) then (winnowerref07_Decode.l0 k1 (y351.drop (bt360.2.2.2.2.1 : Int).toNat) (x7_1 ++ [(⟨bt360.1, bt360.2.1, bt360.2.2.1, bt360.2.2.2.1⟩ : S46)]) (wrap64 (x8_1 + 1)) l0_0 a0_1 a0_2 a0_3 a0_4) else (none)) else (none)) else (none)) else (some (([] : List (S46)), bt360.2.2.2.2.2)))))) else (none))) else (none))) = some (r1, r2) := by rw [if_pos rfl] at H; exact H
              clear H
              have H := H1
              clear H1
              by_cases c12 : (x1_1.length : Int) = 0
              · rw [if_pos c12] at H
                have c12b0 : ((x1_1.length : Int) == 0) = true := beq_iff_eq.mpr c12
                have c12b1 : ((x1_1.length : Int) != 0) = false := bne_eq_false_iff_eq.mpr c12
                clear c12
                simp only [Option.some.injEq, Prod.mk.injEq] at H
                obtain ⟨rfl, rfl⟩ := H
                have hcz13_0 : wr.cell? ⟨gb346, 0, none⟩ = some (.slice A0_0 l0_0.length c0_0) := (z04 BK346.out 0).trans rfl
                have hcz13_1 : wr.cell? ⟨gb346, 1, none⟩ = some (.int .i64 a0_1) := (z04 BK346.out 1).trans rfl
                have hcz13_2 : wr.cell? ⟨gb346, 2, none⟩ = some (.int .i64 a0_2) := (z04 BK346.out 2).trans rfl
                have hcz13_3 : wr.cell? ⟨gb346, 3, none⟩ = some (.int .i64 a0_3) := (z04 BK346.out 3).trans rfl
                have hcz13_4 : wr.cell? ⟨gb346, 4, none⟩ = some (.int .i64 a0_4) := (z04 BK346.out 4).trans rfl
                have hfz13_0 := z01 BK346.out 0
                have hfz13_1 := z01 BK346.out 1
                have hfz13_2 := z01 BK346.out 2
                have hfz13_3 := z01 BK346.out 3
                have hfz13_4 := z01 BK346.out 4
                have p348 : 0 ≤ (x8_1 : Int) := of_decide_eq_true (by first | (with_reducible assumption) | assumption)
                have q348 : x8_1 < (l0_0.length : Int) := of_decide_eq_true (by first | (with_reducible assumption) | assumption)
                obtain ⟨ad348, e348, hx348_0, hx348_1, hx348_2⟩ := at_T48 HR0_0.out x8_1 p348 q348
                (try rw [← Nbq10.out] at hx348_2)
                cases e348
                replace hx348_0 := (HB.out.cell (World.block_lt_of_cell? w _ hx348_0)).trans hx348_0
                replace hx348_1 := (HB.out.cell (World.block_lt_of_cell? w _ hx348_1)).trans hx348_1
                replace hx348_2 := (HB.out.cell (World.block_lt_of_cell? w _ hx348_2)).trans hx348_2
                replace p348 := eq_true p348
                replace q348 := eq_true q348
                obtain ⟨Ao14, co14, eo14⟩ := Kd.V_slice HO_1.out
                subst eo14
                go_wp2
                go_ret2
                exact ⟨_, by first | rfl | (simp [errW_none, errW_some] <;> rfl) | (refine congrArg (fun b_ : Bool => Ending.returned (Value.bool b_)) ?_; simp; done) | (simp [*, errW_none, errW_some] <;> rfl), by first | exact Kd.R_nil _ _ _ _ _ | exact Kd.N_nil _ _ _ _ _ | exact Kd.V_nil _ _ _ _ _ | exact Kd.Q_nil _ _ _ _ _ | exact Kd.S_nil _ _ _ _ _, by repeat (first | (with_reducible first | exact HB.out | apply z02 | apply z00 | apply z03 | refine z09 ?_ GE346.out) | exact HB.out)⟩
              · rw [if_neg c12] at H
                have c12b0 : ((x1_1.length : Int) == 0) = false := beq_eq_false_iff_ne.mpr c12
                have c12b1 : ((x1_1.length : Int) != 0) = true := bne_iff_ne.mpr c12
                have c12b2 : ¬ (x1_1 = []) := fun h_ => c12 (by rw [h_]; rfl)
                by_cases c15 : 0 < (x1_1.length : Int)
                · rw [if_pos c15] at H
                  have c15b0 : decide (0 < (x1_1.length : Int)) = true := decide_eq_true c15
                  have c15b1 : decide (0 < x1_1.length) = true := decide_eq_true (by omega)
                  clear c15
                  by_cases c16 : (rd x1_1 0) > 1
                  · rw [if_pos c16] at H
                    have c16b0 : decide (1 < (rd x1_1 0)) = true := decide_eq_true c16
                    clear c16
                    simp only [Option.some.injEq, Prod.mk.injEq] at H
                    obtain ⟨rfl, rfl⟩ := H
                    have hcz17_0 : wr.cell? ⟨gb346, 0, none⟩ = some (.slice A0_0 l0_0.length c0_0) := (z04 BK346.out 0).trans rfl
                    have hcz17_1 : wr.cell? ⟨gb346, 1, none⟩ = some (.int .i64 a0_1) := (z04 BK346.out 1).trans rfl
                    have hcz17_2 : wr.cell? ⟨gb346, 2, none⟩ = some (.int .i64 a0_2) := (z04 BK346.out 2).trans rfl
                    have hcz17_3 : wr.cell? ⟨gb346, 3, none⟩ = some (.int .i64 a0_3) := (z04 BK346.out 3).trans rfl
                    have hcz17_4 : wr.cell? ⟨gb346, 4, none⟩ = some (.int .i64 a0_4) := (z04 BK346.out 4).trans rfl
                    have hfz17_0 := z01 BK346.out 0
                    have hfz17_1 := z01 BK346.out 1
                    have hfz17_2 := z01 BK346.out 2
                    have hfz17_3 := z01 BK346.out 3
                    have hfz17_4 := z01 BK346.out 4
                    have p348 : 0 ≤ (x8_1 : Int) := of_decide_eq_true (by first | (with_reducible assumption) | assumption)
                    have q348 : x8_1 < (l0_0.length : Int) := of_decide_eq_true (by first | (with_reducible assumption) | assumption)
                    obtain ⟨ad348, e348, hx348_0, hx348_1, hx348_2⟩ := at_T48 HR0_0.out x8_1 p348 q348
                    (try rw [← Nbq10.out] at hx348_2)
                    cases e348
                    replace hx348_0 := (HB.out.cell (World.block_lt_of_cell? w _ hx348_0)).trans hx348_0
                    replace hx348_1 := (HB.out.cell (World.block_lt_of_cell? w _ hx348_1)).trans hx348_1
                    replace hx348_2 := (HB.out.cell (World.block_lt_of_cell? w _ hx348_2)).trans hx348_2
                    replace p348 := eq_true p348
                    replace q348 := eq_true q348
                    obtain ⟨Ao18, co18, eo18⟩ := Kd.V_slice HO_1.out
                    subst eo18
                    have p349 : 0 ≤ (0 : Int) := (by omega)
                    have q349 : 0 < (x1_1.length : Int) := of_decide_eq_true (by first | (with_reducible assumption) | assumption)
                    obtain ⟨ad349, e349, hx349_0⟩ := Kd.at_int (Kd.V_reads' HO_1.out).2.2 0 p349 q349
                    cases e349
                    have qi349 : (0 < x1_1.length) = True := eq_true (by omega)
                    (try rw [show ((0 : Int)).toNat = 0 from rfl] at hx349_0)
                    (try rw [Addr.add_zero'] at hx349_0)
                    replace p349 := eq_true p349
                    replace q349 := eq_true q349
                    go_wp2
                    go_ret2
                    exact ⟨_, by first | rfl | (simp [errW_none, errW_some] <;> rfl) | (refine congrArg (fun b_ : Bool => Ending.returned (Value.bool b_)) ?_; simp; done) | (simp [*, errW_none, errW_some] <;> rfl), by first | exact Kd.R_nil _ _ _ _ _ | exact Kd.N_nil _ _ _ _ _ | exact Kd.V_nil _ _ _ _ _ | exact Kd.Q_nil _ _ _ _ _ | exact Kd.S_nil _ _ _ _ _, by repeat (first | (with_reducible first | exact HB.out | apply z02 | apply z00 | apply z03 | refine z09 ?_ GE346.out) | exact HB.out)⟩
                  · rw [if_neg c16] at H
                    have c16b0 : decide (1 < (rd x1_1 0)) = false := decide_eq_false c16
                    clear c16
                    by_cases c19 : 1 ≤ (x1_1.length : Int)
                    · rw [if_pos c19] at H
                      have c19b0 := eq_true c19
                      have c19b1 : decide (1 ≤ (x1_1.length : Int)) = true := decide_eq_true c19
                      clear c19
                      obtain ⟨y351, hy351⟩ : ∃ y_ : List Int, y_ = (x1_1.drop 1) := ⟨_, rfl⟩
                      replace H : (if (rd x1_1 0) = 0 then (if x7_1.length < 3518437208883 then (winnowerref07_Decode.l0 k1 y351 (x7_1 ++ [(⟨0, 0, (⟨#[]⟩ : ByteArray), false⟩ : S46)]) (wrap64 (x8_1 + 1)) l0_0 a0_1 a0_2 a0_3 a0_4) else (none)) else ((winnowerref06_Get.f y351 ((rd_T48 l0_0 x8_1).f1)).bind fun bt360 => (if bt360.2.2.2.2.2 = 0 then (if x7_1.length < 3518437208883 then (if 0 ≤ bt360.2.2.2.2.1 then (if bt360.2.2.2.2.1 ≤ (y351.length : Int) then (winnowerref07_Decode.l0 k1 (y351.drop (bt360.2.2.2.2.1 : Int).toNat) (x7_1 ++ [(⟨bt360.1, bt360.2.1, bt360.2.2.1, bt360.2.2.2.1⟩ : S46)]) (wrap64 (x8_1 + 1)) l0_0 a0_1 a0_2 a0_3 a0_4) else (none)) else (none)) else (none)) else (some (([] : List (S46)), bt360.2.2.2.2.2))))) = some (r1, r2) := by first | (rw [hy351]; with_reducible exact H) | (have H2_ := (Option.bind_some _ _).symm.trans H; rw [hy351]; with_reducible exact H2_) | (have H2_ := (Option.bind_some _ _).symm.trans H; with_reducible exact H2_) | with_reducible exact H | (rw [hy351]; exact H) | exact H
                      have Ny351 := z05.mk hy351
                      clear hy351
                      by_cases c20 : (rd x1_1 0) = 0
                      · rw [if_pos c20] at H
                        have c20b0 : ((rd x1_1 0) == 0) = true := beq_iff_eq.mpr c20
                        have c20b1 : ((rd x1_1 0) != 0) = false := bne_eq_false_iff_eq.mpr c20
                        clear c20
                        by_cases c21 : x7_1.length < 3518437208883
                        · rw [if_pos c21] at H
                          have LMc21 := z05.mk c21
                          clear c21
                          obtain ⟨y356, hy356⟩ : ∃ y_ : List (S46), y_ = (x7_1 ++ [(⟨0, 0, (⟨#[]⟩ : ByteArray), false⟩ : S46)]) := ⟨_, rfl⟩
                          replace H : (winnowerref07_Decode.l0 k1 y351 y356 (wrap64 (x8_1 + 1)) l0_0 a0_1 a0_2 a0_3 a0_4) = some (r1, r2) := by first | (rw [hy356]; with_reducible exact H) | (have H2_ := (Option.bind_some _ _).symm.trans H; rw [hy356]; with_reducible exact H2_) | (have H2_ := (Option.bind_some _ _).symm.trans H; with_reducible exact H2_) | with_reducible exact H | (rw [hy356]; exact H) | exact H
                          have Ny356 := z05.mk hy356
                          clear hy356
                          have H' := z05.mk H
                          clear H
                          have hcz22_0 : wr.cell? ⟨gb346, 0, none⟩ = some (.slice A0_0 l0_0.length c0_0) := (z04 BK346.out 0).trans rfl
                          have hcz22_1 : wr.cell? ⟨gb346, 1, none⟩ = some (.int .i64 a0_1) := (z04 BK346.out 1).trans rfl
                          have hcz22_2 : wr.cell? ⟨gb346, 2, none⟩ = some (.int .i64 a0_2) := (z04 BK346.out 2).trans rfl
                          have hcz22_3 : wr.cell? ⟨gb346, 3, none⟩ = some (.int .i64 a0_3) := (z04 BK346.out 3).trans rfl
                          have hcz22_4 : wr.cell? ⟨gb346, 4, none⟩ = some (.int .i64 a0_4) := (z04 BK346.out 4).trans rfl
                          have hfz22_0 := z01 BK346.out 0
                          have hfz22_1 := z01 BK346.out 1
                          have hfz22_2 := z01 BK346.out 2
                          have hfz22_3 := z01 BK346.out 3
                          have hfz22_4 := z01 BK346.out 4
                          have p348 : 0 ≤ (x8_1 : Int) := of_decide_eq_true (by first | (with_reducible assumption) | assumption)
                          have q348 : x8_1 < (l0_0.length : Int) := of_decide_eq_true (by first | (with_reducible assumption) | assumption)
                          obtain ⟨ad348, e348, hx348_0, hx348_1, hx348_2⟩ := at_T48 HR0_0.out x8_1 p348 q348
                          (try rw [← Nbq10.out] at hx348_2)
                          cases e348
                          replace hx348_0 := (HB.out.cell (World.block_lt_of_cell? w _ hx348_0)).trans hx348_0
                          replace hx348_1 := (HB.out.cell (World.block_lt_of_cell? w _ hx348_1)).trans hx348_1
                          replace hx348_2 := (HB.out.cell (World.block_lt_of_cell? w _ hx348_2)).trans hx348_2
                          replace p348 := eq_true p348
                          replace q348 := eq_true q348
                          obtain ⟨Ao23, co23, eo23⟩ := Kd.V_slice HO_1.out
                          subst eo23
                          have p349 : 0 ≤ (0 : Int) := (by omega)
                          have q349 : 0 < (x1_1.length : Int) := of_decide_eq_true (by first | (with_reducible assumption) | assumption)
                          obtain ⟨ad349, e349, hx349_0⟩ := Kd.at_int (Kd.V_reads' HO_1.out).2.2 0 p349 q349
                          cases e349
                          have qi349 : (0 < x1_1.length) = True := eq_true (by omega)
                          (try rw [show ((0 : Int)).toNat = 0 from rfl] at hx349_0)
                          (try rw [Addr.add_zero'] at hx349_0)
                          replace p349 := eq_true p349
                          replace q349 := eq_true q349
                          have p350 : 0 ≤ (0 : Int) := (by omega)
                          have q350 : 0 < (x1_1.length : Int) := of_decide_eq_true (by first | (with_reducible assumption) | assumption)
                          obtain ⟨ad350, e350, hx350_0⟩ := Kd.at_int (Kd.V_reads' HO_1.out).2.2 0 p350 q350
                          obtain rfl : ad349 = ad350 := (by injection e350)
                          have qi350 : (0 < x1_1.length) = True := eq_true (by omega)
                          (try rw [show ((0 : Int)).toNat = 0 from rfl] at hx350_0)
                          (try rw [Addr.add_zero'] at hx350_0)
                          replace p350 := eq_true p350
                          replace q350 := eq_true q350
                          have q24 : (1 : Int) ≤ ((x1_1.length : Int) : Int) := of_decide_eq_true (by first | (with_reducible assumption) | assumption)
                          obtain ⟨i024, hi024, _, hsz24, _⟩ := info_parts info5
                          have hroom24 : x1_1.length ≤ co23 := (Kd.V_reads' HO_1.out).2.1
                          have hC24 : Kd.F (Kd.int .u8) _ _ (some ad349) x1_1.length x1_1 := (Kd.V_at (base := w.heap.size) HO_1.out).2.2
                          have hcut24 := cut_from (P := Tryd.prog) 29 5 .i64 Tryd.underlying29 hi024 1 hsz24 (some ad349) x1_1.length co23 1 (by omega) q24
                          have hr24 := Kd.F_cut (m := (1 : Int).toNat) (c := co23) hC24 (by omega) hroom24
                          obtain ⟨A24, hA24⟩ : ∃ A1, A1 = (if co23 = (1 : Int).toNat then (some ad349) else ((some ad349) : Option Addr).map (·.add ((1 : Int).toNat * 1))) := ⟨_, rfl⟩
                          obtain ⟨c24, hc24⟩ : ∃ c1, c1 = co23 - (1 : Int).toNat := ⟨_, rfl⟩
                          have hy24 : y351.length = x1_1.length - (1 : Int).toNat := (by rw [Ny351.out, List.length_drop] <;> omega)
                          rw [show (x1_1).drop (1 : Int).toNat = y351 from Ny351.out.symm] at hr24
                          replace hr24 : Kd.F (Kd.int .u8) _ _ A24 y351.length y351 := (by rw [hA24]; exact hr24)
                          rw [← hy24, ← hA24, ← hc24] at hcut24
                          have HO355 := z05.mk (show Kd.V (Kd.int .u8) 5 _ w.heap.size _ (.slice A24 y351.length c24) y351 from Kd.V_mk (by rw [hy24, hc24]; exact Nat.sub_le_sub_right hroom24 _) hr24)
                          have HC355 := z05.mk (show y351.length ≤ c24 from by rw [hy24, hc24]; exact Nat.sub_le_sub_right hroom24 _)
                          clear hr24 hC24 hroom24 hi024 hsz24 hc24
                          have KY24 := z05.mk hy24
                          have KA24 := z05.mk hA24
                          clear hy24 hA24
                          replace q24 := eq_true q24
                          go_wp2_with (first | ((with_reducible refine gate_builtin (b := .append) (xs := #[.tmp 44, .tmp 46]) rfl ?_); at_builtin; refine Kd.R_append k46 (w0 := w) w.heap.size rfl (.tmp 44) (.tmp 46) 25 46 (.agg #[(.int .i64 0), (.int .i64 0), (.string ⟨#[]⟩), (.bool false)]) 40 rfl Tryd.underlying25 info46 rfl (by decide) (by omega) u7 x7_1 (⟨0, 0, (⟨#[]⟩ : ByteArray), false⟩ : S46) [.int .i64 0, .int .i64 0, .string (⟨#[]⟩ : ByteArray), .bool false] (fun k_ => (w.heap.size ≤ k_)) (fun _ => False) rfl rfl ?aP (fun _ hk => hk.elim) ?aF ?aO ?aB ?aS ?aL ?_; (case aP => exact k46_mkM _ _ _ (⟨0, 0, (⟨#[]⟩ : ByteArray), false⟩ : S46)); (case aB => exact (by repeat (first | (with_reducible first | exact HB.out | apply z02 | apply z00 | apply z03 | refine z09 ?_ GE346.out) | exact HB.out))); (case aF => exact (fun k_ hk => (Nat.le_trans (below_size (by repeat (first | (with_reducible first | exact HB.out | apply z02 | apply z00 | apply z03 | refine z09 ?_ GE346.out) | exact HB.out))) hk))); (case aO => exact (by (with_reducible repeat (first | apply Kd.R_alloc | apply Kd.R_drewN | apply Kd.R_drew)); exact HO_7.out)); (case aS => exact (below_size (by repeat (first | (with_reducible first | exact HB.out | apply z02 | apply z00 | apply z03 | refine z09 ?_ GE346.out) | exact HB.out)))); (case aL => have := LMc21.out; omega); intro v357 w25 ho hb hg hat; rw [← Ny356.out] at ho; have n0_ := z05.mk (Kd.V_afterv (ok := (fun k_ => (P1_ k_ ∨ w.heap.size ≤ k_) ∧ k_ ≠ gb346)) (by (with_reducible repeat (first | apply Kd.V_alloc | apply Kd.V_drewN | apply Kd.V_drew)); exact Kd.V_mono HO_1.out (fun _ hk => ⟨⟨hk.1, hk.2.2⟩, hk.2.1⟩)) hg hat); have n1_ := z05.mk (blk_grown (g := gb346) (o := .cells #[.slice (some ad348) l0_0.length c0_0, .int .i64 a0_1, .int .i64 a0_2, .int .i64 a0_3, .int .i64 a0_4] 24 (0, 0)) (by (with_reducible repeat (first | refine z07 ?_ _ | refine z08 ?_ | refine z06 ?_ _)); exact BK346.out) hg (Kd.R_ne HO_7.out BK346.out (by decide))); have n2_ := z05.mk (Kd.V_afterv (ok := (fun k_ => (P1_ k_ ∨ w.heap.size ≤ k_) ∧ k_ ≠ gb346)) (by (with_reducible repeat (first | apply Kd.V_alloc | apply Kd.V_drewN | apply Kd.V_drew)); exact Kd.V_mono HO355.out (fun _ hk => ⟨⟨hk.1, hk.2.2⟩, hk.2.1⟩)) hg hat); have n3_ := z05.mk (hb); have n4_ := z05.mk (ho); clear HO_1; clear BK346; clear HO355; clear HB; clear HO_7; have HO_1 := n0_; have BK346 := n1_; have HO355 := n2_; have HB := n3_; have HO358 := n4_; clear n0_ n1_ n2_ n3_ n4_; clear ho hb hg hat))
                          go_roundg k1
                          case measure => have := HK1.out; omega
                          case rel => exact ⟨(y351), (y356), (wrap64 (x8_1 + 1)), (by first | rfl | (simp; done) | (simp [*]; done)), H', ⟨by have := HK1.out; omega⟩, ⟨by (with_reducible repeat (first | apply Kd.V_alloc | apply Kd.V_drewN | apply Kd.V_drew)); exact Kd.V_mono HO355.out (fun _ hk => ⟨hk.1.1, ⟨hk.2, hk.1.2⟩⟩)⟩, ⟨by (with_reducible repeat (first | apply Kd.R_alloc | apply Kd.R_drewN | apply Kd.R_drew)); exact HO358.out⟩, ⟨by (with_reducible repeat (first | refine z07 ?_ _ | refine z08 ?_ | refine z06 ?_ _)); exact BK346.out⟩, ⟨by repeat (first | (with_reducible first | exact HB.out | apply z02 | apply z00 | apply z03 | refine z09 ?_ GE346.out) | exact HB.out)⟩⟩
                        · rw [if_neg c21] at H
                          exact absurd H (by simp)
                      · rw [if_neg c20] at H
                        have c20b0 : ((rd x1_1 0) == 0) = false := beq_eq_false_iff_ne.mpr c20
                        have c20b1 : ((rd x1_1 0) != 0) = true := bne_iff_ne.mpr c20
                        replace H := Option.bind_eq_some_iff.mp H
                        obtain ⟨⟨t360, t361, t362, t363, t364, t365⟩, A260, H⟩ := H
                        replace H : (if t365 = 0 then (if x7_1.length < 3518437208883 then (if 0 ≤ t364 then (if t364 ≤ (y351.length : Int) then (winnowerref07_Decode.l0 k1 (y351.drop (t364 : Int).toNat) (x7_1 ++ [(⟨t360, t361, t362, t363⟩ : S46)]) (wrap64 (x8_1 + 1)) l0_0 a0_1 a0_2 a0_3 a0_4) else (none)) else (none)) else (none)) else (some (([] : List (S46)), t365))) = some (r1, r2) := H
                        have A26 := z05.mk A260
                        clear A260
                        by_cases c27 : t365 = 0
                        · rw [if_pos c27] at H
                          have c27b0 : (t365 == 0) = true := beq_iff_eq.mpr c27
                          have c27b1 : (t365 != 0) = false := bne_eq_false_iff_eq.mpr c27
                          clear c27
                          by_cases c28 : x7_1.length < 3518437208883
                          · rw [if_pos c28] at H
                            have LMc28 := z05.mk c28
                            clear c28
                            obtain ⟨y367, hy367⟩ : ∃ y_ : List (S46), y_ = (x7_1 ++ [(⟨t360, t361, t362, t363⟩ : S46)]) := ⟨_, rfl⟩
                            replace H : (if 0 ≤ t364 then (if t364 ≤ (y351.length : Int) then (winnowerref07_Decode.l0 k1 (y351.drop (t364 : Int).toNat) y367 (wrap64 (x8_1 + 1)) l0_0 a0_1 a0_2 a0_3 a0_4) else (none)) else (none)) = some (r1, r2) := by first | (rw [hy367]; with_reducible exact H) | (have H2_ := (Option.bind_some _ _).symm.trans H; rw [hy367]; with_reducible exact H2_) | (have H2_ := (Option.bind_some _ _).symm.trans H; with_reducible exact H2_) | with_reducible exact H | (rw [hy367]; exact H) | exact H
                            have Ny367 := z05.mk hy367
                            clear hy367
                            by_cases c29 : 0 ≤ t364
                            · rw [if_pos c29] at H
                              have c29b0 := eq_true c29
                              have c29b1 : decide (0 ≤ t364) = true := decide_eq_true c29
                              clear c29
                              by_cases c30 : t364 ≤ (y351.length : Int)
                              · rw [if_pos c30] at H
                                have c30b0 := eq_true c30
                                have c30b1 : decide (t364 ≤ (y351.length : Int)) = true := decide_eq_true c30
                                clear c30
                                obtain ⟨y370, hy370⟩ : ∃ y_ : List Int, y_ = (y351.drop (t364 : Int).toNat) := ⟨_, rfl⟩
                                replace H : (winnowerref07_Decode.l0 k1 y370 y367 (wrap64 (x8_1 + 1)) l0_0 a0_1 a0_2 a0_3 a0_4) = some (r1, r2) := by first | (rw [hy370]; with_reducible exact H) | (have H2_ := (Option.bind_some _ _).symm.trans H; rw [hy370]; with_reducible exact H2_) | (have H2_ := (Option.bind_some _ _).symm.trans H; with_reducible exact H2_) | with_reducible exact H | (rw [hy370]; exact H) | exact H
                                have Ny370 := z05.mk hy370
                                clear hy370
                                have H' := z05.mk H
                                clear H
                                have hcz31_0 : wr.cell? ⟨gb346, 0, none⟩ = some (.slice A0_0 l0_0.length c0_0) := (z04 BK346.out 0).trans rfl
                                have hcz31_1 : wr.cell? ⟨gb346, 1, none⟩ = some (.int .i64 a0_1) := (z04 BK346.out 1).trans rfl
                                have hcz31_2 : wr.cell? ⟨gb346, 2, none⟩ = some (.int .i64 a0_2) := (z04 BK346.out 2).trans rfl
                                have hcz31_3 : wr.cell? ⟨gb346, 3, none⟩ = some (.int .i64 a0_3) := (z04 BK346.out 3).trans rfl
                                have hcz31_4 : wr.cell? ⟨gb346, 4, none⟩ = some (.int .i64 a0_4) := (z04 BK346.out 4).trans rfl
                                have hfz31_0 := z01 BK346.out 0
                                have hfz31_1 := z01 BK346.out 1
                                have hfz31_2 := z01 BK346.out 2
                                have hfz31_3 := z01 BK346.out 3
                                have hfz31_4 := z01 BK346.out 4
                                have p348 : 0 ≤ (x8_1 : Int) := of_decide_eq_true (by first | (with_reducible assumption) | assumption)
                                have q348 : x8_1 < (l0_0.length : Int) := of_decide_eq_true (by first | (with_reducible assumption) | assumption)
                                obtain ⟨ad348, e348, hx348_0, hx348_1, hx348_2⟩ := at_T48 HR0_0.out x8_1 p348 q348
                                (try rw [← Nbq10.out] at hx348_2)
                                cases e348
                                replace hx348_0 := (HB.out.cell (World.block_lt_of_cell? w _ hx348_0)).trans hx348_0
                                replace hx348_1 := (HB.out.cell (World.block_lt_of_cell? w _ hx348_1)).trans hx348_1
                                replace hx348_2 := (HB.out.cell (World.block_lt_of_cell? w _ hx348_2)).trans hx348_2
                                replace p348 := eq_true p348
                                replace q348 := eq_true q348
                                obtain ⟨Ao32, co32, eo32⟩ := Kd.V_slice HO_1.out
                                subst eo32
                                have p349 : 0 ≤ (0 : Int) := (by omega)
                                have q349 : 0 < (x1_1.length : Int) := of_decide_eq_true (by first | (with_reducible assumption) | assumption)
                                obtain ⟨ad349, e349, hx349_0⟩ := Kd.at_int (Kd.V_reads' HO_1.out).2.2 0 p349 q349
                                cases e349
                                have qi349 : (0 < x1_1.length) = True := eq_true (by omega)
                                (try rw [show ((0 : Int)).toNat = 0 from rfl] at hx349_0)
                                (try rw [Addr.add_zero'] at hx349_0)
                                replace p349 := eq_true p349
                                replace q349 := eq_true q349
                                have p350 : 0 ≤ (0 : Int) := (by omega)
                                have q350 : 0 < (x1_1.length : Int) := of_decide_eq_true (by first | (with_reducible assumption) | assumption)
                                obtain ⟨ad350, e350, hx350_0⟩ := Kd.at_int (Kd.V_reads' HO_1.out).2.2 0 p350 q350
                                obtain rfl : ad349 = ad350 := (by injection e350)
                                have qi350 : (0 < x1_1.length) = True := eq_true (by omega)
                                (try rw [show ((0 : Int)).toNat = 0 from rfl] at hx350_0)
                                (try rw [Addr.add_zero'] at hx350_0)
                                replace p350 := eq_true p350
                                replace q350 := eq_true q350
                                have q33 : (1 : Int) ≤ ((x1_1.length : Int) : Int) := of_decide_eq_true (by first | (with_reducible assumption) | assumption)
                                obtain ⟨i033, hi033, _, hsz33, _⟩ := info_parts info5
                                have hroom33 : x1_1.length ≤ co32 := (Kd.V_reads' HO_1.out).2.1
                                have hC33 : Kd.F (Kd.int .u8) _ _ (some ad349) x1_1.length x1_1 := (Kd.V_at (base := w.heap.size) HO_1.out).2.2
                                have hcut33 := cut_from (P := Tryd.prog) 29 5 .i64 Tryd.underlying29 hi033 1 hsz33 (some ad349) x1_1.length co32 1 (by omega) q33
                                have hr33 := Kd.F_cut (m := (1 : Int).toNat) (c := co32) hC33 (by omega) hroom33
                                obtain ⟨A33, hA33⟩ : ∃ A1, A1 = (if co32 = (1 : Int).toNat then (some ad349) else ((some ad349) : Option Addr).map (·.add ((1 : Int).toNat * 1))) := ⟨_, rfl⟩
                                obtain ⟨c33, hc33⟩ : ∃ c1, c1 = co32 - (1 : Int).toNat := ⟨_, rfl⟩
                                have hy33 : y351.length = x1_1.length - (1 : Int).toNat := (by rw [Ny351.out, List.length_drop] <;> omega)
                                rw [show (x1_1).drop (1 : Int).toNat = y351 from Ny351.out.symm] at hr33
                                replace hr33 : Kd.F (Kd.int .u8) _ _ A33 y351.length y351 := (by rw [hA33]; exact hr33)
                                rw [← hy33, ← hA33, ← hc33] at hcut33
                                have HO355 := z05.mk (show Kd.V (Kd.int .u8) 5 _ w.heap.size _ (.slice A33 y351.length c33) y351 from Kd.V_mk (by rw [hy33, hc33]; exact Nat.sub_le_sub_right hroom33 _) hr33)
                                have HC355 := z05.mk (show y351.length ≤ c33 from by rw [hy33, hc33]; exact Nat.sub_le_sub_right hroom33 _)
                                clear hr33 hC33 hroom33 hi033 hsz33 hc33
                                have KY33 := z05.mk hy33
                                have KA33 := z05.mk hA33
                                clear hy33 hA33
                                replace q33 := eq_true q33
                                have p359 : 0 ≤ (x8_1 : Int) := of_decide_eq_true (by first | (with_reducible assumption) | assumption)
                                have q359 : x8_1 < (l0_0.length : Int) := of_decide_eq_true (by first | (with_reducible assumption) | assumption)
                                obtain ⟨ad359, e359, hx359_0, hx359_1, hx359_2⟩ := at_T48 HR0_0.out x8_1 p359 q359
                                (try rw [← Nbq10.out] at hx359_2)
                                obtain rfl : ad348 = ad359 := (by injection e359)
                                replace hx359_0 := (HB.out.cell (World.block_lt_of_cell? w _ hx359_0)).trans hx359_0
                                replace hx359_1 := (HB.out.cell (World.block_lt_of_cell? w _ hx359_1)).trans hx359_1
                                replace hx359_2 := (HB.out.cell (World.block_lt_of_cell? w _ hx359_2)).trans hx359_2
                                replace p359 := eq_true p359
                                replace q359 := eq_true q359
                                go_wp2_with (first | ((with_reducible refine gate_callee (f := 36) rfl ?_); refine goesL_ (some 56) rfl rfl Tryd.func36 (by kernel_rfl) rfl #[.slice A33 y351.length c33, .int .i64 ((rd_T48 l0_0 x8_1).f1)] rfl (by (try simp only [List.map_toArray, List.map_cons, List.map_nil]); first | done | rfl | (simp only [List.length_drop, List.length_take]; rfl)) ?_; (with_reducible refine (winnowerref06_Get.calls _ _ y351 ((rd_T48 l0_0 x8_1).f1) t360 t361 t362 t363 t364 t365 _ ?side1 ?side2 A26.out).mono ?_); (case side1 => repeat (first | exact (Kd.V_reads' HO355.out).2.2 | (with_reducible refine Kd.C_alloc ?_ _) | (with_reducible refine Kd.C_drewN ?_ _) | (with_reducible refine Kd.C_drew ?_))); (case side2 => exact (Kd.V_reads' HO355.out).2.1); rintro e w34 ⟨rfl, hb⟩; refine ⟨_, rfl, ?_⟩; have n0_ := z05.mk (Kd.V_below (by (with_reducible repeat (first | apply Kd.V_alloc | apply Kd.V_drewN | apply Kd.V_drew)); exact HO_1.out) hb); have n1_ := z05.mk (Kd.R_below (by (with_reducible repeat (first | apply Kd.R_alloc | apply Kd.R_drewN | apply Kd.R_drew)); exact HO_7.out) hb); have n2_ := z05.mk (Kd.V_below (by (with_reducible repeat (first | apply Kd.V_alloc | apply Kd.V_drewN | apply Kd.V_drew)); exact HO355.out) hb); have n3_ := z05.mk (blk_below (g := gb346) (o := .cells #[.slice (some ad348) l0_0.length c0_0, .int .i64 a0_1, .int .i64 a0_2, .int .i64 a0_3, .int .i64 a0_4] 24 (0, 0)) (by (with_reducible repeat (first | refine z07 ?_ _ | refine z08 ?_ | refine z06 ?_ _)); exact BK346.out) hb); have n4_ := z05.mk (below_step (by repeat (first | (with_reducible first | exact HB.out | apply z02 | apply z00 | apply z03 | refine z09 ?_ GE346.out) | exact HB.out)) hb); clear HO_1; clear HO_7; clear HO355; clear BK346; clear HB; have HO_1 := n0_; have HO_7 := n1_; have HO355 := n2_; have BK346 := n3_; have HB := n4_; clear n0_ n1_ n2_ n3_ n4_; (try clear hb); (try clear hb2); (try clear hk); (try clear hi)) | ((with_reducible refine gate_dst (N := 10) rfl ?_); refine box_event ?hg (N := 10) ?hd (cs := #[.int .i64 0, .int .i64 0, .string (⟨#[]⟩ : ByteArray), .bool false]) (t := 46) ?hr ?_; (case hd => rfl); (case hg => rfl); (case hr => first | (go_simp; done) | (go_simp; rfl)); intro gb366 hg w35 hbox hb; have n0_ := z05.mk (Kd.V_below (Kd.V_elderB (by (with_reducible repeat (first | apply Kd.V_alloc | apply Kd.V_drewN | apply Kd.V_drew)); exact HO_1.out) gb366 (Nat.le_of_eq hg.symm)) hb); have n1_ := z05.mk (Kd.R_below (Kd.R_elderB (by (with_reducible repeat (first | apply Kd.R_alloc | apply Kd.R_drewN | apply Kd.R_drew)); exact HO_7.out) gb366 (Nat.le_of_eq hg.symm)) hb); have n2_ := z05.mk (Kd.V_below (Kd.V_elderB (by (with_reducible repeat (first | apply Kd.V_alloc | apply Kd.V_drewN | apply Kd.V_drew)); exact HO355.out) gb366 (Nat.le_of_eq hg.symm)) hb); have n3_ := z05.mk (blk_below (g := gb346) (o := .cells #[.slice (some ad348) l0_0.length c0_0, .int .i64 a0_1, .int .i64 a0_2, .int .i64 a0_3, .int .i64 a0_4] 24 (0, 0)) (by (with_reducible repeat (first | refine z07 ?_ _ | refine z08 ?_ | refine z06 ?_ _)); exact BK346.out) hb); have n4_ := z05.mk (below_step (by repeat (first | (with_reducible first | exact HB.out | apply z02 | apply z00 | apply z03 | refine z09 ?_ GE346.out) | exact HB.out)) hb); have n5_ := z05.mk (hbox); have n6_ := z05.mk ((by rw [hg]; exact (below_size (by repeat (first | (with_reducible first | exact HB.out | apply z02 | apply z00 | apply z03 | refine z09 ?_ GE346.out) | exact HB.out))) : w.heap.size ≤ gb366)); have n7_ := z05.mk ((by rw [hg]; exact (below_size (by repeat (first | (with_reducible first | exact HB.out | apply z02 | apply z00 | apply z03 | refine z09 ?_ GE346.out) | exact HB.out))) : w.heap.size ≤ gb366)); have n8_ := z05.mk ((by rw [hg]; exact Nat.ne_of_lt (blk_lt (g := gb346) (o := .cells #[.slice (some ad348) l0_0.length c0_0, .int .i64 a0_1, .int .i64 a0_2, .int .i64 a0_3, .int .i64 a0_4] 24 (0, 0)) (by (with_reducible repeat (first | refine z07 ?_ _ | refine z08 ?_ | refine z06 ?_ _)); exact BK346.out)) : gb346 ≠ gb366)); have n9_ := z05.mk ((by rw [hg]; exact Nat.ne_of_gt (blk_lt (g := gb346) (o := .cells #[.slice (some ad348) l0_0.length c0_0, .int .i64 a0_1, .int .i64 a0_2, .int .i64 a0_3, .int .i64 a0_4] 24 (0, 0)) (by (with_reducible repeat (first | refine z07 ?_ _ | refine z08 ?_ | refine z06 ?_ _)); exact BK346.out)) : gb366 ≠ gb346)); clear HO_1; clear HO_7; clear HO355; clear BK346; clear HB; have HO_1 := n0_; have HO_7 := n1_; have HO355 := n2_; have BK346 := n3_; have HB := n4_; have BK366 := n5_; have GW366 := n6_; have GE366 := n7_; have NB346_366 := n8_; have NB366_346 := n9_; clear n0_ n1_ n2_ n3_ n4_ n5_ n6_ n7_ n8_ n9_; clear hb hbox hg; have hnb36 := NB366_346.out; have hnc36 := NB346_366.out; have hcz37_0 : w35.cell? ⟨gb366, 0, none⟩ = some (.int .i64 0) := (z04 BK366.out 0).trans rfl; have hcz37_1 : w35.cell? ⟨gb366, 1, none⟩ = some (.int .i64 0) := (z04 BK366.out 1).trans rfl; have hcz37_2 : w35.cell? ⟨gb366, 2, none⟩ = some (.string (⟨#[]⟩ : ByteArray)) := (z04 BK366.out 2).trans rfl; have hcz37_3 : w35.cell? ⟨gb366, 3, none⟩ = some (.bool false) := (z04 BK366.out 3).trans (by first | rfl | (rw [Nbq10.out]; rfl)); have hfz37_0 := z01 BK366.out 0; have hfz37_1 := z01 BK366.out 1; have hfz37_2 := z01 BK366.out 2; have hfz37_3 := z01 BK366.out 3) | ((with_reducible refine gate_builtin (b := .append) (xs := #[.tmp 63, .tmp 65]) rfl ?_); at_builtin; refine Kd.R_append k46 (w0 := w) w.heap.size rfl (.tmp 63) (.tmp 65) 25 46 (.agg #[(.int .i64 0), (.int .i64 0), (.string ⟨#[]⟩), (.bool false)]) 40 rfl Tryd.underlying25 info46 rfl (by decide) (by omega) u7 x7_1 (⟨t360, t361, t362, t363⟩ : S46) [.int .i64 t360, .int .i64 t361, .string t362, .bool t363] (fun k_ => (w.heap.size ≤ k_) ∧ k_ ≠ gb366) (fun _ => False) rfl (by first | (go_simp; done) | (go_simp; rfl)) ?aP (fun _ hk => hk.elim) ?aF ?aO ?aB ?aS ?aL ?_; (case aP => exact k46_mkM _ _ _ (⟨t360, t361, t362, t363⟩ : S46)); (case aB => exact (by repeat (first | (with_reducible first | exact HB.out | apply z02 | apply z00 | apply z03 | refine z09 ?_ GE346.out | refine z09 ?_ GE366.out) | exact HB.out))); (case aF => exact (fun k_ hk => ⟨(Nat.le_trans (below_size (by repeat (first | (with_reducible first | exact HB.out | apply z02 | apply z00 | apply z03 | refine z09 ?_ GE346.out | refine z09 ?_ GE366.out) | exact HB.out))) hk), Kd.freshB (g := gb366) (o := .cells #[.int .i64 t360, .int .i64 t361, .string t362, .bool t363] 46 (0, 0)) (by (with_reducible repeat (first | refine z07 ?_ _ | refine z08 ?_ | refine z06 ?_ _)); refine blk_put (cs := #[.int .i64 t360, .int .i64 t361, .string t362, .bool false]) ?_ 3 _ rfl; (with_reducible repeat (first | refine z07 ?_ _ | refine z08 ?_ | refine z06 ?_ _)); refine blk_put (cs := #[.int .i64 t360, .int .i64 t361, .string (⟨#[]⟩ : ByteArray), .bool false]) ?_ 2 _ rfl; (with_reducible repeat (first | refine z07 ?_ _ | refine z08 ?_ | refine z06 ?_ _)); refine blk_put (cs := #[.int .i64 t360, .int .i64 0, .string (⟨#[]⟩ : ByteArray), .bool false]) ?_ 1 _ rfl; (with_reducible repeat (first | refine z07 ?_ _ | refine z08 ?_ | refine z06 ?_ _)); refine blk_put (cs := #[.int .i64 0, .int .i64 0, .string (⟨#[]⟩ : ByteArray), .bool false]) ?_ 0 _ rfl; (with_reducible repeat (first | refine z07 ?_ _ | refine z08 ?_ | refine z06 ?_ _)); exact BK366.out) k_ hk⟩)); (case aO => exact (by (with_reducible repeat (first | apply Kd.R_alloc | apply Kd.R_drewN | apply Kd.R_drew)); exact Kd.R_mono (Kd.R_far (p := ⟨gb366, 3, none⟩) (Kd.R_far (p := ⟨gb366, 2, none⟩) (Kd.R_far (p := ⟨gb366, 1, none⟩) (Kd.R_far (p := ⟨gb366, 0, none⟩) (Kd.R_mono HO_7.out (fun k_ hk => (⟨hk, hk.2⟩ : _ ∧ k_ ≠ gb366))) (fun _ hk => hk.2) (.int .i64 t360)) (fun _ hk => hk.2) (.int .i64 t361)) (fun _ hk => hk.2) (.string t362)) (fun _ hk => hk.2) (.bool t363)) (fun _ hk => ⟨hk.1.1, hk.1.2⟩))); (case aS => exact (below_size (by repeat (first | (with_reducible first | exact HB.out | apply z02 | apply z00 | apply z03 | refine z09 ?_ GE346.out | refine z09 ?_ GE366.out) | exact HB.out)))); (case aL => have := LMc28.out; omega); intro v368 w38 ho hb hg hat; rw [← Ny367.out] at ho; have n0_ := z05.mk (Kd.V_afterv (ok := (fun k_ => (P1_ k_ ∨ w.heap.size ≤ k_) ∧ k_ ≠ gb346 ∧ k_ ≠ gb366)) (by (with_reducible repeat (first | apply Kd.V_alloc | apply Kd.V_drewN | apply Kd.V_drew)); exact Kd.V_mono (Kd.V_far (p := ⟨gb366, 3, none⟩) (Kd.V_far (p := ⟨gb366, 2, none⟩) (Kd.V_far (p := ⟨gb366, 1, none⟩) (Kd.V_far (p := ⟨gb366, 0, none⟩) (Kd.V_mono HO_1.out (fun k_ hk => (⟨hk, hk.2⟩ : _ ∧ k_ ≠ gb366))) (fun _ hk => hk.2) (.int .i64 t360)) (fun _ hk => hk.2) (.int .i64 t361)) (fun _ hk => hk.2) (.string t362)) (fun _ hk => hk.2) (.bool t363)) (fun _ hk => ⟨⟨hk.1.1.1, ⟨hk.1.1.2.2, hk.1.2⟩⟩, hk.1.1.2.1⟩)) hg hat); have n1_ := z05.mk (blk_grown (g := gb346) (o := .cells #[.slice (some ad348) l0_0.length c0_0, .int .i64 a0_1, .int .i64 a0_2, .int .i64 a0_3, .int .i64 a0_4] 24 (0, 0)) (by (with_reducible repeat (first | refine z07 ?_ _ | refine z08 ?_ | refine z06 ?_ _)); refine blk_far ?_ NB346_366.out _; (with_reducible repeat (first | refine z07 ?_ _ | refine z08 ?_ | refine z06 ?_ _)); refine blk_far ?_ NB346_366.out _; (with_reducible repeat (first | refine z07 ?_ _ | refine z08 ?_ | refine z06 ?_ _)); refine blk_far ?_ NB346_366.out _; (with_reducible repeat (first | refine z07 ?_ _ | refine z08 ?_ | refine z06 ?_ _)); refine blk_far ?_ NB346_366.out _; (with_reducible repeat (first | refine z07 ?_ _ | refine z08 ?_ | refine z06 ?_ _)); exact BK346.out) hg (Kd.R_ne HO_7.out BK346.out (by decide))); have n2_ := z05.mk (Kd.V_afterv (ok := (fun k_ => (P1_ k_ ∨ w.heap.size ≤ k_) ∧ k_ ≠ gb346 ∧ k_ ≠ gb366)) (by (with_reducible repeat (first | apply Kd.V_alloc | apply Kd.V_drewN | apply Kd.V_drew)); exact Kd.V_mono (Kd.V_far (p := ⟨gb366, 3, none⟩) (Kd.V_far (p := ⟨gb366, 2, none⟩) (Kd.V_far (p := ⟨gb366, 1, none⟩) (Kd.V_far (p := ⟨gb366, 0, none⟩) (Kd.V_mono HO355.out (fun k_ hk => (⟨hk, hk.2⟩ : _ ∧ k_ ≠ gb366))) (fun _ hk => hk.2) (.int .i64 t360)) (fun _ hk => hk.2) (.int .i64 t361)) (fun _ hk => hk.2) (.string t362)) (fun _ hk => hk.2) (.bool t363)) (fun _ hk => ⟨⟨hk.1.1.1, ⟨hk.1.1.2.2, hk.1.2⟩⟩, hk.1.1.2.1⟩)) hg hat); have n3_ := z05.mk (blk_grown (g := gb366) (o := .cells #[.int .i64 t360, .int .i64 t361, .string t362, .bool t363] 46 (0, 0)) (by (with_reducible repeat (first | refine z07 ?_ _ | refine z08 ?_ | refine z06 ?_ _)); refine blk_put (cs := #[.int .i64 t360, .int .i64 t361, .string t362, .bool false]) ?_ 3 _ rfl; (with_reducible repeat (first | refine z07 ?_ _ | refine z08 ?_ | refine z06 ?_ _)); refine blk_put (cs := #[.int .i64 t360, .int .i64 t361, .string (⟨#[]⟩ : ByteArray), .bool false]) ?_ 2 _ rfl; (with_reducible repeat (first | refine z07 ?_ _ | refine z08 ?_ | refine z06 ?_ _)); refine blk_put (cs := #[.int .i64 t360, .int .i64 0, .string (⟨#[]⟩ : ByteArray), .bool false]) ?_ 1 _ rfl; (with_reducible repeat (first | refine z07 ?_ _ | refine z08 ?_ | refine z06 ?_ _)); refine blk_put (cs := #[.int .i64 0, .int .i64 0, .string (⟨#[]⟩ : ByteArray), .bool false]) ?_ 0 _ rfl; (with_reducible repeat (first | refine z07 ?_ _ | refine z08 ?_ | refine z06 ?_ _)); exact BK366.out) hg (Kd.R_away HO_7.out (fun _ hk => hk.2))); have n4_ := z05.mk (hb); have n5_ := z05.mk (ho); clear HO_1; clear BK346; clear HO355; clear BK366; clear HB; clear HO_7; have HO_1 := n0_; have BK346 := n1_; have HO355 := n2_; have BK366 := n3_; have HB := n4_; have HO369 := n5_; clear n0_ n1_ n2_ n3_ n4_ n5_; clear ho hb hg hat; have q39 : (t364 : Int) ≤ ((y351.length : Int) : Int) := of_decide_eq_true (by first | (with_reducible assumption) | assumption); obtain ⟨i039, hi039, _, hsz39, _⟩ := info_parts info5; have hroom39 : y351.length ≤ c33 := (Kd.V_reads' HO355.out).2.1; have hC39 : Kd.F (Kd.int .u8) _ _ A33 y351.length y351 := (Kd.V_at (base := w.heap.size) HO355.out).2.2; have q039 : (0 : Int) ≤ (t364 : Int) := of_decide_eq_true (by first | (with_reducible assumption) | assumption); have hcut39 := cut_from (P := Tryd.prog) 29 5 .i64 Tryd.underlying29 hi039 1 hsz39 A33 y351.length c33 t364 q039 q39; have hr39 := Kd.F_cut (m := (t364 : Int).toNat) (c := c33) hC39 (by omega) hroom39; obtain ⟨A39, hA39⟩ : ∃ A1, A1 = (if c33 = (t364 : Int).toNat then A33 else (A33 : Option Addr).map (·.add ((t364 : Int).toNat * 1))) := ⟨_, rfl⟩; obtain ⟨c39, hc39⟩ : ∃ c1, c1 = c33 - (t364 : Int).toNat := ⟨_, rfl⟩; have hy39 : y370.length = y351.length - (t364 : Int).toNat := (by rw [Ny370.out, List.length_drop] <;> omega); rw [show (y351).drop (t364 : Int).toNat = y370 from Ny370.out.symm] at hr39; replace hr39 : Kd.F (Kd.int .u8) _ _ A39 y370.length y370 := (by rw [hA39]; exact hr39); rw [← hy39, ← hA39, ← hc39] at hcut39; have HO374 := z05.mk (show Kd.V (Kd.int .u8) 5 _ w.heap.size _ (.slice A39 y370.length c39) y370 from Kd.V_mk (by rw [hy39, hc39]; exact Nat.sub_le_sub_right hroom39 _) hr39); have HC374 := z05.mk (show y370.length ≤ c39 from by rw [hy39, hc39]; exact Nat.sub_le_sub_right hroom39 _); clear hr39 hC39 hroom39 hi039 hsz39 hc39; have KY39 := z05.mk hy39; have KA39 := z05.mk hA39; clear hy39 hA39; replace q39 := eq_true q39))
                                go_roundg k1
                                case measure => have := HK1.out; omega
                                case rel => exact ⟨(y370), (y367), (wrap64 (x8_1 + 1)), (by first | rfl | (simp; done) | (simp [*]; done)), H', ⟨by have := HK1.out; omega⟩, ⟨by (with_reducible repeat (first | apply Kd.V_alloc | apply Kd.V_drewN | apply Kd.V_drew)); exact Kd.V_mono HO374.out (fun _ hk => ⟨hk.1.1, ⟨hk.2, hk.1.2.1⟩⟩)⟩, ⟨by (with_reducible repeat (first | apply Kd.R_alloc | apply Kd.R_drewN | apply Kd.R_drew)); exact Kd.R_mono HO369.out (fun _ hk => hk.1)⟩, ⟨by (with_reducible repeat (first | refine z07 ?_ _ | refine z08 ?_ | refine z06 ?_ _)); exact BK346.out⟩, ⟨by repeat (first | (with_reducible first | exact HB.out | apply z02 | apply z00 | apply z03 | refine z09 ?_ GE346.out | refine z09 ?_ GE366.out) | exact HB.out)⟩⟩
                              · rw [if_neg c30] at H
                                exact absurd H (by simp)
                            · rw [if_neg c29] at H
                              exact absurd H (by simp)
                          · rw [if_neg c28] at H
                            exact absurd H (by simp)
                        · rw [if_neg c27] at H
                          have c27b0 : (t365 == 0) = false := beq_eq_false_iff_ne.mpr c27
                          have c27b1 : (t365 != 0) = true := bne_iff_ne.mpr c27
                          simp only [Option.some.injEq, Prod.mk.injEq] at H
                          obtain ⟨rfl, rfl⟩ := H
                          have hcz40_0 : wr.cell? ⟨gb346, 0, none⟩ = some (.slice A0_0 l0_0.length c0_0) := (z04 BK346.out 0).trans rfl
                          have hcz40_1 : wr.cell? ⟨gb346, 1, none⟩ = some (.int .i64 a0_1) := (z04 BK346.out 1).trans rfl
                          have hcz40_2 : wr.cell? ⟨gb346, 2, none⟩ = some (.int .i64 a0_2) := (z04 BK346.out 2).trans rfl
                          have hcz40_3 : wr.cell? ⟨gb346, 3, none⟩ = some (.int .i64 a0_3) := (z04 BK346.out 3).trans rfl
                          have hcz40_4 : wr.cell? ⟨gb346, 4, none⟩ = some (.int .i64 a0_4) := (z04 BK346.out 4).trans rfl
                          have hfz40_0 := z01 BK346.out 0
                          have hfz40_1 := z01 BK346.out 1
                          have hfz40_2 := z01 BK346.out 2
                          have hfz40_3 := z01 BK346.out 3
                          have hfz40_4 := z01 BK346.out 4
                          have p348 : 0 ≤ (x8_1 : Int) := of_decide_eq_true (by first | (with_reducible assumption) | assumption)
                          have q348 : x8_1 < (l0_0.length : Int) := of_decide_eq_true (by first | (with_reducible assumption) | assumption)
                          obtain ⟨ad348, e348, hx348_0, hx348_1, hx348_2⟩ := at_T48 HR0_0.out x8_1 p348 q348
                          (try rw [← Nbq10.out] at hx348_2)
                          cases e348
                          replace hx348_0 := (HB.out.cell (World.block_lt_of_cell? w _ hx348_0)).trans hx348_0
                          replace hx348_1 := (HB.out.cell (World.block_lt_of_cell? w _ hx348_1)).trans hx348_1
                          replace hx348_2 := (HB.out.cell (World.block_lt_of_cell? w _ hx348_2)).trans hx348_2
                          replace p348 := eq_true p348
                          replace q348 := eq_true q348
                          obtain ⟨Ao41, co41, eo41⟩ := Kd.V_slice HO_1.out
                          subst eo41
                          have p349 : 0 ≤ (0 : Int) := (by omega)
                          have q349 : 0 < (x1_1.length : Int) := of_decide_eq_true (by first | (with_reducible assumption) | assumption)
                          obtain ⟨ad349, e349, hx349_0⟩ := Kd.at_int (Kd.V_reads' HO_1.out).2.2 0 p349 q349
                          cases e349
                          have qi349 : (0 < x1_1.length) = True := eq_true (by omega)
                          (try rw [show ((0 : Int)).toNat = 0 from rfl] at hx349_0)
                          (try rw [Addr.add_zero'] at hx349_0)
                          replace p349 := eq_true p349
                          replace q349 := eq_true q349
                          have p350 : 0 ≤ (0 : Int) := (by omega)
                          have q350 : 0 < (x1_1.length : Int) := of_decide_eq_true (by first | (with_reducible assumption) | assumption)
                          obtain ⟨ad350, e350, hx350_0⟩ := Kd.at_int (Kd.V_reads' HO_1.out).2.2 0 p350 q350
                          obtain rfl : ad349 = ad350 := (by injection e350)
                          have qi350 : (0 < x1_1.length) = True := eq_true (by omega)
                          (try rw [show ((0 : Int)).toNat = 0 from rfl] at hx350_0)
                          (try rw [Addr.add_zero'] at hx350_0)
                          replace p350 := eq_true p350
                          replace q350 := eq_true q350
                          have q42 : (1 : Int) ≤ ((x1_1.length : Int) : Int) := of_decide_eq_true (by first | (with_reducible assumption) | assumption)
                          obtain ⟨i042, hi042, _, hsz42, _⟩ := info_parts info5
                          have hroom42 : x1_1.length ≤ co41 := (Kd.V_reads' HO_1.out).2.1
                          have hC42 : Kd.F (Kd.int .u8) _ _ (some ad349) x1_1.length x1_1 := (Kd.V_at (base := w.heap.size) HO_1.out).2.2
                          have hcut42 := cut_from (P := Tryd.prog) 29 5 .i64 Tryd.underlying29 hi042 1 hsz42 (some ad349) x1_1.length co41 1 (by omega) q42
                          have hr42 := Kd.F_cut (m := (1 : Int).toNat) (c := co41) hC42 (by omega) hroom42
                          obtain ⟨A42, hA42⟩ : ∃ A1, A1 = (if co41 = (1 : Int).toNat then (some ad349) else ((some ad349) : Option Addr).map (·.add ((1 : Int).toNat * 1))) := ⟨_, rfl⟩
                          obtain ⟨c42, hc42⟩ : ∃ c1, c1 = co41 - (1 : Int).toNat := ⟨_, rfl⟩
                          have hy42 : y351.length = x1_1.length - (1 : Int).toNat := (by rw [Ny351.out, List.length_drop] <;> omega)
                          rw [show (x1_1).drop (1 : Int).toNat = y351 from Ny351.out.symm] at hr42
                          replace hr42 : Kd.F (Kd.int .u8) _ _ A42 y351.length y351 := (by rw [hA42]; exact hr42)
                          rw [← hy42, ← hA42, ← hc42] at hcut42
                          have HO355 := z05.mk (show Kd.V (Kd.int .u8) 5 _ w.heap.size _ (.slice A42 y351.length c42) y351 from Kd.V_mk (by rw [hy42, hc42]; exact Nat.sub_le_sub_right hroom42 _) hr42)
                          have HC355 := z05.mk (show y351.length ≤ c42 from by rw [hy42, hc42]; exact Nat.sub_le_sub_right hroom42 _)
                          clear hr42 hC42 hroom42 hi042 hsz42 hc42
                          have KY42 := z05.mk hy42
                          have KA42 := z05.mk hA42
                          clear hy42 hA42
                          replace q42 := eq_true q42
                          have p359 : 0 ≤ (x8_1 : Int) := of_decide_eq_true (by first | (with_reducible assumption) | assumption)
                          have q359 : x8_1 < (l0_0.length : Int) := of_decide_eq_true (by first | (with_reducible assumption) | assumption)
                          obtain ⟨ad359, e359, hx359_0, hx359_1, hx359_2⟩ := at_T48 HR0_0.out x8_1 p359 q359
                          (try rw [← Nbq10.out] at hx359_2)
                          obtain rfl : ad348 = ad359 := (by injection e359)
                          replace hx359_0 := (HB.out.cell (World.block_lt_of_cell? w _ hx359_0)).trans hx359_0
                          replace hx359_1 := (HB.out.cell (World.block_lt_of_cell? w _ hx359_1)).trans hx359_1
                          replace hx359_2 := (HB.out.cell (World.block_lt_of_cell? w _ hx359_2)).trans hx359_2
                          replace p359 := eq_true p359
                          replace q359 := eq_true q359
                          go_wp2_with (first | ((with_reducible refine gate_callee (f := 36) rfl ?_); refine goesL_ (some 56) rfl rfl Tryd.func36 (by kernel_rfl) rfl #[.slice A42 y351.length c42, .int .i64 ((rd_T48 l0_0 x8_1).f1)] rfl (by (try simp only [List.map_toArray, List.map_cons, List.map_nil]); first | done | rfl | (simp only [List.length_drop, List.length_take]; rfl)) ?_; (with_reducible refine (winnowerref06_Get.calls _ _ y351 ((rd_T48 l0_0 x8_1).f1) t360 t361 t362 t363 t364 t365 _ ?side1 ?side2 A26.out).mono ?_); (case side1 => repeat (first | exact (Kd.V_reads' HO355.out).2.2 | (with_reducible refine Kd.C_alloc ?_ _) | (with_reducible refine Kd.C_drewN ?_ _) | (with_reducible refine Kd.C_drew ?_))); (case side2 => exact (Kd.V_reads' HO355.out).2.1); rintro e w43 ⟨rfl, hb⟩; refine ⟨_, rfl, ?_⟩; have n0_ := z05.mk (Kd.V_below (by (with_reducible repeat (first | apply Kd.V_alloc | apply Kd.V_drewN | apply Kd.V_drew)); exact HO_1.out) hb); have n1_ := z05.mk (Kd.R_below (by (with_reducible repeat (first | apply Kd.R_alloc | apply Kd.R_drewN | apply Kd.R_drew)); exact HO_7.out) hb); have n2_ := z05.mk (Kd.V_below (by (with_reducible repeat (first | apply Kd.V_alloc | apply Kd.V_drewN | apply Kd.V_drew)); exact HO355.out) hb); have n3_ := z05.mk (blk_below (g := gb346) (o := .cells #[.slice (some ad348) l0_0.length c0_0, .int .i64 a0_1, .int .i64 a0_2, .int .i64 a0_3, .int .i64 a0_4] 24 (0, 0)) (by (with_reducible repeat (first | refine z07 ?_ _ | refine z08 ?_ | refine z06 ?_ _)); exact BK346.out) hb); have n4_ := z05.mk (below_step (by repeat (first | (with_reducible first | exact HB.out | apply z02 | apply z00 | apply z03 | refine z09 ?_ GE346.out) | exact HB.out)) hb); clear HO_1; clear HO_7; clear HO355; clear BK346; clear HB; have HO_1 := n0_; have HO_7 := n1_; have HO355 := n2_; have BK346 := n3_; have HB := n4_; clear n0_ n1_ n2_ n3_ n4_; (try clear hb); (try clear hb2); (try clear hk); (try clear hi)) | ((with_reducible refine gate_dst (N := 10) rfl ?_); refine box_event ?hg (N := 10) ?hd (cs := #[.int .i64 0, .int .i64 0, .string (⟨#[]⟩ : ByteArray), .bool false]) (t := 46) ?hr ?_; (case hd => rfl); (case hg => rfl); (case hr => first | (go_simp; done) | (go_simp; rfl)); intro gb366 hg w44 hbox hb; have n0_ := z05.mk (Kd.V_below (Kd.V_elderB (by (with_reducible repeat (first | apply Kd.V_alloc | apply Kd.V_drewN | apply Kd.V_drew)); exact HO_1.out) gb366 (Nat.le_of_eq hg.symm)) hb); have n1_ := z05.mk (Kd.R_below (Kd.R_elderB (by (with_reducible repeat (first | apply Kd.R_alloc | apply Kd.R_drewN | apply Kd.R_drew)); exact HO_7.out) gb366 (Nat.le_of_eq hg.symm)) hb); have n2_ := z05.mk (Kd.V_below (Kd.V_elderB (by (with_reducible repeat (first | apply Kd.V_alloc | apply Kd.V_drewN | apply Kd.V_drew)); exact HO355.out) gb366 (Nat.le_of_eq hg.symm)) hb); have n3_ := z05.mk (blk_below (g := gb346) (o := .cells #[.slice (some ad348) l0_0.length c0_0, .int .i64 a0_1, .int .i64 a0_2, .int .i64 a0_3, .int .i64 a0_4] 24 (0, 0)) (by (with_reducible repeat (first | refine z07 ?_ _ | refine z08 ?_ | refine z06 ?_ _)); exact BK346.out) hb); have n4_ := z05.mk (below_step (by repeat (first | (with_reducible first | exact HB.out | apply z02 | apply z00 | apply z03 | refine z09 ?_ GE346.out) | exact HB.out)) hb); have n5_ := z05.mk (hbox); have n6_ := z05.mk ((by rw [hg]; exact (below_size (by repeat (first | (with_reducible first | exact HB.out | apply z02 | apply z00 | apply z03 | refine z09 ?_ GE346.out) | exact HB.out))) : w.heap.size ≤ gb366)); have n7_ := z05.mk ((by rw [hg]; exact (below_size (by repeat (first | (with_reducible first | exact HB.out | apply z02 | apply z00 | apply z03 | refine z09 ?_ GE346.out) | exact HB.out))) : w.heap.size ≤ gb366)); have n8_ := z05.mk ((by rw [hg]; exact Nat.ne_of_lt (blk_lt (g := gb346) (o := .cells #[.slice (some ad348) l0_0.length c0_0, .int .i64 a0_1, .int .i64 a0_2, .int .i64 a0_3, .int .i64 a0_4] 24 (0, 0)) (by (with_reducible repeat (first | refine z07 ?_ _ | refine z08 ?_ | refine z06 ?_ _)); exact BK346.out)) : gb346 ≠ gb366)); have n9_ := z05.mk ((by rw [hg]; exact Nat.ne_of_gt (blk_lt (g := gb346) (o := .cells #[.slice (some ad348) l0_0.length c0_0, .int .i64 a0_1, .int .i64 a0_2, .int .i64 a0_3, .int .i64 a0_4] 24 (0, 0)) (by (with_reducible repeat (first | refine z07 ?_ _ | refine z08 ?_ | refine z06 ?_ _)); exact BK346.out)) : gb366 ≠ gb346)); clear HO_1; clear HO_7; clear HO355; clear BK346; clear HB; have HO_1 := n0_; have HO_7 := n1_; have HO355 := n2_; have BK346 := n3_; have HB := n4_; have BK366 := n5_; have GW366 := n6_; have GE366 := n7_; have NB346_366 := n8_; have NB366_346 := n9_; clear n0_ n1_ n2_ n3_ n4_ n5_ n6_ n7_ n8_ n9_; clear hb hbox hg; have hnb45 := NB366_346.out; have hnc45 := NB346_366.out; have hcz46_0 : w44.cell? ⟨gb366, 0, none⟩ = some (.int .i64 0) := (z04 BK366.out 0).trans rfl; have hcz46_1 : w44.cell? ⟨gb366, 1, none⟩ = some (.int .i64 0) := (z04 BK366.out 1).trans rfl; have hcz46_2 : w44.cell? ⟨gb366, 2, none⟩ = some (.string (⟨#[]⟩ : ByteArray)) := (z04 BK366.out 2).trans rfl; have hcz46_3 : w44.cell? ⟨gb366, 3, none⟩ = some (.bool false) := (z04 BK366.out 3).trans (by first | rfl | (rw [Nbq10.out]; rfl)); have hfz46_0 := z01 BK366.out 0; have hfz46_1 := z01 BK366.out 1; have hfz46_2 := z01 BK366.out 2; have hfz46_3 := z01 BK366.out 3))
                          go_ret2
                          exact ⟨_, by first | rfl | (simp [errW_none, errW_some] <;> rfl) | (refine congrArg (fun b_ : Bool => Ending.returned (Value.bool b_)) ?_; simp; done) | (simp [*, errW_none, errW_some] <;> rfl), by first | exact Kd.R_nil _ _ _ _ _ | exact Kd.N_nil _ _ _ _ _ | exact Kd.V_nil _ _ _ _ _ | exact Kd.Q_nil _ _ _ _ _ | exact Kd.S_nil _ _ _ _ _, by repeat (first | (with_reducible first | exact HB.out | apply z02 | apply z00 | apply z03 | refine z09 ?_ GE346.out | refine z09 ?_ GE366.out) | exact HB.out)⟩
                    · rw [if_neg c19] at H
                      exact absurd H (by simp)
                · rw [if_neg c15] at H
                  exact absurd H (by simp)
            · replace c11 := Bool.eq_false_iff.mpr c11
              subst c11
              have H1 : ((winnowerref06_Get.f x1_1 ((rd_T48 l0_0 x8_1).f1)).bind fun bt376 => (if bt376.2.2.2.2.2 = 0 then (if x7_1.length < 3518437208883 then (if 0 ≤ bt376.2.2.2.2.1 then (if bt376.2.2.2.2.1 ≤ (x1_1.length : Int) then (winnowerref07_Decode.l0 k1 (x1_1.drop (bt376.2.2.2.2.1 : Int).toNat) (x7_1 ++ [(⟨bt376.1, bt376.2.1, bt376.2.2.1, bt376.2.2.2.1⟩ : S46)]) (wrap64 (x8_1 + 1)) l0_0 a0_1 a0_2 a0_3 a0_4) else (none)) else (none)) else (none)) else (some (([] : List (S46)), bt376.2.2.2.2.2)))) = some (r1, r2) := by rw [if_neg (show ¬ (false = true) by decide)] at H; exact H
              clear H
              have H := H1
              clear H1
              replace H := Option.bind_eq_some_iff.mp H
              obtain ⟨⟨t376, t377, t378, t379, t380, t381⟩, A470, H⟩ := H
              replace H : (if t381 = 0 then (if x7_1.length < 3518437208883 then (if 0 ≤ t380 then (if t380 ≤ (x1_1.length : Int) then (winnowerref07_Decode.l0 k1 (x1_1.drop (t380 : Int).toNat) (x7_1 ++ [(⟨t376, t377, t378, t379⟩ : S46)]) (wrap64 (x8_1 + 1)) l0_0 a0_1 a0_2 a0_3 a0_4) else (none)) else (none)) else (none)) else (some (([] : List (S46)), t381))) = some (r1, r2) := H
              have A47 := z05.mk A470
              clear A470
              by_cases c48 : t381 = 0
              · rw [if_pos c48] at H
                have c48b0 : (t381 == 0) = true := beq_iff_eq.mpr c48
                have c48b1 : (t381 != 0) = false := bne_eq_false_iff_eq.mpr c48
                clear c48
                by_cases c49 : x7_1.length < 3518437208883
                · rw [if_pos c49] at H
                  have LMc49 := z05.mk c49
                  clear c49
                  obtain ⟨y383, hy383⟩ : ∃ y_ : List (S46), y_ = (x7_1 ++ [(⟨t376, t377, t378, t379⟩ : S46)]) := ⟨_, rfl⟩
                  replace H : (if 0 ≤ t380 then (if t380 ≤ (x1_1.length : Int) then (winnowerref07_Decode.l0 k1 (x1_1.drop (t380 : Int).toNat) y383 (wrap64 (x8_1 + 1)) l0_0 a0_1 a0_2 a0_3 a0_4) else (none)) else (none)) = some (r1, r2) := by first | (rw [hy383]; with_reducible exact H) | (have H2_ := (Option.bind_some _ _).symm.trans H; rw [hy383]; with_reducible exact H2_) | (have H2_ := (Option.bind_some _ _).symm.trans H; with_reducible exact H2_) | with_reducible exact H | (rw [hy383]; exact H) | exact H
                  have Ny383 := z05.mk hy383
                  clear hy383
                  by_cases c50 : 0 ≤ t380
                  · rw [if_pos c50] at H
                    have c50b0 := eq_true c50
                    have c50b1 : decide (0 ≤ t380) = true := decide_eq_true c50
                    clear c50
                    by_cases c51 : t380 ≤ (x1_1.length : Int)
                    · rw [if_pos c51] at H
                      have c51b0 := eq_true c51
                      have c51b1 : decide (t380 ≤ (x1_1.length : Int)) = true := decide_eq_true c51
                      clear c51
                      obtain ⟨y386, hy386⟩ : ∃ y_ : List Int, y_ = (x1_1.drop (t380 : Int).toNat) := ⟨_, rfl⟩
                      replace H : (winnowerref07_Decode.l0 k1 y386 y383 (wrap64 (x8_1 + 1)) l0_0 a0_1 a0_2 a0_3 a0_4) = some (r1, r2) := by first | (rw [hy386]; with_reducible exact H) | (have H2_ := (Option.bind_some _ _).symm.trans H; rw [hy386]; with_reducible exact H2_) | (have H2_ := (Option.bind_some _ _).symm.trans H; with_reducible exact H2_) | with_reducible exact H | (rw [hy386]; exact H) | exact H
                      have Ny386 := z05.mk hy386
                      clear hy386
                      have H' := z05.mk H
                      clear H
                      have hcz52_0 : wr.cell? ⟨gb346, 0, none⟩ = some (.slice A0_0 l0_0.length c0_0) := (z04 BK346.out 0).trans rfl
                      have hcz52_1 : wr.cell? ⟨gb346, 1, none⟩ = some (.int .i64 a0_1) := (z04 BK346.out 1).trans rfl
                      have hcz52_2 : wr.cell? ⟨gb346, 2, none⟩ = some (.int .i64 a0_2) := (z04 BK346.out 2).trans rfl
                      have hcz52_3 : wr.cell? ⟨gb346, 3, none⟩ = some (.int .i64 a0_3) := (z04 BK346.out 3).trans rfl
                      have hcz52_4 : wr.cell? ⟨gb346, 4, none⟩ = some (.int .i64 a0_4) := (z04 BK346.out 4).trans rfl
                      have hfz52_0 := z01 BK346.out 0
                      have hfz52_1 := z01 BK346.out 1
                      have hfz52_2 := z01 BK346.out 2
                      have hfz52_3 := z01 BK346.out 3
                      have hfz52_4 := z01 BK346.out 4
                      have p348 : 0 ≤ (x8_1 : Int) := of_decide_eq_true (by first | (with_reducible assumption) | assumption)
                      have q348 : x8_1 < (l0_0.length : Int) := of_decide_eq_true (by first | (with_reducible assumption) | assumption)
                      obtain ⟨ad348, e348, hx348_0, hx348_1, hx348_2⟩ := at_T48 HR0_0.out x8_1 p348 q348
                      (try rw [← Nbq10.out] at hx348_2)
                      cases e348
                      replace hx348_0 := (HB.out.cell (World.block_lt_of_cell? w _ hx348_0)).trans hx348_0
                      replace hx348_1 := (HB.out.cell (World.block_lt_of_cell? w _ hx348_1)).trans hx348_1
                      replace hx348_2 := (HB.out.cell (World.block_lt_of_cell? w _ hx348_2)).trans hx348_2
                      replace p348 := eq_true p348
                      replace q348 := eq_true q348
                      have p375 : 0 ≤ (x8_1 : Int) := of_decide_eq_true (by first | (with_reducible assumption) | assumption)
                      have q375 : x8_1 < (l0_0.length : Int) := of_decide_eq_true (by first | (with_reducible assumption) | assumption)
                      obtain ⟨ad375, e375, hx375_0, hx375_1, hx375_2⟩ := at_T48 HR0_0.out x8_1 p375 q375
                      (try rw [← Nbq10.out] at hx375_2)
                      obtain rfl : ad348 = ad375 := (by injection e375)
                      replace hx375_0 := (HB.out.cell (World.block_lt_of_cell? w _ hx375_0)).trans hx375_0
                      replace hx375_1 := (HB.out.cell (World.block_lt_of_cell? w _ hx375_1)).trans hx375_1
                      replace hx375_2 := (HB.out.cell (World.block_lt_of_cell? w _ hx375_2)).trans hx375_2
                      replace p375 := eq_true p375
                      replace q375 := eq_true q375
                      obtain ⟨Ao53, co53, eo53⟩ := Kd.V_slice HO_1.out
                      subst eo53
                      go_wp2_with (first | ((with_reducible refine gate_callee (f := 36) rfl ?_); refine goesL_ (some 56) rfl rfl Tryd.func36 (by kernel_rfl) rfl #[.slice Ao53 x1_1.length co53, .int .i64 ((rd_T48 l0_0 x8_1).f1)] rfl (by (try simp only [List.map_toArray, List.map_cons, List.map_nil]); first | done | rfl | (simp only [List.length_drop, List.length_take]; rfl)) ?_; (with_reducible refine (winnowerref06_Get.calls _ _ x1_1 ((rd_T48 l0_0 x8_1).f1) t376 t377 t378 t379 t380 t381 _ ?side1 ?side2 A47.out).mono ?_); (case side1 => repeat (first | exact (Kd.V_reads' HO_1.out).2.2 | (with_reducible refine Kd.C_alloc ?_ _) | (with_reducible refine Kd.C_drewN ?_ _) | (with_reducible refine Kd.C_drew ?_))); (case side2 => exact (Kd.V_reads' HO_1.out).2.1); rintro e w54 ⟨rfl, hb⟩; refine ⟨_, rfl, ?_⟩; have n0_ := z05.mk (Kd.V_below (by (with_reducible repeat (first | apply Kd.V_alloc | apply Kd.V_drewN | apply Kd.V_drew)); exact HO_1.out) hb); have n1_ := z05.mk (Kd.R_below (by (with_reducible repeat (first | apply Kd.R_alloc | apply Kd.R_drewN | apply Kd.R_drew)); exact HO_7.out) hb); have n2_ := z05.mk (blk_below (g := gb346) (o := .cells #[.slice (some ad348) l0_0.length c0_0, .int .i64 a0_1, .int .i64 a0_2, .int .i64 a0_3, .int .i64 a0_4] 24 (0, 0)) (by (with_reducible repeat (first | refine z07 ?_ _ | refine z08 ?_ | refine z06 ?_ _)); exact BK346.out) hb); have n3_ := z05.mk (below_step (by repeat (first | (with_reducible first | exact HB.out | apply z02 | apply z00 | apply z03 | refine z09 ?_ GE346.out) | exact HB.out)) hb); clear HO_1; clear HO_7; clear BK346; clear HB; have HO_1 := n0_; have HO_7 := n1_; have BK346 := n2_; have HB := n3_; clear n0_ n1_ n2_ n3_; (try clear hb); (try clear hb2); (try clear hk); (try clear hi)) | ((with_reducible refine gate_dst (N := 10) rfl ?_); refine box_event ?hg (N := 10) ?hd (cs := #[.int .i64 0, .int .i64 0, .string (⟨#[]⟩ : ByteArray), .bool false]) (t := 46) ?hr ?_; (case hd => rfl); (case hg => rfl); (case hr => first | (go_simp; done) | (go_simp; rfl)); intro gb382 hg w55 hbox hb; have n0_ := z05.mk (Kd.V_below (Kd.V_elderB (by (with_reducible repeat (first | apply Kd.V_alloc | apply Kd.V_drewN | apply Kd.V_drew)); exact HO_1.out) gb382 (Nat.le_of_eq hg.symm)) hb); have n1_ := z05.mk (Kd.R_below (Kd.R_elderB (by (with_reducible repeat (first | apply Kd.R_alloc | apply Kd.R_drewN | apply Kd.R_drew)); exact HO_7.out) gb382 (Nat.le_of_eq hg.symm)) hb); have n2_ := z05.mk (blk_below (g := gb346) (o := .cells #[.slice (some ad348) l0_0.length c0_0, .int .i64 a0_1, .int .i64 a0_2, .int .i64 a0_3, .int .i64 a0_4] 24 (0, 0)) (by (with_reducible repeat (first | refine z07 ?_ _ | refine z08 ?_ | refine z06 ?_ _)); exact BK346.out) hb); have n3_ := z05.mk (below_step (by repeat (first | (with_reducible first | exact HB.out | apply z02 | apply z00 | apply z03 | refine z09 ?_ GE346.out) | exact HB.out)) hb); have n4_ := z05.mk (hbox); have n5_ := z05.mk ((by rw [hg]; exact (below_size (by repeat (first | (with_reducible first | exact HB.out | apply z02 | apply z00 | apply z03 | refine z09 ?_ GE346.out) | exact HB.out))) : w.heap.size ≤ gb382)); have n6_ := z05.mk ((by rw [hg]; exact (below_size (by repeat (first | (with_reducible first | exact HB.out | apply z02 | apply z00 | apply z03 | refine z09 ?_ GE346.out) | exact HB.out))) : w.heap.size ≤ gb382)); have n7_ := z05.mk ((by rw [hg]; exact Nat.ne_of_lt (blk_lt (g := gb346) (o := .cells #[.slice (some ad348) l0_0.length c0_0, .int .i64 a0_1, .int .i64 a0_2, .int .i64 a0_3, .int .i64 a0_4] 24 (0, 0)) (by (with_reducible repeat (first | refine z07 ?_ _ | refine z08 ?_ | refine z06 ?_ _)); exact BK346.out)) : gb346 ≠ gb382)); have n8_ := z05.mk ((by rw [hg]; exact Nat.ne_of_gt (blk_lt (g := gb346) (o := .cells #[.slice (some ad348) l0_0.length c0_0, .int .i64 a0_1, .int .i64 a0_2, .int .i64 a0_3, .int .i64 a0_4] 24 (0, 0)) (by (with_reducible repeat (first | refine z07 ?_ _ | refine z08 ?_ | refine z06 ?_ _)); exact BK346.out)) : gb382 ≠ gb346)); clear HO_1; clear HO_7; clear BK346; clear HB; have HO_1 := n0_; have HO_7 := n1_; have BK346 := n2_; have HB := n3_; have BK382 := n4_; have GW382 := n5_; have GE382 := n6_; have NB346_382 := n7_; have NB382_346 := n8_; clear n0_ n1_ n2_ n3_ n4_ n5_ n6_ n7_ n8_; clear hb hbox hg; have hnb56 := NB382_346.out; have hnc56 := NB346_382.out; have hcz57_0 : w55.cell? ⟨gb382, 0, none⟩ = some (.int .i64 0) := (z04 BK382.out 0).trans rfl; have hcz57_1 : w55.cell? ⟨gb382, 1, none⟩ = some (.int .i64 0) := (z04 BK382.out 1).trans rfl; have hcz57_2 : w55.cell? ⟨gb382, 2, none⟩ = some (.string (⟨#[]⟩ : ByteArray)) := (z04 BK382.out 2).trans rfl; have hcz57_3 : w55.cell? ⟨gb382, 3, none⟩ = some (.bool false) := (z04 BK382.out 3).trans rfl; have hfz57_0 := z01 BK382.out 0; have hfz57_1 := z01 BK382.out 1; have hfz57_2 := z01 BK382.out 2; have hfz57_3 := z01 BK382.out 3) | ((with_reducible refine gate_builtin (b := .append) (xs := #[.tmp 63, .tmp 65]) rfl ?_); at_builtin; refine Kd.R_append k46 (w0 := w) w.heap.size rfl (.tmp 63) (.tmp 65) 25 46 (.agg #[(.int .i64 0), (.int .i64 0), (.string ⟨#[]⟩), (.bool false)]) 40 rfl Tryd.underlying25 info46 rfl (by decide) (by omega) u7 x7_1 (⟨t376, t377, t378, t379⟩ : S46) [.int .i64 t376, .int .i64 t377, .string t378, .bool t379] (fun k_ => (w.heap.size ≤ k_) ∧ k_ ≠ gb382) (fun _ => False) rfl (by first | (go_simp; done) | (go_simp; rfl)) ?aP (fun _ hk => hk.elim) ?aF ?aO ?aB ?aS ?aL ?_; (case aP => exact k46_mkM _ _ _ (⟨t376, t377, t378, t379⟩ : S46)); (case aB => exact (by repeat (first | (with_reducible first | exact HB.out | apply z02 | apply z00 | apply z03 | refine z09 ?_ GE346.out | refine z09 ?_ GE382.out) | exact HB.out))); (case aF => exact (fun k_ hk => ⟨(Nat.le_trans (below_size (by repeat (first | (with_reducible first | exact HB.out | apply z02 | apply z00 | apply z03 | refine z09 ?_ GE346.out | refine z09 ?_ GE382.out) | exact HB.out))) hk), Kd.freshB (g := gb382) (o := .cells #[.int .i64 t376, .int .i64 t377, .string t378, .bool t379] 46 (0, 0)) (by (with_reducible repeat (first | refine z07 ?_ _ | refine z08 ?_ | refine z06 ?_ _)); refine blk_put (cs := #[.int .i64 t376, .int .i64 t377, .string t378, .bool false]) ?_ 3 _ rfl; (with_reducible repeat (first | refine z07 ?_ _ | refine z08 ?_ | refine z06 ?_ _)); refine blk_put (cs := #[.int .i64 t376, .int .i64 t377, .string (⟨#[]⟩ : ByteArray), .bool false]) ?_ 2 _ rfl; (with_reducible repeat (first | refine z07 ?_ _ | refine z08 ?_ | refine z06 ?_ _)); refine blk_put (cs := #[.int .i64 t376, .int .i64 0, .string (⟨#[]⟩ : ByteArray), .bool false]) ?_ 1 _ rfl; (with_reducible repeat (first | refine z07 ?_ _ | refine z08 ?_ | refine z06 ?_ _)); refine blk_put (cs := #[.int .i64 0, .int .i64 0, .string (⟨#[]⟩ : ByteArray), .bool false]) ?_ 0 _ rfl; (with_reducible repeat (first | refine z07 ?_ _ | refine z08 ?_ | refine z06 ?_ _)); exact BK382.out) k_ hk⟩)); (case aO => exact (by (with_reducible repeat (first | apply Kd.R_alloc | apply Kd.R_drewN | apply Kd.R_drew)); exact Kd.R_mono (Kd.R_far (p := ⟨gb382, 3, none⟩) (Kd.R_far (p := ⟨gb382, 2, none⟩) (Kd.R_far (p := ⟨gb382, 1, none⟩) (Kd.R_far (p := ⟨gb382, 0, none⟩) (Kd.R_mono HO_7.out (fun k_ hk => (⟨hk, hk.2⟩ : _ ∧ k_ ≠ gb382))) (fun _ hk => hk.2) (.int .i64 t376)) (fun _ hk => hk.2) (.int .i64 t377)) (fun _ hk => hk.2) (.string t378)) (fun _ hk => hk.2) (.bool t379)) (fun _ hk => ⟨hk.1.1, hk.1.2⟩))); (case aS => exact (below_size (by repeat (first | (with_reducible first | exact HB.out | apply z02 | apply z00 | apply z03 | refine z09 ?_ GE346.out | refine z09 ?_ GE382.out) | exact HB.out)))); (case aL => have := LMc49.out; omega); intro v384 w58 ho hb hg hat; rw [← Ny383.out] at ho; have n0_ := z05.mk (Kd.V_afterv (ok := (fun k_ => (P1_ k_ ∨ w.heap.size ≤ k_) ∧ k_ ≠ gb346 ∧ k_ ≠ gb382)) (by (with_reducible repeat (first | apply Kd.V_alloc | apply Kd.V_drewN | apply Kd.V_drew)); exact Kd.V_mono (Kd.V_far (p := ⟨gb382, 3, none⟩) (Kd.V_far (p := ⟨gb382, 2, none⟩) (Kd.V_far (p := ⟨gb382, 1, none⟩) (Kd.V_far (p := ⟨gb382, 0, none⟩) (Kd.V_mono HO_1.out (fun k_ hk => (⟨hk, hk.2⟩ : _ ∧ k_ ≠ gb382))) (fun _ hk => hk.2) (.int .i64 t376)) (fun _ hk => hk.2) (.int .i64 t377)) (fun _ hk => hk.2) (.string t378)) (fun _ hk => hk.2) (.bool t379)) (fun _ hk => ⟨⟨hk.1.1.1, ⟨hk.1.1.2.2, hk.1.2⟩⟩, hk.1.1.2.1⟩)) hg hat); have n1_ := z05.mk (blk_grown (g := gb346) (o := .cells #[.slice (some ad348) l0_0.length c0_0, .int .i64 a0_1, .int .i64 a0_2, .int .i64 a0_3, .int .i64 a0_4] 24 (0, 0)) (by (with_reducible repeat (first | refine z07 ?_ _ | refine z08 ?_ | refine z06 ?_ _)); refine blk_far ?_ NB346_382.out _; (with_reducible repeat (first | refine z07 ?_ _ | refine z08 ?_ | refine z06 ?_ _)); refine blk_far ?_ NB346_382.out _; (with_reducible repeat (first | refine z07 ?_ _ | refine z08 ?_ | refine z06 ?_ _)); refine blk_far ?_ NB346_382.out _; (with_reducible repeat (first | refine z07 ?_ _ | refine z08 ?_ | refine z06 ?_ _)); refine blk_far ?_ NB346_382.out _; (with_reducible repeat (first | refine z07 ?_ _ | refine z08 ?_ | refine z06 ?_ _)); exact BK346.out) hg (Kd.R_ne HO_7.out BK346.out (by decide))); have n2_ := z05.mk (blk_grown (g := gb382) (o := .cells #[.int .i64 t376, .int .i64 t377, .string t378, .bool t379] 46 (0, 0)) (by (with_reducible repeat (first | refine z07 ?_ _ | refine z08 ?_ | refine z06 ?_ _)); refine blk_put (cs := #[.int .i64 t376, .int .i64 t377, .string t378, .bool false]) ?_ 3 _ rfl; (with_reducible repeat (first | refine z07 ?_ _ | refine z08 ?_ | refine z06 ?_ _)); refine blk_put (cs := #[.int .i64 t376, .int .i64 t377, .string (⟨#[]⟩ : ByteArray), .bool false]) ?_ 2 _ rfl; (with_reducible repeat (first | refine z07 ?_ _ | refine z08 ?_ | refine z06 ?_ _)); refine blk_put (cs := #[.int .i64 t376, .int .i64 0, .string (⟨#[]⟩ : ByteArray), .bool false]) ?_ 1 _ rfl; (with_reducible repeat (first | refine z07 ?_ _ | refine z08 ?_ | refine z06 ?_ _)); refine blk_put (cs := #[.int .i64 0, .int .i64 0, .string (⟨#[]⟩ : ByteArray), .bool false]) ?_ 0 _ rfl; (with_reducible repeat (first | refine z07 ?_ _ | refine z08 ?_ | refine z06 ?_ _)); exact BK382.out) hg (Kd.R_away HO_7.out (fun _ hk => hk.2))); have n3_ := z05.mk (hb); have n4_ := z05.mk (ho); clear HO_1; clear BK346; clear BK382; clear HB; clear HO_7; have HO_1 := n0_; have BK346 := n1_; have BK382 := n2_; have HB := n3_; have HO385 := n4_; clear n0_ n1_ n2_ n3_ n4_; clear ho hb hg hat; have q59 : (t380 : Int) ≤ ((x1_1.length : Int) : Int) := of_decide_eq_true (by first | (with_reducible assumption) | assumption); obtain ⟨i059, hi059, _, hsz59, _⟩ := info_parts info5; have hroom59 : x1_1.length ≤ co53 := (Kd.V_reads' HO_1.out).2.1; have hC59 : Kd.F (Kd.int .u8) _ _ Ao53 x1_1.length x1_1 := (Kd.V_at (base := w.heap.size) HO_1.out).2.2; have q059 : (0 : Int) ≤ (t380 : Int) := of_decide_eq_true (by first | (with_reducible assumption) | assumption); have hcut59 := cut_from (P := Tryd.prog) 29 5 .i64 Tryd.underlying29 hi059 1 hsz59 Ao53 x1_1.length co53 t380 q059 q59; have hr59 := Kd.F_cut (m := (t380 : Int).toNat) (c := co53) hC59 (by omega) hroom59; obtain ⟨A59, hA59⟩ : ∃ A1, A1 = (if co53 = (t380 : Int).toNat then Ao53 else (Ao53 : Option Addr).map (·.add ((t380 : Int).toNat * 1))) := ⟨_, rfl⟩; obtain ⟨c59, hc59⟩ : ∃ c1, c1 = co53 - (t380 : Int).toNat := ⟨_, rfl⟩; have hy59 : y386.length = x1_1.length - (t380 : Int).toNat := (by rw [Ny386.out, List.length_drop] <;> omega); rw [show (x1_1).drop (t380 : Int).toNat = y386 from Ny386.out.symm] at hr59; replace hr59 : Kd.F (Kd.int .u8) _ _ A59 y386.length y386 := (by rw [hA59]; exact hr59); rw [← hy59, ← hA59, ← hc59] at hcut59; have HO390 := z05.mk (show Kd.V (Kd.int .u8) 5 _ w.heap.size _ (.slice A59 y386.length c59) y386 from Kd.V_mk (by rw [hy59, hc59]; exact Nat.sub_le_sub_right hroom59 _) hr59); have HC390 := z05.mk (show y386.length ≤ c59 from by rw [hy59, hc59]; exact Nat.sub_le_sub_right hroom59 _); clear hr59 hC59 hroom59 hi059 hsz59 hc59; have KY59 := z05.mk hy59; have KA59 := z05.mk hA59; clear hy59 hA59; replace q59 := eq_true q59))
                      go_roundg k1
                      case measure => have := HK1.out; omega
                      case rel => exact ⟨(y386), (y383), (wrap64 (x8_1 + 1)), (by first | rfl | (simp; done) | (simp [*]; done)), H', ⟨by have := HK1.out; omega⟩, ⟨by (with_reducible repeat (first | apply Kd.V_alloc | apply Kd.V_drewN | apply Kd.V_drew)); exact Kd.V_mono HO390.out (fun _ hk => ⟨hk.1.1, ⟨hk.2, hk.1.2.1⟩⟩)⟩, ⟨by (with_reducible repeat (first | apply Kd.R_alloc | apply Kd.R_drewN | apply Kd.R_drew)); exact Kd.R_mono HO385.out (fun _ hk => hk.1)⟩, ⟨by (with_reducible repeat (first | refine z07 ?_ _ | refine z08 ?_ | refine z06 ?_ _)); exact BK346.out⟩, ⟨by repeat (first | (with_reducible first | exact HB.out | apply z02 | apply z00 | apply z03 | refine z09 ?_ GE346.out | refine z09 ?_ GE382.out) | exact HB.out)⟩⟩
                    · rw [if_neg c51] at H
                      exact absurd H (by simp)
                  · rw [if_neg c50] at H
                    exact absurd H (by simp)
                · rw [if_neg c49] at H
                  exact absurd H (by simp)
              · rw [if_neg c48] at H
                have c48b0 : (t381 == 0) = false := beq_eq_false_iff_ne.mpr c48
                have c48b1 : (t381 != 0) = true := bne_iff_ne.mpr c48
                simp only [Option.some.injEq, Prod.mk.injEq] at H
                obtain ⟨rfl, rfl⟩ := H
                have hcz60_0 : wr.cell? ⟨gb346, 0, none⟩ = some (.slice A0_0 l0_0.length c0_0) := (z04 BK346.out 0).trans rfl
                have hcz60_1 : wr.cell? ⟨gb346, 1, none⟩ = some (.int .i64 a0_1) := (z04 BK346.out 1).trans rfl
                have hcz60_2 : wr.cell? ⟨gb346, 2, none⟩ = some (.int .i64 a0_2) := (z04 BK346.out 2).trans rfl
                have hcz60_3 : wr.cell? ⟨gb346, 3, none⟩ = some (.int .i64 a0_3) := (z04 BK346.out 3).trans rfl
                have hcz60_4 : wr.cell? ⟨gb346, 4, none⟩ = some (.int .i64 a0_4) := (z04 BK346.out 4).trans rfl
                have hfz60_0 := z01 BK346.out 0
                have hfz60_1 := z01 BK346.out 1
                have hfz60_2 := z01 BK346.out 2
                have hfz60_3 := z01 BK346.out 3
                have hfz60_4 := z01 BK346.out 4
                have p348 : 0 ≤ (x8_1 : Int) := of_decide_eq_true (by first | (with_reducible assumption) | assumption)
                have q348 : x8_1 < (l0_0.length : Int) := of_decide_eq_true (by first | (with_reducible assumption) | assumption)
                obtain ⟨ad348, e348, hx348_0, hx348_1, hx348_2⟩ := at_T48 HR0_0.out x8_1 p348 q348
                (try rw [← Nbq10.out] at hx348_2)
                cases e348
                replace hx348_0 := (HB.out.cell (World.block_lt_of_cell? w _ hx348_0)).trans hx348_0
                replace hx348_1 := (HB.out.cell (World.block_lt_of_cell? w _ hx348_1)).trans hx348_1
                replace hx348_2 := (HB.out.cell (World.block_lt_of_cell? w _ hx348_2)).trans hx348_2
                replace p348 := eq_true p348
                replace q348 := eq_true q348
                have p375 : 0 ≤ (x8_1 : Int) := of_decide_eq_true (by first | (with_reducible assumption) | assumption)
                have q375 : x8_1 < (l0_0.length : Int) := of_decide_eq_true (by first | (with_reducible assumption) | assumption)
                obtain ⟨ad375, e375, hx375_0, hx375_1, hx375_2⟩ := at_T48 HR0_0.out x8_1 p375 q375
                (try rw [← Nbq10.out] at hx375_2)
                obtain rfl : ad348 = ad375 := (by injection e375)
                replace hx375_0 := (HB.out.cell (World.block_lt_of_cell? w _ hx375_0)).trans hx375_0
                replace hx375_1 := (HB.out.cell (World.block_lt_of_cell? w _ hx375_1)).trans hx375_1
                replace hx375_2 := (HB.out.cell (World.block_lt_of_cell? w _ hx375_2)).trans hx375_2
                replace p375 := eq_true p375
                replace q375 := eq_true q375
                obtain ⟨Ao61, co61, eo61⟩ := Kd.V_slice HO_1.out
                subst eo61
                go_wp2_with (first | ((with_reducible refine gate_callee (f := 36) rfl ?_); refine goesL_ (some 56) rfl rfl Tryd.func36 (by kernel_rfl) rfl #[.slice Ao61 x1_1.length co61, .int .i64 ((rd_T48 l0_0 x8_1).f1)] rfl (by (try simp only [List.map_toArray, List.map_cons, List.map_nil]); first | done | rfl | (simp only [List.length_drop, List.length_take]; rfl)) ?_; (with_reducible refine (winnowerref06_Get.calls _ _ x1_1 ((rd_T48 l0_0 x8_1).f1) t376 t377 t378 t379 t380 t381 _ ?side1 ?side2 A47.out).mono ?_); (case side1 => repeat (first | exact (Kd.V_reads' HO_1.out).2.2 | (with_reducible refine Kd.C_alloc ?_ _) | (with_reducible refine Kd.C_drewN ?_ _) | (with_reducible refine Kd.C_drew ?_))); (case side2 => exact (Kd.V_reads' HO_1.out).2.1); rintro e w62 ⟨rfl, hb⟩; refine ⟨_, rfl, ?_⟩; have n0_ := z05.mk (Kd.V_below (by (with_reducible repeat (first | apply Kd.V_alloc | apply Kd.V_drewN | apply Kd.V_drew)); exact HO_1.out) hb); have n1_ := z05.mk (Kd.R_below (by (with_reducible repeat (first | apply Kd.R_alloc | apply Kd.R_drewN | apply Kd.R_drew)); exact HO_7.out) hb); have n2_ := z05.mk (blk_below (g := gb346) (o := .cells #[.slice (some ad348) l0_0.length c0_0, .int .i64 a0_1, .int .i64 a0_2, .int .i64 a0_3, .int .i64 a0_4] 24 (0, 0)) (by (with_reducible repeat (first | refine z07 ?_ _ | refine z08 ?_ | refine z06 ?_ _)); exact BK346.out) hb); have n3_ := z05.mk (below_step (by repeat (first | (with_reducible first | exact HB.out | apply z02 | apply z00 | apply z03 | refine z09 ?_ GE346.out) | exact HB.out)) hb); clear HO_1; clear HO_7; clear BK346; clear HB; have HO_1 := n0_; have HO_7 := n1_; have BK346 := n2_; have HB := n3_; clear n0_ n1_ n2_ n3_; (try clear hb); (try clear hb2); (try clear hk); (try clear hi)) | ((with_reducible refine gate_dst (N := 10) rfl ?_); refine box_event ?hg (N := 10) ?hd (cs := #[.int .i64 0, .int .i64 0, .string (⟨#[]⟩ : ByteArray), .bool false]) (t := 46) ?hr ?_; (case hd => rfl); (case hg => rfl); (case hr => first | (go_simp; done) | (go_simp; rfl)); intro gb382 hg w63 hbox hb; have n0_ := z05.mk (Kd.V_below (Kd.V_elderB (by (with_reducible repeat (first | apply Kd.V_alloc | apply Kd.V_drewN | apply Kd.V_drew)); exact HO_1.out) gb382 (Nat.le_of_eq hg.symm)) hb); have n1_ := z05.mk (Kd.R_below (Kd.R_elderB (by (with_reducible repeat (first | apply Kd.R_alloc | apply Kd.R_drewN | apply Kd.R_drew)); exact HO_7.out) gb382 (Nat.le_of_eq hg.symm)) hb); have n2_ := z05.mk (blk_below (g := gb346) (o := .cells #[.slice (some ad348) l0_0.length c0_0, .int .i64 a0_1, .int .i64 a0_2, .int .i64 a0_3, .int .i64 a0_4] 24 (0, 0)) (by (with_reducible repeat (first | refine z07 ?_ _ | refine z08 ?_ | refine z06 ?_ _)); exact BK346.out) hb); have n3_ := z05.mk (below_step (by repeat (first | (with_reducible first | exact HB.out | apply z02 | apply z00 | apply z03 | refine z09 ?_ GE346.out) | exact HB.out)) hb); have n4_ := z05.mk (hbox); have n5_ := z05.mk ((by rw [hg]; exact (below_size (by repeat (first | (with_reducible first | exact HB.out | apply z02 | apply z00 | apply z03 | refine z09 ?_ GE346.out) | exact HB.out))) : w.heap.size ≤ gb382)); have n6_ := z05.mk ((by rw [hg]; exact (below_size (by repeat (first | (with_reducible first | exact HB.out | apply z02 | apply z00 | apply z03 | refine z09 ?_ GE346.out) | exact HB.out))) : w.heap.size ≤ gb382)); have n7_ := z05.mk ((by rw [hg]; exact Nat.ne_of_lt (blk_lt (g := gb346) (o := .cells #[.slice (some ad348) l0_0.length c0_0, .int .i64 a0_1, .int .i64 a0_2, .int .i64 a0_3, .int .i64 a0_4] 24 (0, 0)) (by (with_reducible repeat (first | refine z07 ?_ _ | refine z08 ?_ | refine z06 ?_ _)); exact BK346.out)) : gb346 ≠ gb382)); have n8_ := z05.mk ((by rw [hg]; exact Nat.ne_of_gt (blk_lt (g := gb346) (o := .cells #[.slice (some ad348) l0_0.length c0_0, .int .i64 a0_1, .int .i64 a0_2, .int .i64 a0_3, .int .i64 a0_4] 24 (0, 0)) (by (with_reducible repeat (first | refine z07 ?_ _ | refine z08 ?_ | refine z06 ?_ _)); exact BK346.out)) : gb382 ≠ gb346)); clear HO_1; clear HO_7; clear BK346; clear HB; have HO_1 := n0_; have HO_7 := n1_; have BK346 := n2_; have HB := n3_; have BK382 := n4_; have GW382 := n5_; have GE382 := n6_; have NB346_382 := n7_; have NB382_346 := n8_; clear n0_ n1_ n2_ n3_ n4_ n5_ n6_ n7_ n8_; clear hb hbox hg; have hnb64 := NB382_346.out; have hnc64 := NB346_382.out; have hcz65_0 : w63.cell? ⟨gb382, 0, none⟩ = some (.int .i64 0) := (z04 BK382.out 0).trans rfl; have hcz65_1 : w63.cell? ⟨gb382, 1, none⟩ = some (.int .i64 0) := (z04 BK382.out 1).trans rfl; have hcz65_2 : w63.cell? ⟨gb382, 2, none⟩ = some (.string (⟨#[]⟩ : ByteArray)) := (z04 BK382.out 2).trans rfl; have hcz65_3 : w63.cell? ⟨gb382, 3, none⟩ = some (.bool false) := (z04 BK382.out 3).trans rfl; have hfz65_0 := z01 BK382.out 0; have hfz65_1 := z01 BK382.out 1; have hfz65_2 := z01 BK382.out 2; have hfz65_3 := z01 BK382.out 3))
                go_ret2
                exact ⟨_, by first | rfl | (simp [errW_none, errW_some] <;> rfl) | (refine congrArg (fun b_ : Bool => Ending.returned (Value.bool b_)) ?_; simp; done) | (simp [*, errW_none, errW_some] <;> rfl), by first | exact Kd.R_nil _ _ _ _ _ | exact Kd.N_nil _ _ _ _ _ | exact Kd.V_nil _ _ _ _ _ | exact Kd.Q_nil _ _ _ _ _ | exact Kd.S_nil _ _ _ _ _, by repeat (first | (with_reducible first | exact HB.out | apply z02 | apply z00 | apply z03 | refine z09 ?_ GE346.out | refine z09 ?_ GE382.out) | exact HB.out)⟩
          · rw [if_neg c9] at H
            exact absurd H (by simp)
        · rw [if_neg c8] at H
          have c8b0 : decide (x8_1 < (l0_0.length : Int)) = false := decide_eq_false c8
          clear c8
          by_cases c66 : (x1_1.length : Int) > 0
          · rw [if_pos c66] at H
            have c66b0 : decide (0 < (x1_1.length : Int)) = true := decide_eq_true c66
            have c66b1 : decide (0 < x1_1.length) = true := decide_eq_true (by omega)
            clear c66
            simp only [Option.some.injEq, Prod.mk.injEq] at H
            obtain ⟨rfl, rfl⟩ := H
            have hcz67_0 : wr.cell? ⟨gb346, 0, none⟩ = some (.slice A0_0 l0_0.length c0_0) := (z04 BK346.out 0).trans rfl
            have hcz67_1 : wr.cell? ⟨gb346, 1, none⟩ = some (.int .i64 a0_1) := (z04 BK346.out 1).trans rfl
            have hcz67_2 : wr.cell? ⟨gb346, 2, none⟩ = some (.int .i64 a0_2) := (z04 BK346.out 2).trans rfl
            have hcz67_3 : wr.cell? ⟨gb346, 3, none⟩ = some (.int .i64 a0_3) := (z04 BK346.out 3).trans rfl
            have hcz67_4 : wr.cell? ⟨gb346, 4, none⟩ = some (.int .i64 a0_4) := (z04 BK346.out 4).trans rfl
            have hfz67_0 := z01 BK346.out 0
            have hfz67_1 := z01 BK346.out 1
            have hfz67_2 := z01 BK346.out 2
            have hfz67_3 := z01 BK346.out 3
            have hfz67_4 := z01 BK346.out 4
            obtain ⟨Ao68, co68, eo68⟩ := Kd.V_slice HO_1.out
            subst eo68
            go_wp2
            go_ret2
            exact ⟨_, by first | rfl | (simp [errW_none, errW_some] <;> rfl) | (refine congrArg (fun b_ : Bool => Ending.returned (Value.bool b_)) ?_; simp; done) | (simp [*, errW_none, errW_some] <;> rfl), by first | exact Kd.R_nil _ _ _ _ _ | exact Kd.N_nil _ _ _ _ _ | exact Kd.V_nil _ _ _ _ _ | exact Kd.Q_nil _ _ _ _ _ | exact Kd.S_nil _ _ _ _ _, by repeat (first | (with_reducible first | exact HB.out | apply z02 | apply z00 | apply z03 | refine z09 ?_ GE346.out) | exact HB.out)⟩
          · rw [if_neg c66] at H
            have c66b0 : decide (0 < (x1_1.length : Int)) = false := decide_eq_false c66
            have c66b1 : decide (0 < x1_1.length) = false := decide_eq_false (by omega)
            clear c66
            simp only [Option.some.injEq, Prod.mk.injEq] at H
            obtain ⟨rfl, rfl⟩ := H
            have hcz69_0 : wr.cell? ⟨gb346, 0, none⟩ = some (.slice A0_0 l0_0.length c0_0) := (z04 BK346.out 0).trans rfl
            have hcz69_1 : wr.cell? ⟨gb346, 1, none⟩ = some (.int .i64 a0_1) := (z04 BK346.out 1).trans rfl
            have hcz69_2 : wr.cell? ⟨gb346, 2, none⟩ = some (.int .i64 a0_2) := (z04 BK346.out 2).trans rfl
            have hcz69_3 : wr.cell? ⟨gb346, 3, none⟩ = some (.int .i64 a0_3) := (z04 BK346.out 3).trans rfl
            have hcz69_4 : wr.cell? ⟨gb346, 4, none⟩ = some (.int .i64 a0_4) := (z04 BK346.out 4).trans rfl
            have hfz69_0 := z01 BK346.out 0
            have hfz69_1 := z01 BK346.out 1
            have hfz69_2 := z01 BK346.out 2
            have hfz69_3 := z01 BK346.out 3
            have hfz69_4 := z01 BK346.out 4
            obtain ⟨Ao70, co70, eo70⟩ := Kd.V_slice HO_1.out
            subst eo70
            go_wp2
            go_ret2
            exact ⟨_, by first | rfl | (simp [errW_none, errW_some] <;> rfl) | (refine congrArg (fun b_ : Bool => Ending.returned (Value.bool b_)) ?_; simp; done) | (simp [*, errW_none, errW_some] <;> rfl), by (with_reducible repeat (first | apply Kd.R_alloc | apply Kd.R_drewN | apply Kd.R_drew)); exact HO_7.out, by repeat (first | (with_reducible first | exact HB.out | apply z02 | apply z00 | apply z03 | refine z09 ?_ GE346.out) | exact HB.out)⟩
  · replace c4 := Bool.eq_false_iff.mpr c4
    subst c4
    have H1 : (some (([] : List (S46)), 1)) = some (r1, r2) := by rw [if_neg (show ¬ (false = true) by decide)] at H; exact H
    clear H
    have H := H1
    clear H1
    simp only [Option.some.injEq, Prod.mk.injEq] at H
    obtain ⟨rfl, rfl⟩ := H
    go_enter Tryd.func21, Tryd.ntmps21
    go_wp2_with (first | ((with_reducible refine gate_dst (N := 2) rfl ?_); refine box_event ?hg (N := 2) ?hd (cs := #[.slice A0_0 l0_0.length c0_0, .int .i64 a0_1, .int .i64 a0_2, .int .i64 a0_3, .int .i64 a0_4]) (t := 24) ?hr ?_; (case hd => rfl); (case hg => rfl); (case hr => first | (go_simp; done) | (go_simp; rfl)); intro gb346 hg w71 hbox hb; have n0_ := z05.mk (Kd.V_below (Kd.V_elderB (by (with_reducible repeat (first | apply Kd.V_alloc | apply Kd.V_drewN | apply Kd.V_drew)); exact HO1.out) gb346 (Nat.le_of_eq hg.symm)) hb); have n1_ := z05.mk (below_step (by repeat (first | (with_reducible first | exact HB.out | apply z02 | apply z00 | apply z03) | exact HB.out)) hb); have n2_ := z05.mk (hbox); have n3_ := z05.mk ((by rw [hg]; exact (below_size (by repeat (first | (with_reducible first | exact HB.out | apply z02 | apply z00 | apply z03) | exact HB.out))) : w.heap.size ≤ gb346)); have n4_ := z05.mk ((by rw [hg]; exact (below_size (by repeat (first | (with_reducible first | exact HB.out | apply z02 | apply z00 | apply z03) | exact HB.out))) : w.heap.size ≤ gb346)); clear HO1; clear HB; have HO1 := n0_; have HB := n1_; have BK346 := n2_; have GW346 := n3_; have GE346 := n4_; clear n0_ n1_ n2_ n3_ n4_; clear hb hbox hg; have hcz72_0 : w71.cell? ⟨gb346, 0, none⟩ = some (.slice A0_0 l0_0.length c0_0) := (z04 BK346.out 0).trans rfl; have hcz72_1 : w71.cell? ⟨gb346, 1, none⟩ = some (.int .i64 a0_1) := (z04 BK346.out 1).trans rfl; have hcz72_2 : w71.cell? ⟨gb346, 2, none⟩ = some (.int .i64 a0_2) := (z04 BK346.out 2).trans rfl; have hcz72_3 : w71.cell? ⟨gb346, 3, none⟩ = some (.int .i64 a0_3) := (z04 BK346.out 3).trans rfl; have hcz72_4 : w71.cell? ⟨gb346, 4, none⟩ = some (.int .i64 a0_4) := (z04 BK346.out 4).trans rfl; have hfz72_0 := z01 BK346.out 0; have hfz72_1 := z01 BK346.out 1; have hfz72_2 := z01 BK346.out 2; have hfz72_3 := z01 BK346.out 3; have hfz72_4 := z01 BK346.out 4) | ((with_reducible refine gate_callee (f := 15) rfl ?_); refine goesL_ (some 14) rfl rfl Tryd.func15 (by kernel_rfl) rfl #[.agg #[.slice A0_0 l0_0.length c0_0, .int .i64 a0_1, .int .i64 a0_2, .int .i64 a0_3, .int .i64 a0_4]] rfl (by (try simp only [List.map_toArray, List.map_cons, List.map_nil]); first | done | rfl | (simp only [List.length_drop, List.length_take]; rfl)) ?_; (with_reducible refine (winnowerref07_May.calls k _ _ l0_0 a0_1 a0_2 a0_3 a0_4 false _ ?side1 ?side2 A3.out).mono ?_); (case side1 => repeat (first | exact (Kd.C_below HR0_0.out HB.out) | (with_reducible refine Kd.C_alloc ?_ _) | (with_reducible refine Kd.C_drewN ?_ _) | (with_reducible refine Kd.C_drew ?_))); (case side2 => exact HC0_0.out); rintro e w73 ⟨rfl, hb⟩; refine ⟨_, rfl, ?_⟩; have n0_ := z05.mk (Kd.V_below (by (with_reducible repeat (first | apply Kd.V_alloc | apply Kd.V_drewN | apply Kd.V_drew)); exact HO1.out) hb); have n1_ := z05.mk (blk_below (g := gb346) (o := .cells #[.slice A0_0 l0_0.length c0_0, .int .i64 a0_1, .int .i64 a0_2, .int .i64 a0_3, .int .i64 a0_4] 24 (0, 0)) (by (with_reducible repeat (first | refine z07 ?_ _ | refine z08 ?_ | refine z06 ?_ _)); exact BK346.out) hb); have n2_ := z05.mk (below_step (by repeat (first | (with_reducible first | exact HB.out | apply z02 | apply z00 | apply z03 | refine z09 ?_ GE346.out) | exact HB.out)) hb); clear HO1; clear BK346; clear HB; have HO1 := n0_; have BK346 := n1_; have HB := n2_; clear n0_ n1_ n2_; (try clear hb); (try clear hb2); (try clear hk); (try clear hi)))
    go_ret2
    exact ⟨_, by first | rfl | (simp [errW_none, errW_some] <;> rfl) | (refine congrArg (fun b_ : Bool => Ending.returned (Value.bool b_)) ?_; simp; done) | (simp [*, errW_none, errW_some] <;> rfl), by first | exact Kd.R_nil _ _ _ _ _ | exact Kd.N_nil _ _ _ _ _ | exact Kd.V_nil _ _ _ _ _ | exact Kd.Q_nil _ _ _ _ _ | exact Kd.S_nil _ _ _ _ _, by repeat (first | (with_reducible first | exact HB.out | apply z02 | apply z00 | apply z03 | refine z09 ?_ GE346.out) | exact HB.out)⟩

/-! ### winnowerref06_Same: function 22 -/
def winnowerref06_Same.l0 : Nat → List (S46) → List (S46) → Int → Option (Bool)
  | 0, _, _, _ => none
  | k + 1, x0, x1, x5 => if x5 < (x0.length : Int) then (if 0 ≤ x5 then (if x5 < (x1.length : Int) then (if (!(((rd_T46 x0 x5).f0) == ((rd_T46 x1 x5).f0)) || (!(((rd_T46 x0 x5).f1) == ((rd_T46 x1 x5).f1)) || (!((((rd_T46 x0 x5).f2).toList) == (((rd_T46 x1 x5).f2).toList)) || (!(((rd_T46 x0 x5).f3) == ((rd_T46 x1 x5).f3)))))) = true then (some false) else (winnowerref06_Same.l0 k x0 x1 (wrap64 (x5 + 1)))) else (none)) else (none)) else (some true)
def winnowerref06_Same.f (k : Nat) (l0 : List (S46)) (l1 : List (S46)) : Option (Bool) := if (l0.length : Int) = (l1.length : Int) then (winnowerref06_Same.l0 k l0 l1 0) else (some false)
set_option maxHeartbeats 8000000 in
set_option maxRecDepth 100000 in
theorem winnowerref06_Same.calls (k : Nat) (A0 : Option Addr) (c0 : Nat) (l0 : List (S46)) (A1 : Option Addr) (c1 : Nat) (l1 : List (S46)) (r : Bool) (w : World) (hr0 : Kd.C k46 w A0 l0.length l0) (hc0 : l0.length ≤ c0) (hr1 : Kd.C k46 w A1 l1.length l1) (hc1 : l1.length ≤ c1) (h : winnowerref06_Same.f k l0 l1 = some r) :
    Calls Tryd.prog 22 #[.slice A0 l0.length c0, .slice A1 l1.length c1] w fun e w' => e = .returned (.bool r) ∧ Drawn0 w w' := by
  have hu46 := Tryd.underlying46
  have HR0 := z05.mk hr0
  have HC0 := z05.mk hc0
  clear hr0 hc0
  have HR1 := z05.mk hr1
  have HC1 := z05.mk hc1
  clear hr1 hc1
  have H : (if (l0.length : Int) = (l1.length : Int) then (winnowerref06_Same.l0 k l0 l1 0) else (some false)) = some r := h
  clear h
  by_cases c3 : (l0.length : Int) = (l1.length : Int)
  · rw [if_pos c3] at H
    have c3b0 : ((l0.length : Int) == (l1.length : Int)) = true := beq_iff_eq.mpr c3
    have c3b1 : ((l0.length : Int) != (l1.length : Int)) = false := bne_eq_false_iff_eq.mpr c3
    have c3b2 : (l0.length == l1.length) = true := by first | simpa using c3 | (simp at c3 ⊢; omega)
    clear c3
    have H' := z05.mk H
    clear H
    go_enter Tryd.func22, Tryd.ntmps22
    go_wp2
    repeat (go_quiet (fail); try go_wp2)
    go_loopg [5] k (fun kq v5 w' => ∃ (x5_1 : Int), v5 = .int .i64 x5_1 ∧ z05 (winnowerref06_Same.l0 kq l0 l1 x5_1 = some r) ∧ z05 (kq ≤ k) ∧ Drawn0 w w')
    case atStart => exact ⟨(0), (by first | rfl | (simp; done) | (simp [*]; done)), H', ⟨Nat.le_refl _⟩, by repeat (first | exact Drawn0.refl _ | apply Drawn0.step)⟩
    case round =>
      clear H'
      try clear c1
      try clear c2
      try clear p2
      try clear c3
      try clear c3b0
      try clear c3b1
      try clear c3b2
      obtain ⟨x5_1, rfl, HA, HK1, ⟨m1, rfl⟩⟩ := hrel
      cases gk with
      | zero => exact absurd HA.out (by simp [winnowerref06_Same.l0])
      | succ k1 =>
        have H := HA.out
        clear HA
        simp only [winnowerref06_Same.l0] at H
        by_cases c4 : x5_1 < (l0.length : Int)
        · rw [if_pos c4] at H
          have c4b0 : decide (x5_1 < (l0.length : Int)) = true := decide_eq_true c4
          clear c4
          by_cases c5 : 0 ≤ x5_1
          · rw [if_pos c5] at H
            have c5b0 : decide (0 ≤ x5_1) = true := decide_eq_true c5
            clear c5
            by_cases c6 : x5_1 < (l1.length : Int)
            · rw [if_pos c6] at H
              have c6b0 : decide (x5_1 < (l1.length : Int)) = true := decide_eq_true c6
              clear c6
              by_cases c7 : (!(((rd_T46 l0 x5_1).f0) == ((rd_T46 l1 x5_1).f0)) || (!(((rd_T46 l0 x5_1).f1) == ((rd_T46 l1 x5_1).f1)) || (!((((rd_T46 l0 x5_1).f2).toList) == (((rd_T46 l1 x5_1).f2).toList)) || (!(((rd_T46 l0 x5_1).f3) == ((rd_T46 l1 x5_1).f3)))))) = true
              · rw [if_pos c7] at H
                have c7b0 : (!(((rd_T46 l0 x5_1).f0) == ((rd_T46 l1 x5_1).f0)) || (!(((rd_T46 l0 x5_1).f1) == ((rd_T46 l1 x5_1).f1)) || (!((((rd_T46 l0 x5_1).f2).toList) == (((rd_T46 l1 x5_1).f2).toList)) || (!(((rd_T46 l0 x5_1).f3) == ((rd_T46 l1 x5_1).f3)))))) = true := c7
                clear c7
                obtain rfl := Option.some.inj H
                have p391 : 0 ≤ (x5_1 : Int) := of_decide_eq_true (by first | (with_reducible assumption) | assumption)
                have q391 : x5_1 < (l0.length : Int) := of_decide_eq_true (by first | (with_reducible assumption) | assumption)
                obtain ⟨ad391, e391, hx391_0, hx391_1, hx391_2, hx391_3⟩ := at_T46 HR0.out x5_1 p391 q391
                cases e391
                replace p391 := eq_true p391
                replace q391 := eq_true q391
                have p392 : 0 ≤ (x5_1 : Int) := of_decide_eq_true (by first | (with_reducible assumption) | assumption)
                have q392 : x5_1 < (l1.length : Int) := of_decide_eq_true (by first | (with_reducible assumption) | assumption)
                obtain ⟨ad392, e392, hx392_0, hx392_1, hx392_2, hx392_3⟩ := at_T46 HR1.out x5_1 p392 q392
                cases e392
                replace p392 := eq_true p392
                replace q392 := eq_true q392
                go_wp2
                repeat (go_quiet (fail); try go_wp2)
                go_ret
                exact ⟨by first | rfl | (simp; done) | (simp [*]; done), by repeat (first | exact Drawn0.refl _ | apply Drawn0.step)⟩
              · rw [if_neg c7] at H
                have c7b0 : (!(((rd_T46 l0 x5_1).f0) == ((rd_T46 l1 x5_1).f0)) || (!(((rd_T46 l0 x5_1).f1) == ((rd_T46 l1 x5_1).f1)) || (!((((rd_T46 l0 x5_1).f2).toList) == (((rd_T46 l1 x5_1).f2).toList)) || (!(((rd_T46 l0 x5_1).f3) == ((rd_T46 l1 x5_1).f3)))))) = false := by simpa using c7
                clear c7
                have H' := z05.mk H
                clear H
                have p391 : 0 ≤ (x5_1 : Int) := of_decide_eq_true (by first | (with_reducible assumption) | assumption)
                have q391 : x5_1 < (l0.length : Int) := of_decide_eq_true (by first | (with_reducible assumption) | assumption)
                obtain ⟨ad391, e391, hx391_0, hx391_1, hx391_2, hx391_3⟩ := at_T46 HR0.out x5_1 p391 q391
                cases e391
                replace p391 := eq_true p391
                replace q391 := eq_true q391
                have p392 : 0 ≤ (x5_1 : Int) := of_decide_eq_true (by first | (with_reducible assumption) | assumption)
                have q392 : x5_1 < (l1.length : Int) := of_decide_eq_true (by first | (with_reducible assumption) | assumption)
                obtain ⟨ad392, e392, hx392_0, hx392_1, hx392_2, hx392_3⟩ := at_T46 HR1.out x5_1 p392 q392
                cases e392
                replace p392 := eq_true p392
                replace q392 := eq_true q392
                go_wp2
                repeat (go_quiet (fail); try go_wp2)
                go_roundg k1
                case measure => have := HK1.out; omega
                case rel => exact ⟨(wrap64 (x5_1 + 1)), (by first | rfl | (simp; done) | (simp [*]; done)), H', ⟨by have := HK1.out; omega⟩, by repeat (first | exact Drawn0.refl _ | apply Drawn0.step)⟩
            · rw [if_neg c6] at H
              exact absurd H (by simp)
          · rw [if_neg c5] at H
            exact absurd H (by simp)
        · rw [if_neg c4] at H
          have c4b0 : decide (x5_1 < (l0.length : Int)) = false := decide_eq_false c4
          clear c4
          obtain rfl := Option.some.inj H
          go_wp2
          repeat (go_quiet (fail); try go_wp2)
          go_ret
          exact ⟨by first | rfl | (simp; done) | (simp [*]; done), by repeat (first | exact Drawn0.refl _ | apply Drawn0.step)⟩
  · rw [if_neg c3] at H
    have c3b0 : ((l0.length : Int) == (l1.length : Int)) = false := beq_eq_false_iff_ne.mpr c3
    have c3b1 : ((l0.length : Int) != (l1.length : Int)) = true := bne_iff_ne.mpr c3
    have c3b2 : (l0.length == l1.length) = false := by first | simpa using c3 | (simp at c3 ⊢; omega)
    obtain rfl := Option.some.inj H
    go_enter Tryd.func22, Tryd.ntmps22
    go_wp2
    repeat (go_quiet (fail); try go_wp2)
    go_ret
    exact ⟨by first | rfl | (simp; done) | (simp [*]; done), by repeat (first | exact Drawn0.refl _ | apply Drawn0.step)⟩

end Go.Proofs.YteefchdfdgfaaaaDoor.Q
