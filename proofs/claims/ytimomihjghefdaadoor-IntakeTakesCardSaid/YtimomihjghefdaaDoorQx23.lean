/- The machine side of laws, written by wip/tools/myprint.py (the printer's way, with functions proved by hand put in); Lean checks it. -/
import Derived.Test.YtimomihjghefdaaDoorJ1
import Derived.Test.YtimomihjghefdaaDoorQx17
import Derived.Test.YtimomihjghefdaaDoorQx22
namespace Go.Proofs.YtimomihjghefdaaDoor.Q
open Go.RowKit Go.Proofs.YtimomihjghefdaaDoorW.PrintWords Go.Proofs.YtimomihjghefdaaDoorW.PrintLast Go.Proofs.YtimomihjghefdaaDoorW.PrintMore
attribute [local go_sem] z0y z0v z0z z10 z0s z0t z0w z0x   -- for this text's walks alone
set_option linter.unusedVariables false
set_option linter.unusedSimpArgs false

/-! ### winnowerref07_Decode: function 20 -/
def winnowerref07_Decode.l0 : Nat → List Int → List (S63) → Int → List (S45) → Int → Int → Int → Int → Option ((List (S63)) × Int)
  | 0, _, _, _, _, _, _, _, _ => none
  | k + 1, x1, x7, x8, x228000, x228001, x228002, x228003, x228004 => if x8 < (x228000.length : Int) then (if 0 ≤ x8 then (if (z0f x228000 x8).f2 = true then (if (x1.length : Int) = 0 then (some (([] : List (S63)), 6)) else (if 0 < (x1.length : Int) then (if (rd x1 0) > 1 then (some (([] : List (S63)), 7)) else (if 1 ≤ (x1.length : Int) then ((some (x1.drop 1 : List Int)).bind fun y232 => (if (rd x1 0) = 0 then (if x7.length < 3518437208883 then (winnowerref07_Decode.l0 k y232 (x7 ++ [(⟨0, 0, (⟨#[]⟩ : ByteArray), false⟩ : S63)]) (wrap64 (x8 + 1)) x228000 x228001 x228002 x228003 x228004) else (none)) else ((winnowerref06_Get.f y232 ((z0f x228000 x8).f1)).bind fun bt241 => (if bt241.2.2.2.2.2 = 0 then (if x7.length < 3518437208883 then (if 0 ≤ bt241.2.2.2.2.1 then (if bt241.2.2.2.2.1 ≤ (y232.length : Int) then (winnowerref07_Decode.l0 k (y232.drop (bt241.2.2.2.2.1 : Int).toNat) (x7 ++ [(⟨bt241.1, bt241.2.1, bt241.2.2.1, bt241.2.2.2.1⟩ : S63)]) (wrap64 (x8 + 1)) x228000 x228001 x228002 x228003 x228004) else (none)) else (none)) else (none)) else (some (([] : List (S63)), bt241.2.2.2.2.2)))))) else (none))) else (none))) else ((winnowerref06_Get.f x1 ((z0f x228000 x8).f1)).bind fun bt257 => (if bt257.2.2.2.2.2 = 0 then (if x7.length < 3518437208883 then (if 0 ≤ bt257.2.2.2.2.1 then (if bt257.2.2.2.2.1 ≤ (x1.length : Int) then (winnowerref07_Decode.l0 k (x1.drop (bt257.2.2.2.2.1 : Int).toNat) (x7 ++ [(⟨bt257.1, bt257.2.1, bt257.2.2.1, bt257.2.2.2.1⟩ : S63)]) (wrap64 (x8 + 1)) x228000 x228001 x228002 x228003 x228004) else (none)) else (none)) else (none)) else (some (([] : List (S63)), bt257.2.2.2.2.2))))) else (none)) else (if (x1.length : Int) > 0 then (some (([] : List (S63)), 7)) else (some (x7, 0)))
def winnowerref07_Decode.f (k : Nat) (l0_0 : List (S45)) (a0_1 : Int) (a0_2 : Int) (a0_3 : Int) (a0_4 : Int) (l1 : List Int) : Option ((List (S63)) × Int) := (winnowerref07_May.f k l0_0 a0_1 a0_2 a0_3 a0_4).bind fun t228 => (if t228 = true then (winnowerref07_Decode.l0 k l1 ([] : List (S63)) 0 l0_0 a0_1 a0_2 a0_3 a0_4) else (some (([] : List (S63)), 1)))
set_option maxHeartbeats 8000000 in
set_option maxRecDepth 100000 in
theorem winnowerref07_Decode.calls (k : Nat) (A0_0 : Option Addr) (c0_0 : Nat) (l0_0 : List (S45)) (a0_1 : Int) (a0_2 : Int) (a0_3 : Int) (a0_4 : Int) (P1_ : Nat → Prop) (A1 : Option Addr) (c1 : Nat) (l1 : List Int) (r1 : List (S63)) (r2 : Int) (w : World) (hr0_0 : Kd.C k45 w A0_0 l0_0.length l0_0) (hc0_0 : l0_0.length ≤ c0_0) (hs1 : Kd.V (Kd.int .u8) 5 w w.heap.size (fun k_ => P1_ k_) (.slice A1 l1.length c1) l1) (h : winnowerref07_Decode.f k l0_0 a0_1 a0_2 a0_3 a0_4 l1 = some (r1, r2)) :
    Calls Tryd.prog 20 #[.agg #[.slice A0_0 l0_0.length c0_0, .int .i64 a0_1, .int .i64 a0_2, .int .i64 a0_3, .int .i64 a0_4], .slice A1 l1.length c1] w fun e w' => ∃ v0_ : Value, e = .returned (.tuple #[v0_, .int .i64 r2]) ∧ Kd.R k63 63 w' w.heap.size (fun k_ => (w.heap.size ≤ k_)) v0_ r1 ∧ Below w.heap.size w w' := by
  have hu24 := Tryd.underlying24
  have hu63 := Tryd.underlying63
  have HR0_0 := z05.mk hr0_0
  have HC0_0 := z05.mk hc0_0
  clear hr0_0 hc0_0
  have HO1 := z05.mk (show Kd.V (Kd.int .u8) 5 w w.heap.size (fun k_ => (P1_ k_ ∨ w.heap.size ≤ k_)) (.slice A1 l1.length c1) l1 from Kd.V_mono hs1 (fun k_ hk => .inl hk))
  have HB := z05.mk (Below.refl w.heap.size w)
  have H : ((winnowerref07_May.f k l0_0 a0_1 a0_2 a0_3 a0_4).bind fun t228 => (if t228 = true then (winnowerref07_Decode.l0 k l1 ([] : List (S63)) 0 l0_0 a0_1 a0_2 a0_3 a0_4) else (some (([] : List (S63)), 1)))) = some (r1, r2) := h
  clear h
  replace H := Option.bind_eq_some_iff.mp H
  obtain ⟨t228, A30, H⟩ := H
  replace H : (if t228 = true then (winnowerref07_Decode.l0 k l1 ([] : List (S63)) 0 l0_0 a0_1 a0_2 a0_3 a0_4) else (some (([] : List (S63)), 1))) = some (r1, r2) := H
  have A3 := z05.mk A30
  clear A30
  by_cases c4 : t228 = true
  · subst c4
    have H1 : (winnowerref07_Decode.l0 k l1 ([] : List (S63)) 0 l0_0 a0_1 a0_2 a0_3 a0_4) = some (r1, r2) := by rw [if_pos rfl] at H; exact H
    clear H
    have H := H1
    clear H1
    have H' := z05.mk H
    clear H
    go_enter Tryd.func20, Tryd.ntmps20
    go_wp2_with (first | ((with_reducible refine z0h (N := 2) rfl ?_); refine z0g ?hg (N := 2) ?hd (cs := #[.slice A0_0 l0_0.length c0_0, .int .i64 a0_1, .int .i64 a0_2, .int .i64 a0_3, .int .i64 a0_4]) (t := 24) ?hr ?_; (case hd => rfl); (case hg => rfl); (case hr => first | (go_simp; done) | (go_simp; rfl)); intro gb227 hg w5 hbox hb; have n0_ := z05.mk (Kd.V_below (Kd.V_elderB (by (with_reducible repeat (first | apply Kd.V_alloc | apply Kd.V_drewN | apply Kd.V_drew)); exact HO1.out) gb227 (Nat.le_of_eq hg.symm)) hb); have n1_ := z05.mk (z0a (by repeat (first | (with_reducible first | exact HB.out | apply z02 | apply z00 | apply z03) | exact HB.out)) hb); have n2_ := z05.mk (hbox); have n3_ := z05.mk ((by rw [hg]; exact (z0b (by repeat (first | (with_reducible first | exact HB.out | apply z02 | apply z00 | apply z03) | exact HB.out))) : w.heap.size ≤ gb227)); have n4_ := z05.mk ((by rw [hg]; exact (z0b (by repeat (first | (with_reducible first | exact HB.out | apply z02 | apply z00 | apply z03) | exact HB.out))) : w.heap.size ≤ gb227)); clear HO1; clear HB; have HO1 := n0_; have HB := n1_; have BK227 := n2_; have GW227 := n3_; have GE227 := n4_; clear n0_ n1_ n2_ n3_ n4_; clear hb hbox hg; have hcz6_0 : w5.cell? ⟨gb227, 0, none⟩ = some (.slice A0_0 l0_0.length c0_0) := (z04 BK227.out 0).trans rfl; have hcz6_1 : w5.cell? ⟨gb227, 1, none⟩ = some (.int .i64 a0_1) := (z04 BK227.out 1).trans rfl; have hcz6_2 : w5.cell? ⟨gb227, 2, none⟩ = some (.int .i64 a0_2) := (z04 BK227.out 2).trans rfl; have hcz6_3 : w5.cell? ⟨gb227, 3, none⟩ = some (.int .i64 a0_3) := (z04 BK227.out 3).trans rfl; have hcz6_4 : w5.cell? ⟨gb227, 4, none⟩ = some (.int .i64 a0_4) := (z04 BK227.out 4).trans rfl; have hfz6_0 := z01 BK227.out 0; have hfz6_1 := z01 BK227.out 1; have hfz6_2 := z01 BK227.out 2; have hfz6_3 := z01 BK227.out 3; have hfz6_4 := z01 BK227.out 4) | ((with_reducible refine z0j (f := 19) rfl ?_); refine z0u (some 14) rfl rfl Tryd.func19 (by kernel_rfl) rfl #[.agg #[.slice A0_0 l0_0.length c0_0, .int .i64 a0_1, .int .i64 a0_2, .int .i64 a0_3, .int .i64 a0_4]] rfl (by (try simp only [List.map_toArray, List.map_cons, List.map_nil]); first | done | rfl | (simp only [List.length_drop, List.length_take]; rfl)) ?_; (with_reducible refine (winnowerref07_May.calls k _ _ l0_0 a0_1 a0_2 a0_3 a0_4 true _ ?side1 ?side2 A3.out).mono ?_); (case side1 => repeat (first | exact (Kd.C_below HR0_0.out HB.out) | (with_reducible refine Kd.C_alloc ?_ _) | (with_reducible refine Kd.C_drewN ?_ _) | (with_reducible refine Kd.C_drew ?_))); (case side2 => exact HC0_0.out); rintro e w7 ⟨rfl, hb⟩; refine ⟨_, rfl, ?_⟩; have n0_ := z05.mk (Kd.V_below (by (with_reducible repeat (first | apply Kd.V_alloc | apply Kd.V_drewN | apply Kd.V_drew)); exact HO1.out) hb); have n1_ := z05.mk (z0e (g := gb227) (o := .cells #[.slice A0_0 l0_0.length c0_0, .int .i64 a0_1, .int .i64 a0_2, .int .i64 a0_3, .int .i64 a0_4] 24 (0, 0)) (by (with_reducible repeat (first | refine z07 ?_ _ | refine z08 ?_ | refine z06 ?_ _)); exact BK227.out) hb); have n2_ := z05.mk (z0a (by repeat (first | (with_reducible first | exact HB.out | apply z02 | apply z00 | apply z03 | refine z09 ?_ GE227.out) | exact HB.out)) hb); clear HO1; clear BK227; clear HB; have HO1 := n0_; have BK227 := n1_; have HB := n2_; clear n0_ n1_ n2_; (try clear hb); (try clear hb2); (try clear hk); (try clear hi)))
    go_loopg [1, 7, 8] k (fun kq v1 v7 v8 w' => ∃ (x1_1 : List Int) (x7_1 : List (S63)) (x8_1 : Int), v8 = .int .i64 x8_1 ∧ z05 (winnowerref07_Decode.l0 kq x1_1 x7_1 x8_1 l0_0 a0_1 a0_2 a0_3 a0_4 = some (r1, r2)) ∧ z05 (kq ≤ k) ∧ z05 (Kd.V (Kd.int .u8) 5 w' w.heap.size (fun k_ => (P1_ k_ ∨ w.heap.size ≤ k_) ∧ some k_ ≠ (v7 : Value).ownBlock ∧ k_ ≠ gb227) v1 x1_1) ∧ z05 (Kd.R k63 63 w' w.heap.size (fun k_ => (w.heap.size ≤ k_)) v7 x7_1) ∧ z05 (w'.heap[gb227]? = some (.cells #[(.slice A0_0 l0_0.length c0_0), .int .i64 a0_1, .int .i64 a0_2, .int .i64 a0_3, .int .i64 a0_4] 24 (0, 0))) ∧ z05 (Below w.heap.size w w'))
    case atStart => exact ⟨(l1), (([] : List (S63))), (0), (by first | rfl | (simp; done) | (simp [*]; done)), H', ⟨Nat.le_refl _⟩, ⟨by (with_reducible repeat (first | apply Kd.V_alloc | apply Kd.V_drewN | apply Kd.V_drew)); exact Kd.V_mono HO1.out (fun _ hk => ⟨hk.1, ⟨(by simp [Value.ownBlock]), hk.2⟩⟩)⟩, ⟨by first | exact Kd.R_nil _ _ _ _ _ | exact Kd.N_nil _ _ _ _ _ | exact Kd.V_nil _ _ _ _ _ | exact Kd.Q_nil _ _ _ _ _ | exact Kd.S_nil _ _ _ _ _⟩, ⟨by (with_reducible repeat (first | refine z07 ?_ _ | refine z08 ?_ | refine z06 ?_ _)); exact BK227.out⟩, ⟨by repeat (first | (with_reducible first | exact HB.out | apply z02 | apply z00 | apply z03 | refine z09 ?_ GE227.out) | exact HB.out)⟩⟩
    case round =>
      clear H'
      try clear c1
      try clear c2
      try clear p2
      try clear c4
      try clear hcz6_0
      try clear hcz6_1
      try clear hcz6_2
      try clear hcz6_3
      try clear hcz6_4
      try clear hfz6_0
      try clear hfz6_1
      try clear hfz6_2
      try clear hfz6_3
      try clear hfz6_4
      obtain ⟨x1_1, x7_1, x8_1, rfl, HA, HK1, HO_1, HO_7, BK227, HB⟩ := hrel
      cases gk with
      | zero => exact absurd HA.out (by simp [winnowerref07_Decode.l0])
      | succ k1 =>
        have H := HA.out
        clear HA
        simp only [winnowerref07_Decode.l0] at H
        by_cases c8 : x8_1 < (l0_0.length : Int)
        · rw [if_pos c8] at H
          have c8b0 : decide (x8_1 < (l0_0.length : Int)) = true := decide_eq_true c8
          clear c8
          by_cases c9 : 0 ≤ x8_1
          · rw [if_pos c9] at H
            have c9b0 : decide (0 ≤ x8_1) = true := decide_eq_true c9
            clear c9
            obtain ⟨bq10, hbq10⟩ : ∃ b_ : Bool, b_ = ((z0f l0_0 x8_1).f2) := ⟨_, rfl⟩
            replace H : (if bq10 = true then (if (x1_1.length : Int) = 0 then (some (([] : List (S63)), 6)) else (if 0 < (x1_1.length : Int) then (if (rd x1_1 0) > 1 then (some (([] : List (S63)), 7)) else (if 1 ≤ (x1_1.length : Int) then ((some (x1_1.drop 1 : List Int)).bind fun y232 => (if (rd x1_1 0) = 0 then (if x7_1.length < 3518437208883 then (winnowerref07_Decode.l0 k1 y232 (x7_1 ++ [(⟨0, 0, (⟨#[]⟩ : ByteArray), false⟩ : S63)]) (wrap64 (x8_1 + 1)) l0_0 a0_1 a0_2 a0_3 a0_4) else (none)) else ((winnowerref06_Get.f y232 ((z0f l0_0 x8_1).f1)).bind fun bt241 => (if bt241.2.2.2.2.2 = 0 then (if x7_1.length < 3518437208883 then (if 0 ≤ bt241.2.2.2.2.1 then (if bt241.2.2.2.2.1 ≤ (y232.length : Int) then (winnowerref07_Decode.l0 k1 (y232.drop (bt241.2.2.2.2.1 : Int).toNat) (x7_1 ++ [(⟨bt241.1, bt241.2.1, bt241.2.2.1, bt241.2.2.2.1⟩ : S63)]) (wrap64 (x8_1 + 1)) l0_0 a0_1 a0_2 a0_3 a0_4) else (none)) else (none)) else (none)) else (some (([] : List (S63)), bt241.2.2.2.2.2)))))) else (none))) else (none))) else ((winnowerref06_Get.f x1_1 ((z0f l0_0 x8_1).f1)).bind fun bt257 => (if bt257.2.2.2.2.2 = 0 then (if x7_1.length < 3518437208883 then (if 0 ≤ bt257.2.2.2.2.1 then (if bt257.2.2.2.2.1 ≤ (x1_1.length : Int) then (winnowerref07_Decode.l0 k1 (x1_1.drop (bt257.2.2.2.2.1 : Int).toNat) (x7_1 ++ [(⟨bt257.1, bt257.2.1, bt257.2.2.1, bt257.2.2.2.1⟩ : S63)]) (wrap64 (x8_1 + 1)) l0_0 a0_1 a0_2 a0_3 a0_4) else (none)) else (none)) else (none)) else (some (([] : List (S63)), bt257.2.2.2.2.2))))) = some (r1, r2) := by rw [← hbq10] at H; exact H
            have Nbq10 := z05.mk hbq10
            clear hbq10
            by_cases c11 : bq10 = true
            · subst c11
              have H1 : (if (x1_1.length : Int) = 0 then (some (([] : List (S63)), 6)) else (if 0 < (x1_1.length : Int) then (if (rd x1_1 0) > 1 then (some (([] : List (S63)), 7)) else (if 1 ≤ (x1_1.length : Int) then ((some (x1_1.drop 1 : List Int)).bind fun y232 => (if (rd x1_1 0) = 0 then (if x7_1.length < 3518437208883 then (winnowerref07_Decode.l0 k1 y232 (x7_1 ++ [(⟨0, 0, (⟨#[]⟩ : ByteArray), false⟩ : S63)]) (wrap64 (x8_1 + 1)) l0_0 a0_1 a0_2 a0_3 a0_4) else (none)) else ((winnowerref06_Get.f y232 ((z0f l0_0 x8_1).f1)).bind fun bt241 => (if bt241.2.2.2.2.2 = 0 then (if x7_1.length < 3518437208883 then (if 0 ≤ bt241.2.2.2.2.1 then (if bt241.2.2.2.2.1 ≤ (y232.length : Int) then (winnowerref07_Decode.l0 k1 (y232.drop (bt241.2.2.2.2.1 : Int).toNat) (x7_1 ++ [(⟨bt241.1, bt241.2.1, bt241.2.2.1, bt241.2.2.2.1⟩ : S63)]) (wrap64 (x8_1 + 1)) l0_0 a0_1 a0_2 a0_3 a0_4) else (none)) else (none)) else (none)) else (some (([] : List (S63)), bt241.2.2.2.2.2)))))) else (none))) else (none))) = some (r1, r2) := by rw [if_pos rfl] at H; exact H
              clear H
              have H := H1
              clear H1
              by_cases c12 : (x1_1.length : Int) = 0
              · rw [if_pos c12] at H
                have c12b0 : ((x1_1.length : Int) == 0) = true := beq_iff_eq.mpr c12
                have c12b1 : ((x1_1.length : Int) != 0) = false := bne_eq_false_iff_eq.mpr c12
                clear c12
                simp only [Option.some.injEq, Prod.mk.injEq] at H
                obtain ⟨rfl, rfl⟩ := H
                have hcz13_0 : wr.cell? ⟨gb227, 0, none⟩ = some (.slice A0_0 l0_0.length c0_0) := (z04 BK227.out 0).trans rfl
                have hcz13_1 : wr.cell? ⟨gb227, 1, none⟩ = some (.int .i64 a0_1) := (z04 BK227.out 1).trans rfl
                have hcz13_2 : wr.cell? ⟨gb227, 2, none⟩ = some (.int .i64 a0_2) := (z04 BK227.out 2).trans rfl
                have hcz13_3 : wr.cell? ⟨gb227, 3, none⟩ = some (.int .i64 a0_3) := (z04 BK227.out 3).trans rfl
                have hcz13_4 : wr.cell? ⟨gb227, 4, none⟩ = some (.int .i64 a0_4) := (z04 BK227.out 4).trans rfl
                have hfz13_0 := z01 BK227.out 0
                have hfz13_1 := z01 BK227.out 1
                have hfz13_2 := z01 BK227.out 2
                have hfz13_3 := z01 BK227.out 3
                have hfz13_4 := z01 BK227.out 4
                have p229 : 0 ≤ (x8_1 : Int) := of_decide_eq_true (by first | (with_reducible assumption) | assumption)
                have q229 : x8_1 < (l0_0.length : Int) := of_decide_eq_true (by first | (with_reducible assumption) | assumption)
                obtain ⟨ad229, e229, hx229_0, hx229_1, hx229_2⟩ := z11 HR0_0.out x8_1 p229 q229
                (try rw [← Nbq10.out] at hx229_2)
                cases e229
                replace hx229_0 := (HB.out.cell (World.block_lt_of_cell? w _ hx229_0)).trans hx229_0
                replace hx229_1 := (HB.out.cell (World.block_lt_of_cell? w _ hx229_1)).trans hx229_1
                replace hx229_2 := (HB.out.cell (World.block_lt_of_cell? w _ hx229_2)).trans hx229_2
                replace p229 := eq_true p229
                replace q229 := eq_true q229
                obtain ⟨Ao14, co14, eo14⟩ := Kd.V_slice HO_1.out
                subst eo14
                go_wp2
                go_ret2
                exact ⟨_, by first | rfl | (simp [z0d, z0c] <;> rfl) | (refine congrArg (fun b_ : Bool => Ending.returned (Value.bool b_)) ?_; simp; done) | (simp [*, z0d, z0c] <;> rfl), by first | exact Kd.R_nil _ _ _ _ _ | exact Kd.N_nil _ _ _ _ _ | exact Kd.V_nil _ _ _ _ _ | exact Kd.Q_nil _ _ _ _ _ | exact Kd.S_nil _ _ _ _ _, by repeat (first | (with_reducible first | exact HB.out | apply z02 | apply z00 | apply z03 | refine z09 ?_ GE227.out) | exact HB.out)⟩
              · rw [if_neg c12] at H
                have c12b0 : ((x1_1.length : Int) == 0) = false := beq_eq_false_iff_ne.mpr c12
                have c12b1 : ((x1_1.length : Int) != 0) = true := bne_iff_ne.mpr c12
                have c12b2 : ¬ (x1_1 = []) := fun h_ => c12 (by rw [h_]; rfl)
                by_cases c15 : 0 < (x1_1.length : Int)
                · rw [if_pos c15] at H
                  have c15b0 : decide (0 < (x1_1.length : Int)) = true := decide_eq_true c15
                  have c15b1 : decide (0 < x1_1.length) = true := decide_eq_true (by omega)
                  clear c15
                  by_cases c16 : (rd x1_1 0) > 1
                  · rw [if_pos c16] at H
                    have c16b0 : decide (1 < (rd x1_1 0)) = true := decide_eq_true c16
                    clear c16
                    simp only [Option.some.injEq, Prod.mk.injEq] at H
                    obtain ⟨rfl, rfl⟩ := H
                    have hcz17_0 : wr.cell? ⟨gb227, 0, none⟩ = some (.slice A0_0 l0_0.length c0_0) := (z04 BK227.out 0).trans rfl
                    have hcz17_1 : wr.cell? ⟨gb227, 1, none⟩ = some (.int .i64 a0_1) := (z04 BK227.out 1).trans rfl
                    have hcz17_2 : wr.cell? ⟨gb227, 2, none⟩ = some (.int .i64 a0_2) := (z04 BK227.out 2).trans rfl
                    have hcz17_3 : wr.cell? ⟨gb227, 3, none⟩ = some (.int .i64 a0_3) := (z04 BK227.out 3).trans rfl
                    have hcz17_4 : wr.cell? ⟨gb227, 4, none⟩ = some (.int .i64 a0_4) := (z04 BK227.out 4).trans rfl
                    have hfz17_0 := z01 BK227.out 0
                    have hfz17_1 := z01 BK227.out 1
                    have hfz17_2 := z01 BK227.out 2
                    have hfz17_3 := z01 BK227.out 3
                    have hfz17_4 := z01 BK227.out 4
                    have p229 : 0 ≤ (x8_1 : Int) := of_decide_eq_true (by first | (with_reducible assumption) | assumption)
                    have q229 : x8_1 < (l0_0.length : Int) := of_decide_eq_true (by first | (with_reducible assumption) | assumption)
                    obtain ⟨ad229, e229, hx229_0, hx229_1, hx229_2⟩ := z11 HR0_0.out x8_1 p229 q229
                    (try rw [← Nbq10.out] at hx229_2)
                    cases e229
                    replace hx229_0 := (HB.out.cell (World.block_lt_of_cell? w _ hx229_0)).trans hx229_0
                    replace hx229_1 := (HB.out.cell (World.block_lt_of_cell? w _ hx229_1)).trans hx229_1
                    replace hx229_2 := (HB.out.cell (World.block_lt_of_cell? w _ hx229_2)).trans hx229_2
                    replace p229 := eq_true p229
                    replace q229 := eq_true q229
                    obtain ⟨Ao18, co18, eo18⟩ := Kd.V_slice HO_1.out
                    subst eo18
                    have p230 : 0 ≤ (0 : Int) := (by omega)
                    have q230 : 0 < (x1_1.length : Int) := of_decide_eq_true (by first | (with_reducible assumption) | assumption)
                    obtain ⟨ad230, e230, hx230_0⟩ := Kd.at_int (Kd.V_reads' HO_1.out).2.2 0 p230 q230
                    cases e230
                    have qi230 : (0 < x1_1.length) = True := eq_true (by omega)
                    (try rw [show ((0 : Int)).toNat = 0 from rfl] at hx230_0)
                    (try rw [Addr.add_zero'] at hx230_0)
                    replace p230 := eq_true p230
                    replace q230 := eq_true q230
                    go_wp2
                    go_ret2
                    exact ⟨_, by first | rfl | (simp [z0d, z0c] <;> rfl) | (refine congrArg (fun b_ : Bool => Ending.returned (Value.bool b_)) ?_; simp; done) | (simp [*, z0d, z0c] <;> rfl), by first | exact Kd.R_nil _ _ _ _ _ | exact Kd.N_nil _ _ _ _ _ | exact Kd.V_nil _ _ _ _ _ | exact Kd.Q_nil _ _ _ _ _ | exact Kd.S_nil _ _ _ _ _, by repeat (first | (with_reducible first | exact HB.out | apply z02 | apply z00 | apply z03 | refine z09 ?_ GE227.out) | exact HB.out)⟩
                  · rw [if_neg c16] at H
                    have c16b0 : decide (1 < (rd x1_1 0)) = false := decide_eq_false c16
                    clear c16
                    by_cases c19 : 1 ≤ (x1_1.length : Int)
                    · rw [if_pos c19] at H
                      have c19b0 := eq_true c19
                      have c19b1 : decide (1 ≤ (x1_1.length : Int)) = true := decide_eq_true c19
                      clear c19
                      obtain ⟨y232, hy232⟩ : ∃ y_ : List Int, y_ = (x1_1.drop 1) := ⟨_, rfl⟩
                      replace H : (if (rd x1_1 0) = 0 then (if x7_1.length < 3518437208883 then (winnowerref07_Decode.l0 k1 y232 (x7_1 ++ [(⟨0, 0, (⟨#[]⟩ : ByteArray), false⟩ : S63)]) (wrap64 (x8_1 + 1)) l0_0 a0_1 a0_2 a0_3 a0_4) else (none)) else ((winnowerref06_Get.f y232 ((z0f l0_0 x8_1).f1)).bind fun bt241 => (if bt241.2.2.2.2.2 = 0 then (if x7_1.length < 3518437208883 then (if 0 ≤ bt241.2.2.2.2.1 then (if bt241.2.2.2.2.1 ≤ (y232.length : Int) then (winnowerref07_Decode.l0 k1 (y232.drop (bt241.2.2.2.2.1 : Int).toNat) (x7_1 ++ [(⟨bt241.1, bt241.2.1, bt241.2.2.1, bt241.2.2.2.1⟩ : S63)]) (wrap64 (x8_1 + 1)) l0_0 a0_1 a0_2 a0_3 a0_4) else (none)) else (none)) else (none)) else (some (([] : List (S63)), bt241.2.2.2.2.2))))) = some (r1, r2) := by first | (rw [hy232]; with_reducible exact H) | (have H2_ := (Option.bind_some _ _).symm.trans H; rw [hy232]; with_reducible exact H2_) | (have H2_ := (Option.bind_some _ _).symm.trans H; with_reducible exact H2_) | with_reducible exact H | (rw [hy232]; exact H) | exact H
                      have Ny232 := z05.mk hy232
                      clear hy232
                      by_cases c20 : (rd x1_1 0) = 0
                      · rw [if_pos c20] at H
                        have c20b0 : ((rd x1_1 0) == 0) = true := beq_iff_eq.mpr c20
                        have c20b1 : ((rd x1_1 0) != 0) = false := bne_eq_false_iff_eq.mpr c20
                        clear c20
                        by_cases c21 : x7_1.length < 3518437208883
                        · rw [if_pos c21] at H
                          have LMc21 := z05.mk c21
                          clear c21
                          obtain ⟨y237, hy237⟩ : ∃ y_ : List (S63), y_ = (x7_1 ++ [(⟨0, 0, (⟨#[]⟩ : ByteArray), false⟩ : S63)]) := ⟨_, rfl⟩
                          replace H : (winnowerref07_Decode.l0 k1 y232 y237 (wrap64 (x8_1 + 1)) l0_0 a0_1 a0_2 a0_3 a0_4) = some (r1, r2) := by first | (rw [hy237]; with_reducible exact H) | (have H2_ := (Option.bind_some _ _).symm.trans H; rw [hy237]; with_reducible exact H2_) | (have H2_ := (Option.bind_some _ _).symm.trans H; with_reducible exact H2_) | with_reducible exact H | (rw [hy237]; exact H) | exact H
                          have Ny237 := z05.mk hy237
                          clear hy237
                          have H' := z05.mk H
                          clear H
                          have hcz22_0 : wr.cell? ⟨gb227, 0, none⟩ = some (.slice A0_0 l0_0.length c0_0) := (z04 BK227.out 0).trans rfl
                          have hcz22_1 : wr.cell? ⟨gb227, 1, none⟩ = some (.int .i64 a0_1) := (z04 BK227.out 1).trans rfl
                          have hcz22_2 : wr.cell? ⟨gb227, 2, none⟩ = some (.int .i64 a0_2) := (z04 BK227.out 2).trans rfl
                          have hcz22_3 : wr.cell? ⟨gb227, 3, none⟩ = some (.int .i64 a0_3) := (z04 BK227.out 3).trans rfl
                          have hcz22_4 : wr.cell? ⟨gb227, 4, none⟩ = some (.int .i64 a0_4) := (z04 BK227.out 4).trans rfl
                          have hfz22_0 := z01 BK227.out 0
                          have hfz22_1 := z01 BK227.out 1
                          have hfz22_2 := z01 BK227.out 2
                          have hfz22_3 := z01 BK227.out 3
                          have hfz22_4 := z01 BK227.out 4
                          have p229 : 0 ≤ (x8_1 : Int) := of_decide_eq_true (by first | (with_reducible assumption) | assumption)
                          have q229 : x8_1 < (l0_0.length : Int) := of_decide_eq_true (by first | (with_reducible assumption) | assumption)
                          obtain ⟨ad229, e229, hx229_0, hx229_1, hx229_2⟩ := z11 HR0_0.out x8_1 p229 q229
                          (try rw [← Nbq10.out] at hx229_2)
                          cases e229
                          replace hx229_0 := (HB.out.cell (World.block_lt_of_cell? w _ hx229_0)).trans hx229_0
                          replace hx229_1 := (HB.out.cell (World.block_lt_of_cell? w _ hx229_1)).trans hx229_1
                          replace hx229_2 := (HB.out.cell (World.block_lt_of_cell? w _ hx229_2)).trans hx229_2
                          replace p229 := eq_true p229
                          replace q229 := eq_true q229
                          obtain ⟨Ao23, co23, eo23⟩ := Kd.V_slice HO_1.out
                          subst eo23
                          have p230 : 0 ≤ (0 : Int) := (by omega)
                          have q230 : 0 < (x1_1.length : Int) := of_decide_eq_true (by first | (with_reducible assumption) | assumption)
                          obtain ⟨ad230, e230, hx230_0⟩ := Kd.at_int (Kd.V_reads' HO_1.out).2.2 0 p230 q230
                          cases e230
                          have qi230 : (0 < x1_1.length) = True := eq_true (by omega)
                          (try rw [show ((0 : Int)).toNat = 0 from rfl] at hx230_0)
                          (try rw [Addr.add_zero'] at hx230_0)
                          replace p230 := eq_true p230
                          replace q230 := eq_true q230
                          have p231 : 0 ≤ (0 : Int) := (by omega)
                          have q231 : 0 < (x1_1.length : Int) := of_decide_eq_true (by first | (with_reducible assumption) | assumption)
                          obtain ⟨ad231, e231, hx231_0⟩ := Kd.at_int (Kd.V_reads' HO_1.out).2.2 0 p231 q231
                          obtain rfl : ad230 = ad231 := (by injection e231)
                          have qi231 : (0 < x1_1.length) = True := eq_true (by omega)
                          (try rw [show ((0 : Int)).toNat = 0 from rfl] at hx231_0)
                          (try rw [Addr.add_zero'] at hx231_0)
                          replace p231 := eq_true p231
                          replace q231 := eq_true q231
                          have q24 : (1 : Int) ≤ ((x1_1.length : Int) : Int) := of_decide_eq_true (by first | (with_reducible assumption) | assumption)
                          obtain ⟨i024, hi024, _, hsz24, _⟩ := info_parts info5
                          have hroom24 : x1_1.length ≤ co23 := (Kd.V_reads' HO_1.out).2.1
                          have hC24 : Kd.F (Kd.int .u8) _ _ (some ad230) x1_1.length x1_1 := (Kd.V_at (base := w.heap.size) HO_1.out).2.2
                          have hcut24 := z1z (P := Tryd.prog) 42 5 .i64 Tryd.underlying42 hi024 1 hsz24 (some ad230) x1_1.length co23 1 (by omega) q24
                          have hr24 := Kd.F_cut (m := (1 : Int).toNat) (c := co23) hC24 (by omega) hroom24
                          obtain ⟨A24, hA24⟩ : ∃ A1, A1 = (if co23 = (1 : Int).toNat then (some ad230) else ((some ad230) : Option Addr).map (·.add ((1 : Int).toNat * 1))) := ⟨_, rfl⟩
                          obtain ⟨c24, hc24⟩ : ∃ c1, c1 = co23 - (1 : Int).toNat := ⟨_, rfl⟩
                          have hy24 : y232.length = x1_1.length - (1 : Int).toNat := (by rw [Ny232.out, List.length_drop] <;> omega)
                          rw [show (x1_1).drop (1 : Int).toNat = y232 from Ny232.out.symm] at hr24
                          replace hr24 : Kd.F (Kd.int .u8) _ _ A24 y232.length y232 := (by rw [hA24]; exact hr24)
                          rw [← hy24, ← hA24, ← hc24] at hcut24
                          have HO236 := z05.mk (show Kd.V (Kd.int .u8) 5 _ w.heap.size _ (.slice A24 y232.length c24) y232 from Kd.V_mk (by rw [hy24, hc24]; exact Nat.sub_le_sub_right hroom24 _) hr24)
                          have HC236 := z05.mk (show y232.length ≤ c24 from by rw [hy24, hc24]; exact Nat.sub_le_sub_right hroom24 _)
                          clear hr24 hC24 hroom24 hi024 hsz24 hc24
                          have KY24 := z05.mk hy24
                          have KA24 := z05.mk hA24
                          clear hy24 hA24
                          replace q24 := eq_true q24
                          go_wp2_with (first | ((with_reducible refine z1s (b := .append) (xs := #[.tmp 44, .tmp 46]) rfl ?_); at_builtin; refine Kd.R_append k63 (w0 := w) w.heap.size rfl (.tmp 44) (.tmp 46) 39 63 (.agg #[(.int .i64 0), (.int .i64 0), (.string ⟨#[]⟩), (.bool false)]) 40 rfl Tryd.underlying39 z6t rfl (by decide) (by omega) u7 x7_1 (⟨0, 0, (⟨#[]⟩ : ByteArray), false⟩ : S63) [.int .i64 0, .int .i64 0, .string (⟨#[]⟩ : ByteArray), .bool false] (fun k_ => (w.heap.size ≤ k_)) (fun _ => False) rfl rfl ?aP (fun _ hk => hk.elim) ?aF ?aO ?aB ?aS ?aL ?_; (case aP => exact z50 _ _ _ (⟨0, 0, (⟨#[]⟩ : ByteArray), false⟩ : S63)); (case aB => exact (by repeat (first | (with_reducible first | exact HB.out | apply z02 | apply z00 | apply z03 | refine z09 ?_ GE227.out) | exact HB.out))); (case aF => exact (fun k_ hk => (Nat.le_trans (z0b (by repeat (first | (with_reducible first | exact HB.out | apply z02 | apply z00 | apply z03 | refine z09 ?_ GE227.out) | exact HB.out))) hk))); (case aO => exact (by (with_reducible repeat (first | apply Kd.R_alloc | apply Kd.R_drewN | apply Kd.R_drew)); exact HO_7.out)); (case aS => exact (z0b (by repeat (first | (with_reducible first | exact HB.out | apply z02 | apply z00 | apply z03 | refine z09 ?_ GE227.out) | exact HB.out)))); (case aL => have := LMc21.out; omega); intro v238 w25 ho hb hg hat; rw [← Ny237.out] at ho; have n0_ := z05.mk (Kd.V_afterv (ok := (fun k_ => (P1_ k_ ∨ w.heap.size ≤ k_) ∧ k_ ≠ gb227)) (by (with_reducible repeat (first | apply Kd.V_alloc | apply Kd.V_drewN | apply Kd.V_drew)); exact Kd.V_mono HO_1.out (fun _ hk => ⟨⟨hk.1, hk.2.2⟩, hk.2.1⟩)) hg hat); have n1_ := z05.mk (z1p (g := gb227) (o := .cells #[.slice (some ad229) l0_0.length c0_0, .int .i64 a0_1, .int .i64 a0_2, .int .i64 a0_3, .int .i64 a0_4] 24 (0, 0)) (by (with_reducible repeat (first | refine z07 ?_ _ | refine z08 ?_ | refine z06 ?_ _)); exact BK227.out) hg (Kd.R_ne HO_7.out BK227.out (by decide))); have n2_ := z05.mk (Kd.V_afterv (ok := (fun k_ => (P1_ k_ ∨ w.heap.size ≤ k_) ∧ k_ ≠ gb227)) (by (with_reducible repeat (first | apply Kd.V_alloc | apply Kd.V_drewN | apply Kd.V_drew)); exact Kd.V_mono HO236.out (fun _ hk => ⟨⟨hk.1, hk.2.2⟩, hk.2.1⟩)) hg hat); have n3_ := z05.mk (hb); have n4_ := z05.mk (ho); clear HO_1; clear BK227; clear HO236; clear HB; clear HO_7; have HO_1 := n0_; have BK227 := n1_; have HO236 := n2_; have HB := n3_; have HO239 := n4_; clear n0_ n1_ n2_ n3_ n4_; clear ho hb hg hat))
                          go_roundg k1
                          case measure => have := HK1.out; omega
                          case rel => exact ⟨(y232), (y237), (wrap64 (x8_1 + 1)), (by first | rfl | (simp; done) | (simp [*]; done)), H', ⟨by have := HK1.out; omega⟩, ⟨by (with_reducible repeat (first | apply Kd.V_alloc | apply Kd.V_drewN | apply Kd.V_drew)); exact Kd.V_mono HO236.out (fun _ hk => ⟨hk.1.1, ⟨hk.2, hk.1.2⟩⟩)⟩, ⟨by (with_reducible repeat (first | apply Kd.R_alloc | apply Kd.R_drewN | apply Kd.R_drew)); exact HO239.out⟩, ⟨by (with_reducible repeat (first | refine z07 ?_ _ | refine z08 ?_ | refine z06 ?_ _)); exact BK227.out⟩, ⟨by repeat (first | (with_reducible first | exact HB.out | apply z02 | apply z00 | apply z03 | refine z09 ?_ GE227.out) | exact HB.out)⟩⟩
                        · rw [if_neg c21] at H
                          exact absurd H (by simp)
                      · rw [if_neg c20] at H
                        have c20b0 : ((rd x1_1 0) == 0) = false := beq_eq_false_iff_ne.mpr c20
                        have c20b1 : ((rd x1_1 0) != 0) = true := bne_iff_ne.mpr c20
                        replace H := Option.bind_eq_some_iff.mp H
                        obtain ⟨⟨t241, t242, t243, t244, t245, t246⟩, A260, H⟩ := H
                        replace H : (if t246 = 0 then (if x7_1.length < 3518437208883 then (if 0 ≤ t245 then (if t245 ≤ (y232.length : Int) then (winnowerref07_Decode.l0 k1 (y232.drop (t245 : Int).toNat) (x7_1 ++ [(⟨t241, t242, t243, t244⟩ : S63)]) (wrap64 (x8_1 + 1)) l0_0 a0_1 a0_2 a0_3 a0_4) else (none)) else (none)) else (none)) else (some (([] : List (S63)), t246))) = some (r1, r2) := H
                        have A26 := z05.mk A260
                        clear A260
                        by_cases c27 : t246 = 0
                        · rw [if_pos c27] at H
                          have c27b0 : (t246 == 0) = true := beq_iff_eq.mpr c27
                          have c27b1 : (t246 != 0) = false := bne_eq_false_iff_eq.mpr c27
                          clear c27
                          by_cases c28 : x7_1.length < 3518437208883
                          · rw [if_pos c28] at H
                            have LMc28 := z05.mk c28
                            clear c28
                            obtain ⟨y248, hy248⟩ : ∃ y_ : List (S63), y_ = (x7_1 ++ [(⟨t241, t242, t243, t244⟩ : S63)]) := ⟨_, rfl⟩
                            replace H : (if 0 ≤ t245 then (if t245 ≤ (y232.length : Int) then (winnowerref07_Decode.l0 k1 (y232.drop (t245 : Int).toNat) y248 (wrap64 (x8_1 + 1)) l0_0 a0_1 a0_2 a0_3 a0_4) else (none)) else (none)) = some (r1, r2) := by first | (rw [hy248]; with_reducible exact H) | (have H2_ := (Option.bind_some _ _).symm.trans H; rw [hy248]; with_reducible exact H2_) | (have H2_ := (Option.bind_some _ _).symm.trans H; with_reducible exact H2_) | with_reducible exact H | (rw [hy248]; exact H) | exact H
                            have Ny248 := z05.mk hy248
                            clear hy248
                            by_cases c29 : 0 ≤ t245
                            · rw [if_pos c29] at H
                              have c29b0 := eq_true c29
                              have c29b1 : decide (0 ≤ t245) = true := decide_eq_true c29
                              clear c29
                              by_cases c30 : t245 ≤ (y232.length : Int)
                              · rw [if_pos c30] at H
                                have c30b0 := eq_true c30
                                have c30b1 : decide (t245 ≤ (y232.length : Int)) = true := decide_eq_true c30
                                clear c30
                                obtain ⟨y251, hy251⟩ : ∃ y_ : List Int, y_ = (y232.drop (t245 : Int).toNat) := ⟨_, rfl⟩
                                replace H : (winnowerref07_Decode.l0 k1 y251 y248 (wrap64 (x8_1 + 1)) l0_0 a0_1 a0_2 a0_3 a0_4) = some (r1, r2) := by first | (rw [hy251]; with_reducible exact H) | (have H2_ := (Option.bind_some _ _).symm.trans H; rw [hy251]; with_reducible exact H2_) | (have H2_ := (Option.bind_some _ _).symm.trans H; with_reducible exact H2_) | with_reducible exact H | (rw [hy251]; exact H) | exact H
                                have Ny251 := z05.mk hy251
                                clear hy251
                                have H' := z05.mk H
                                clear H
                                have hcz31_0 : wr.cell? ⟨gb227, 0, none⟩ = some (.slice A0_0 l0_0.length c0_0) := (z04 BK227.out 0).trans rfl
                                have hcz31_1 : wr.cell? ⟨gb227, 1, none⟩ = some (.int .i64 a0_1) := (z04 BK227.out 1).trans rfl
                                have hcz31_2 : wr.cell? ⟨gb227, 2, none⟩ = some (.int .i64 a0_2) := (z04 BK227.out 2).trans rfl
                                have hcz31_3 : wr.cell? ⟨gb227, 3, none⟩ = some (.int .i64 a0_3) := (z04 BK227.out 3).trans rfl
                                have hcz31_4 : wr.cell? ⟨gb227, 4, none⟩ = some (.int .i64 a0_4) := (z04 BK227.out 4).trans rfl
                                have hfz31_0 := z01 BK227.out 0
                                have hfz31_1 := z01 BK227.out 1
                                have hfz31_2 := z01 BK227.out 2
                                have hfz31_3 := z01 BK227.out 3
                                have hfz31_4 := z01 BK227.out 4
                                have p229 : 0 ≤ (x8_1 : Int) := of_decide_eq_true (by first | (with_reducible assumption) | assumption)
                                have q229 : x8_1 < (l0_0.length : Int) := of_decide_eq_true (by first | (with_reducible assumption) | assumption)
                                obtain ⟨ad229, e229, hx229_0, hx229_1, hx229_2⟩ := z11 HR0_0.out x8_1 p229 q229
                                (try rw [← Nbq10.out] at hx229_2)
                                cases e229
                                replace hx229_0 := (HB.out.cell (World.block_lt_of_cell? w _ hx229_0)).trans hx229_0
                                replace hx229_1 := (HB.out.cell (World.block_lt_of_cell? w _ hx229_1)).trans hx229_1
                                replace hx229_2 := (HB.out.cell (World.block_lt_of_cell? w _ hx229_2)).trans hx229_2
                                replace p229 := eq_true p229
                                replace q229 := eq_true q229
                                obtain ⟨Ao32, co32, eo32⟩ := Kd.V_slice HO_1.out
                                subst eo32
                                have p230 : 0 ≤ (0 : Int) := (by omega)
                                have q230 : 0 < (x1_1.length : Int) := of_decide_eq_true (by first | (with_reducible assumption) | assumption)
                                obtain ⟨ad230, e230, hx230_0⟩ := Kd.at_int (Kd.V_reads' HO_1.out).2.2 0 p230 q230
                                cases e230
                                have qi230 : (0 < x1_1.length) = True := eq_true (by omega)
                                (try rw [show ((0 : Int)).toNat = 0 from rfl] at hx230_0)
                                (try rw [Addr.add_zero'] at hx230_0)
                                replace p230 := eq_true p230
                                replace q230 := eq_true q230
                                have p231 : 0 ≤ (0 : Int) := (by omega)
                                have q231 : 0 < (x1_1.length : Int) := of_decide_eq_true (by first | (with_reducible assumption) | assumption)
                                obtain ⟨ad231, e231, hx231_0⟩ := Kd.at_int (Kd.V_reads' HO_1.out).2.2 0 p231 q231
                                obtain rfl : ad230 = ad231 := (by injection e231)
                                have qi231 : (0 < x1_1.length) = True := eq_true (by omega)
                                (try rw [show ((0 : Int)).toNat = 0 from rfl] at hx231_0)
                                (try rw [Addr.add_zero'] at hx231_0)
                                replace p231 := eq_true p231
                                replace q231 := eq_true q231
                                have q33 : (1 : Int) ≤ ((x1_1.length : Int) : Int) := of_decide_eq_true (by first | (with_reducible assumption) | assumption)
                                obtain ⟨i033, hi033, _, hsz33, _⟩ := info_parts info5
                                have hroom33 : x1_1.length ≤ co32 := (Kd.V_reads' HO_1.out).2.1
                                have hC33 : Kd.F (Kd.int .u8) _ _ (some ad230) x1_1.length x1_1 := (Kd.V_at (base := w.heap.size) HO_1.out).2.2
                                have hcut33 := z1z (P := Tryd.prog) 42 5 .i64 Tryd.underlying42 hi033 1 hsz33 (some ad230) x1_1.length co32 1 (by omega) q33
                                have hr33 := Kd.F_cut (m := (1 : Int).toNat) (c := co32) hC33 (by omega) hroom33
                                obtain ⟨A33, hA33⟩ : ∃ A1, A1 = (if co32 = (1 : Int).toNat then (some ad230) else ((some ad230) : Option Addr).map (·.add ((1 : Int).toNat * 1))) := ⟨_, rfl⟩
                                obtain ⟨c33, hc33⟩ : ∃ c1, c1 = co32 - (1 : Int).toNat := ⟨_, rfl⟩
                                have hy33 : y232.length = x1_1.length - (1 : Int).toNat := (by rw [Ny232.out, List.length_drop] <;> omega)
                                rw [show (x1_1).drop (1 : Int).toNat = y232 from Ny232.out.symm] at hr33
                                replace hr33 : Kd.F (Kd.int .u8) _ _ A33 y232.length y232 := (by rw [hA33]; exact hr33)
                                rw [← hy33, ← hA33, ← hc33] at hcut33
                                have HO236 := z05.mk (show Kd.V (Kd.int .u8) 5 _ w.heap.size _ (.slice A33 y232.length c33) y232 from Kd.V_mk (by rw [hy33, hc33]; exact Nat.sub_le_sub_right hroom33 _) hr33)
                                have HC236 := z05.mk (show y232.length ≤ c33 from by rw [hy33, hc33]; exact Nat.sub_le_sub_right hroom33 _)
                                clear hr33 hC33 hroom33 hi033 hsz33 hc33
                                have KY33 := z05.mk hy33
                                have KA33 := z05.mk hA33
                                clear hy33 hA33
                                replace q33 := eq_true q33
                                have p240 : 0 ≤ (x8_1 : Int) := of_decide_eq_true (by first | (with_reducible assumption) | assumption)
                                have q240 : x8_1 < (l0_0.length : Int) := of_decide_eq_true (by first | (with_reducible assumption) | assumption)
                                obtain ⟨ad240, e240, hx240_0, hx240_1, hx240_2⟩ := z11 HR0_0.out x8_1 p240 q240
                                (try rw [← Nbq10.out] at hx240_2)
                                obtain rfl : ad229 = ad240 := (by injection e240)
                                replace hx240_0 := (HB.out.cell (World.block_lt_of_cell? w _ hx240_0)).trans hx240_0
                                replace hx240_1 := (HB.out.cell (World.block_lt_of_cell? w _ hx240_1)).trans hx240_1
                                replace hx240_2 := (HB.out.cell (World.block_lt_of_cell? w _ hx240_2)).trans hx240_2
                                replace p240 := eq_true p240
                                replace q240 := eq_true q240
                                go_wp2_with (first | ((with_reducible refine z0j (f := 31) rfl ?_); refine z0u (some 56) rfl rfl Tryd.func31 (by kernel_rfl) rfl #[.slice A33 y232.length c33, .int .i64 ((z0f l0_0 x8_1).f1)] rfl (by (try simp only [List.map_toArray, List.map_cons, List.map_nil]); first | done | rfl | (simp only [List.length_drop, List.length_take]; rfl)) ?_; (with_reducible refine (winnowerref06_Get.calls _ _ y232 ((z0f l0_0 x8_1).f1) t241 t242 t243 t244 t245 t246 _ ?side1 ?side2 A26.out).mono ?_); (case side1 => repeat (first | exact (Kd.V_reads' HO236.out).2.2 | (with_reducible refine Kd.C_alloc ?_ _) | (with_reducible refine Kd.C_drewN ?_ _) | (with_reducible refine Kd.C_drew ?_))); (case side2 => exact (Kd.V_reads' HO236.out).2.1); rintro e w34 ⟨rfl, hb⟩; refine ⟨_, rfl, ?_⟩; have n0_ := z05.mk (Kd.V_below (by (with_reducible repeat (first | apply Kd.V_alloc | apply Kd.V_drewN | apply Kd.V_drew)); exact HO_1.out) hb); have n1_ := z05.mk (Kd.R_below (by (with_reducible repeat (first | apply Kd.R_alloc | apply Kd.R_drewN | apply Kd.R_drew)); exact HO_7.out) hb); have n2_ := z05.mk (Kd.V_below (by (with_reducible repeat (first | apply Kd.V_alloc | apply Kd.V_drewN | apply Kd.V_drew)); exact HO236.out) hb); have n3_ := z05.mk (z0e (g := gb227) (o := .cells #[.slice (some ad229) l0_0.length c0_0, .int .i64 a0_1, .int .i64 a0_2, .int .i64 a0_3, .int .i64 a0_4] 24 (0, 0)) (by (with_reducible repeat (first | refine z07 ?_ _ | refine z08 ?_ | refine z06 ?_ _)); exact BK227.out) hb); have n4_ := z05.mk (z0a (by repeat (first | (with_reducible first | exact HB.out | apply z02 | apply z00 | apply z03 | refine z09 ?_ GE227.out) | exact HB.out)) hb); clear HO_1; clear HO_7; clear HO236; clear BK227; clear HB; have HO_1 := n0_; have HO_7 := n1_; have HO236 := n2_; have BK227 := n3_; have HB := n4_; clear n0_ n1_ n2_ n3_ n4_; (try clear hb); (try clear hb2); (try clear hk); (try clear hi)) | ((with_reducible refine z0h (N := 10) rfl ?_); refine z0g ?hg (N := 10) ?hd (cs := #[.int .i64 0, .int .i64 0, .string (⟨#[]⟩ : ByteArray), .bool false]) (t := 63) ?hr ?_; (case hd => rfl); (case hg => rfl); (case hr => first | (go_simp; done) | (go_simp; rfl)); intro gb247 hg w35 hbox hb; have n0_ := z05.mk (Kd.V_below (Kd.V_elderB (by (with_reducible repeat (first | apply Kd.V_alloc | apply Kd.V_drewN | apply Kd.V_drew)); exact HO_1.out) gb247 (Nat.le_of_eq hg.symm)) hb); have n1_ := z05.mk (Kd.R_below (Kd.R_elderB (by (with_reducible repeat (first | apply Kd.R_alloc | apply Kd.R_drewN | apply Kd.R_drew)); exact HO_7.out) gb247 (Nat.le_of_eq hg.symm)) hb); have n2_ := z05.mk (Kd.V_below (Kd.V_elderB (by (with_reducible repeat (first | apply Kd.V_alloc | apply Kd.V_drewN | apply Kd.V_drew)); exact HO236.out) gb247 (Nat.le_of_eq hg.symm)) hb); have n3_ := z05.mk (z0e (g := gb227) (o := .cells #[.slice (some ad229) l0_0.length c0_0, .int .i64 a0_1, .int .i64 a0_2, .int .i64 a0_3, .int .i64 a0_4] 24 (0, 0)) (by (with_reducible repeat (first | refine z07 ?_ _ | refine z08 ?_ | refine z06 ?_ _)); exact BK227.out) hb); have n4_ := z05.mk (z0a (by repeat (first | (with_reducible first | exact HB.out | apply z02 | apply z00 | apply z03 | refine z09 ?_ GE227.out) | exact HB.out)) hb); have n5_ := z05.mk (hbox); have n6_ := z05.mk ((by rw [hg]; exact (z0b (by repeat (first | (with_reducible first | exact HB.out | apply z02 | apply z00 | apply z03 | refine z09 ?_ GE227.out) | exact HB.out))) : w.heap.size ≤ gb247)); have n7_ := z05.mk ((by rw [hg]; exact (z0b (by repeat (first | (with_reducible first | exact HB.out | apply z02 | apply z00 | apply z03 | refine z09 ?_ GE227.out) | exact HB.out))) : w.heap.size ≤ gb247)); have n8_ := z05.mk ((by rw [hg]; exact Nat.ne_of_lt (z0q (g := gb227) (o := .cells #[.slice (some ad229) l0_0.length c0_0, .int .i64 a0_1, .int .i64 a0_2, .int .i64 a0_3, .int .i64 a0_4] 24 (0, 0)) (by (with_reducible repeat (first | refine z07 ?_ _ | refine z08 ?_ | refine z06 ?_ _)); exact BK227.out)) : gb227 ≠ gb247)); have n9_ := z05.mk ((by rw [hg]; exact Nat.ne_of_gt (z0q (g := gb227) (o := .cells #[.slice (some ad229) l0_0.length c0_0, .int .i64 a0_1, .int .i64 a0_2, .int .i64 a0_3, .int .i64 a0_4] 24 (0, 0)) (by (with_reducible repeat (first | refine z07 ?_ _ | refine z08 ?_ | refine z06 ?_ _)); exact BK227.out)) : gb247 ≠ gb227)); clear HO_1; clear HO_7; clear HO236; clear BK227; clear HB; have HO_1 := n0_; have HO_7 := n1_; have HO236 := n2_; have BK227 := n3_; have HB := n4_; have BK247 := n5_; have GW247 := n6_; have GE247 := n7_; have NB227_247 := n8_; have NB247_227 := n9_; clear n0_ n1_ n2_ n3_ n4_ n5_ n6_ n7_ n8_ n9_; clear hb hbox hg; have hnb36 := NB247_227.out; have hnc36 := NB227_247.out; have hcz37_0 : w35.cell? ⟨gb247, 0, none⟩ = some (.int .i64 0) := (z04 BK247.out 0).trans rfl; have hcz37_1 : w35.cell? ⟨gb247, 1, none⟩ = some (.int .i64 0) := (z04 BK247.out 1).trans rfl; have hcz37_2 : w35.cell? ⟨gb247, 2, none⟩ = some (.string (⟨#[]⟩ : ByteArray)) := (z04 BK247.out 2).trans rfl; have hcz37_3 : w35.cell? ⟨gb247, 3, none⟩ = some (.bool false) := (z04 BK247.out 3).trans (by first | rfl | (rw [Nbq10.out]; rfl)); have hfz37_0 := z01 BK247.out 0; have hfz37_1 := z01 BK247.out 1; have hfz37_2 := z01 BK247.out 2; have hfz37_3 := z01 BK247.out 3) | ((with_reducible refine z1s (b := .append) (xs := #[.tmp 63, .tmp 65]) rfl ?_); at_builtin; refine Kd.R_append k63 (w0 := w) w.heap.size rfl (.tmp 63) (.tmp 65) 39 63 (.agg #[(.int .i64 0), (.int .i64 0), (.string ⟨#[]⟩), (.bool false)]) 40 rfl Tryd.underlying39 z6t rfl (by decide) (by omega) u7 x7_1 (⟨t241, t242, t243, t244⟩ : S63) [.int .i64 t241, .int .i64 t242, .string t243, .bool t244] (fun k_ => (w.heap.size ≤ k_) ∧ k_ ≠ gb247) (fun _ => False) rfl (by first | (go_simp; done) | (go_simp; rfl)) ?aP (fun _ hk => hk.elim) ?aF ?aO ?aB ?aS ?aL ?_; (case aP => exact z50 _ _ _ (⟨t241, t242, t243, t244⟩ : S63)); (case aB => exact (by repeat (first | (with_reducible first | exact HB.out | apply z02 | apply z00 | apply z03 | refine z09 ?_ GE227.out | refine z09 ?_ GE247.out) | exact HB.out))); (case aF => exact (fun k_ hk => ⟨(Nat.le_trans (z0b (by repeat (first | (with_reducible first | exact HB.out | apply z02 | apply z00 | apply z03 | refine z09 ?_ GE227.out | refine z09 ?_ GE247.out) | exact HB.out))) hk), Kd.freshB (g := gb247) (o := .cells #[.int .i64 t241, .int .i64 t242, .string t243, .bool t244] 63 (0, 0)) (by (with_reducible repeat (first | refine z07 ?_ _ | refine z08 ?_ | refine z06 ?_ _)); refine z0i (cs := #[.int .i64 t241, .int .i64 t242, .string t243, .bool false]) ?_ 3 _ rfl; (with_reducible repeat (first | refine z07 ?_ _ | refine z08 ?_ | refine z06 ?_ _)); refine z0i (cs := #[.int .i64 t241, .int .i64 t242, .string (⟨#[]⟩ : ByteArray), .bool false]) ?_ 2 _ rfl; (with_reducible repeat (first | refine z07 ?_ _ | refine z08 ?_ | refine z06 ?_ _)); refine z0i (cs := #[.int .i64 t241, .int .i64 0, .string (⟨#[]⟩ : ByteArray), .bool false]) ?_ 1 _ rfl; (with_reducible repeat (first | refine z07 ?_ _ | refine z08 ?_ | refine z06 ?_ _)); refine z0i (cs := #[.int .i64 0, .int .i64 0, .string (⟨#[]⟩ : ByteArray), .bool false]) ?_ 0 _ rfl; (with_reducible repeat (first | refine z07 ?_ _ | refine z08 ?_ | refine z06 ?_ _)); exact BK247.out) k_ hk⟩)); (case aO => exact (by (with_reducible repeat (first | apply Kd.R_alloc | apply Kd.R_drewN | apply Kd.R_drew)); exact Kd.R_mono (Kd.R_far (p := ⟨gb247, 3, none⟩) (Kd.R_far (p := ⟨gb247, 2, none⟩) (Kd.R_far (p := ⟨gb247, 1, none⟩) (Kd.R_far (p := ⟨gb247, 0, none⟩) (Kd.R_mono HO_7.out (fun k_ hk => (⟨hk, hk.2⟩ : _ ∧ k_ ≠ gb247))) (fun _ hk => hk.2) (.int .i64 t241)) (fun _ hk => hk.2) (.int .i64 t242)) (fun _ hk => hk.2) (.string t243)) (fun _ hk => hk.2) (.bool t244)) (fun _ hk => ⟨hk.1.1, hk.1.2⟩))); (case aS => exact (z0b (by repeat (first | (with_reducible first | exact HB.out | apply z02 | apply z00 | apply z03 | refine z09 ?_ GE227.out | refine z09 ?_ GE247.out) | exact HB.out)))); (case aL => have := LMc28.out; omega); intro v249 w38 ho hb hg hat; rw [← Ny248.out] at ho; have n0_ := z05.mk (Kd.V_afterv (ok := (fun k_ => (P1_ k_ ∨ w.heap.size ≤ k_) ∧ k_ ≠ gb227 ∧ k_ ≠ gb247)) (by (with_reducible repeat (first | apply Kd.V_alloc | apply Kd.V_drewN | apply Kd.V_drew)); exact Kd.V_mono (Kd.V_far (p := ⟨gb247, 3, none⟩) (Kd.V_far (p := ⟨gb247, 2, none⟩) (Kd.V_far (p := ⟨gb247, 1, none⟩) (Kd.V_far (p := ⟨gb247, 0, none⟩) (Kd.V_mono HO_1.out (fun k_ hk => (⟨hk, hk.2⟩ : _ ∧ k_ ≠ gb247))) (fun _ hk => hk.2) (.int .i64 t241)) (fun _ hk => hk.2) (.int .i64 t242)) (fun _ hk => hk.2) (.string t243)) (fun _ hk => hk.2) (.bool t244)) (fun _ hk => ⟨⟨hk.1.1.1, ⟨hk.1.1.2.2, hk.1.2⟩⟩, hk.1.1.2.1⟩)) hg hat); have n1_ := z05.mk (z1p (g := gb227) (o := .cells #[.slice (some ad229) l0_0.length c0_0, .int .i64 a0_1, .int .i64 a0_2, .int .i64 a0_3, .int .i64 a0_4] 24 (0, 0)) (by (with_reducible repeat (first | refine z07 ?_ _ | refine z08 ?_ | refine z06 ?_ _)); refine z0m ?_ NB227_247.out _; (with_reducible repeat (first | refine z07 ?_ _ | refine z08 ?_ | refine z06 ?_ _)); refine z0m ?_ NB227_247.out _; (with_reducible repeat (first | refine z07 ?_ _ | refine z08 ?_ | refine z06 ?_ _)); refine z0m ?_ NB227_247.out _; (with_reducible repeat (first | refine z07 ?_ _ | refine z08 ?_ | refine z06 ?_ _)); refine z0m ?_ NB227_247.out _; (with_reducible repeat (first | refine z07 ?_ _ | refine z08 ?_ | refine z06 ?_ _)); exact BK227.out) hg (Kd.R_ne HO_7.out BK227.out (by decide))); have n2_ := z05.mk (Kd.V_afterv (ok := (fun k_ => (P1_ k_ ∨ w.heap.size ≤ k_) ∧ k_ ≠ gb227 ∧ k_ ≠ gb247)) (by (with_reducible repeat (first | apply Kd.V_alloc | apply Kd.V_drewN | apply Kd.V_drew)); exact Kd.V_mono (Kd.V_far (p := ⟨gb247, 3, none⟩) (Kd.V_far (p := ⟨gb247, 2, none⟩) (Kd.V_far (p := ⟨gb247, 1, none⟩) (Kd.V_far (p := ⟨gb247, 0, none⟩) (Kd.V_mono HO236.out (fun k_ hk => (⟨hk, hk.2⟩ : _ ∧ k_ ≠ gb247))) (fun _ hk => hk.2) (.int .i64 t241)) (fun _ hk => hk.2) (.int .i64 t242)) (fun _ hk => hk.2) (.string t243)) (fun _ hk => hk.2) (.bool t244)) (fun _ hk => ⟨⟨hk.1.1.1, ⟨hk.1.1.2.2, hk.1.2⟩⟩, hk.1.1.2.1⟩)) hg hat); have n3_ := z05.mk (z1p (g := gb247) (o := .cells #[.int .i64 t241, .int .i64 t242, .string t243, .bool t244] 63 (0, 0)) (by (with_reducible repeat (first | refine z07 ?_ _ | refine z08 ?_ | refine z06 ?_ _)); refine z0i (cs := #[.int .i64 t241, .int .i64 t242, .string t243, .bool false]) ?_ 3 _ rfl; (with_reducible repeat (first | refine z07 ?_ _ | refine z08 ?_ | refine z06 ?_ _)); refine z0i (cs := #[.int .i64 t241, .int .i64 t242, .string (⟨#[]⟩ : ByteArray), .bool false]) ?_ 2 _ rfl; (with_reducible repeat (first | refine z07 ?_ _ | refine z08 ?_ | refine z06 ?_ _)); refine z0i (cs := #[.int .i64 t241, .int .i64 0, .string (⟨#[]⟩ : ByteArray), .bool false]) ?_ 1 _ rfl; (with_reducible repeat (first | refine z07 ?_ _ | refine z08 ?_ | refine z06 ?_ _)); refine z0i (cs := #[.int .i64 0, .int .i64 0, .string (⟨#[]⟩ : ByteArray), .bool false]) ?_ 0 _ rfl; (with_reducible repeat (first | refine z07 ?_ _ | refine z08 ?_ | refine z06 ?_ _)); exact BK247.out) hg (Kd.R_away HO_7.out (fun _ hk => hk.2))); have n4_ := z05.mk (hb); have n5_ := z05.mk (ho); clear HO_1; clear BK227; clear HO236; clear BK247; clear HB; clear HO_7; have HO_1 := n0_; have BK227 := n1_; have HO236 := n2_; have BK247 := n3_; have HB := n4_; have HO250 := n5_; clear n0_ n1_ n2_ n3_ n4_ n5_; clear ho hb hg hat; have q39 : (t245 : Int) ≤ ((y232.length : Int) : Int) := of_decide_eq_true (by first | (with_reducible assumption) | assumption); obtain ⟨i039, hi039, _, hsz39, _⟩ := info_parts info5; have hroom39 : y232.length ≤ c33 := (Kd.V_reads' HO236.out).2.1; have hC39 : Kd.F (Kd.int .u8) _ _ A33 y232.length y232 := (Kd.V_at (base := w.heap.size) HO236.out).2.2; have q039 : (0 : Int) ≤ (t245 : Int) := of_decide_eq_true (by first | (with_reducible assumption) | assumption); have hcut39 := z1z (P := Tryd.prog) 42 5 .i64 Tryd.underlying42 hi039 1 hsz39 A33 y232.length c33 t245 q039 q39; have hr39 := Kd.F_cut (m := (t245 : Int).toNat) (c := c33) hC39 (by omega) hroom39; obtain ⟨A39, hA39⟩ : ∃ A1, A1 = (if c33 = (t245 : Int).toNat then A33 else (A33 : Option Addr).map (·.add ((t245 : Int).toNat * 1))) := ⟨_, rfl⟩; obtain ⟨c39, hc39⟩ : ∃ c1, c1 = c33 - (t245 : Int).toNat := ⟨_, rfl⟩; have hy39 : y251.length = y232.length - (t245 : Int).toNat := (by rw [Ny251.out, List.length_drop] <;> omega); rw [show (y232).drop (t245 : Int).toNat = y251 from Ny251.out.symm] at hr39; replace hr39 : Kd.F (Kd.int .u8) _ _ A39 y251.length y251 := (by rw [hA39]; exact hr39); rw [← hy39, ← hA39, ← hc39] at hcut39; have HO255 := z05.mk (show Kd.V (Kd.int .u8) 5 _ w.heap.size _ (.slice A39 y251.length c39) y251 from Kd.V_mk (by rw [hy39, hc39]; exact Nat.sub_le_sub_right hroom39 _) hr39); have HC255 := z05.mk (show y251.length ≤ c39 from by rw [hy39, hc39]; exact Nat.sub_le_sub_right hroom39 _); clear hr39 hC39 hroom39 hi039 hsz39 hc39; have KY39 := z05.mk hy39; have KA39 := z05.mk hA39; clear hy39 hA39; replace q39 := eq_true q39))
                                go_roundg k1
                                case measure => have := HK1.out; omega
                                case rel => exact ⟨(y251), (y248), (wrap64 (x8_1 + 1)), (by first | rfl | (simp; done) | (simp [*]; done)), H', ⟨by have := HK1.out; omega⟩, ⟨by (with_reducible repeat (first | apply Kd.V_alloc | apply Kd.V_drewN | apply Kd.V_drew)); exact Kd.V_mono HO255.out (fun _ hk => ⟨hk.1.1, ⟨hk.2, hk.1.2.1⟩⟩)⟩, ⟨by (with_reducible repeat (first | apply Kd.R_alloc | apply Kd.R_drewN | apply Kd.R_drew)); exact Kd.R_mono HO250.out (fun _ hk => hk.1)⟩, ⟨by (with_reducible repeat (first | refine z07 ?_ _ | refine z08 ?_ | refine z06 ?_ _)); exact BK227.out⟩, ⟨by repeat (first | (with_reducible first | exact HB.out | apply z02 | apply z00 | apply z03 | refine z09 ?_ GE227.out | refine z09 ?_ GE247.out) | exact HB.out)⟩⟩
                              · rw [if_neg c30] at H
                                exact absurd H (by simp)
                            · rw [if_neg c29] at H
                              exact absurd H (by simp)
                          · rw [if_neg c28] at H
                            exact absurd H (by simp)
                        · rw [if_neg c27] at H
                          have c27b0 : (t246 == 0) = false := beq_eq_false_iff_ne.mpr c27
                          have c27b1 : (t246 != 0) = true := bne_iff_ne.mpr c27
                          simp only [Option.some.injEq, Prod.mk.injEq] at H
                          obtain ⟨rfl, rfl⟩ := H
                          have hcz40_0 : wr.cell? ⟨gb227, 0, none⟩ = some (.slice A0_0 l0_0.length c0_0) := (z04 BK227.out 0).trans rfl
                          have hcz40_1 : wr.cell? ⟨gb227, 1, none⟩ = some (.int .i64 a0_1) := (z04 BK227.out 1).trans rfl
                          have hcz40_2 : wr.cell? ⟨gb227, 2, none⟩ = some (.int .i64 a0_2) := (z04 BK227.out 2).trans rfl
                          have hcz40_3 : wr.cell? ⟨gb227, 3, none⟩ = some (.int .i64 a0_3) := (z04 BK227.out 3).trans rfl
                          have hcz40_4 : wr.cell? ⟨gb227, 4, none⟩ = some (.int .i64 a0_4) := (z04 BK227.out 4).trans rfl
                          have hfz40_0 := z01 BK227.out 0
                          have hfz40_1 := z01 BK227.out 1
                          have hfz40_2 := z01 BK227.out 2
                          have hfz40_3 := z01 BK227.out 3
                          have hfz40_4 := z01 BK227.out 4
                          have p229 : 0 ≤ (x8_1 : Int) := of_decide_eq_true (by first | (with_reducible assumption) | assumption)
                          have q229 : x8_1 < (l0_0.length : Int) := of_decide_eq_true (by first | (with_reducible assumption) | assumption)
                          obtain ⟨ad229, e229, hx229_0, hx229_1, hx229_2⟩ := z11 HR0_0.out x8_1 p229 q229
                          (try rw [← Nbq10.out] at hx229_2)
                          cases e229
                          replace hx229_0 := (HB.out.cell (World.block_lt_of_cell? w _ hx229_0)).trans hx229_0
                          replace hx229_1 := (HB.out.cell (World.block_lt_of_cell? w _ hx229_1)).trans hx229_1
                          replace hx229_2 := (HB.out.cell (World.block_lt_of_cell? w _ hx229_2)).trans hx229_2
                          replace p229 := eq_true p229
                          replace q229 := eq_true q229
                          obtain ⟨Ao41, co41, eo41⟩ := Kd.V_slice HO_1.out
                          subst eo41
                          have p230 : 0 ≤ (0 : Int) := (by omega)
                          have q230 : 0 < (x1_1.length : Int) := of_decide_eq_true (by first | (with_reducible assumption) | assumption)
                          obtain ⟨ad230, e230, hx230_0⟩ := Kd.at_int (Kd.V_reads' HO_1.out).2.2 0 p230 q230
                          cases e230
                          have qi230 : (0 < x1_1.length) = True := eq_true (by omega)
                          (try rw [show ((0 : Int)).toNat = 0 from rfl] at hx230_0)
                          (try rw [Addr.add_zero'] at hx230_0)
                          replace p230 := eq_true p230
                          replace q230 := eq_true q230
                          have p231 : 0 ≤ (0 : Int) := (by omega)
                          have q231 : 0 < (x1_1.length : Int) := of_decide_eq_true (by first | (with_reducible assumption) | assumption)
                          obtain ⟨ad231, e231, hx231_0⟩ := Kd.at_int (Kd.V_reads' HO_1.out).2.2 0 p231 q231
                          obtain rfl : ad230 = ad231 := (by injection e231)
                          have qi231 : (0 < x1_1.length) = True := eq_true (by omega)
                          (try rw [show ((0 : Int)).toNat = 0 from rfl] at hx231_0)
                          (try rw [Addr.add_zero'] at hx231_0)
                          replace p231 := eq_true p231
                          replace q231 := eq_true q231
                          have q42 : (1 : Int) ≤ ((x1_1.length : Int) : Int) := of_decide_eq_true (by first | (with_reducible assumption) | assumption)
                          obtain ⟨i042, hi042, _, hsz42, _⟩ := info_parts info5
                          have hroom42 : x1_1.length ≤ co41 := (Kd.V_reads' HO_1.out).2.1
                          have hC42 : Kd.F (Kd.int .u8) _ _ (some ad230) x1_1.length x1_1 := (Kd.V_at (base := w.heap.size) HO_1.out).2.2
                          have hcut42 := z1z (P := Tryd.prog) 42 5 .i64 Tryd.underlying42 hi042 1 hsz42 (some ad230) x1_1.length co41 1 (by omega) q42
                          have hr42 := Kd.F_cut (m := (1 : Int).toNat) (c := co41) hC42 (by omega) hroom42
                          obtain ⟨A42, hA42⟩ : ∃ A1, A1 = (if co41 = (1 : Int).toNat then (some ad230) else ((some ad230) : Option Addr).map (·.add ((1 : Int).toNat * 1))) := ⟨_, rfl⟩
                          obtain ⟨c42, hc42⟩ : ∃ c1, c1 = co41 - (1 : Int).toNat := ⟨_, rfl⟩
                          have hy42 : y232.length = x1_1.length - (1 : Int).toNat := (by rw [Ny232.out, List.length_drop] <;> omega)
                          rw [show (x1_1).drop (1 : Int).toNat = y232 from Ny232.out.symm] at hr42
                          replace hr42 : Kd.F (Kd.int .u8) _ _ A42 y232.length y232 := (by rw [hA42]; exact hr42)
                          rw [← hy42, ← hA42, ← hc42] at hcut42
                          have HO236 := z05.mk (show Kd.V (Kd.int .u8) 5 _ w.heap.size _ (.slice A42 y232.length c42) y232 from Kd.V_mk (by rw [hy42, hc42]; exact Nat.sub_le_sub_right hroom42 _) hr42)
                          have HC236 := z05.mk (show y232.length ≤ c42 from by rw [hy42, hc42]; exact Nat.sub_le_sub_right hroom42 _)
                          clear hr42 hC42 hroom42 hi042 hsz42 hc42
                          have KY42 := z05.mk hy42
                          have KA42 := z05.mk hA42
                          clear hy42 hA42
                          replace q42 := eq_true q42
                          have p240 : 0 ≤ (x8_1 : Int) := of_decide_eq_true (by first | (with_reducible assumption) | assumption)
                          have q240 : x8_1 < (l0_0.length : Int) := of_decide_eq_true (by first | (with_reducible assumption) | assumption)
                          obtain ⟨ad240, e240, hx240_0, hx240_1, hx240_2⟩ := z11 HR0_0.out x8_1 p240 q240
                          (try rw [← Nbq10.out] at hx240_2)
                          obtain rfl : ad229 = ad240 := (by injection e240)
                          replace hx240_0 := (HB.out.cell (World.block_lt_of_cell? w _ hx240_0)).trans hx240_0
                          replace hx240_1 := (HB.out.cell (World.block_lt_of_cell? w _ hx240_1)).trans hx240_1
                          replace hx240_2 := (HB.out.cell (World.block_lt_of_cell? w _ hx240_2)).trans hx240_2
                          replace p240 := eq_true p240
                          replace q240 := eq_true q240
                          go_wp2_with (first | ((with_reducible refine z0j (f := 31) rfl ?_); refine z0u (some 56) rfl rfl Tryd.func31 (by kernel_rfl) rfl #[.slice A42 y232.length c42, .int .i64 ((z0f l0_0 x8_1).f1)] rfl (by (try simp only [List.map_toArray, List.map_cons, List.map_nil]); first | done | rfl | (simp only [List.length_drop, List.length_take]; rfl)) ?_; (with_reducible refine (winnowerref06_Get.calls _ _ y232 ((z0f l0_0 x8_1).f1) t241 t242 t243 t244 t245 t246 _ ?side1 ?side2 A26.out).mono ?_); (case side1 => repeat (first | exact (Kd.V_reads' HO236.out).2.2 | (with_reducible refine Kd.C_alloc ?_ _) | (with_reducible refine Kd.C_drewN ?_ _) | (with_reducible refine Kd.C_drew ?_))); (case side2 => exact (Kd.V_reads' HO236.out).2.1); rintro e w43 ⟨rfl, hb⟩; refine ⟨_, rfl, ?_⟩; have n0_ := z05.mk (Kd.V_below (by (with_reducible repeat (first | apply Kd.V_alloc | apply Kd.V_drewN | apply Kd.V_drew)); exact HO_1.out) hb); have n1_ := z05.mk (Kd.R_below (by (with_reducible repeat (first | apply Kd.R_alloc | apply Kd.R_drewN | apply Kd.R_drew)); exact HO_7.out) hb); have n2_ := z05.mk (Kd.V_below (by (with_reducible repeat (first | apply Kd.V_alloc | apply Kd.V_drewN | apply Kd.V_drew)); exact HO236.out) hb); have n3_ := z05.mk (z0e (g := gb227) (o := .cells #[.slice (some ad229) l0_0.length c0_0, .int .i64 a0_1, .int .i64 a0_2, .int .i64 a0_3, .int .i64 a0_4] 24 (0, 0)) (by (with_reducible repeat (first | refine z07 ?_ _ | refine z08 ?_ | refine z06 ?_ _)); exact BK227.out) hb); have n4_ := z05.mk (z0a (by repeat (first | (with_reducible first | exact HB.out | apply z02 | apply z00 | apply z03 | refine z09 ?_ GE227.out) | exact HB.out)) hb); clear HO_1; clear HO_7; clear HO236; clear BK227; clear HB; have HO_1 := n0_; have HO_7 := n1_; have HO236 := n2_; have BK227 := n3_; have HB := n4_; clear n0_ n1_ n2_ n3_ n4_; (try clear hb); (try clear hb2); (try clear hk); (try clear hi)) | ((with_reducible refine z0h (N := 10) rfl ?_); refine z0g ?hg (N := 10) ?hd (cs := #[.int .i64 0, .int .i64 0, .string (⟨#[]⟩ : ByteArray), .bool false]) (t := 63) ?hr ?_; (case hd => rfl); (case hg => rfl); (case hr => first | (go_simp; done) | (go_simp; rfl)); intro gb247 hg w44 hbox hb; have n0_ := z05.mk (Kd.V_below (Kd.V_elderB (by (with_reducible repeat (first | apply Kd.V_alloc | apply Kd.V_drewN | apply Kd.V_drew)); exact HO_1.out) gb247 (Nat.le_of_eq hg.symm)) hb); have n1_ := z05.mk (Kd.R_below (Kd.R_elderB (by (with_reducible repeat (first | apply Kd.R_alloc | apply Kd.R_drewN | apply Kd.R_drew)); exact HO_7.out) gb247 (Nat.le_of_eq hg.symm)) hb); have n2_ := z05.mk (Kd.V_below (Kd.V_elderB (by (with_reducible repeat (first | apply Kd.V_alloc | apply Kd.V_drewN | apply Kd.V_drew)); exact HO236.out) gb247 (Nat.le_of_eq hg.symm)) hb); have n3_ := z05.mk (z0e (g := gb227) (o := .cells #[.slice (some ad229) l0_0.length c0_0, .int .i64 a0_1, .int .i64 a0_2, .int .i64 a0_3, .int .i64 a0_4] 24 (0, 0)) (by (with_reducible repeat (first | refine z07 ?_ _ | refine z08 ?_ | refine z06 ?_ _)); exact BK227.out) hb); have n4_ := z05.mk (z0a (by repeat (first | (with_reducible first | exact HB.out | apply z02 | apply z00 | apply z03 | refine z09 ?_ GE227.out) | exact HB.out)) hb); have n5_ := z05.mk (hbox); have n6_ := z05.mk ((by rw [hg]; exact (z0b (by repeat (first | (with_reducible first | exact HB.out | apply z02 | apply z00 | apply z03 | refine z09 ?_ GE227.out) | exact HB.out))) : w.heap.size ≤ gb247)); have n7_ := z05.mk ((by rw [hg]; exact (z0b (by repeat (first | (with_reducible first | exact HB.out | apply z02 | apply z00 | apply z03 | refine z09 ?_ GE227.out) | exact HB.out))) : w.heap.size ≤ gb247)); have n8_ := z05.mk ((by rw [hg]; exact Nat.ne_of_lt (z0q (g := gb227) (o := .cells #[.slice (some ad229) l0_0.length c0_0, .int .i64 a0_1, .int .i64 a0_2, .int .i64 a0_3, .int .i64 a0_4] 24 (0, 0)) (by (with_reducible repeat (first | refine z07 ?_ _ | refine z08 ?_ | refine z06 ?_ _)); exact BK227.out)) : gb227 ≠ gb247)); have n9_ := z05.mk ((by rw [hg]; exact Nat.ne_of_gt (z0q (g := gb227) (o := .cells #[.slice (some ad229) l0_0.length c0_0, .int .i64 a0_1, .int .i64 a0_2, .int .i64 a0_3, .int .i64 a0_4] 24 (0, 0)) (by (with_reducible repeat (first | refine z07 ?_ _ | refine z08 ?_ | refine z06 ?_ _)); exact BK227.out)) : gb247 ≠ gb227)); clear HO_1; clear HO_7; clear HO236; clear BK227; clear HB; have HO_1 := n0_; have HO_7 := n1_; have HO236 := n2_; have BK227 := n3_; have HB := n4_; have BK247 := n5_; have GW247 := n6_; have GE247 := n7_; have NB227_247 := n8_; have NB247_227 := n9_; clear n0_ n1_ n2_ n3_ n4_ n5_ n6_ n7_ n8_ n9_; clear hb hbox hg; have hnb45 := NB247_227.out; have hnc45 := NB227_247.out; have hcz46_0 : w44.cell? ⟨gb247, 0, none⟩ = some (.int .i64 0) := (z04 BK247.out 0).trans rfl; have hcz46_1 : w44.cell? ⟨gb247, 1, none⟩ = some (.int .i64 0) := (z04 BK247.out 1).trans rfl; have hcz46_2 : w44.cell? ⟨gb247, 2, none⟩ = some (.string (⟨#[]⟩ : ByteArray)) := (z04 BK247.out 2).trans rfl; have hcz46_3 : w44.cell? ⟨gb247, 3, none⟩ = some (.bool false) := (z04 BK247.out 3).trans (by first | rfl | (rw [Nbq10.out]; rfl)); have hfz46_0 := z01 BK247.out 0; have hfz46_1 := z01 BK247.out 1; have hfz46_2 := z01 BK247.out 2; have hfz46_3 := z01 BK247.out 3))
                          go_ret2
                          exact ⟨_, by first | rfl | (simp [z0d, z0c] <;> rfl) | (refine congrArg (fun b_ : Bool => Ending.returned (Value.bool b_)) ?_; simp; done) | (simp [*, z0d, z0c] <;> rfl), by first | exact Kd.R_nil _ _ _ _ _ | exact Kd.N_nil _ _ _ _ _ | exact Kd.V_nil _ _ _ _ _ | exact Kd.Q_nil _ _ _ _ _ | exact Kd.S_nil _ _ _ _ _, by repeat (first | (with_reducible first | exact HB.out | apply z02 | apply z00 | apply z03 | refine z09 ?_ GE227.out | refine z09 ?_ GE247.out) | exact HB.out)⟩
                    · rw [if_neg c19] at H
                      exact absurd H (by simp)
                · rw [if_neg c15] at H
                  exact absurd H (by simp)
            · replace c11 := Bool.eq_false_iff.mpr c11
              subst c11
              have H1 : ((winnowerref06_Get.f x1_1 ((z0f l0_0 x8_1).f1)).bind fun bt257 => (if bt257.2.2.2.2.2 = 0 then (if x7_1.length < 3518437208883 then (if 0 ≤ bt257.2.2.2.2.1 then (if bt257.2.2.2.2.1 ≤ (x1_1.length : Int) then (winnowerref07_Decode.l0 k1 (x1_1.drop (bt257.2.2.2.2.1 : Int).toNat) (x7_1 ++ [(⟨bt257.1, bt257.2.1, bt257.2.2.1, bt257.2.2.2.1⟩ : S63)]) (wrap64 (x8_1 + 1)) l0_0 a0_1 a0_2 a0_3 a0_4) else (none)) else (none)) else (none)) else (some (([] : List (S63)), bt257.2.2.2.2.2)))) = some (r1, r2) := by rw [if_neg (show ¬ (false = true) by decide)] at H; exact H
              clear H
              have H := H1
              clear H1
              replace H := Option.bind_eq_some_iff.mp H
              obtain ⟨⟨t257, t258, t259, t260, t261, t262⟩, A470, H⟩ := H
              replace H : (if t262 = 0 then (if x7_1.length < 3518437208883 then (if 0 ≤ t261 then (if t261 ≤ (x1_1.length : Int) then (winnowerref07_Decode.l0 k1 (x1_1.drop (t261 : Int).toNat) (x7_1 ++ [(⟨t257, t258, t259, t260⟩ : S63)]) (wrap64 (x8_1 + 1)) l0_0 a0_1 a0_2 a0_3 a0_4) else (none)) else (none)) else (none)) else (some (([] : List (S63)), t262))) = some (r1, r2) := H
              have A47 := z05.mk A470
              clear A470
              by_cases c48 : t262 = 0
              · rw [if_pos c48] at H
                have c48b0 : (t262 == 0) = true := beq_iff_eq.mpr c48
                have c48b1 : (t262 != 0) = false := bne_eq_false_iff_eq.mpr c48
                clear c48
                by_cases c49 : x7_1.length < 3518437208883
                · rw [if_pos c49] at H
                  have LMc49 := z05.mk c49
                  clear c49
                  obtain ⟨y264, hy264⟩ : ∃ y_ : List (S63), y_ = (x7_1 ++ [(⟨t257, t258, t259, t260⟩ : S63)]) := ⟨_, rfl⟩
                  replace H : (if 0 ≤ t261 then (if t261 ≤ (x1_1.length : Int) then (winnowerref07_Decode.l0 k1 (x1_1.drop (t261 : Int).toNat) y264 (wrap64 (x8_1 + 1)) l0_0 a0_1 a0_2 a0_3 a0_4) else (none)) else (none)) = some (r1, r2) := by first | (rw [hy264]; with_reducible exact H) | (have H2_ := (Option.bind_some _ _).symm.trans H; rw [hy264]; with_reducible exact H2_) | (have H2_ := (Option.bind_some _ _).symm.trans H; with_reducible exact H2_) | with_reducible exact H | (rw [hy264]; exact H) | exact H
                  have Ny264 := z05.mk hy264
                  clear hy264
                  by_cases c50 : 0 ≤ t261
                  · rw [if_pos c50] at H
                    have c50b0 := eq_true c50
                    have c50b1 : decide (0 ≤ t261) = true := decide_eq_true c50
                    clear c50
                    by_cases c51 : t261 ≤ (x1_1.length : Int)
                    · rw [if_pos c51] at H
                      have c51b0 := eq_true c51
                      have c51b1 : decide (t261 ≤ (x1_1.length : Int)) = true := decide_eq_true c51
                      clear c51
                      obtain ⟨y267, hy267⟩ : ∃ y_ : List Int, y_ = (x1_1.drop (t261 : Int).toNat) := ⟨_, rfl⟩
                      replace H : (winnowerref07_Decode.l0 k1 y267 y264 (wrap64 (x8_1 + 1)) l0_0 a0_1 a0_2 a0_3 a0_4) = some (r1, r2) := by first | (rw [hy267]; with_reducible exact H) | (have H2_ := (Option.bind_some _ _).symm.trans H; rw [hy267]; with_reducible exact H2_) | (have H2_ := (Option.bind_some _ _).symm.trans H; with_reducible exact H2_) | with_reducible exact H | (rw [hy267]; exact H) | exact H
                      have Ny267 := z05.mk hy267
                      clear hy267
                      have H' := z05.mk H
                      clear H
                      have hcz52_0 : wr.cell? ⟨gb227, 0, none⟩ = some (.slice A0_0 l0_0.length c0_0) := (z04 BK227.out 0).trans rfl
                      have hcz52_1 : wr.cell? ⟨gb227, 1, none⟩ = some (.int .i64 a0_1) := (z04 BK227.out 1).trans rfl
                      have hcz52_2 : wr.cell? ⟨gb227, 2, none⟩ = some (.int .i64 a0_2) := (z04 BK227.out 2).trans rfl
                      have hcz52_3 : wr.cell? ⟨gb227, 3, none⟩ = some (.int .i64 a0_3) := (z04 BK227.out 3).trans rfl
                      have hcz52_4 : wr.cell? ⟨gb227, 4, none⟩ = some (.int .i64 a0_4) := (z04 BK227.out 4).trans rfl
                      have hfz52_0 := z01 BK227.out 0
                      have hfz52_1 := z01 BK227.out 1
                      have hfz52_2 := z01 BK227.out 2
                      have hfz52_3 := z01 BK227.out 3
                      have hfz52_4 := z01 BK227.out 4
                      have p229 : 0 ≤ (x8_1 : Int) := of_decide_eq_true (by first | (with_reducible assumption) | assumption)
                      have q229 : x8_1 < (l0_0.length : Int) := of_decide_eq_true (by first | (with_reducible assumption) | assumption)
                      obtain ⟨ad229, e229, hx229_0, hx229_1, hx229_2⟩ := z11 HR0_0.out x8_1 p229 q229
                      (try rw [← Nbq10.out] at hx229_2)
                      cases e229
                      replace hx229_0 := (HB.out.cell (World.block_lt_of_cell? w _ hx229_0)).trans hx229_0
                      replace hx229_1 := (HB.out.cell (World.block_lt_of_cell? w _ hx229_1)).trans hx229_1
                      replace hx229_2 := (HB.out.cell (World.block_lt_of_cell? w _ hx229_2)).trans hx229_2
                      replace p229 := eq_true p229
                      replace q229 := eq_true q229
                      have p256 : 0 ≤ (x8_1 : Int) := of_decide_eq_true (by first | (with_reducible assumption) | assumption)
                      have q256 : x8_1 < (l0_0.length : Int) := of_decide_eq_true (by first | (with_reducible assumption) | assumption)
                      obtain ⟨ad256, e256, hx256_0, hx256_1, hx256_2⟩ := z11 HR0_0.out x8_1 p256 q256
                      (try rw [← Nbq10.out] at hx256_2)
                      obtain rfl : ad229 = ad256 := (by injection e256)
                      replace hx256_0 := (HB.out.cell (World.block_lt_of_cell? w _ hx256_0)).trans hx256_0
                      replace hx256_1 := (HB.out.cell (World.block_lt_of_cell? w _ hx256_1)).trans hx256_1
                      replace hx256_2 := (HB.out.cell (World.block_lt_of_cell? w _ hx256_2)).trans hx256_2
                      replace p256 := eq_true p256
                      replace q256 := eq_true q256
                      obtain ⟨Ao53, co53, eo53⟩ := Kd.V_slice HO_1.out
                      subst eo53
                      go_wp2_with (first | ((with_reducible refine z0j (f := 31) rfl ?_); refine z0u (some 56) rfl rfl Tryd.func31 (by kernel_rfl) rfl #[.slice Ao53 x1_1.length co53, .int .i64 ((z0f l0_0 x8_1).f1)] rfl (by (try simp only [List.map_toArray, List.map_cons, List.map_nil]); first | done | rfl | (simp only [List.length_drop, List.length_take]; rfl)) ?_; (with_reducible refine (winnowerref06_Get.calls _ _ x1_1 ((z0f l0_0 x8_1).f1) t257 t258 t259 t260 t261 t262 _ ?side1 ?side2 A47.out).mono ?_); (case side1 => repeat (first | exact (Kd.V_reads' HO_1.out).2.2 | (with_reducible refine Kd.C_alloc ?_ _) | (with_reducible refine Kd.C_drewN ?_ _) | (with_reducible refine Kd.C_drew ?_))); (case side2 => exact (Kd.V_reads' HO_1.out).2.1); rintro e w54 ⟨rfl, hb⟩; refine ⟨_, rfl, ?_⟩; have n0_ := z05.mk (Kd.V_below (by (with_reducible repeat (first | apply Kd.V_alloc | apply Kd.V_drewN | apply Kd.V_drew)); exact HO_1.out) hb); have n1_ := z05.mk (Kd.R_below (by (with_reducible repeat (first | apply Kd.R_alloc | apply Kd.R_drewN | apply Kd.R_drew)); exact HO_7.out) hb); have n2_ := z05.mk (z0e (g := gb227) (o := .cells #[.slice (some ad229) l0_0.length c0_0, .int .i64 a0_1, .int .i64 a0_2, .int .i64 a0_3, .int .i64 a0_4] 24 (0, 0)) (by (with_reducible repeat (first | refine z07 ?_ _ | refine z08 ?_ | refine z06 ?_ _)); exact BK227.out) hb); have n3_ := z05.mk (z0a (by repeat (first | (with_reducible first | exact HB.out | apply z02 | apply z00 | apply z03 | refine z09 ?_ GE227.out) | exact HB.out)) hb); clear HO_1; clear HO_7; clear BK227; clear HB; have HO_1 := n0_; have HO_7 := n1_; have BK227 := n2_; have HB := n3_; clear n0_ n1_ n2_ n3_; (try clear hb); (try clear hb2); (try clear hk); (try clear hi)) | ((with_reducible refine z0h (N := 10) rfl ?_); refine z0g ?hg (N := 10) ?hd (cs := #[.int .i64 0, .int .i64 0, .string (⟨#[]⟩ : ByteArray), .bool false]) (t := 63) ?hr ?_; (case hd => rfl); (case hg => rfl); (case hr => first | (go_simp; done) | (go_simp; rfl)); intro gb263 hg w55 hbox hb; have n0_ := z05.mk (Kd.V_below (Kd.V_elderB (by (with_reducible repeat (first | apply Kd.V_alloc | apply Kd.V_drewN | apply Kd.V_drew)); exact HO_1.out) gb263 (Nat.le_of_eq hg.symm)) hb); have n1_ := z05.mk (Kd.R_below (Kd.R_elderB (by (with_reducible repeat (first | apply Kd.R_alloc | apply Kd.R_drewN | apply Kd.R_drew)); exact HO_7.out) gb263 (Nat.le_of_eq hg.symm)) hb); have n2_ := z05.mk (z0e (g := gb227) (o := .cells #[.slice (some ad229) l0_0.length c0_0, .int .i64 a0_1, .int .i64 a0_2, .int .i64 a0_3, .int .i64 a0_4] 24 (0, 0)) (by (with_reducible repeat (first | refine z07 ?_ _ | refine z08 ?_ | refine z06 ?_ _)); exact BK227.out) hb); have n3_ := z05.mk (z0a (by repeat (first | (with_reducible first | exact HB.out | apply z02 | apply z00 | apply z03 | refine z09 ?_ GE227.out) | exact HB.out)) hb); have n4_ := z05.mk (hbox); have n5_ := z05.mk ((by rw [hg]; exact (z0b (by repeat (first | (with_reducible first | exact HB.out | apply z02 | apply z00 | apply z03 | refine z09 ?_ GE227.out) | exact HB.out))) : w.heap.size ≤ gb263)); have n6_ := z05.mk ((by rw [hg]; exact (z0b (by repeat (first | (with_reducible first | exact HB.out | apply z02 | apply z00 | apply z03 | refine z09 ?_ GE227.out) | exact HB.out))) : w.heap.size ≤ gb263)); have n7_ := z05.mk ((by rw [hg]; exact Nat.ne_of_lt (z0q (g := gb227) (o := .cells #[.slice (some ad229) l0_0.length c0_0, .int .i64 a0_1, .int .i64 a0_2, .int .i64 a0_3, .int .i64 a0_4] 24 (0, 0)) (by (with_reducible repeat (first | refine z07 ?_ _ | refine z08 ?_ | refine z06 ?_ _)); exact BK227.out)) : gb227 ≠ gb263)); have n8_ := z05.mk ((by rw [hg]; exact Nat.ne_of_gt (z0q (g := gb227) (o := .cells #[.slice (some ad229) l0_0.length c0_0, .int .i64 a0_1, .int .i64 a0_2, .int .i64 a0_3, .int .i64 a0_4] 24 (0, 0)) (by (with_reducible repeat (first | refine z07 ?_ _ | refine z08 ?_ | refine z06 ?_ _)); exact BK227.out)) : gb263 ≠ gb227)); clear HO_1; clear HO_7; clear BK227; clear HB; have HO_1 := n0_; have HO_7 := n1_; have BK227 := n2_; have HB := n3_; have BK263 := n4_; have GW263 := n5_; have GE263 := n6_; have NB227_263 := n7_; have NB263_227 := n8_; clear n0_ n1_ n2_ n3_ n4_ n5_ n6_ n7_ n8_; clear hb hbox hg; have hnb56 := NB263_227.out; have hnc56 := NB227_263.out; have hcz57_0 : w55.cell? ⟨gb263, 0, none⟩ = some (.int .i64 0) := (z04 BK263.out 0).trans rfl; have hcz57_1 : w55.cell? ⟨gb263, 1, none⟩ = some (.int .i64 0) := (z04 BK263.out 1).trans rfl; have hcz57_2 : w55.cell? ⟨gb263, 2, none⟩ = some (.string (⟨#[]⟩ : ByteArray)) := (z04 BK263.out 2).trans rfl; have hcz57_3 : w55.cell? ⟨gb263, 3, none⟩ = some (.bool false) := (z04 BK263.out 3).trans rfl; have hfz57_0 := z01 BK263.out 0; have hfz57_1 := z01 BK263.out 1; have hfz57_2 := z01 BK263.out 2; have hfz57_3 := z01 BK263.out 3) | ((with_reducible refine z1s (b := .append) (xs := #[.tmp 63, .tmp 65]) rfl ?_); at_builtin; refine Kd.R_append k63 (w0 := w) w.heap.size rfl (.tmp 63) (.tmp 65) 39 63 (.agg #[(.int .i64 0), (.int .i64 0), (.string ⟨#[]⟩), (.bool false)]) 40 rfl Tryd.underlying39 z6t rfl (by decide) (by omega) u7 x7_1 (⟨t257, t258, t259, t260⟩ : S63) [.int .i64 t257, .int .i64 t258, .string t259, .bool t260] (fun k_ => (w.heap.size ≤ k_) ∧ k_ ≠ gb263) (fun _ => False) rfl (by first | (go_simp; done) | (go_simp; rfl)) ?aP (fun _ hk => hk.elim) ?aF ?aO ?aB ?aS ?aL ?_; (case aP => exact z50 _ _ _ (⟨t257, t258, t259, t260⟩ : S63)); (case aB => exact (by repeat (first | (with_reducible first | exact HB.out | apply z02 | apply z00 | apply z03 | refine z09 ?_ GE227.out | refine z09 ?_ GE263.out) | exact HB.out))); (case aF => exact (fun k_ hk => ⟨(Nat.le_trans (z0b (by repeat (first | (with_reducible first | exact HB.out | apply z02 | apply z00 | apply z03 | refine z09 ?_ GE227.out | refine z09 ?_ GE263.out) | exact HB.out))) hk), Kd.freshB (g := gb263) (o := .cells #[.int .i64 t257, .int .i64 t258, .string t259, .bool t260] 63 (0, 0)) (by (with_reducible repeat (first | refine z07 ?_ _ | refine z08 ?_ | refine z06 ?_ _)); refine z0i (cs := #[.int .i64 t257, .int .i64 t258, .string t259, .bool false]) ?_ 3 _ rfl; (with_reducible repeat (first | refine z07 ?_ _ | refine z08 ?_ | refine z06 ?_ _)); refine z0i (cs := #[.int .i64 t257, .int .i64 t258, .string (⟨#[]⟩ : ByteArray), .bool false]) ?_ 2 _ rfl; (with_reducible repeat (first | refine z07 ?_ _ | refine z08 ?_ | refine z06 ?_ _)); refine z0i (cs := #[.int .i64 t257, .int .i64 0, .string (⟨#[]⟩ : ByteArray), .bool false]) ?_ 1 _ rfl; (with_reducible repeat (first | refine z07 ?_ _ | refine z08 ?_ | refine z06 ?_ _)); refine z0i (cs := #[.int .i64 0, .int .i64 0, .string (⟨#[]⟩ : ByteArray), .bool false]) ?_ 0 _ rfl; (with_reducible repeat (first | refine z07 ?_ _ | refine z08 ?_ | refine z06 ?_ _)); exact BK263.out) k_ hk⟩)); (case aO => exact (by (with_reducible repeat (first | apply Kd.R_alloc | apply Kd.R_drewN | apply Kd.R_drew)); exact Kd.R_mono (Kd.R_far (p := ⟨gb263, 3, none⟩) (Kd.R_far (p := ⟨gb263, 2, none⟩) (Kd.R_far (p := ⟨gb263, 1, none⟩) (Kd.R_far (p := ⟨gb263, 0, none⟩) (Kd.R_mono HO_7.out (fun k_ hk => (⟨hk, hk.2⟩ : _ ∧ k_ ≠ gb263))) (fun _ hk => hk.2) (.int .i64 t257)) (fun _ hk => hk.2) (.int .i64 t258)) (fun _ hk => hk.2) (.string t259)) (fun _ hk => hk.2) (.bool t260)) (fun _ hk => ⟨hk.1.1, hk.1.2⟩))); (case aS => exact (z0b (by repeat (first | (with_reducible first | exact HB.out | apply z02 | apply z00 | apply z03 | refine z09 ?_ GE227.out | refine z09 ?_ GE263.out) | exact HB.out)))); (case aL => have := LMc49.out; omega); intro v265 w58 ho hb hg hat; rw [← Ny264.out] at ho; have n0_ := z05.mk (Kd.V_afterv (ok := (fun k_ => (P1_ k_ ∨ w.heap.size ≤ k_) ∧ k_ ≠ gb227 ∧ k_ ≠ gb263)) (by (with_reducible repeat (first | apply Kd.V_alloc | apply Kd.V_drewN | apply Kd.V_drew)); exact Kd.V_mono (Kd.V_far (p := ⟨gb263, 3, none⟩) (Kd.V_far (p := ⟨gb263, 2, none⟩) (Kd.V_far (p := ⟨gb263, 1, none⟩) (Kd.V_far (p := ⟨gb263, 0, none⟩) (Kd.V_mono HO_1.out (fun k_ hk => (⟨hk, hk.2⟩ : _ ∧ k_ ≠ gb263))) (fun _ hk => hk.2) (.int .i64 t257)) (fun _ hk => hk.2) (.int .i64 t258)) (fun _ hk => hk.2) (.string t259)) (fun _ hk => hk.2) (.bool t260)) (fun _ hk => ⟨⟨hk.1.1.1, ⟨hk.1.1.2.2, hk.1.2⟩⟩, hk.1.1.2.1⟩)) hg hat); have n1_ := z05.mk (z1p (g := gb227) (o := .cells #[.slice (some ad229) l0_0.length c0_0, .int .i64 a0_1, .int .i64 a0_2, .int .i64 a0_3, .int .i64 a0_4] 24 (0, 0)) (by (with_reducible repeat (first | refine z07 ?_ _ | refine z08 ?_ | refine z06 ?_ _)); refine z0m ?_ NB227_263.out _; (with_reducible repeat (first | refine z07 ?_ _ | refine z08 ?_ | refine z06 ?_ _)); refine z0m ?_ NB227_263.out _; (with_reducible repeat (first | refine z07 ?_ _ | refine z08 ?_ | refine z06 ?_ _)); refine z0m ?_ NB227_263.out _; (with_reducible repeat (first | refine z07 ?_ _ | refine z08 ?_ | refine z06 ?_ _)); refine z0m ?_ NB227_263.out _; (with_reducible repeat (first | refine z07 ?_ _ | refine z08 ?_ | refine z06 ?_ _)); exact BK227.out) hg (Kd.R_ne HO_7.out BK227.out (by decide))); have n2_ := z05.mk (z1p (g := gb263) (o := .cells #[.int .i64 t257, .int .i64 t258, .string t259, .bool t260] 63 (0, 0)) (by (with_reducible repeat (first | refine z07 ?_ _ | refine z08 ?_ | refine z06 ?_ _)); refine z0i (cs := #[.int .i64 t257, .int .i64 t258, .string t259, .bool false]) ?_ 3 _ rfl; (with_reducible repeat (first | refine z07 ?_ _ | refine z08 ?_ | refine z06 ?_ _)); refine z0i (cs := #[.int .i64 t257, .int .i64 t258, .string (⟨#[]⟩ : ByteArray), .bool false]) ?_ 2 _ rfl; (with_reducible repeat (first | refine z07 ?_ _ | refine z08 ?_ | refine z06 ?_ _)); refine z0i (cs := #[.int .i64 t257, .int .i64 0, .string (⟨#[]⟩ : ByteArray), .bool false]) ?_ 1 _ rfl; (with_reducible repeat (first | refine z07 ?_ _ | refine z08 ?_ | refine z06 ?_ _)); refine z0i (cs := #[.int .i64 0, .int .i64 0, .string (⟨#[]⟩ : ByteArray), .bool false]) ?_ 0 _ rfl; (with_reducible repeat (first | refine z07 ?_ _ | refine z08 ?_ | refine z06 ?_ _)); exact BK263.out) hg (Kd.R_away HO_7.out (fun _ hk => hk.2))); have n3_ := z05.mk (hb); have n4_ := z05.mk (ho); clear HO_1; clear BK227; clear BK263; clear HB; clear HO_7; have HO_1 := n0_; have BK227 := n1_; have BK263 := n2_; have HB := n3_; have HO266 := n4_; clear n0_ n1_ n2_ n3_ n4_; clear ho hb hg hat; have q59 : (t261 : Int) ≤ ((x1_1.length : Int) : Int) := of_decide_eq_true (by first | (with_reducible assumption) | assumption); obtain ⟨i059, hi059, _, hsz59, _⟩ := info_parts info5; have hroom59 : x1_1.length ≤ co53 := (Kd.V_reads' HO_1.out).2.1; have hC59 : Kd.F (Kd.int .u8) _ _ Ao53 x1_1.length x1_1 := (Kd.V_at (base := w.heap.size) HO_1.out).2.2; have q059 : (0 : Int) ≤ (t261 : Int) := of_decide_eq_true (by first | (with_reducible assumption) | assumption); have hcut59 := z1z (P := Tryd.prog) 42 5 .i64 Tryd.underlying42 hi059 1 hsz59 Ao53 x1_1.length co53 t261 q059 q59; have hr59 := Kd.F_cut (m := (t261 : Int).toNat) (c := co53) hC59 (by omega) hroom59; obtain ⟨A59, hA59⟩ : ∃ A1, A1 = (if co53 = (t261 : Int).toNat then Ao53 else (Ao53 : Option Addr).map (·.add ((t261 : Int).toNat * 1))) := ⟨_, rfl⟩; obtain ⟨c59, hc59⟩ : ∃ c1, c1 = co53 - (t261 : Int).toNat := ⟨_, rfl⟩; have hy59 : y267.length = x1_1.length - (t261 : Int).toNat := (by rw [Ny267.out, List.length_drop] <;> omega); rw [show (x1_1).drop (t261 : Int).toNat = y267 from Ny267.out.symm] at hr59; replace hr59 : Kd.F (Kd.int .u8) _ _ A59 y267.length y267 := (by rw [hA59]; exact hr59); rw [← hy59, ← hA59, ← hc59] at hcut59; have HO271 := z05.mk (show Kd.V (Kd.int .u8) 5 _ w.heap.size _ (.slice A59 y267.length c59) y267 from Kd.V_mk (by rw [hy59, hc59]; exact Nat.sub_le_sub_right hroom59 _) hr59); have HC271 := z05.mk (show y267.length ≤ c59 from by rw [hy59, hc59]; exact Nat.sub_le_sub_right hroom59 _); clear hr59 hC59 hroom59 hi059 hsz59 hc59; have KY59 := z05.mk hy59; have KA59 := z05.mk hA59; clear hy59 hA59; replace q59 := eq_true q59))
                      go_roundg k1
                      case measure => have := HK1.out; omega
                      case rel => exact ⟨(y267), (y264), (wrap64 (x8_1 + 1)), (by first | rfl | (simp; done) | (simp [*]; done)), H', ⟨by have := HK1.out; omega⟩, ⟨by (with_reducible repeat (first | apply Kd.V_alloc | apply Kd.V_drewN | apply Kd.V_drew)); exact Kd.V_mono HO271.out (fun _ hk => ⟨hk.1.1, ⟨hk.2, hk.1.2.1⟩⟩)⟩, ⟨by (with_reducible repeat (first | apply Kd.R_alloc | apply Kd.R_drewN | apply Kd.R_drew)); exact Kd.R_mono HO266.out (fun _ hk => hk.1)⟩, ⟨by (with_reducible repeat (first | refine z07 ?_ _ | refine z08 ?_ | refine z06 ?_ _)); exact BK227.out⟩, ⟨by repeat (first | (with_reducible first | exact HB.out | apply z02 | apply z00 | apply z03 | refine z09 ?_ GE227.out | refine z09 ?_ GE263.out) | exact HB.out)⟩⟩
                    · rw [if_neg c51] at H
                      exact absurd H (by simp)
                  · rw [if_neg c50] at H
                    exact absurd H (by simp)
                · rw [if_neg c49] at H
                  exact absurd H (by simp)
              · rw [if_neg c48] at H
                have c48b0 : (t262 == 0) = false := beq_eq_false_iff_ne.mpr c48
                have c48b1 : (t262 != 0) = true := bne_iff_ne.mpr c48
                simp only [Option.some.injEq, Prod.mk.injEq] at H
                obtain ⟨rfl, rfl⟩ := H
                have hcz60_0 : wr.cell? ⟨gb227, 0, none⟩ = some (.slice A0_0 l0_0.length c0_0) := (z04 BK227.out 0).trans rfl
                have hcz60_1 : wr.cell? ⟨gb227, 1, none⟩ = some (.int .i64 a0_1) := (z04 BK227.out 1).trans rfl
                have hcz60_2 : wr.cell? ⟨gb227, 2, none⟩ = some (.int .i64 a0_2) := (z04 BK227.out 2).trans rfl
                have hcz60_3 : wr.cell? ⟨gb227, 3, none⟩ = some (.int .i64 a0_3) := (z04 BK227.out 3).trans rfl
                have hcz60_4 : wr.cell? ⟨gb227, 4, none⟩ = some (.int .i64 a0_4) := (z04 BK227.out 4).trans rfl
                have hfz60_0 := z01 BK227.out 0
                have hfz60_1 := z01 BK227.out 1
                have hfz60_2 := z01 BK227.out 2
                have hfz60_3 := z01 BK227.out 3
                have hfz60_4 := z01 BK227.out 4
                have p229 : 0 ≤ (x8_1 : Int) := of_decide_eq_true (by first | (with_reducible assumption) | assumption)
                have q229 : x8_1 < (l0_0.length : Int) := of_decide_eq_true (by first | (with_reducible assumption) | assumption)
                obtain ⟨ad229, e229, hx229_0, hx229_1, hx229_2⟩ := z11 HR0_0.out x8_1 p229 q229
                (try rw [← Nbq10.out] at hx229_2)
                cases e229
                replace hx229_0 := (HB.out.cell (World.block_lt_of_cell? w _ hx229_0)).trans hx229_0
                replace hx229_1 := (HB.out.cell (World.block_lt_of_cell? w _ hx229_1)).trans hx229_1
                replace hx229_2 := (HB.out.cell (World.block_lt_of_cell? w _ hx229_2)).trans hx229_2
                replace p229 := eq_true p229
                replace q229 := eq_true q229
                have p256 : 0 ≤ (x8_1 : Int) := of_decide_eq_true (by first | (with_reducible assumption) | assumption)
                have q256 : x8_1 < (l0_0.length : Int) := of_decide_eq_true (by first | (with_reducible assumption) | assumption)
                obtain ⟨ad256, e256, hx256_0, hx256_1, hx256_2⟩ := z11 HR0_0.out x8_1 p256 q256
                (try rw [← Nbq10.out] at hx256_2)
                obtain rfl : ad229 = ad256 := (by injection e256)
                replace hx256_0 := (HB.out.cell (World.block_lt_of_cell? w _ hx256_0)).trans hx256_0
                replace hx256_1 := (HB.out.cell (World.block_lt_of_cell? w _ hx256_1)).trans hx256_1
                replace hx256_2 := (HB.out.cell (World.block_lt_of_cell? w _ hx256_2)).trans hx256_2
                replace p256 := eq_true p256
                replace q256 := eq_true q256
                obtain ⟨Ao61, co61, eo61⟩ := Kd.V_slice HO_1.out
                subst eo61
                go_wp2_with (first | ((with_reducible refine z0j (f := 31) rfl ?_); refine z0u (some 56) rfl rfl Tryd.func31 (by kernel_rfl) rfl #[.slice Ao61 x1_1.length co61, .int .i64 ((z0f l0_0 x8_1).f1)] rfl (by (try simp only [List.map_toArray, List.map_cons, List.map_nil]); first | done | rfl | (simp only [List.length_drop, List.length_take]; rfl)) ?_; (with_reducible refine (winnowerref06_Get.calls _ _ x1_1 ((z0f l0_0 x8_1).f1) t257 t258 t259 t260 t261 t262 _ ?side1 ?side2 A47.out).mono ?_); (case side1 => repeat (first | exact (Kd.V_reads' HO_1.out).2.2 | (with_reducible refine Kd.C_alloc ?_ _) | (with_reducible refine Kd.C_drewN ?_ _) | (with_reducible refine Kd.C_drew ?_))); (case side2 => exact (Kd.V_reads' HO_1.out).2.1); rintro e w62 ⟨rfl, hb⟩; refine ⟨_, rfl, ?_⟩; have n0_ := z05.mk (Kd.V_below (by (with_reducible repeat (first | apply Kd.V_alloc | apply Kd.V_drewN | apply Kd.V_drew)); exact HO_1.out) hb); have n1_ := z05.mk (Kd.R_below (by (with_reducible repeat (first | apply Kd.R_alloc | apply Kd.R_drewN | apply Kd.R_drew)); exact HO_7.out) hb); have n2_ := z05.mk (z0e (g := gb227) (o := .cells #[.slice (some ad229) l0_0.length c0_0, .int .i64 a0_1, .int .i64 a0_2, .int .i64 a0_3, .int .i64 a0_4] 24 (0, 0)) (by (with_reducible repeat (first | refine z07 ?_ _ | refine z08 ?_ | refine z06 ?_ _)); exact BK227.out) hb); have n3_ := z05.mk (z0a (by repeat (first | (with_reducible first | exact HB.out | apply z02 | apply z00 | apply z03 | refine z09 ?_ GE227.out) | exact HB.out)) hb); clear HO_1; clear HO_7; clear BK227; clear HB; have HO_1 := n0_; have HO_7 := n1_; have BK227 := n2_; have HB := n3_; clear n0_ n1_ n2_ n3_; (try clear hb); (try clear hb2); (try clear hk); (try clear hi)) | ((with_reducible refine z0h (N := 10) rfl ?_); refine z0g ?hg (N := 10) ?hd (cs := #[.int .i64 0, .int .i64 0, .string (⟨#[]⟩ : ByteArray), .bool false]) (t := 63) ?hr ?_; (case hd => rfl); (case hg => rfl); (case hr => first | (go_simp; done) | (go_simp; rfl)); intro gb263 hg w63 hbox hb; have n0_ := z05.mk (Kd.V_below (Kd.V_elderB (by (with_reducible repeat (first | apply Kd.V_alloc | apply Kd.V_drewN | apply Kd.V_drew)); exact HO_1.out) gb263 (Nat.le_of_eq hg.symm)) hb); have n1_ := z05.mk (Kd.R_below (Kd.R_elderB (by (with_reducible repeat (first | apply Kd.R_alloc | apply Kd.R_drewN | apply Kd.R_drew)); exact HO_7.out) gb263 (Nat.le_of_eq hg.symm)) hb); have n2_ := z05.mk (z0e (g := gb227) (o := .cells #[.slice (some ad229) l0_0.length c0_0, .int .i64 a0_1, .int .i64 a0_2, .int .i64 a0_3, .int .i64 a0_4] 24 (0, 0)) (by (with_reducible repeat (first | refine z07 ?_ _ | refine z08 ?_ | refine z06 ?_ _)); exact BK227.out) hb); have n3_ := z05.mk (z0a (by repeat (first | (with_reducible first | exact HB.out | apply z02 | apply z00 | apply z03 | refine z09 ?_ GE227.out) | exact HB.out)) hb); have n4_ := z05.mk (hbox); have n5_ := z05.mk ((by rw [hg]; exact (z0b (by repeat (first | (with_reducible first | exact HB.out | apply z02 | apply z00 | apply z03 | refine z09 ?_ GE227.out) | exact HB.out))) : w.heap.size ≤ gb263)); have n6_ := z05.mk ((by rw [hg]; exact (z0b (by repeat (first | (with_reducible first | exact HB.out | apply z02 | apply z00 | apply z03 | refine z09 ?_ GE227.out) | exact HB.out))) : w.heap.size ≤ gb263)); have n7_ := z05.mk ((by rw [hg]; exact Nat.ne_of_lt (z0q (g := gb227) (o := .cells #[.slice (some ad229) l0_0.length c0_0, .int .i64 a0_1, .int .i64 a0_2, .int .i64 a0_3, .int .i64 a0_4] 24 (0, 0)) (by (with_reducible repeat (first | refine z07 ?_ _ | refine z08 ?_ | refine z06 ?_ _)); exact BK227.out)) : gb227 ≠ gb263)); have n8_ := z05.mk ((by rw [hg]; exact Nat.ne_of_gt (z0q (g := gb227) (o := .cells #[.slice (some ad229) l0_0.length c0_0, .int .i64 a0_1, .int .i64 a0_2, .int .i64 a0_3, .int .i64 a0_4] 24 (0, 0)) (by (with_reducible repeat (first | refine z07 ?_ _ | refine z08 ?_ | refine z06 ?_ _)); exact BK227.out)) : gb263 ≠ gb227)); clear HO_1; clear HO_7; clear BK227; clear HB; have HO_1 := n0_; have HO_7 := n1_; have BK227 := n2_; have HB := n3_; have BK263 := n4_; have GW263 := n5_; have GE263 := n6_; have NB227_263 := n7_; have NB263_227 := n8_; clear n0_ n1_ n2_ n3_ n4_ n5_ n6_ n7_ n8_; clear hb hbox hg; have hnb64 := NB263_227.out; have hnc64 := NB227_263.out; have hcz65_0 : w63.cell? ⟨gb263, 0, none⟩ = some (.int .i64 0) := (z04 BK263.out 0).trans rfl; have hcz65_1 : w63.cell? ⟨gb263, 1, none⟩ = some (.int .i64 0) := (z04 BK263.out 1).trans rfl; have hcz65_2 : w63.cell? ⟨gb263, 2, none⟩ = some (.string (⟨#[]⟩ : ByteArray)) := (z04 BK263.out 2).trans rfl; have hcz65_3 : w63.cell? ⟨gb263, 3, none⟩ = some (.bool false) := (z04 BK263.out 3).trans rfl; have hfz65_0 := z01 BK263.out 0; have hfz65_1 := z01 BK263.out 1; have hfz65_2 := z01 BK263.out 2; have hfz65_3 := z01 BK263.out 3))
                go_ret2
                exact ⟨_, by first | rfl | (simp [z0d, z0c] <;> rfl) | (refine congrArg (fun b_ : Bool => Ending.returned (Value.bool b_)) ?_; simp; done) | (simp [*, z0d, z0c] <;> rfl), by first | exact Kd.R_nil _ _ _ _ _ | exact Kd.N_nil _ _ _ _ _ | exact Kd.V_nil _ _ _ _ _ | exact Kd.Q_nil _ _ _ _ _ | exact Kd.S_nil _ _ _ _ _, by repeat (first | (with_reducible first | exact HB.out | apply z02 | apply z00 | apply z03 | refine z09 ?_ GE227.out | refine z09 ?_ GE263.out) | exact HB.out)⟩
          · rw [if_neg c9] at H
            exact absurd H (by simp)
        · rw [if_neg c8] at H
          have c8b0 : decide (x8_1 < (l0_0.length : Int)) = false := decide_eq_false c8
          clear c8
          by_cases c66 : (x1_1.length : Int) > 0
          · rw [if_pos c66] at H
            have c66b0 : decide (0 < (x1_1.length : Int)) = true := decide_eq_true c66
            have c66b1 : decide (0 < x1_1.length) = true := decide_eq_true (by omega)
            clear c66
            simp only [Option.some.injEq, Prod.mk.injEq] at H
            obtain ⟨rfl, rfl⟩ := H
            have hcz67_0 : wr.cell? ⟨gb227, 0, none⟩ = some (.slice A0_0 l0_0.length c0_0) := (z04 BK227.out 0).trans rfl
            have hcz67_1 : wr.cell? ⟨gb227, 1, none⟩ = some (.int .i64 a0_1) := (z04 BK227.out 1).trans rfl
            have hcz67_2 : wr.cell? ⟨gb227, 2, none⟩ = some (.int .i64 a0_2) := (z04 BK227.out 2).trans rfl
            have hcz67_3 : wr.cell? ⟨gb227, 3, none⟩ = some (.int .i64 a0_3) := (z04 BK227.out 3).trans rfl
            have hcz67_4 : wr.cell? ⟨gb227, 4, none⟩ = some (.int .i64 a0_4) := (z04 BK227.out 4).trans rfl
            have hfz67_0 := z01 BK227.out 0
            have hfz67_1 := z01 BK227.out 1
            have hfz67_2 := z01 BK227.out 2
            have hfz67_3 := z01 BK227.out 3
            have hfz67_4 := z01 BK227.out 4
            obtain ⟨Ao68, co68, eo68⟩ := Kd.V_slice HO_1.out
            subst eo68
            go_wp2
            go_ret2
            exact ⟨_, by first | rfl | (simp [z0d, z0c] <;> rfl) | (refine congrArg (fun b_ : Bool => Ending.returned (Value.bool b_)) ?_; simp; done) | (simp [*, z0d, z0c] <;> rfl), by first | exact Kd.R_nil _ _ _ _ _ | exact Kd.N_nil _ _ _ _ _ | exact Kd.V_nil _ _ _ _ _ | exact Kd.Q_nil _ _ _ _ _ | exact Kd.S_nil _ _ _ _ _, by repeat (first | (with_reducible first | exact HB.out | apply z02 | apply z00 | apply z03 | refine z09 ?_ GE227.out) | exact HB.out)⟩
          · rw [if_neg c66] at H
            have c66b0 : decide (0 < (x1_1.length : Int)) = false := decide_eq_false c66
            have c66b1 : decide (0 < x1_1.length) = false := decide_eq_false (by omega)
            clear c66
            simp only [Option.some.injEq, Prod.mk.injEq] at H
            obtain ⟨rfl, rfl⟩ := H
            have hcz69_0 : wr.cell? ⟨gb227, 0, none⟩ = some (.slice A0_0 l0_0.length c0_0) := (z04 BK227.out 0).trans rfl
            have hcz69_1 : wr.cell? ⟨gb227, 1, none⟩ = some (.int .i64 a0_1) := (z04 BK227.out 1).trans rfl
            have hcz69_2 : wr.cell? ⟨gb227, 2, none⟩ = some (.int .i64 a0_2) := (z04 BK227.out 2).trans rfl
            have hcz69_3 : wr.cell? ⟨gb227, 3, none⟩ = some (.int .i64 a0_3) := (z04 BK227.out 3).trans rfl
            have hcz69_4 : wr.cell? ⟨gb227, 4, none⟩ = some (.int .i64 a0_4) := (z04 BK227.out 4).trans rfl
            have hfz69_0 := z01 BK227.out 0
            have hfz69_1 := z01 BK227.out 1
            have hfz69_2 := z01 BK227.out 2
            have hfz69_3 := z01 BK227.out 3
            have hfz69_4 := z01 BK227.out 4
            obtain ⟨Ao70, co70, eo70⟩ := Kd.V_slice HO_1.out
            subst eo70
            go_wp2
            go_ret2
            exact ⟨_, by first | rfl | (simp [z0d, z0c] <;> rfl) | (refine congrArg (fun b_ : Bool => Ending.returned (Value.bool b_)) ?_; simp; done) | (simp [*, z0d, z0c] <;> rfl), by (with_reducible repeat (first | apply Kd.R_alloc | apply Kd.R_drewN | apply Kd.R_drew)); exact HO_7.out, by repeat (first | (with_reducible first | exact HB.out | apply z02 | apply z00 | apply z03 | refine z09 ?_ GE227.out) | exact HB.out)⟩
  · replace c4 := Bool.eq_false_iff.mpr c4
    subst c4
    have H1 : (some (([] : List (S63)), 1)) = some (r1, r2) := by rw [if_neg (show ¬ (false = true) by decide)] at H; exact H
    clear H
    have H := H1
    clear H1
    simp only [Option.some.injEq, Prod.mk.injEq] at H
    obtain ⟨rfl, rfl⟩ := H
    go_enter Tryd.func20, Tryd.ntmps20
    go_wp2_with (first | ((with_reducible refine z0h (N := 2) rfl ?_); refine z0g ?hg (N := 2) ?hd (cs := #[.slice A0_0 l0_0.length c0_0, .int .i64 a0_1, .int .i64 a0_2, .int .i64 a0_3, .int .i64 a0_4]) (t := 24) ?hr ?_; (case hd => rfl); (case hg => rfl); (case hr => first | (go_simp; done) | (go_simp; rfl)); intro gb227 hg w71 hbox hb; have n0_ := z05.mk (Kd.V_below (Kd.V_elderB (by (with_reducible repeat (first | apply Kd.V_alloc | apply Kd.V_drewN | apply Kd.V_drew)); exact HO1.out) gb227 (Nat.le_of_eq hg.symm)) hb); have n1_ := z05.mk (z0a (by repeat (first | (with_reducible first | exact HB.out | apply z02 | apply z00 | apply z03) | exact HB.out)) hb); have n2_ := z05.mk (hbox); have n3_ := z05.mk ((by rw [hg]; exact (z0b (by repeat (first | (with_reducible first | exact HB.out | apply z02 | apply z00 | apply z03) | exact HB.out))) : w.heap.size ≤ gb227)); have n4_ := z05.mk ((by rw [hg]; exact (z0b (by repeat (first | (with_reducible first | exact HB.out | apply z02 | apply z00 | apply z03) | exact HB.out))) : w.heap.size ≤ gb227)); clear HO1; clear HB; have HO1 := n0_; have HB := n1_; have BK227 := n2_; have GW227 := n3_; have GE227 := n4_; clear n0_ n1_ n2_ n3_ n4_; clear hb hbox hg; have hcz72_0 : w71.cell? ⟨gb227, 0, none⟩ = some (.slice A0_0 l0_0.length c0_0) := (z04 BK227.out 0).trans rfl; have hcz72_1 : w71.cell? ⟨gb227, 1, none⟩ = some (.int .i64 a0_1) := (z04 BK227.out 1).trans rfl; have hcz72_2 : w71.cell? ⟨gb227, 2, none⟩ = some (.int .i64 a0_2) := (z04 BK227.out 2).trans rfl; have hcz72_3 : w71.cell? ⟨gb227, 3, none⟩ = some (.int .i64 a0_3) := (z04 BK227.out 3).trans rfl; have hcz72_4 : w71.cell? ⟨gb227, 4, none⟩ = some (.int .i64 a0_4) := (z04 BK227.out 4).trans rfl; have hfz72_0 := z01 BK227.out 0; have hfz72_1 := z01 BK227.out 1; have hfz72_2 := z01 BK227.out 2; have hfz72_3 := z01 BK227.out 3; have hfz72_4 := z01 BK227.out 4) | ((with_reducible refine z0j (f := 19) rfl ?_); refine z0u (some 14) rfl rfl Tryd.func19 (by kernel_rfl) rfl #[.agg #[.slice A0_0 l0_0.length c0_0, .int .i64 a0_1, .int .i64 a0_2, .int .i64 a0_3, .int .i64 a0_4]] rfl (by (try simp only [List.map_toArray, List.map_cons, List.map_nil]); first | done | rfl | (simp only [List.length_drop, List.length_take]; rfl)) ?_; (with_reducible refine (winnowerref07_May.calls k _ _ l0_0 a0_1 a0_2 a0_3 a0_4 false _ ?side1 ?side2 A3.out).mono ?_); (case side1 => repeat (first | exact (Kd.C_below HR0_0.out HB.out) | (with_reducible refine Kd.C_alloc ?_ _) | (with_reducible refine Kd.C_drewN ?_ _) | (with_reducible refine Kd.C_drew ?_))); (case side2 => exact HC0_0.out); rintro e w73 ⟨rfl, hb⟩; refine ⟨_, rfl, ?_⟩; have n0_ := z05.mk (Kd.V_below (by (with_reducible repeat (first | apply Kd.V_alloc | apply Kd.V_drewN | apply Kd.V_drew)); exact HO1.out) hb); have n1_ := z05.mk (z0e (g := gb227) (o := .cells #[.slice A0_0 l0_0.length c0_0, .int .i64 a0_1, .int .i64 a0_2, .int .i64 a0_3, .int .i64 a0_4] 24 (0, 0)) (by (with_reducible repeat (first | refine z07 ?_ _ | refine z08 ?_ | refine z06 ?_ _)); exact BK227.out) hb); have n2_ := z05.mk (z0a (by repeat (first | (with_reducible first | exact HB.out | apply z02 | apply z00 | apply z03 | refine z09 ?_ GE227.out) | exact HB.out)) hb); clear HO1; clear BK227; clear HB; have HO1 := n0_; have BK227 := n1_; have HB := n2_; clear n0_ n1_ n2_; (try clear hb); (try clear hb2); (try clear hk); (try clear hi)))
    go_ret2
    exact ⟨_, by first | rfl | (simp [z0d, z0c] <;> rfl) | (refine congrArg (fun b_ : Bool => Ending.returned (Value.bool b_)) ?_; simp; done) | (simp [*, z0d, z0c] <;> rfl), by first | exact Kd.R_nil _ _ _ _ _ | exact Kd.N_nil _ _ _ _ _ | exact Kd.V_nil _ _ _ _ _ | exact Kd.Q_nil _ _ _ _ _ | exact Kd.S_nil _ _ _ _ _, by repeat (first | (with_reducible first | exact HB.out | apply z02 | apply z00 | apply z03 | refine z09 ?_ GE227.out) | exact HB.out)⟩

end Go.Proofs.YtimomihjghefdaaDoor.Q
