/- The machine side of laws, written by wip/tools/myprint.py (the printer's way, with functions proved by hand put in); Lean checks it. -/
import Derived.Test.YteefchdfdgfaaaaDoorJ1
import Derived.Test.YteefchdfdgfaaaaDoorJ3
namespace Go.Proofs.YteefchdfdgfaaaaDoor.Q
open Go.RowKit Go.Proofs.YteefchdfdgfaaaaDoorW.PrintWords Go.Proofs.YteefchdfdgfaaaaDoorW.PrintLast Go.Proofs.YteefchdfdgfaaaaDoorW.PrintMore
attribute [local go_sem] max2_int min2_int max_two min_two max_three min_three max_four min_four   -- for this text's walks alone
set_option linter.unusedVariables false
set_option linter.unusedSimpArgs false

/-! ### value_truth: function 40 -/
def value_truth.f (a0 : Bool) : Option (Int) := if a0 = true then (some 1) else (some 0)
set_option maxHeartbeats 8000000 in
set_option maxRecDepth 100000 in
theorem value_truth.calls (a0 : Bool) (r : Int) (w : World) (h : value_truth.f a0 = some r) :
    Calls Tryd.prog 40 #[.bool a0] w fun e w' => e = .returned (.int .i64 r) ∧ Drawn0 w w' := by
  have H : (if a0 = true then (some 1) else (some 0)) = some r := h
  clear h
  by_cases c2 : a0 = true
  · subst c2
    have H1 : (some 1) = some r := by rw [if_pos rfl] at H; exact H
    clear H
    have H := H1
    clear H1
    obtain rfl := Option.some.inj H
    go_enter Tryd.func40, Tryd.ntmps40
    go_wp2
    go_ret
    exact ⟨by first | rfl | (simp; done) | (simp [*]; done), by repeat (first | exact Drawn0.refl _ | apply Drawn0.step)⟩
  · replace c2 := Bool.eq_false_iff.mpr c2
    subst c2
    have H1 : (some 0) = some r := by rw [if_neg (show ¬ (false = true) by decide)] at H; exact H
    clear H
    have H := H1
    clear H1
    obtain rfl := Option.some.inj H
    go_enter Tryd.func40, Tryd.ntmps40
    go_wp2
    go_ret
    exact ⟨by first | rfl | (simp; done) | (simp [*]; done), by repeat (first | exact Drawn0.refl _ | apply Drawn0.step)⟩

/-! ### value_Put: function 24 -/
def value_Put.f (l0 : List Int) (a1_0 : Int) (a1_1 : Int) (a1_2 : ByteArray) (a1_3 : Bool) : Option (List Int × Int) := (value_May.f a1_0 a1_1 a1_2 a1_3).bind fun t130 => (if t130 = true then (if a1_0 = 1 then ((num_Put.f l0 a1_1).bind fun t131 => (some (t131, 0))) else (if a1_0 = 2 then ((num_PutLen.f l0 (a1_2.size : Int)).bind fun t134 => (if t134.length + a1_2.size < 140737488355328 then (some ((t134 ++ bytesOf a1_2), 0)) else (none))) else (if a1_0 = 3 then ((value_truth.f a1_3).bind fun t140 => (if l0.length < 140737488355328 then (some ((l0 ++ [(t140) % 256]), 0)) else (none))) else (some (l0, 0))))) else (some (([] : List Int), 1)))
def value_Put.T7 : Bool × List (List Nat × List Nat) := (true, [([], []), ([], []), ([1], [1]), ([2], [2]), ([0, 3], [0, 3]), ([], []), ([5], [5]), ([4, 6, 4], [4, 6]), ([7, 7, 0, 1, 2, 3, 4, 5, 6, 7], [7]), ([8, 0, 1, 2, 3, 4, 5, 6, 7, 8], [])])
def value_Put.B7 : List Nat := [0, 0, 2, 6, 15, 0, 32, 127, 255, 511]
theorem value_Put.tab7 : rtab .any (opsOf Tryd.f24 7) = value_Put.T7 := by kernel_rfl
theorem value_Put.bits7 : waitsOk value_Put.T7.2 value_Put.B7 = true := by kernel_rfl
def value_Put.T9 : Bool × List (List Nat × List Nat) := (true, [([], []), ([], []), ([1], [1]), ([], []), ([3], [3]), ([0, 2, 4], [0, 2, 4]), ([], []), ([6], [6]), ([7], [7]), ([8], [8]), ([9], [9]), ([5, 10, 8], [5, 10]), ([11, 11, 0, 1, 2, 3, 4, 5, 6, 7, 8, 9, 10, 11], [11]), ([12, 0, 1, 2, 3, 4, 5, 6, 7, 8, 9, 10, 11, 12], [])])
def value_Put.B9 : List Nat := [0, 0, 2, 0, 8, 31, 0, 64, 192, 448, 960, 2047, 4095, 8191]
theorem value_Put.tab9 : rtab .any (opsOf Tryd.f24 9) = value_Put.T9 := by kernel_rfl
theorem value_Put.bits9 : waitsOk value_Put.T9.2 value_Put.B9 = true := by kernel_rfl
set_option maxHeartbeats 8000000 in
set_option maxRecDepth 100000 in
theorem value_Put.calls (P0_ : Nat → Prop) (u9000_ : Value) (l0 : List Int) (a1_0 : Int) (a1_1 : Int) (a1_2 : ByteArray) (a1_3 : Bool) (r1 : List Int) (r2 : Int) (w0 w : World) (hB : Below w0.heap.size w0 w) (ho0 : Kd.R (Kd.int .u8) 5 w w0.heap.size P0_ u9000_ l0) (h : value_Put.f l0 a1_0 a1_1 a1_2 a1_3 = some (r1, r2)) :
    Calls Tryd.prog 24 #[u9000_, .agg #[.int .i64 a1_0, .int .i64 a1_1, .string a1_2, .bool a1_3]] w fun e w' => ∃ v0_ : Value, e = .returned (.tuple #[v0_, .int .i64 r2]) ∧ Kd.R (Kd.int .u8) 5 w' w0.heap.size (fun k_ => (P0_ k_ ∨ w.heap.size ≤ k_)) v0_ r1 ∧ Below w0.heap.size w0 w' ∧ Kept w w' (fun k_ => P0_ k_) := by
  have hu46 := Tryd.underlying46
  have HO0 := z05.mk (show Kd.R (Kd.int .u8) 5 w w0.heap.size (fun k_ => (P0_ k_ ∨ w.heap.size ≤ k_)) u9000_ l0 from Kd.R_mono ho0 (fun k_ hk => (.inl hk)))
  have HK := z05.mk (Kept.refl w (fun k_ => P0_ k_))
  have HW0 := z05.mk hB.size
  have HB := z05.mk hB
  clear hB
  have H : ((value_May.f a1_0 a1_1 a1_2 a1_3).bind fun t130 => (if t130 = true then (if a1_0 = 1 then ((num_Put.f l0 a1_1).bind fun t131 => (some (t131, 0))) else (if a1_0 = 2 then ((num_PutLen.f l0 (a1_2.size : Int)).bind fun t134 => (if t134.length + a1_2.size < 140737488355328 then (some ((t134 ++ bytesOf a1_2), 0)) else (none))) else (if a1_0 = 3 then ((value_truth.f a1_3).bind fun t140 => (if l0.length < 140737488355328 then (some ((l0 ++ [(t140) % 256]), 0)) else (none))) else (some (l0, 0))))) else (some (([] : List Int), 1)))) = some (r1, r2) := h
  clear h
  replace H := Option.bind_eq_some_iff.mp H
  obtain ⟨t130, A30, H⟩ := H
  replace H : (if t130 = true then (if a1_0 = 1 then ((num_Put.f l0 a1_1).bind fun t131 => (some (t131, 0))) else (if a1_0 = 2 then ((num_PutLen.f l0 (a1_2.size : Int)).bind fun t134 => (if t134.length + a1_2.size < 140737488355328 then (some ((t134 ++ bytesOf a1_2), 0)) else (none))) else (if a1_0 = 3 then ((value_truth.f a1_3).bind fun t140 => (if l0.length < 140737488355328 then (some ((l0 ++ [(t140) % 256]), 0)) else (none))) else (some (l0, 0))))) else (some (([] : List Int), 1))) = some (r1, r2) := H
  have A3 := z05.mk A30
  clear A30
  by_cases c4 : t130 = true
  · subst c4
    have H1 : (if a1_0 = 1 then ((num_Put.f l0 a1_1).bind fun t131 => (some (t131, 0))) else (if a1_0 = 2 then ((num_PutLen.f l0 (a1_2.size : Int)).bind fun t134 => (if t134.length + a1_2.size < 140737488355328 then (some ((t134 ++ bytesOf a1_2), 0)) else (none))) else (if a1_0 = 3 then ((value_truth.f a1_3).bind fun t140 => (if l0.length < 140737488355328 then (some ((l0 ++ [(t140) % 256]), 0)) else (none))) else (some (l0, 0))))) = some (r1, r2) := by rw [if_pos rfl] at H; exact H
    clear H
    have H := H1
    clear H1
    by_cases c5 : a1_0 = 1
    · rw [if_pos c5] at H
      have c5b0 : (a1_0 == 1) = true := beq_iff_eq.mpr c5
      have c5b1 : (a1_0 != 1) = false := bne_eq_false_iff_eq.mpr c5
      clear c5
      replace H := Option.bind_eq_some_iff.mp H
      obtain ⟨t131, A60, H⟩ := H
      replace H : (some (t131, 0)) = some (r1, r2) := H
      have A6 := z05.mk A60
      clear A60
      simp only [Option.some.injEq, Prod.mk.injEq] at H
      obtain ⟨rfl, rfl⟩ := H
      go_enter Tryd.func24, Tryd.ntmps24
      go_wp2_with (first | ((with_reducible refine gate_dst (N := 3) rfl ?_); refine box_event ?hg (N := 3) ?hd (cs := #[.int .i64 a1_0, .int .i64 a1_1, .string a1_2, .bool a1_3]) (t := 46) ?hr ?_; (case hd => rfl); (case hg => rfl); (case hr => first | (go_simp; done) | (go_simp; rfl)); intro gb129 hg w7 hbox hb; have n0_ := z05.mk (Kd.R_below (by (with_reducible repeat (first | apply Kd.R_alloc | apply Kd.R_drewN | apply Kd.R_drew)); exact HO0.out) hb); have n1_ := z05.mk (Kept.below (S := (fun k_ => P0_ k_)) (by repeat (first | (with_reducible first | exact HK.out | apply Kept.alloc | apply Kept.drewN | apply Kept.drew) | exact HK.out)) hb); have n2_ := z05.mk (below_step (by repeat (first | (with_reducible first | exact HB.out | apply z02 | apply z00 | apply z03) | exact HB.out)) hb); have n3_ := z05.mk (hbox); have n4_ := z05.mk ((by rw [hg]; exact (by first | exact HK.out.1 | exact (show Kept w _ (fun k_ => P0_ k_) from by repeat (first | (with_reducible first | exact HK.out | apply Kept.alloc | apply Kept.drewN | apply Kept.drew) | exact HK.out)).1) : w.heap.size ≤ gb129)); have n5_ := z05.mk ((by rw [hg]; exact (below_size (by repeat (first | (with_reducible first | exact HB.out | apply z02 | apply z00 | apply z03) | exact HB.out))) : w0.heap.size ≤ gb129)); clear HO0; clear HK; clear HB; have HO0 := n0_; have HK := n1_; have HB := n2_; have BK129 := n3_; have GW129 := n4_; have GE129 := n5_; clear n0_ n1_ n2_ n3_ n4_ n5_; clear hb hbox hg; have hcz8_0 : w7.cell? ⟨gb129, 0, none⟩ = some (.int .i64 a1_0) := (z04 BK129.out 0).trans rfl; have hcz8_1 : w7.cell? ⟨gb129, 1, none⟩ = some (.int .i64 a1_1) := (z04 BK129.out 1).trans rfl; have hcz8_2 : w7.cell? ⟨gb129, 2, none⟩ = some (.string a1_2) := (z04 BK129.out 2).trans rfl; have hcz8_3 : w7.cell? ⟨gb129, 3, none⟩ = some (.bool a1_3) := (z04 BK129.out 3).trans rfl; have hfz8_0 := z01 BK129.out 0; have hfz8_1 := z01 BK129.out 1; have hfz8_2 := z01 BK129.out 2; have hfz8_3 := z01 BK129.out 3) | ((with_reducible refine gate_callee (f := 37) rfl ?_); refine goesL_ (some 7) rfl rfl Tryd.func37 (by kernel_rfl) rfl #[.agg #[.int .i64 a1_0, .int .i64 a1_1, .string a1_2, .bool a1_3]] rfl (by (try simp only [List.map_toArray, List.map_cons, List.map_nil]); first | done | rfl | (simp only [List.length_drop, List.length_take]; rfl)) ?_; (with_reducible refine (value_May.calls a1_0 a1_1 a1_2 a1_3 true _ A3.out).mono ?_); rintro e w9 ⟨rfl, hb⟩; refine ⟨_, rfl, ?_⟩; have n0_ := z05.mk (Kd.R_below (by (with_reducible repeat (first | apply Kd.R_alloc | apply Kd.R_drewN | apply Kd.R_drew)); exact HO0.out) hb); have n1_ := z05.mk (blk_below (g := gb129) (o := .cells #[.int .i64 a1_0, .int .i64 a1_1, .string a1_2, .bool a1_3] 46 (0, 0)) (by (with_reducible repeat (first | refine z07 ?_ _ | refine z08 ?_ | refine z06 ?_ _)); exact BK129.out) hb); have n2_ := z05.mk (Kept.below (S := (fun k_ => P0_ k_)) (by repeat (first | (with_reducible first | exact HK.out | apply Kept.alloc | apply Kept.drewN | apply Kept.drew | refine Kept.setCell ?_ (.inr GW129.out) _) | exact HK.out)) hb); have n3_ := z05.mk (below_step (by repeat (first | (with_reducible first | exact HB.out | apply z02 | apply z00 | apply z03 | refine z09 ?_ GE129.out) | exact HB.out)) hb); clear HO0; clear BK129; clear HK; clear HB; have HO0 := n0_; have BK129 := n1_; have HK := n2_; have HB := n3_; clear n0_ n1_ n2_ n3_; (try clear hb); (try clear hb2); (try clear hk); (try clear hi); have hcz10_0 : w9.cell? ⟨gb129, 0, none⟩ = some (.int .i64 a1_0) := (z04 BK129.out 0).trans rfl; have hcz10_1 : w9.cell? ⟨gb129, 1, none⟩ = some (.int .i64 a1_1) := (z04 BK129.out 1).trans rfl; have hcz10_2 : w9.cell? ⟨gb129, 2, none⟩ = some (.string a1_2) := (z04 BK129.out 2).trans rfl; have hcz10_3 : w9.cell? ⟨gb129, 3, none⟩ = some (.bool a1_3) := (z04 BK129.out 3).trans rfl; have hfz10_0 := z01 BK129.out 0; have hfz10_1 := z01 BK129.out 1; have hfz10_2 := z01 BK129.out 2; have hfz10_3 := z01 BK129.out 3; obtain ⟨Ao11, co11, eo11⟩ := Kd.R_slice HO0.out; subst eo11) | ((with_reducible refine gate_callee (f := 38) rfl ?_); refine goesL_ (some 16) rfl rfl Tryd.func38 (by kernel_rfl) rfl #[.slice Ao11 l0.length co11, .int .i64 a1_1] rfl (by (try simp only [List.map_toArray, List.map_cons, List.map_nil]); first | done | rfl | (simp only [List.length_drop, List.length_take]; rfl)) ?_; (with_reducible refine (num_Put.calls _ _ l0 a1_1 t131 _ ?side1 ?side2 A6.out).mono ?_); (case side1 => repeat (first | exact (Kd.R_reads' HO0.out).2.2 | (with_reducible refine Kd.C_alloc ?_ _) | (with_reducible refine Kd.C_drewN ?_ _) | (with_reducible refine Kd.C_drew ?_))); (case side2 => exact (Kd.R_reads' HO0.out).2.1); rintro e w12 ⟨v132, rfl, ho0, hb⟩; refine ⟨_, rfl, ?_⟩; have n0_ := z05.mk (Kd.R_elder' (by (with_reducible repeat (first | apply Kd.R_alloc | apply Kd.R_drewN | apply Kd.R_drew)); exact HO0.out) (Kd.R_base ho0) hb); have n1_ := z05.mk (Kd.R_lower (Kd.R_new' (Kd.R_newM (M := fun k_ => (P0_ k_ ∨ w.heap.size ≤ k_)) ho0 (by first | exact HK.out.1 | exact (show Kept w _ (fun k_ => P0_ k_) from by repeat (first | (with_reducible first | exact HK.out | apply Kept.alloc | apply Kept.drewN | apply Kept.drew | refine Kept.setCell ?_ (.inr GW129.out) _) | exact HK.out)).1) (fun k_ h_ => .inr h_)) (Kd.R_lt (by (with_reducible repeat (first | apply Kd.R_alloc | apply Kd.R_drewN | apply Kd.R_drew)); exact HO0.out))) (below_size (by repeat (first | (with_reducible first | exact HB.out | apply z02 | apply z00 | apply z03 | refine z09 ?_ GE129.out) | exact HB.out)))); have n2_ := z05.mk (blk_below (g := gb129) (o := .cells #[.int .i64 a1_0, .int .i64 a1_1, .string a1_2, .bool a1_3] 46 (0, 0)) (by (with_reducible repeat (first | refine z07 ?_ _ | refine z08 ?_ | refine z06 ?_ _)); exact BK129.out) hb); have n3_ := z05.mk (Kept.below (S := (fun k_ => P0_ k_)) (by repeat (first | (with_reducible first | exact HK.out | apply Kept.alloc | apply Kept.drewN | apply Kept.drew | refine Kept.setCell ?_ (.inr GW129.out) _) | exact HK.out)) hb); have n4_ := z05.mk (below_step (by repeat (first | (with_reducible first | exact HB.out | apply z02 | apply z00 | apply z03 | refine z09 ?_ GE129.out) | exact HB.out)) hb); clear HO0; clear BK129; clear HK; clear HB; have HO0 := n0_; have HO133 := n1_; have BK129 := n2_; have HK := n3_; have HB := n4_; clear n0_ n1_ n2_ n3_ n4_; (try clear hb); (try clear hb2); (try clear hk); (try clear hi); (try clear ho0)))
      go_ret2
      exact ⟨_, by first | rfl | (simp [errW_none, errW_some] <;> rfl) | (refine congrArg (fun b_ : Bool => Ending.returned (Value.bool b_)) ?_; simp; done) | (simp [*, errW_none, errW_some] <;> rfl), by (with_reducible repeat (first | apply Kd.R_alloc | apply Kd.R_drewN | apply Kd.R_drew)); exact Kd.R_mono HO133.out (fun _ hk => hk.1.1), by repeat (first | (with_reducible first | exact HB.out | apply z02 | apply z00 | apply z03 | refine z09 ?_ GE129.out) | exact HB.out), by repeat (first | (with_reducible first | exact HK.out | apply Kept.alloc | apply Kept.drewN | apply Kept.drew | refine Kept.setCell ?_ (.inr GW129.out) _) | exact HK.out)⟩
    · rw [if_neg c5] at H
      have c5b0 : (a1_0 == 1) = false := beq_eq_false_iff_ne.mpr c5
      have c5b1 : (a1_0 != 1) = true := bne_iff_ne.mpr c5
      by_cases c13 : a1_0 = 2
      · rw [if_pos c13] at H
        have c13b0 : (a1_0 == 2) = true := beq_iff_eq.mpr c13
        have c13b1 : (a1_0 != 2) = false := bne_eq_false_iff_eq.mpr c13
        clear c13
        replace H := Option.bind_eq_some_iff.mp H
        obtain ⟨t134, A140, H⟩ := H
        replace H : (if t134.length + a1_2.size < 140737488355328 then (some ((t134 ++ bytesOf a1_2), 0)) else (none)) = some (r1, r2) := H
        have A14 := z05.mk A140
        clear A140
        by_cases c15 : t134.length + a1_2.size < 140737488355328
        · rw [if_pos c15] at H
          have LMc15 := z05.mk c15
          clear c15
          obtain ⟨y137, hy137⟩ : ∃ y_ : List Int, y_ = (t134 ++ bytesOf a1_2) := ⟨_, rfl⟩
          replace H : (some (y137, 0)) = some (r1, r2) := by first | (rw [hy137]; with_reducible exact H) | (have H2_ := (Option.bind_some _ _).symm.trans H; rw [hy137]; with_reducible exact H2_) | (have H2_ := (Option.bind_some _ _).symm.trans H; with_reducible exact H2_) | with_reducible exact H | (rw [hy137]; exact H) | exact H
          have Ny137 := z05.mk hy137
          clear hy137
          simp only [Option.some.injEq, Prod.mk.injEq] at H
          obtain ⟨rfl, rfl⟩ := H
          go_enter Tryd.func24, Tryd.ntmps24
          try go_wp2_with (first | ((with_reducible refine gate_dst (N := 3) rfl ?_); refine box_event ?hg (N := 3) ?hd (cs := #[.int .i64 a1_0, .int .i64 a1_1, .string a1_2, .bool a1_3]) (t := 46) ?hr ?_; (case hd => rfl); (case hg => rfl); (case hr => first | (go_simp; done) | (go_simp; rfl)); intro gb129 hg w16 hbox hb; have n0_ := z05.mk (Kd.R_below (by (with_reducible repeat (first | apply Kd.R_alloc | apply Kd.R_drewN | apply Kd.R_drew)); exact HO0.out) hb); have n1_ := z05.mk (Kept.below (S := (fun k_ => P0_ k_)) (by repeat (first | (with_reducible first | exact HK.out | apply Kept.alloc | apply Kept.drewN | apply Kept.drew) | exact HK.out)) hb); have n2_ := z05.mk (below_step (by repeat (first | (with_reducible first | exact HB.out | apply z02 | apply z00 | apply z03) | exact HB.out)) hb); have n3_ := z05.mk (hbox); have n4_ := z05.mk ((by rw [hg]; exact (by first | exact HK.out.1 | exact (show Kept w _ (fun k_ => P0_ k_) from by repeat (first | (with_reducible first | exact HK.out | apply Kept.alloc | apply Kept.drewN | apply Kept.drew) | exact HK.out)).1) : w.heap.size ≤ gb129)); have n5_ := z05.mk ((by rw [hg]; exact (below_size (by repeat (first | (with_reducible first | exact HB.out | apply z02 | apply z00 | apply z03) | exact HB.out))) : w0.heap.size ≤ gb129)); clear HO0; clear HK; clear HB; have HO0 := n0_; have HK := n1_; have HB := n2_; have BK129 := n3_; have GW129 := n4_; have GE129 := n5_; clear n0_ n1_ n2_ n3_ n4_ n5_; clear hb hbox hg; have hcz17_0 : w16.cell? ⟨gb129, 0, none⟩ = some (.int .i64 a1_0) := (z04 BK129.out 0).trans rfl; have hcz17_1 : w16.cell? ⟨gb129, 1, none⟩ = some (.int .i64 a1_1) := (z04 BK129.out 1).trans rfl; have hcz17_2 : w16.cell? ⟨gb129, 2, none⟩ = some (.string a1_2) := (z04 BK129.out 2).trans rfl; have hcz17_3 : w16.cell? ⟨gb129, 3, none⟩ = some (.bool a1_3) := (z04 BK129.out 3).trans rfl; have hfz17_0 := z01 BK129.out 0; have hfz17_1 := z01 BK129.out 1; have hfz17_2 := z01 BK129.out 2; have hfz17_3 := z01 BK129.out 3) | ((with_reducible refine gate_callee (f := 37) rfl ?_); refine goesL_ (some 7) rfl rfl Tryd.func37 (by kernel_rfl) rfl #[.agg #[.int .i64 a1_0, .int .i64 a1_1, .string a1_2, .bool a1_3]] rfl (by (try simp only [List.map_toArray, List.map_cons, List.map_nil]); first | done | rfl | (simp only [List.length_drop, List.length_take]; rfl)) ?_; (with_reducible refine (value_May.calls a1_0 a1_1 a1_2 a1_3 true _ A3.out).mono ?_); rintro e w18 ⟨rfl, hb⟩; refine ⟨_, rfl, ?_⟩; have n0_ := z05.mk (Kd.R_below (by (with_reducible repeat (first | apply Kd.R_alloc | apply Kd.R_drewN | apply Kd.R_drew)); exact HO0.out) hb); have n1_ := z05.mk (blk_below (g := gb129) (o := .cells #[.int .i64 a1_0, .int .i64 a1_1, .string a1_2, .bool a1_3] 46 (0, 0)) (by (with_reducible repeat (first | refine z07 ?_ _ | refine z08 ?_ | refine z06 ?_ _)); exact BK129.out) hb); have n2_ := z05.mk (Kept.below (S := (fun k_ => P0_ k_)) (by repeat (first | (with_reducible first | exact HK.out | apply Kept.alloc | apply Kept.drewN | apply Kept.drew | refine Kept.setCell ?_ (.inr GW129.out) _) | exact HK.out)) hb); have n3_ := z05.mk (below_step (by repeat (first | (with_reducible first | exact HB.out | apply z02 | apply z00 | apply z03 | refine z09 ?_ GE129.out) | exact HB.out)) hb); clear HO0; clear BK129; clear HK; clear HB; have HO0 := n0_; have BK129 := n1_; have HK := n2_; have HB := n3_; clear n0_ n1_ n2_ n3_; (try clear hb); (try clear hb2); (try clear hk); (try clear hi); have hcz19_0 : w18.cell? ⟨gb129, 0, none⟩ = some (.int .i64 a1_0) := (z04 BK129.out 0).trans rfl; have hcz19_1 : w18.cell? ⟨gb129, 1, none⟩ = some (.int .i64 a1_1) := (z04 BK129.out 1).trans rfl; have hcz19_2 : w18.cell? ⟨gb129, 2, none⟩ = some (.string a1_2) := (z04 BK129.out 2).trans rfl; have hcz19_3 : w18.cell? ⟨gb129, 3, none⟩ = some (.bool a1_3) := (z04 BK129.out 3).trans rfl; have hfz19_0 := z01 BK129.out 0; have hfz19_1 := z01 BK129.out 1; have hfz19_2 := z01 BK129.out 2; have hfz19_3 := z01 BK129.out 3))
          have n0_ := z05.mk (Kd.R_drew HO0.out); have n1_ := z05.mk (z08 BK129.out); have n2_ := z05.mk (Kept.drew HK.out); have n3_ := z05.mk (z03 HB.out); clear HO0; clear BK129; clear HK; clear HB; have HO0 := n0_; have BK129 := n1_; have HK := n2_; have HB := n3_; clear n0_ n1_ n2_ n3_
          obtain ⟨Ao21, co21, eo21⟩ := Kd.R_slice HO0.out
          (first | subst eo21 | (injection eo21 with f1_ f2_ f3_; have f4_ := f1_.symm; have f5_ := f3_.symm; clear f1_ f2_ f3_; subst f4_; subst f5_))
          refine start_ (n := 10) (S := fun w' => w'.cell? ⟨gb129, 0, none⟩ = some (.int .i64 a1_0) ∧ w'.cell? ⟨gb129, 1, none⟩ = some (.int .i64 a1_1) ∧ w'.cell? ⟨gb129, 2, none⟩ = some (.string a1_2) ∧ w'.cell? ⟨gb129, 3, none⟩ = some (.bool a1_3)) (ds := []) #[false, false, false, false, false, false, false, false, false, false] (by kernel_rfl) rfl rfl ⟨(z04 BK129.out 0).trans rfl, (z04 BK129.out 1).trans rfl, (z04 BK129.out 2).trans rfl, (z04 BK129.out 3).trans rfl⟩ (fun hHeld => ?_); refine with_tabW value_Put.tab7 value_Put.bits7 (fun HT_ HW_ => ?_)
          generalize w18.drew = w20 at HO0 BK129 HK HB hHeld ⊢
          refine pure_ (i := 0) (N := some 19) (v := ?_) (a' := ?_) #[true, false, false, false, false, false, false, false, false, false] rfl rfl (any_of HT_.out (by kernel_rfl)) (fun _ _ _ h => h) (Or.inl ⟨by rfl, ?_⟩) ?_ ?_
          rotate_left
          · intro w'
            go_simp
            with_reducible rfl
          rotate_left
          · simp only [Act.put, List.setIfInBounds_toArray, List.set_cons_zero, List.set_cons_succ, i64_w, i32_w]
            rfl
          refine pure_ (i := 1) (N := some 20) (v := ?_) (a' := ?_) #[true, true, false, false, false, false, false, false, false, false] rfl rfl (any_of HT_.out (by kernel_rfl)) (fun _ _ _ h => h) (Or.inl ⟨by rfl, ?_⟩) ?_ ?_
          rotate_left
          · intro w'
            go_simp
            with_reducible rfl
          rotate_left
          · simp only [Act.put, List.setIfInBounds_toArray, List.set_cons_zero, List.set_cons_succ, i64_w, i32_w]
            rfl
          refine pure_ (i := 5) (N := some 24) (v := ?_) (a' := ?_) #[true, true, false, false, false, true, false, false, false, false] rfl rfl (any_of HT_.out (by kernel_rfl)) (fun _ _ _ h => h) (Or.inl ⟨by rfl, ?_⟩) ?_ ?_
          rotate_left
          · intro w'
            go_simp
            with_reducible rfl
          rotate_left
          · simp only [Act.put, List.setIfInBounds_toArray, List.set_cons_zero, List.set_cons_succ, i64_w, i32_w]
            rfl
          refine take_ (i := 2) (N := some 21) (v := ?_) (a' := ?_) #[true, true, true, false, false, true, false, false, false, false] rfl rfl (take_ofW HT_.out HW_.out (by kernel_rfl)) (fun _ _ _ h => h) (Or.inl ⟨by rfl, ?_⟩) hHeld ?_ ?_
          rotate_left
          · rintro w' ⟨s0, s1, s2, s3⟩
            go_simp
            with_reducible rfl
          rotate_left
          · simp only [Act.put, List.setIfInBounds_toArray, List.set_cons_zero, List.set_cons_succ, i64_w, i32_w]
            rfl
          refine pure_ (i := 3) (N := some 22) (v := ?_) (a' := ?_) #[true, true, true, true, false, true, false, false, false, false] rfl rfl (any_of HT_.out (by kernel_rfl)) (fun _ _ _ h => h) (Or.inl ⟨by rfl, ?_⟩) ?_ ?_
          rotate_left
          · intro w'
            go_simp
            with_reducible rfl
          rotate_left
          · simp only [Act.put, List.setIfInBounds_toArray, List.set_cons_zero, List.set_cons_succ, i64_w, i32_w]
            rfl
          refine take_ (i := 6) (N := some 25) (v := ?_) (a' := ?_) #[true, true, true, true, false, true, true, false, false, false] rfl rfl (take_ofW HT_.out HW_.out (by kernel_rfl)) (fun _ _ _ h => h) (Or.inl ⟨by rfl, ?_⟩) hHeld ?_ ?_
          rotate_left
          · rintro w' ⟨s0, s1, s2, s3⟩
            go_simp
            with_reducible rfl
          rotate_left
          · simp only [Act.put, List.setIfInBounds_toArray, List.set_cons_zero, List.set_cons_succ, i64_w, i32_w]
            rfl
          refine one_ (i := 4) (N := some 23) #[true, true, true, true, true, true, true, false, false, false] rfl rfl (one_of HT_.out (by kernel_rfl)) (by decide) (fun K hK => ?_)
          refine goes_ Tryd.func39 (by kernel_rfl) rfl #[.slice Ao21 l0.length co21, .int .i64 (a1_2.size : Int)] (by rfl) rfl rfl (by (try simp only [List.map_toArray, List.map_cons, List.map_nil]); first | done | rfl | (simp only [List.length_drop, List.length_take]; rfl)) ?_
          with_reducible refine (num_PutLen.calls _ _ l0 (a1_2.size : Int) t134 _ ?side1 ?side2 A14.out).mono ?_
          (case side1 => repeat (first | exact (Kd.R_reads' HO0.out).2.2 | (with_reducible refine Kd.C_alloc ?_ _) | (with_reducible refine Kd.C_drewN ?_ _) | (with_reducible refine Kd.C_drew ?_)))
          (case side2 => exact (Kd.R_reads' HO0.out).2.1)
          rintro e w22 ⟨v135, rfl, ho0, hb⟩
          refine ⟨_, rfl, ?_⟩
          have n0_ := z05.mk (Kd.R_elder' (by (with_reducible repeat (first | apply Kd.R_alloc | apply Kd.R_drewN | apply Kd.R_drew)); exact HO0.out) (Kd.R_base ho0) hb); have n1_ := z05.mk (Kd.R_lower (Kd.R_new' (Kd.R_newM (M := fun k_ => (P0_ k_ ∨ w.heap.size ≤ k_)) ho0 (by first | exact HK.out.1 | exact (show Kept w _ (fun k_ => P0_ k_) from by repeat (first | (with_reducible first | exact HK.out | apply Kept.alloc | apply Kept.drewN | apply Kept.drew | refine Kept.setCell ?_ (.inr GW129.out) _) | exact HK.out)).1) (fun k_ h_ => .inr h_)) (Kd.R_lt (by (with_reducible repeat (first | apply Kd.R_alloc | apply Kd.R_drewN | apply Kd.R_drew)); exact HO0.out))) (below_size (by repeat (first | (with_reducible first | exact HB.out | apply z02 | apply z00 | apply z03 | refine z09 ?_ GE129.out) | exact HB.out)))); have n2_ := z05.mk (blk_below (g := gb129) (o := .cells #[.int .i64 a1_0, .int .i64 a1_1, .string a1_2, .bool a1_3] 46 (0, 0)) (by (with_reducible repeat (first | refine z07 ?_ _ | refine z08 ?_ | refine z06 ?_ _)); exact BK129.out) hb); have n3_ := z05.mk (Kept.below (S := (fun k_ => P0_ k_)) (by repeat (first | (with_reducible first | exact HK.out | apply Kept.alloc | apply Kept.drewN | apply Kept.drew | refine Kept.setCell ?_ (.inr GW129.out) _) | exact HK.out)) hb); have n4_ := z05.mk (below_step (by repeat (first | (with_reducible first | exact HB.out | apply z02 | apply z00 | apply z03 | refine z09 ?_ GE129.out) | exact HB.out)) hb); clear HO0; clear BK129; clear HK; clear HB; have HO0 := n0_; have HO136 := n1_; have BK129 := n2_; have HK := n3_; have HB := n4_; clear n0_ n1_ n2_ n3_ n4_; (try clear hb); (try clear hb2); (try clear hk); (try clear hi); (try clear ho0)
          refine hK.out _ _ ⟨(z04 BK129.out 0).trans rfl, (z04 BK129.out 1).trans rfl, (z04 BK129.out 2).trans rfl, (z04 BK129.out 3).trans rfl⟩ (fun hHeld => ?_)
          clear hK K
          refine norm_ (a' := ?_) ?_ ?_
          rotate_left
          · show Act.put _ (some 23) _ = _
            simp only [Act.put, List.setIfInBounds_toArray, List.set_cons_zero, List.set_cons_succ, i64_w, i32_w]
            rfl
          refine one_ (i := 7) (N := some 26) #[true, true, true, true, true, true, true, true, false, false] rfl rfl (one_of HT_.out (by kernel_rfl)) (by decide) (fun K hK => ?_)
          refine Go.Proofs.YteefchdfdgfaaaaDoor.Hbase.R_append_str_step (w0 := w0) w0.heap.size (by rfl) (.tmp 23) _ 29 9 5 rfl Tryd.underlying29 Tryd.underlying9 info5 v135 t134 a1_2 (fun k_ => (P0_ k_ ∨ w.heap.size ≤ k_) ∧ some k_ ≠ (.slice Ao21 l0.length co21 : Value).ownBlock) rfl rfl ?aF ?aO ?aB ?aS ?aL ?_
          (case aB => exact (by repeat (first | (with_reducible first | exact HB.out | apply z02 | apply z00 | apply z03 | refine z09 ?_ GE129.out) | exact HB.out)))
          (case aF => exact (fun k_ hk => ⟨(.inr (Nat.le_trans (by first | exact HK.out.1 | exact (show Kept w _ (fun k_ => P0_ k_) from by repeat (first | (with_reducible first | exact HK.out | apply Kept.alloc | apply Kept.drewN | apply Kept.drew | refine Kept.setCell ?_ (.inr GW129.out) _) | exact HK.out)).1) hk)), Kd.fresh' (Kd.R_lt (by (with_reducible repeat (first | apply Kd.R_alloc | apply Kd.R_drewN | apply Kd.R_drew)); exact HO0.out)) k_ hk⟩))
          (case aO => exact (by (with_reducible repeat (first | apply Kd.R_alloc | apply Kd.R_drewN | apply Kd.R_drew)); exact Kd.R_mono HO136.out (fun _ hk => ⟨hk.1.1, hk.2⟩)))
          (case aS => exact (below_size (by repeat (first | (with_reducible first | exact HB.out | apply z02 | apply z00 | apply z03 | refine z09 ?_ GE129.out) | exact HB.out))))
          (case aL => have := LMc15.out; omega)
          intro v138 w23 ho hb hg hat
          rw [← Ny137.out] at ho
          change Kd.R (Kd.int .u8) 5 w23 w0.heap.size (fun k_ => (P0_ k_ ∨ w.heap.size ≤ k_) ∧ some k_ ≠ (.slice Ao21 l0.length co21 : Value).ownBlock) v138 y137 at ho
          have n0_ := z05.mk (Kd.R_after (ok := (fun k_ => (P0_ k_ ∨ w.heap.size ≤ k_))) (by (with_reducible repeat (first | apply Kd.R_alloc | apply Kd.R_drewN | apply Kd.R_drew)); exact HO0.out) hg hat); have n1_ := z05.mk (blk_grown (g := gb129) (o := .cells #[.int .i64 a1_0, .int .i64 a1_1, .string a1_2, .bool a1_3] 46 (0, 0)) (by (with_reducible repeat (first | refine z07 ?_ _ | refine z08 ?_ | refine z06 ?_ _)); exact BK129.out) hg (Kd.R_ne HO136.out BK129.out (by decide))); have n2_ := z05.mk (hb); have n3_ := z05.mk (Kept.of_grown (S := (fun k_ => P0_ k_)) hg (by repeat (first | (with_reducible first | exact HK.out | apply Kept.alloc | apply Kept.drewN | apply Kept.drew | refine Kept.setCell ?_ (.inr GW129.out) _) | exact HK.out)) (fun k_ e_ => (HO136.out.1 k_ e_).1.1)); have n4_ := z05.mk (ho); clear HO0; clear BK129; clear HB; clear HK; clear HO136; have HO0 := n0_; have BK129 := n1_; have HB := n2_; have HK := n3_; have HO139 := n4_; clear n0_ n1_ n2_ n3_ n4_; clear ho hb hg hat
          refine hK.out _ _ ⟨(z04 BK129.out 0).trans rfl, (z04 BK129.out 1).trans rfl, (z04 BK129.out 2).trans rfl, (z04 BK129.out 3).trans rfl⟩ (fun hHeld => ?_)
          clear hK K
          refine norm_ (a' := ?_) ?_ ?_
          rotate_left
          · show Act.put _ (some 26) _ = _
            simp only [Act.put, List.setIfInBounds_toArray, List.set_cons_zero, List.set_cons_succ, i64_w, i32_w]
            rfl
          refine pure_ (i := 8) (N := some 4) (v := ?_) (a' := ?_) #[true, true, true, true, true, true, true, true, true, false] rfl rfl (any_of HT_.out (by kernel_rfl)) (fun _ _ _ h => h) (Or.inl ⟨by rfl, ?_⟩) ?_ ?_
          rotate_left
          · intro w'
            go_simp
            with_reducible rfl
          rotate_left
          · simp only [Act.put, List.setIfInBounds_toArray, List.set_cons_zero, List.set_cons_succ, i64_w, i32_w]
            rfl
          refine pure_ (i := 9) (N := some 5) (v := ?_) (a' := ?_) #[true, true, true, true, true, true, true, true, true, true] rfl rfl (any_of HT_.out (by kernel_rfl)) (fun _ _ _ h => h) (Or.inl ⟨by rfl, ?_⟩) ?_ ?_
          rotate_left
          · intro w'
            go_simp
            with_reducible rfl
          rotate_left
          · simp only [Act.put, List.setIfInBounds_toArray, List.set_cons_zero, List.set_cons_succ, i64_w, i32_w]
            rfl
          refine done_ (done_of HT_.out (by kernel_rfl)) ?_
          try go_wp2
          go_ret2
          exact ⟨_, by first | rfl | (simp [errW_none, errW_some] <;> rfl) | (refine congrArg (fun b_ : Bool => Ending.returned (Value.bool b_)) ?_; simp; done) | (simp [*, errW_none, errW_some] <;> rfl), by (with_reducible repeat (first | apply Kd.R_alloc | apply Kd.R_drewN | apply Kd.R_drew)); exact Kd.R_mono HO139.out (fun _ hk => hk.1), by repeat (first | (with_reducible first | exact HB.out | apply z02 | apply z00 | apply z03 | refine z09 ?_ GE129.out) | exact HB.out), by repeat (first | (with_reducible first | exact HK.out | apply Kept.alloc | apply Kept.drewN | apply Kept.drew | refine Kept.setCell ?_ (.inr GW129.out) _) | exact HK.out)⟩
        · rw [if_neg c15] at H
          exact absurd H (by simp)
      · rw [if_neg c13] at H
        have c13b0 : (a1_0 == 2) = false := beq_eq_false_iff_ne.mpr c13
        have c13b1 : (a1_0 != 2) = true := bne_iff_ne.mpr c13
        by_cases c24 : a1_0 = 3
        · rw [if_pos c24] at H
          have c24b0 : (a1_0 == 3) = true := beq_iff_eq.mpr c24
          have c24b1 : (a1_0 != 3) = false := bne_eq_false_iff_eq.mpr c24
          clear c24
          replace H := Option.bind_eq_some_iff.mp H
          obtain ⟨t140, A250, H⟩ := H
          replace H : (if l0.length < 140737488355328 then (some ((l0 ++ [(t140) % 256]), 0)) else (none)) = some (r1, r2) := H
          have A25 := z05.mk A250
          clear A250
          by_cases c26 : l0.length < 140737488355328
          · rw [if_pos c26] at H
            have LMc26 := z05.mk c26
            clear c26
            obtain ⟨y141, hy141⟩ : ∃ y_ : List Int, y_ = (l0 ++ [(t140) % 256]) := ⟨_, rfl⟩
            replace H : (some (y141, 0)) = some (r1, r2) := by first | (rw [hy141]; with_reducible exact H) | (have H2_ := (Option.bind_some _ _).symm.trans H; rw [hy141]; with_reducible exact H2_) | (have H2_ := (Option.bind_some _ _).symm.trans H; with_reducible exact H2_) | with_reducible exact H | (rw [hy141]; exact H) | exact H
            have Ny141 := z05.mk hy141
            clear hy141
            simp only [Option.some.injEq, Prod.mk.injEq] at H
            obtain ⟨rfl, rfl⟩ := H
            go_enter Tryd.func24, Tryd.ntmps24
            try go_wp2_with (first | ((with_reducible refine gate_dst (N := 3) rfl ?_); refine box_event ?hg (N := 3) ?hd (cs := #[.int .i64 a1_0, .int .i64 a1_1, .string a1_2, .bool a1_3]) (t := 46) ?hr ?_; (case hd => rfl); (case hg => rfl); (case hr => first | (go_simp; done) | (go_simp; rfl)); intro gb129 hg w27 hbox hb; have n0_ := z05.mk (Kd.R_below (by (with_reducible repeat (first | apply Kd.R_alloc | apply Kd.R_drewN | apply Kd.R_drew)); exact HO0.out) hb); have n1_ := z05.mk (Kept.below (S := (fun k_ => P0_ k_)) (by repeat (first | (with_reducible first | exact HK.out | apply Kept.alloc | apply Kept.drewN | apply Kept.drew) | exact HK.out)) hb); have n2_ := z05.mk (below_step (by repeat (first | (with_reducible first | exact HB.out | apply z02 | apply z00 | apply z03) | exact HB.out)) hb); have n3_ := z05.mk (hbox); have n4_ := z05.mk ((by rw [hg]; exact (by first | exact HK.out.1 | exact (show Kept w _ (fun k_ => P0_ k_) from by repeat (first | (with_reducible first | exact HK.out | apply Kept.alloc | apply Kept.drewN | apply Kept.drew) | exact HK.out)).1) : w.heap.size ≤ gb129)); have n5_ := z05.mk ((by rw [hg]; exact (below_size (by repeat (first | (with_reducible first | exact HB.out | apply z02 | apply z00 | apply z03) | exact HB.out))) : w0.heap.size ≤ gb129)); clear HO0; clear HK; clear HB; have HO0 := n0_; have HK := n1_; have HB := n2_; have BK129 := n3_; have GW129 := n4_; have GE129 := n5_; clear n0_ n1_ n2_ n3_ n4_ n5_; clear hb hbox hg; have hcz28_0 : w27.cell? ⟨gb129, 0, none⟩ = some (.int .i64 a1_0) := (z04 BK129.out 0).trans rfl; have hcz28_1 : w27.cell? ⟨gb129, 1, none⟩ = some (.int .i64 a1_1) := (z04 BK129.out 1).trans rfl; have hcz28_2 : w27.cell? ⟨gb129, 2, none⟩ = some (.string a1_2) := (z04 BK129.out 2).trans rfl; have hcz28_3 : w27.cell? ⟨gb129, 3, none⟩ = some (.bool a1_3) := (z04 BK129.out 3).trans rfl; have hfz28_0 := z01 BK129.out 0; have hfz28_1 := z01 BK129.out 1; have hfz28_2 := z01 BK129.out 2; have hfz28_3 := z01 BK129.out 3) | ((with_reducible refine gate_callee (f := 37) rfl ?_); refine goesL_ (some 7) rfl rfl Tryd.func37 (by kernel_rfl) rfl #[.agg #[.int .i64 a1_0, .int .i64 a1_1, .string a1_2, .bool a1_3]] rfl (by (try simp only [List.map_toArray, List.map_cons, List.map_nil]); first | done | rfl | (simp only [List.length_drop, List.length_take]; rfl)) ?_; (with_reducible refine (value_May.calls a1_0 a1_1 a1_2 a1_3 true _ A3.out).mono ?_); rintro e w29 ⟨rfl, hb⟩; refine ⟨_, rfl, ?_⟩; have n0_ := z05.mk (Kd.R_below (by (with_reducible repeat (first | apply Kd.R_alloc | apply Kd.R_drewN | apply Kd.R_drew)); exact HO0.out) hb); have n1_ := z05.mk (blk_below (g := gb129) (o := .cells #[.int .i64 a1_0, .int .i64 a1_1, .string a1_2, .bool a1_3] 46 (0, 0)) (by (with_reducible repeat (first | refine z07 ?_ _ | refine z08 ?_ | refine z06 ?_ _)); exact BK129.out) hb); have n2_ := z05.mk (Kept.below (S := (fun k_ => P0_ k_)) (by repeat (first | (with_reducible first | exact HK.out | apply Kept.alloc | apply Kept.drewN | apply Kept.drew | refine Kept.setCell ?_ (.inr GW129.out) _) | exact HK.out)) hb); have n3_ := z05.mk (below_step (by repeat (first | (with_reducible first | exact HB.out | apply z02 | apply z00 | apply z03 | refine z09 ?_ GE129.out) | exact HB.out)) hb); clear HO0; clear BK129; clear HK; clear HB; have HO0 := n0_; have BK129 := n1_; have HK := n2_; have HB := n3_; clear n0_ n1_ n2_ n3_; (try clear hb); (try clear hb2); (try clear hk); (try clear hi); have hcz30_0 : w29.cell? ⟨gb129, 0, none⟩ = some (.int .i64 a1_0) := (z04 BK129.out 0).trans rfl; have hcz30_1 : w29.cell? ⟨gb129, 1, none⟩ = some (.int .i64 a1_1) := (z04 BK129.out 1).trans rfl; have hcz30_2 : w29.cell? ⟨gb129, 2, none⟩ = some (.string a1_2) := (z04 BK129.out 2).trans rfl; have hcz30_3 : w29.cell? ⟨gb129, 3, none⟩ = some (.bool a1_3) := (z04 BK129.out 3).trans rfl; have hfz30_0 := z01 BK129.out 0; have hfz30_1 := z01 BK129.out 1; have hfz30_2 := z01 BK129.out 2; have hfz30_3 := z01 BK129.out 3))
            have n0_ := z05.mk (Kd.R_drew HO0.out); have n1_ := z05.mk (z08 BK129.out); have n2_ := z05.mk (Kept.drew HK.out); have n3_ := z05.mk (z03 HB.out); clear HO0; clear BK129; clear HK; clear HB; have HO0 := n0_; have BK129 := n1_; have HK := n2_; have HB := n3_; clear n0_ n1_ n2_ n3_
            obtain ⟨Ao32, co32, eo32⟩ := Kd.R_slice HO0.out
            (first | subst eo32 | (injection eo32 with f1_ f2_ f3_; have f4_ := f1_.symm; have f5_ := f3_.symm; clear f1_ f2_ f3_; subst f4_; subst f5_))
            have hroom33 : l0.length ≤ co32 := (Kd.R_reads' HO0.out).2.1
            refine start_ (n := 14) (S := fun w' => w'.cell? ⟨gb129, 0, none⟩ = some (.int .i64 a1_0) ∧ w'.cell? ⟨gb129, 1, none⟩ = some (.int .i64 a1_1) ∧ w'.cell? ⟨gb129, 2, none⟩ = some (.string a1_2) ∧ w'.cell? ⟨gb129, 3, none⟩ = some (.bool a1_3)) (ds := []) #[false, false, false, false, false, false, false, false, false, false, false, false, false, false] (by kernel_rfl) rfl rfl ⟨(z04 BK129.out 0).trans rfl, (z04 BK129.out 1).trans rfl, (z04 BK129.out 2).trans rfl, (z04 BK129.out 3).trans rfl⟩ (fun hHeld => ?_); refine with_tabW value_Put.tab9 value_Put.bits9 (fun HT_ HW_ => ?_)
            generalize w29.drew = w31 at HO0 BK129 HK HB hHeld ⊢
            refine pure_ (i := 0) (N := some 29) (v := ?_) (a' := ?_) #[true, false, false, false, false, false, false, false, false, false, false, false, false, false] rfl rfl (any_of HT_.out (by kernel_rfl)) (fun _ _ _ h => h) (Or.inl ⟨by rfl, ?_⟩) ?_ ?_
            rotate_left
            · intro w'
              go_simp
              with_reducible rfl
            rotate_left
            · simp only [Act.put, List.setIfInBounds_toArray, List.set_cons_zero, List.set_cons_succ, i64_w, i32_w]
              rfl
            refine pure_ (i := 1) (N := some 30) (v := ?_) (a' := ?_) #[true, true, false, false, false, false, false, false, false, false, false, false, false, false] rfl rfl (any_of HT_.out (by kernel_rfl)) (fun _ _ _ h => h) (Or.inl ⟨by rfl, ?_⟩) ?_ ?_
            rotate_left
            · intro w'
              go_simp
              with_reducible rfl
            rotate_left
            · simp only [Act.put, List.setIfInBounds_toArray, List.set_cons_zero, List.set_cons_succ, i64_w, i32_w]
              rfl
            refine pure_ (i := 2) (N := some 31) (v := ?_) (a' := ?_) #[true, true, true, false, false, false, false, false, false, false, false, false, false, false] rfl rfl (any_of HT_.out (by kernel_rfl)) (fun _ _ _ h => h) (Or.inl ⟨by rfl, ?_⟩) ?_ ?_
            rotate_left
            · intro w'
              go_simp
              with_reducible rfl
            rotate_left
            · simp only [Act.put, List.setIfInBounds_toArray, List.set_cons_zero, List.set_cons_succ, i64_w, i32_w]
              rfl
            refine pure_ (i := 3) (N := some 32) (v := ?_) (a' := ?_) #[true, true, true, true, false, false, false, false, false, false, false, false, false, false] rfl rfl (any_of HT_.out (by kernel_rfl)) (fun _ _ _ h => h) (Or.inl ⟨by rfl, ?_⟩) ?_ ?_
            rotate_left
            · intro w'
              go_simp
              with_reducible rfl
            rotate_left
            · simp only [Act.put, List.setIfInBounds_toArray, List.set_cons_zero, List.set_cons_succ, i64_w, i32_w]
              rfl
            refine pure_ (i := 4) (N := some 33) (v := ?_) (a' := ?_) #[true, true, true, true, true, false, false, false, false, false, false, false, false, false] rfl rfl (any_of HT_.out (by kernel_rfl)) (fun _ _ _ h => h) (Or.inl ⟨by rfl, ?_⟩) ?_ ?_
            rotate_left
            · intro w'
              go_simp
              with_reducible rfl
            rotate_left
            · simp only [Act.put, List.setIfInBounds_toArray, List.set_cons_zero, List.set_cons_succ, i64_w, i32_w]
              rfl
            refine pure_ (i := 5) (N := some 34) (v := ?_) (a' := ?_) #[true, true, true, true, true, true, false, false, false, false, false, false, false, false] rfl rfl (any_of HT_.out (by kernel_rfl)) (fun _ _ _ h => h) (Or.inl ⟨by rfl, ?_⟩) ?_ ?_
            rotate_left
            · intro w'
              go_simp
              with_reducible rfl
            rotate_left
            · simp only [Act.put, List.setIfInBounds_toArray, List.set_cons_zero, List.set_cons_succ, i64_w, i32_w]
              rfl
            refine pure_ (i := 6) (N := some 35) (v := ?_) (a' := ?_) #[true, true, true, true, true, true, true, false, false, false, false, false, false, false] rfl rfl (any_of HT_.out (by kernel_rfl)) (fun _ _ _ h => h) (Or.inl ⟨by rfl, ?_⟩) ?_ ?_
            rotate_left
            · intro w'
              go_simp
              with_reducible rfl
            rotate_left
            · simp only [Act.put, List.setIfInBounds_toArray, List.set_cons_zero, List.set_cons_succ, i64_w, i32_w]
              rfl
            refine take_ (i := 7) (N := some 36) (v := ?_) (a' := ?_) #[true, true, true, true, true, true, true, true, false, false, false, false, false, false] rfl rfl (take_ofW HT_.out HW_.out (by kernel_rfl)) (fun _ _ _ h => h) (Or.inl ⟨by rfl, ?_⟩) hHeld ?_ ?_
            rotate_left
            · rintro w' ⟨s0, s1, s2, s3⟩
              go_simp
              with_reducible rfl
            rotate_left
            · simp only [Act.put, List.setIfInBounds_toArray, List.set_cons_zero, List.set_cons_succ, i64_w, i32_w]
              rfl
            refine one_ (i := 8) (N := some 37) #[true, true, true, true, true, true, true, true, true, false, false, false, false, false] rfl rfl (one_of HT_.out (by kernel_rfl)) (by decide) (fun K hK => ?_)
            refine goes_ Tryd.func40 (by kernel_rfl) rfl #[.bool a1_3] (by rfl) rfl rfl (by (try simp only [List.map_toArray, List.map_cons, List.map_nil]); first | done | rfl | (simp only [List.length_drop, List.length_take]; rfl)) ?_
            with_reducible refine (value_truth.calls a1_3 t140 _ A25.out).mono ?_
            rintro e w' ⟨rfl, ⟨nd, rfl⟩⟩
            refine ⟨_, rfl, ?_⟩
            refine hK.out _ _ ⟨(z04 BK129.out 0).trans rfl, (z04 BK129.out 1).trans rfl, (z04 BK129.out 2).trans rfl, (z04 BK129.out 3).trans rfl⟩ (fun hHeld => ?_)
            clear hK K
            refine norm_ (a' := ?_) ?_ ?_
            rotate_left
            · show Act.put _ (some 37) _ = _
              simp only [Act.put, List.setIfInBounds_toArray, List.set_cons_zero, List.set_cons_succ, i64_w, i32_w]
              rfl
            refine pure_ (i := 9) (N := some 38) (v := ?_) (a' := ?_) #[true, true, true, true, true, true, true, true, true, true, false, false, false, false] rfl rfl (any_of HT_.out (by kernel_rfl)) (fun _ _ _ h => h) (Or.inl ⟨by rfl, ?_⟩) ?_ ?_
            rotate_left
            · intro w'
              go_simp
              with_reducible rfl
            rotate_left
            · simp only [Act.put, List.setIfInBounds_toArray, List.set_cons_zero, List.set_cons_succ, i64_w, i32_w]
              rfl
            refine one_ (i := 10) (N := some 39) #[true, true, true, true, true, true, true, true, true, true, true, false, false, false] rfl rfl (one_of HT_.out (by kernel_rfl)) (by decide) (fun K hK => ?_)
            refine value_ (w1 := ?_) (v := ?_) (by rfl) rfl ?_ ?_
            rotate_left 2
            · go_simp
              constructor
              · rfl
              · rfl
            refine hK.out _ _ ⟨(z04 (z06 BK129.out _) 0).trans rfl, (z04 (z06 BK129.out _) 1).trans rfl, (z04 (z06 BK129.out _) 2).trans rfl, (z04 (z06 BK129.out _) 3).trans rfl⟩ (fun hHeld => ?_)
            clear hK K
            refine norm_ (a' := ?_) ?_ ?_
            rotate_left
            · show Act.put _ (some 39) _ = _
              simp only [Act.put, List.setIfInBounds_toArray, List.set_cons_zero, List.set_cons_succ, i64_w, i32_w]
              rfl
            refine one_ (i := 11) (N := some 40) #[true, true, true, true, true, true, true, true, true, true, true, true, false, false] rfl rfl (one_of HT_.out (by kernel_rfl)) (by decide) (fun K hK => ?_)
            refine Go.Proofs.YteefchdfdgfaaaaDoor.Hbase.R_append_full_step (k := .u8) (w0 := w0) w0.heap.size (by rfl) (.tmp 34) (.tmp 39) 29 5 1 rfl Tryd.underlying29 info5 (by omega) Ao32 l0 ((t140) % 256) (fun k_ => (P0_ k_ ∨ w.heap.size ≤ k_) ∧ some k_ ≠ (.slice Ao32 l0.length co32 : Value).ownBlock) rfl rfl ?aR ?aF ?aB ?aS ?aL ?_
            (case aR => repeat (first | exact (Kd.R_reads' HO0.out).2.2 | exact (Kd.C_below (Kd.R_reads' HO0.out).2.2 (by repeat (first | (with_reducible first | exact HB.out | apply z02 | apply z00 | apply z03 | refine z09 ?_ GE129.out) | exact HB.out))) | (with_reducible refine Kd.C_alloc ?_ _) | (with_reducible refine Kd.C_drewN ?_ _) | (with_reducible refine Kd.C_drew ?_)))
            (case aB => exact (by repeat (first | (with_reducible first | exact HB.out | apply z02 | apply z00 | apply z03 | refine z09 ?_ GE129.out) | exact HB.out)))
            (case aF => exact (fun k_ hk => ⟨(.inr (Nat.le_trans (by first | exact HK.out.1 | exact (show Kept w _ (fun k_ => P0_ k_) from by repeat (first | (with_reducible first | exact HK.out | apply Kept.alloc | apply Kept.drewN | apply Kept.drew | refine Kept.setCell ?_ (.inr GW129.out) _) | exact HK.out)).1) hk)), Kd.fresh' (Kd.R_lt (by (with_reducible repeat (first | apply Kd.R_alloc | apply Kd.R_drewN | apply Kd.R_drew)); exact HO0.out)) k_ hk⟩))
            (case aS => exact (below_size (by repeat (first | (with_reducible first | exact HB.out | apply z02 | apply z00 | apply z03 | refine z09 ?_ GE129.out) | exact HB.out))))
            (case aL => have := LMc26.out; omega)
            intro v142 w34 ho hb hg hat
            rw [← Ny141.out] at ho
            have n0_ := z05.mk (Kd.R_after (Kd.R_apart_nil (by (with_reducible repeat (first | apply Kd.R_alloc | apply Kd.R_drewN | apply Kd.R_drew)); exact HO0.out)) hg hat); have n1_ := z05.mk (blk_grown (g := gb129) (o := .cells #[.int .i64 a1_0, .int .i64 a1_1, .string a1_2, .bool a1_3] 46 (0, 0)) (by (with_reducible repeat (first | refine z07 ?_ _ | refine z08 ?_ | refine z06 ?_ _)); exact BK129.out) hg (by simp [Value.ownBlock])); have n2_ := z05.mk (hb); have n3_ := z05.mk (Kept.of_grown (S := (fun k_ => P0_ k_)) hg (by repeat (first | (with_reducible first | exact HK.out | apply Kept.alloc | apply Kept.drewN | apply Kept.drew | refine Kept.setCell ?_ (.inr GW129.out) _) | exact HK.out)) (fun k_ e_ => by simp [Value.ownBlock] at e_)); have n4_ := z05.mk (ho); clear HO0; clear BK129; clear HB; clear HK; have HO0 := n0_; have BK129 := n1_; have HB := n2_; have HK := n3_; have HO143 := n4_; clear n0_ n1_ n2_ n3_ n4_; clear ho hb hg hat
            refine hK.out _ _ ⟨(z04 BK129.out 0).trans rfl, (z04 BK129.out 1).trans rfl, (z04 BK129.out 2).trans rfl, (z04 BK129.out 3).trans rfl⟩ (fun hHeld => ?_)
            clear hK K
            refine norm_ (a' := ?_) ?_ ?_
            rotate_left
            · show Act.put _ (some 40) _ = _
              simp only [Act.put, List.setIfInBounds_toArray, List.set_cons_zero, List.set_cons_succ, i64_w, i32_w]
              rfl
            refine pure_ (i := 12) (N := some 4) (v := ?_) (a' := ?_) #[true, true, true, true, true, true, true, true, true, true, true, true, true, false] rfl rfl (any_of HT_.out (by kernel_rfl)) (fun _ _ _ h => h) (Or.inl ⟨by rfl, ?_⟩) ?_ ?_
            rotate_left
            · intro w'
              go_simp
              with_reducible rfl
            rotate_left
            · simp only [Act.put, List.setIfInBounds_toArray, List.set_cons_zero, List.set_cons_succ, i64_w, i32_w]
              rfl
            refine pure_ (i := 13) (N := some 5) (v := ?_) (a' := ?_) #[true, true, true, true, true, true, true, true, true, true, true, true, true, true] rfl rfl (any_of HT_.out (by kernel_rfl)) (fun _ _ _ h => h) (Or.inl ⟨by rfl, ?_⟩) ?_ ?_
            rotate_left
            · intro w'
              go_simp
              with_reducible rfl
            rotate_left
            · simp only [Act.put, List.setIfInBounds_toArray, List.set_cons_zero, List.set_cons_succ, i64_w, i32_w]
              rfl
            refine done_ (done_of HT_.out (by kernel_rfl)) ?_
            try go_wp2
            go_ret2
            exact ⟨_, by first | rfl | (simp [errW_none, errW_some] <;> rfl) | (refine congrArg (fun b_ : Bool => Ending.returned (Value.bool b_)) ?_; simp; done) | (simp [*, errW_none, errW_some] <;> rfl), by (with_reducible repeat (first | apply Kd.R_alloc | apply Kd.R_drewN | apply Kd.R_drew)); exact Kd.R_mono HO143.out (fun _ hk => hk.1), by repeat (first | (with_reducible first | exact HB.out | apply z02 | apply z00 | apply z03 | refine z09 ?_ GE129.out) | exact HB.out), by repeat (first | (with_reducible first | exact HK.out | apply Kept.alloc | apply Kept.drewN | apply Kept.drew | refine Kept.setCell ?_ (.inr GW129.out) _) | exact HK.out)⟩
          · rw [if_neg c26] at H
            exact absurd H (by simp)
        · rw [if_neg c24] at H
          have c24b0 : (a1_0 == 3) = false := beq_eq_false_iff_ne.mpr c24
          have c24b1 : (a1_0 != 3) = true := bne_iff_ne.mpr c24
          simp only [Option.some.injEq, Prod.mk.injEq] at H
          obtain ⟨rfl, rfl⟩ := H
          go_enter Tryd.func24, Tryd.ntmps24
          go_wp2_with (first | ((with_reducible refine gate_dst (N := 3) rfl ?_); refine box_event ?hg (N := 3) ?hd (cs := #[.int .i64 a1_0, .int .i64 a1_1, .string a1_2, .bool a1_3]) (t := 46) ?hr ?_; (case hd => rfl); (case hg => rfl); (case hr => first | (go_simp; done) | (go_simp; rfl)); intro gb129 hg w35 hbox hb; have n0_ := z05.mk (Kd.R_below (by (with_reducible repeat (first | apply Kd.R_alloc | apply Kd.R_drewN | apply Kd.R_drew)); exact HO0.out) hb); have n1_ := z05.mk (Kept.below (S := (fun k_ => P0_ k_)) (by repeat (first | (with_reducible first | exact HK.out | apply Kept.alloc | apply Kept.drewN | apply Kept.drew) | exact HK.out)) hb); have n2_ := z05.mk (below_step (by repeat (first | (with_reducible first | exact HB.out | apply z02 | apply z00 | apply z03) | exact HB.out)) hb); have n3_ := z05.mk (hbox); have n4_ := z05.mk ((by rw [hg]; exact (by first | exact HK.out.1 | exact (show Kept w _ (fun k_ => P0_ k_) from by repeat (first | (with_reducible first | exact HK.out | apply Kept.alloc | apply Kept.drewN | apply Kept.drew) | exact HK.out)).1) : w.heap.size ≤ gb129)); have n5_ := z05.mk ((by rw [hg]; exact (below_size (by repeat (first | (with_reducible first | exact HB.out | apply z02 | apply z00 | apply z03) | exact HB.out))) : w0.heap.size ≤ gb129)); clear HO0; clear HK; clear HB; have HO0 := n0_; have HK := n1_; have HB := n2_; have BK129 := n3_; have GW129 := n4_; have GE129 := n5_; clear n0_ n1_ n2_ n3_ n4_ n5_; clear hb hbox hg; have hcz36_0 : w35.cell? ⟨gb129, 0, none⟩ = some (.int .i64 a1_0) := (z04 BK129.out 0).trans rfl; have hcz36_1 : w35.cell? ⟨gb129, 1, none⟩ = some (.int .i64 a1_1) := (z04 BK129.out 1).trans rfl; have hcz36_2 : w35.cell? ⟨gb129, 2, none⟩ = some (.string a1_2) := (z04 BK129.out 2).trans rfl; have hcz36_3 : w35.cell? ⟨gb129, 3, none⟩ = some (.bool a1_3) := (z04 BK129.out 3).trans rfl; have hfz36_0 := z01 BK129.out 0; have hfz36_1 := z01 BK129.out 1; have hfz36_2 := z01 BK129.out 2; have hfz36_3 := z01 BK129.out 3) | ((with_reducible refine gate_callee (f := 37) rfl ?_); refine goesL_ (some 7) rfl rfl Tryd.func37 (by kernel_rfl) rfl #[.agg #[.int .i64 a1_0, .int .i64 a1_1, .string a1_2, .bool a1_3]] rfl (by (try simp only [List.map_toArray, List.map_cons, List.map_nil]); first | done | rfl | (simp only [List.length_drop, List.length_take]; rfl)) ?_; (with_reducible refine (value_May.calls a1_0 a1_1 a1_2 a1_3 true _ A3.out).mono ?_); rintro e w37 ⟨rfl, hb⟩; refine ⟨_, rfl, ?_⟩; have n0_ := z05.mk (Kd.R_below (by (with_reducible repeat (first | apply Kd.R_alloc | apply Kd.R_drewN | apply Kd.R_drew)); exact HO0.out) hb); have n1_ := z05.mk (blk_below (g := gb129) (o := .cells #[.int .i64 a1_0, .int .i64 a1_1, .string a1_2, .bool a1_3] 46 (0, 0)) (by (with_reducible repeat (first | refine z07 ?_ _ | refine z08 ?_ | refine z06 ?_ _)); exact BK129.out) hb); have n2_ := z05.mk (Kept.below (S := (fun k_ => P0_ k_)) (by repeat (first | (with_reducible first | exact HK.out | apply Kept.alloc | apply Kept.drewN | apply Kept.drew | refine Kept.setCell ?_ (.inr GW129.out) _) | exact HK.out)) hb); have n3_ := z05.mk (below_step (by repeat (first | (with_reducible first | exact HB.out | apply z02 | apply z00 | apply z03 | refine z09 ?_ GE129.out) | exact HB.out)) hb); clear HO0; clear BK129; clear HK; clear HB; have HO0 := n0_; have BK129 := n1_; have HK := n2_; have HB := n3_; clear n0_ n1_ n2_ n3_; (try clear hb); (try clear hb2); (try clear hk); (try clear hi); have hcz38_0 : w37.cell? ⟨gb129, 0, none⟩ = some (.int .i64 a1_0) := (z04 BK129.out 0).trans rfl; have hcz38_1 : w37.cell? ⟨gb129, 1, none⟩ = some (.int .i64 a1_1) := (z04 BK129.out 1).trans rfl; have hcz38_2 : w37.cell? ⟨gb129, 2, none⟩ = some (.string a1_2) := (z04 BK129.out 2).trans rfl; have hcz38_3 : w37.cell? ⟨gb129, 3, none⟩ = some (.bool a1_3) := (z04 BK129.out 3).trans rfl; have hfz38_0 := z01 BK129.out 0; have hfz38_1 := z01 BK129.out 1; have hfz38_2 := z01 BK129.out 2; have hfz38_3 := z01 BK129.out 3))
          go_ret2
          exact ⟨_, by first | rfl | (simp [errW_none, errW_some] <;> rfl) | (refine congrArg (fun b_ : Bool => Ending.returned (Value.bool b_)) ?_; simp; done) | (simp [*, errW_none, errW_some] <;> rfl), by (with_reducible repeat (first | apply Kd.R_alloc | apply Kd.R_drewN | apply Kd.R_drew)); exact HO0.out, by repeat (first | (with_reducible first | exact HB.out | apply z02 | apply z00 | apply z03 | refine z09 ?_ GE129.out) | exact HB.out), by repeat (first | (with_reducible first | exact HK.out | apply Kept.alloc | apply Kept.drewN | apply Kept.drew | refine Kept.setCell ?_ (.inr GW129.out) _) | exact HK.out)⟩
  · replace c4 := Bool.eq_false_iff.mpr c4
    subst c4
    have H1 : (some (([] : List Int), 1)) = some (r1, r2) := by rw [if_neg (show ¬ (false = true) by decide)] at H; exact H
    clear H
    have H := H1
    clear H1
    simp only [Option.some.injEq, Prod.mk.injEq] at H
    obtain ⟨rfl, rfl⟩ := H
    go_enter Tryd.func24, Tryd.ntmps24
    go_wp2_with (first | ((with_reducible refine gate_dst (N := 3) rfl ?_); refine box_event ?hg (N := 3) ?hd (cs := #[.int .i64 a1_0, .int .i64 a1_1, .string a1_2, .bool a1_3]) (t := 46) ?hr ?_; (case hd => rfl); (case hg => rfl); (case hr => first | (go_simp; done) | (go_simp; rfl)); intro gb129 hg w39 hbox hb; have n0_ := z05.mk (Kd.R_below (by (with_reducible repeat (first | apply Kd.R_alloc | apply Kd.R_drewN | apply Kd.R_drew)); exact HO0.out) hb); have n1_ := z05.mk (Kept.below (S := (fun k_ => P0_ k_)) (by repeat (first | (with_reducible first | exact HK.out | apply Kept.alloc | apply Kept.drewN | apply Kept.drew) | exact HK.out)) hb); have n2_ := z05.mk (below_step (by repeat (first | (with_reducible first | exact HB.out | apply z02 | apply z00 | apply z03) | exact HB.out)) hb); have n3_ := z05.mk (hbox); have n4_ := z05.mk ((by rw [hg]; exact (by first | exact HK.out.1 | exact (show Kept w _ (fun k_ => P0_ k_) from by repeat (first | (with_reducible first | exact HK.out | apply Kept.alloc | apply Kept.drewN | apply Kept.drew) | exact HK.out)).1) : w.heap.size ≤ gb129)); have n5_ := z05.mk ((by rw [hg]; exact (below_size (by repeat (first | (with_reducible first | exact HB.out | apply z02 | apply z00 | apply z03) | exact HB.out))) : w0.heap.size ≤ gb129)); clear HO0; clear HK; clear HB; have HO0 := n0_; have HK := n1_; have HB := n2_; have BK129 := n3_; have GW129 := n4_; have GE129 := n5_; clear n0_ n1_ n2_ n3_ n4_ n5_; clear hb hbox hg; have hcz40_0 : w39.cell? ⟨gb129, 0, none⟩ = some (.int .i64 a1_0) := (z04 BK129.out 0).trans rfl; have hcz40_1 : w39.cell? ⟨gb129, 1, none⟩ = some (.int .i64 a1_1) := (z04 BK129.out 1).trans rfl; have hcz40_2 : w39.cell? ⟨gb129, 2, none⟩ = some (.string a1_2) := (z04 BK129.out 2).trans rfl; have hcz40_3 : w39.cell? ⟨gb129, 3, none⟩ = some (.bool a1_3) := (z04 BK129.out 3).trans rfl; have hfz40_0 := z01 BK129.out 0; have hfz40_1 := z01 BK129.out 1; have hfz40_2 := z01 BK129.out 2; have hfz40_3 := z01 BK129.out 3) | ((with_reducible refine gate_callee (f := 37) rfl ?_); refine goesL_ (some 7) rfl rfl Tryd.func37 (by kernel_rfl) rfl #[.agg #[.int .i64 a1_0, .int .i64 a1_1, .string a1_2, .bool a1_3]] rfl (by (try simp only [List.map_toArray, List.map_cons, List.map_nil]); first | done | rfl | (simp only [List.length_drop, List.length_take]; rfl)) ?_; (with_reducible refine (value_May.calls a1_0 a1_1 a1_2 a1_3 false _ A3.out).mono ?_); rintro e w41 ⟨rfl, hb⟩; refine ⟨_, rfl, ?_⟩; have n0_ := z05.mk (Kd.R_below (by (with_reducible repeat (first | apply Kd.R_alloc | apply Kd.R_drewN | apply Kd.R_drew)); exact HO0.out) hb); have n1_ := z05.mk (blk_below (g := gb129) (o := .cells #[.int .i64 a1_0, .int .i64 a1_1, .string a1_2, .bool a1_3] 46 (0, 0)) (by (with_reducible repeat (first | refine z07 ?_ _ | refine z08 ?_ | refine z06 ?_ _)); exact BK129.out) hb); have n2_ := z05.mk (Kept.below (S := (fun k_ => P0_ k_)) (by repeat (first | (with_reducible first | exact HK.out | apply Kept.alloc | apply Kept.drewN | apply Kept.drew | refine Kept.setCell ?_ (.inr GW129.out) _) | exact HK.out)) hb); have n3_ := z05.mk (below_step (by repeat (first | (with_reducible first | exact HB.out | apply z02 | apply z00 | apply z03 | refine z09 ?_ GE129.out) | exact HB.out)) hb); clear HO0; clear BK129; clear HK; clear HB; have HO0 := n0_; have BK129 := n1_; have HK := n2_; have HB := n3_; clear n0_ n1_ n2_ n3_; (try clear hb); (try clear hb2); (try clear hk); (try clear hi)))
    go_ret2
    exact ⟨_, by first | rfl | (simp [errW_none, errW_some] <;> rfl) | (refine congrArg (fun b_ : Bool => Ending.returned (Value.bool b_)) ?_; simp; done) | (simp [*, errW_none, errW_some] <;> rfl), by first | exact Kd.R_nil _ _ _ _ _ | exact Kd.N_nil _ _ _ _ _ | exact Kd.V_nil _ _ _ _ _ | exact Kd.Q_nil _ _ _ _ _ | exact Kd.S_nil _ _ _ _ _, by repeat (first | (with_reducible first | exact HB.out | apply z02 | apply z00 | apply z03 | refine z09 ?_ GE129.out) | exact HB.out), by repeat (first | (with_reducible first | exact HK.out | apply Kept.alloc | apply Kept.drewN | apply Kept.drew | refine Kept.setCell ?_ (.inr GW129.out) _) | exact HK.out)⟩

/-! ### schema_Encode: function 11 -/
mutual
def schema_Encode.l0 : Nat → List (S46) → List Int → List (S48) → Int → Int → Option (List Int × Int)
  | 0, _, _, _, _, _ => none
  | k + 1, x1, x6, x15, x16, x17 => if x17 < x16 then (if 0 ≤ x17 then (if x17 < (x15.length : Int) then (if x17 < (x1.length : Int) then (if (rd_T48 x15 x17).f2 = true then (schema_Encode.j1 k x1 x6 x15 x16 x17 (((rd_T46 x1 x17).f0) == 0) ((rd_T48 x15 x17).f0) ((rd_T48 x15 x17).f1) ((rd_T48 x15 x17).f2) ((rd_T46 x1 x17).f0) ((rd_T46 x1 x17).f1) ((rd_T46 x1 x17).f2) ((rd_T46 x1 x17).f3)) else (schema_Encode.j1 k x1 x6 x15 x16 x17 false ((rd_T48 x15 x17).f0) ((rd_T48 x15 x17).f1) ((rd_T48 x15 x17).f2) ((rd_T46 x1 x17).f0) ((rd_T46 x1 x17).f1) ((rd_T46 x1 x17).f2) ((rd_T46 x1 x17).f3))) else (none)) else (none)) else (none)) else (some (x6, 0))
def schema_Encode.j1 : Nat → List (S46) → List Int → List (S48) → Int → Int → Bool → ByteArray → Int → Bool → Int → Int → ByteArray → Bool → Option (List Int × Int)
  | 0, _, _, _, _, _, _, _, _, _, _, _, _, _ => none
  | k + 1, x1, x6, x15, x16, x17, x26, x148000, x148001, x148002, x150000, x150001, x150002, x150003 => if x26 = true then (if x6.length < 140737488355328 then (schema_Encode.l0 k x1 (x6 ++ [0]) x15 x16 (wrap64 (x17 + 1))) else (none)) else (if x148002 = true then (if x6.length < 140737488355328 then ((value_Put.f (x6 ++ [1]) x150000 x150001 x150002 x150003).bind fun bt156 => (schema_Encode.l0 k x1 bt156.1 x15 x16 (wrap64 (x17 + 1)))) else (none)) else ((value_Put.f x6 x150000 x150001 x150002 x150003).bind fun bt160 => (schema_Encode.l0 k x1 bt160.1 x15 x16 (wrap64 (x17 + 1)))))
end
def schema_Encode.f (k : Nat) (l0_0 : List (S48)) (a0_1 : Int) (a0_2 : Int) (a0_3 : Int) (a0_4 : Int) (l1 : List (S46)) : Option (List Int × Int) := (schema_Fits.f k l0_0 a0_1 a0_2 a0_3 a0_4 l1).bind fun t145 => (if t145 = true then (schema_Encode.l0 k l1 ([] : List Int) l0_0 (l0_0.length : Int) 0) else (some (([] : List Int), 1)))
set_option maxHeartbeats 8000000 in
set_option maxRecDepth 100000 in
theorem schema_Encode.calls (k : Nat) (A0_0 : Option Addr) (c0_0 : Nat) (l0_0 : List (S48)) (a0_1 : Int) (a0_2 : Int) (a0_3 : Int) (a0_4 : Int) (A1 : Option Addr) (c1 : Nat) (l1 : List (S46)) (r1 : List Int) (r2 : Int) (w : World) (hr0_0 : Kd.C k48 w A0_0 l0_0.length l0_0) (hc0_0 : l0_0.length ≤ c0_0) (hr1 : Kd.C k46 w A1 l1.length l1) (hc1 : l1.length ≤ c1) (h : schema_Encode.f k l0_0 a0_1 a0_2 a0_3 a0_4 l1 = some (r1, r2)) :
    Calls Tryd.prog 11 #[.agg #[.slice A0_0 l0_0.length c0_0, .int .i64 a0_1, .int .i64 a0_2, .int .i64 a0_3, .int .i64 a0_4], .slice A1 l1.length c1] w fun e w' => ∃ v0_ : Value, e = .returned (.tuple #[v0_, .int .i64 r2]) ∧ Kd.R (Kd.int .u8) 5 w' w.heap.size (fun _ => True) v0_ r1 ∧ Below w.heap.size w w' := by
  have hu24 := Tryd.underlying24
  have hu48 := Tryd.underlying48
  have hu46 := Tryd.underlying46
  have HR0_0 := z05.mk hr0_0
  have HC0_0 := z05.mk hc0_0
  clear hr0_0 hc0_0
  have HR1 := z05.mk hr1
  have HC1 := z05.mk hc1
  clear hr1 hc1
  have HB := z05.mk (Below.refl w.heap.size w)
  have H : ((schema_Fits.f k l0_0 a0_1 a0_2 a0_3 a0_4 l1).bind fun t145 => (if t145 = true then (schema_Encode.l0 k l1 ([] : List Int) l0_0 (l0_0.length : Int) 0) else (some (([] : List Int), 1)))) = some (r1, r2) := h
  clear h
  replace H := Option.bind_eq_some_iff.mp H
  obtain ⟨t145, A30, H⟩ := H
  replace H : (if t145 = true then (schema_Encode.l0 k l1 ([] : List Int) l0_0 (l0_0.length : Int) 0) else (some (([] : List Int), 1))) = some (r1, r2) := H
  have A3 := z05.mk A30
  clear A30
  by_cases c4 : t145 = true
  · subst c4
    have H1 : (schema_Encode.l0 k l1 ([] : List Int) l0_0 (l0_0.length : Int) 0) = some (r1, r2) := by rw [if_pos rfl] at H; exact H
    clear H
    have H := H1
    clear H1
    have H' := z05.mk H
    clear H
    go_enter Tryd.func11, Tryd.ntmps11
    go_wp2_with (first | ((with_reducible refine gate_dst (N := 2) rfl ?_); refine box_event ?hg (N := 2) ?hd (cs := #[.slice A0_0 l0_0.length c0_0, .int .i64 a0_1, .int .i64 a0_2, .int .i64 a0_3, .int .i64 a0_4]) (t := 24) ?hr ?_; (case hd => rfl); (case hg => rfl); (case hr => first | (go_simp; done) | (go_simp; rfl)); intro gb144 hg w5 hbox hb; have n0_ := z05.mk (below_step (by repeat (first | (with_reducible first | exact HB.out | apply z02 | apply z00 | apply z03) | exact HB.out)) hb); have n1_ := z05.mk (hbox); have n2_ := z05.mk ((by rw [hg]; exact (below_size (by repeat (first | (with_reducible first | exact HB.out | apply z02 | apply z00 | apply z03) | exact HB.out))) : w.heap.size ≤ gb144)); have n3_ := z05.mk ((by rw [hg]; exact (below_size (by repeat (first | (with_reducible first | exact HB.out | apply z02 | apply z00 | apply z03) | exact HB.out))) : w.heap.size ≤ gb144)); clear HB; have HB := n0_; have BK144 := n1_; have GW144 := n2_; have GE144 := n3_; clear n0_ n1_ n2_ n3_; clear hb hbox hg; have hcz6_0 : w5.cell? ⟨gb144, 0, none⟩ = some (.slice A0_0 l0_0.length c0_0) := (z04 BK144.out 0).trans rfl; have hcz6_1 : w5.cell? ⟨gb144, 1, none⟩ = some (.int .i64 a0_1) := (z04 BK144.out 1).trans rfl; have hcz6_2 : w5.cell? ⟨gb144, 2, none⟩ = some (.int .i64 a0_2) := (z04 BK144.out 2).trans rfl; have hcz6_3 : w5.cell? ⟨gb144, 3, none⟩ = some (.int .i64 a0_3) := (z04 BK144.out 3).trans rfl; have hcz6_4 : w5.cell? ⟨gb144, 4, none⟩ = some (.int .i64 a0_4) := (z04 BK144.out 4).trans rfl; have hfz6_0 := z01 BK144.out 0; have hfz6_1 := z01 BK144.out 1; have hfz6_2 := z01 BK144.out 2; have hfz6_3 := z01 BK144.out 3; have hfz6_4 := z01 BK144.out 4) | ((with_reducible refine gate_callee (f := 18) rfl ?_); refine goesL_ (some 12) rfl rfl Tryd.func18 (by kernel_rfl) rfl #[.agg #[.slice A0_0 l0_0.length c0_0, .int .i64 a0_1, .int .i64 a0_2, .int .i64 a0_3, .int .i64 a0_4], .slice A1 l1.length c1] rfl (by (try simp only [List.map_toArray, List.map_cons, List.map_nil]); first | done | rfl | (simp only [List.length_drop, List.length_take]; rfl)) ?_; (with_reducible refine (schema_Fits.calls k _ _ l0_0 a0_1 a0_2 a0_3 a0_4 _ _ l1 true _ ?side1 ?side2 ?side3 ?side4 A3.out).mono ?_); (case side1 => repeat (first | exact (Kd.C_below HR0_0.out HB.out) | (with_reducible refine Kd.C_alloc ?_ _) | (with_reducible refine Kd.C_drewN ?_ _) | (with_reducible refine Kd.C_drew ?_))); (case side2 => exact HC0_0.out); (case side3 => repeat (first | exact (Kd.C_below HR1.out HB.out) | (with_reducible refine Kd.C_alloc ?_ _) | (with_reducible refine Kd.C_drewN ?_ _) | (with_reducible refine Kd.C_drew ?_))); (case side4 => exact HC1.out); rintro e w7 ⟨rfl, hb⟩; refine ⟨_, rfl, ?_⟩; have n0_ := z05.mk (blk_below (g := gb144) (o := .cells #[.slice A0_0 l0_0.length c0_0, .int .i64 a0_1, .int .i64 a0_2, .int .i64 a0_3, .int .i64 a0_4] 24 (0, 0)) (by (with_reducible repeat (first | refine z07 ?_ _ | refine z08 ?_ | refine z06 ?_ _)); exact BK144.out) hb); have n1_ := z05.mk (below_step (by repeat (first | (with_reducible first | exact HB.out | apply z02 | apply z00 | apply z03 | refine z09 ?_ GE144.out) | exact HB.out)) hb); clear BK144; clear HB; have BK144 := n0_; have HB := n1_; clear n0_ n1_; (try clear hb); (try clear hb2); (try clear hk); (try clear hi); have hcz8_0 : w7.cell? ⟨gb144, 0, none⟩ = some (.slice A0_0 l0_0.length c0_0) := (z04 BK144.out 0).trans rfl; have hcz8_1 : w7.cell? ⟨gb144, 1, none⟩ = some (.int .i64 a0_1) := (z04 BK144.out 1).trans rfl; have hcz8_2 : w7.cell? ⟨gb144, 2, none⟩ = some (.int .i64 a0_2) := (z04 BK144.out 2).trans rfl; have hcz8_3 : w7.cell? ⟨gb144, 3, none⟩ = some (.int .i64 a0_3) := (z04 BK144.out 3).trans rfl; have hcz8_4 : w7.cell? ⟨gb144, 4, none⟩ = some (.int .i64 a0_4) := (z04 BK144.out 4).trans rfl; have hfz8_0 := z01 BK144.out 0; have hfz8_1 := z01 BK144.out 1; have hfz8_2 := z01 BK144.out 2; have hfz8_3 := z01 BK144.out 3; have hfz8_4 := z01 BK144.out 4))
    go_loopg [6, 17] k (fun kq v6 v17 w' => ∃ (x6_1 : List Int) (x17_1 : Int), v17 = .int .i64 x17_1 ∧ z05 (schema_Encode.l0 kq l1 x6_1 l0_0 (l0_0.length : Int) x17_1 = some (r1, r2)) ∧ z05 (kq ≤ k) ∧ z05 (Kd.R (Kd.int .u8) 5 w' w.heap.size (fun _ => True) v6 x6_1) ∧ z05 (w'.heap[gb144]? = some (.cells #[(.slice A0_0 l0_0.length c0_0), .int .i64 a0_1, .int .i64 a0_2, .int .i64 a0_3, .int .i64 a0_4] 24 (0, 0))) ∧ z05 (Below w.heap.size w w'))
    case atStart => exact ⟨(([] : List Int)), (0), (by first | rfl | (simp; done) | (simp [*]; done)), H', ⟨Nat.le_refl _⟩, ⟨by first | exact Kd.R_nil _ _ _ _ _ | exact Kd.N_nil _ _ _ _ _ | exact Kd.V_nil _ _ _ _ _ | exact Kd.Q_nil _ _ _ _ _ | exact Kd.S_nil _ _ _ _ _⟩, ⟨by (with_reducible repeat (first | refine z07 ?_ _ | refine z08 ?_ | refine z06 ?_ _)); exact BK144.out⟩, ⟨by repeat (first | (with_reducible first | exact HB.out | apply z02 | apply z00 | apply z03 | refine z09 ?_ GE144.out) | exact HB.out)⟩⟩
    case round =>
      clear H'
      try clear c1
      try clear p2
      try clear c4
      try clear hcz6_0
      try clear hcz6_1
      try clear hcz6_2
      try clear hcz6_3
      try clear hcz6_4
      try clear hcz8_0
      try clear hcz8_1
      try clear hcz8_2
      try clear hcz8_3
      try clear hcz8_4
      try clear hfz6_0
      try clear hfz6_1
      try clear hfz6_2
      try clear hfz6_3
      try clear hfz6_4
      try clear hfz8_0
      try clear hfz8_1
      try clear hfz8_2
      try clear hfz8_3
      try clear hfz8_4
      obtain ⟨x6_1, x17_1, rfl, HA, HK1, HO_6, BK144, HB⟩ := hrel
      cases gk with
      | zero => exact absurd HA.out (by simp [schema_Encode.l0])
      | succ k1 =>
        have H := HA.out
        clear HA
        simp only [schema_Encode.l0] at H
        by_cases c9 : x17_1 < (l0_0.length : Int)
        · rw [if_pos c9] at H
          have c9b0 : decide (x17_1 < (l0_0.length : Int)) = true := decide_eq_true c9
          clear c9
          by_cases c10 : 0 ≤ x17_1
          · rw [if_pos c10] at H
            have c10b0 : decide (0 ≤ x17_1) = true := decide_eq_true c10
            clear c10
            by_cases c11 : x17_1 < (l0_0.length : Int)
            · rw [if_pos c11] at H
              have c11b0 : decide (x17_1 < (l0_0.length : Int)) = true := decide_eq_true c11
              clear c11
              by_cases c12 : x17_1 < (l1.length : Int)
              · rw [if_pos c12] at H
                have c12b0 : decide (x17_1 < (l1.length : Int)) = true := decide_eq_true c12
                clear c12
                have HC13 := z05.mk H
                clear H
                have p146 : 0 ≤ (x17_1 : Int) := of_decide_eq_true (by first | (with_reducible assumption) | assumption)
                have q146 : x17_1 < (l0_0.length : Int) := of_decide_eq_true (by first | (with_reducible assumption) | assumption)
                obtain ⟨ad146, e146, hx146_0, hx146_1, hx146_2⟩ := at_T48 HR0_0.out x17_1 p146 q146
                cases e146
                replace hx146_0 := (HB.out.cell (World.block_lt_of_cell? w _ hx146_0)).trans hx146_0
                replace hx146_1 := (HB.out.cell (World.block_lt_of_cell? w _ hx146_1)).trans hx146_1
                replace hx146_2 := (HB.out.cell (World.block_lt_of_cell? w _ hx146_2)).trans hx146_2
                replace p146 := eq_true p146
                replace q146 := eq_true q146
                go_upto_region 8 with (first | ((with_reducible refine gate_dst (N := 8) rfl ?_); refine box_event ?hg (N := 8) ?hd (cs := #[.string (⟨#[]⟩ : ByteArray), .int .i64 0, .bool false]) (t := 48) ?hr ?_; (case hd => rfl); (case hg => rfl); (case hr => first | (go_simp; done) | (go_simp; rfl)); intro gb147 hg w14 hbox hb; have n0_ := z05.mk (Kd.R_below (by (with_reducible repeat (first | apply Kd.R_alloc | apply Kd.R_drewN | apply Kd.R_drew)); exact HO_6.out) hb); have n1_ := z05.mk (blk_below (g := gb144) (o := .cells #[.slice (some ad146) l0_0.length c0_0, .int .i64 a0_1, .int .i64 a0_2, .int .i64 a0_3, .int .i64 a0_4] 24 (0, 0)) (by (with_reducible repeat (first | refine z07 ?_ _ | refine z08 ?_ | refine z06 ?_ _)); exact BK144.out) hb); have n2_ := z05.mk (below_step (by repeat (first | (with_reducible first | exact HB.out | apply z02 | apply z00 | apply z03 | refine z09 ?_ GE144.out) | exact HB.out)) hb); have n3_ := z05.mk (hbox); have n4_ := z05.mk ((by rw [hg]; exact (below_size (by repeat (first | (with_reducible first | exact HB.out | apply z02 | apply z00 | apply z03 | refine z09 ?_ GE144.out) | exact HB.out))) : w.heap.size ≤ gb147)); have n5_ := z05.mk ((by rw [hg]; exact (below_size (by repeat (first | (with_reducible first | exact HB.out | apply z02 | apply z00 | apply z03 | refine z09 ?_ GE144.out) | exact HB.out))) : w.heap.size ≤ gb147)); have n6_ := z05.mk ((by rw [hg]; exact Nat.ne_of_lt (blk_lt (g := gb144) (o := .cells #[.slice (some ad146) l0_0.length c0_0, .int .i64 a0_1, .int .i64 a0_2, .int .i64 a0_3, .int .i64 a0_4] 24 (0, 0)) (by (with_reducible repeat (first | refine z07 ?_ _ | refine z08 ?_ | refine z06 ?_ _)); exact BK144.out)) : gb144 ≠ gb147)); have n7_ := z05.mk ((by rw [hg]; exact Nat.ne_of_gt (blk_lt (g := gb144) (o := .cells #[.slice (some ad146) l0_0.length c0_0, .int .i64 a0_1, .int .i64 a0_2, .int .i64 a0_3, .int .i64 a0_4] 24 (0, 0)) (by (with_reducible repeat (first | refine z07 ?_ _ | refine z08 ?_ | refine z06 ?_ _)); exact BK144.out)) : gb147 ≠ gb144)); clear HO_6; clear BK144; clear HB; have HO_6 := n0_; have BK144 := n1_; have HB := n2_; have BK147 := n3_; have GW147 := n4_; have GE147 := n5_; have NB144_147 := n6_; have NB147_144 := n7_; clear n0_ n1_ n2_ n3_ n4_ n5_ n6_ n7_; clear hb hbox hg; have hnb15 := NB147_144.out; have hnc15 := NB144_147.out; have hcz16_0 : w14.cell? ⟨gb147, 0, none⟩ = some (.string (⟨#[]⟩ : ByteArray)) := (z04 BK147.out 0).trans rfl; have hcz16_1 : w14.cell? ⟨gb147, 1, none⟩ = some (.int .i64 0) := (z04 BK147.out 1).trans rfl; have hcz16_2 : w14.cell? ⟨gb147, 2, none⟩ = some (.bool false) := (z04 BK147.out 2).trans rfl; have hfz16_0 := z01 BK147.out 0; have hfz16_1 := z01 BK147.out 1; have hfz16_2 := z01 BK147.out 2; have p148 : 0 ≤ (x17_1 : Int) := of_decide_eq_true (by first | (with_reducible assumption) | assumption); have q148 : x17_1 < (l1.length : Int) := of_decide_eq_true (by first | (with_reducible assumption) | assumption); obtain ⟨ad148, e148, hx148_0, hx148_1, hx148_2, hx148_3⟩ := at_T46 HR1.out x17_1 p148 q148; cases e148; have hn148_0 : ad148.block ≠ gb147 := Nat.ne_of_lt (Nat.lt_of_lt_of_le (by have := World.block_lt_of_cell? _ _ hx148_0; first | rwa [add_block] at this | exact this) GW147.out); have hn148_1 : ad148.block ≠ gb147 := Nat.ne_of_lt (Nat.lt_of_lt_of_le (by have := World.block_lt_of_cell? _ _ hx148_0; first | rwa [add_block] at this | exact this) GW147.out); have hn148_2 : ad148.block ≠ gb147 := Nat.ne_of_lt (Nat.lt_of_lt_of_le (by have := World.block_lt_of_cell? _ _ hx148_0; first | rwa [add_block] at this | exact this) GW147.out); replace hx148_0 := (HB.out.cell (World.block_lt_of_cell? w _ hx148_0)).trans hx148_0; replace hx148_1 := (HB.out.cell (World.block_lt_of_cell? w _ hx148_1)).trans hx148_1; replace hx148_2 := (HB.out.cell (World.block_lt_of_cell? w _ hx148_2)).trans hx148_2; replace hx148_3 := (HB.out.cell (World.block_lt_of_cell? w _ hx148_3)).trans hx148_3; replace hx148_0 := (cell_far (p := ⟨gb147, 0, none⟩) (by first | (rw [add_block]; exact hn148_0) | (show (Addr.add _ _).block ≠ _; rw [add_block]; exact hn148_0) | exact hn148_0) (.string ((rd_T48 l0_0 x17_1).f0))).trans hx148_0; replace hx148_1 := (cell_far (p := ⟨gb147, 0, none⟩) (by first | (rw [add_block]; exact hn148_0) | (show (Addr.add _ _).block ≠ _; rw [add_block]; exact hn148_0) | exact hn148_0) (.string ((rd_T48 l0_0 x17_1).f0))).trans hx148_1; replace hx148_2 := (cell_far (p := ⟨gb147, 0, none⟩) (by first | (rw [add_block]; exact hn148_0) | (show (Addr.add _ _).block ≠ _; rw [add_block]; exact hn148_0) | exact hn148_0) (.string ((rd_T48 l0_0 x17_1).f0))).trans hx148_2; replace hx148_3 := (cell_far (p := ⟨gb147, 0, none⟩) (by first | (rw [add_block]; exact hn148_0) | (show (Addr.add _ _).block ≠ _; rw [add_block]; exact hn148_0) | exact hn148_0) (.string ((rd_T48 l0_0 x17_1).f0))).trans hx148_3; replace hx148_0 := (cell_far (p := ⟨gb147, 1, none⟩) (by first | (rw [add_block]; exact hn148_1) | (show (Addr.add _ _).block ≠ _; rw [add_block]; exact hn148_1) | exact hn148_1) (.int .i64 ((rd_T48 l0_0 x17_1).f1))).trans hx148_0; replace hx148_1 := (cell_far (p := ⟨gb147, 1, none⟩) (by first | (rw [add_block]; exact hn148_1) | (show (Addr.add _ _).block ≠ _; rw [add_block]; exact hn148_1) | exact hn148_1) (.int .i64 ((rd_T48 l0_0 x17_1).f1))).trans hx148_1; replace hx148_2 := (cell_far (p := ⟨gb147, 1, none⟩) (by first | (rw [add_block]; exact hn148_1) | (show (Addr.add _ _).block ≠ _; rw [add_block]; exact hn148_1) | exact hn148_1) (.int .i64 ((rd_T48 l0_0 x17_1).f1))).trans hx148_2; replace hx148_3 := (cell_far (p := ⟨gb147, 1, none⟩) (by first | (rw [add_block]; exact hn148_1) | (show (Addr.add _ _).block ≠ _; rw [add_block]; exact hn148_1) | exact hn148_1) (.int .i64 ((rd_T48 l0_0 x17_1).f1))).trans hx148_3; replace hx148_0 := (cell_far (p := ⟨gb147, 2, none⟩) (by first | (rw [add_block]; exact hn148_2) | (show (Addr.add _ _).block ≠ _; rw [add_block]; exact hn148_2) | exact hn148_2) (.bool ((rd_T48 l0_0 x17_1).f2))).trans hx148_0; replace hx148_1 := (cell_far (p := ⟨gb147, 2, none⟩) (by first | (rw [add_block]; exact hn148_2) | (show (Addr.add _ _).block ≠ _; rw [add_block]; exact hn148_2) | exact hn148_2) (.bool ((rd_T48 l0_0 x17_1).f2))).trans hx148_1; replace hx148_2 := (cell_far (p := ⟨gb147, 2, none⟩) (by first | (rw [add_block]; exact hn148_2) | (show (Addr.add _ _).block ≠ _; rw [add_block]; exact hn148_2) | exact hn148_2) (.bool ((rd_T48 l0_0 x17_1).f2))).trans hx148_2; replace hx148_3 := (cell_far (p := ⟨gb147, 2, none⟩) (by first | (rw [add_block]; exact hn148_2) | (show (Addr.add _ _).block ≠ _; rw [add_block]; exact hn148_2) | exact hn148_2) (.bool ((rd_T48 l0_0 x17_1).f2))).trans hx148_3; clear hn148_0; clear hn148_1; clear hn148_2; replace p148 := eq_true p148; replace q148 := eq_true q148) | ((with_reducible refine gate_dst (N := 9) rfl ?_); refine box_event ?hg (N := 9) ?hd (cs := #[.int .i64 0, .int .i64 0, .string (⟨#[]⟩ : ByteArray), .bool false]) (t := 46) ?hr ?_; (case hd => rfl); (case hg => rfl); (case hr => first | (go_simp; done) | (go_simp; rfl)); intro gb149 hg w17 hbox hb; have n0_ := z05.mk (Kd.R_below (by (with_reducible repeat (first | apply Kd.R_alloc | apply Kd.R_drewN | apply Kd.R_drew)); exact (Kd.R_mono (Kd.R_far (p := ⟨gb147, 2, none⟩) (Kd.R_far (p := ⟨gb147, 1, none⟩) (Kd.R_far (p := ⟨gb147, 0, none⟩) (Kd.R_types HO_6.out BK147.out (by decide)) (fun _ hk => hk.2) (.string ((rd_T48 l0_0 x17_1).f0))) (fun _ hk => hk.2) (.int .i64 ((rd_T48 l0_0 x17_1).f1))) (fun _ hk => hk.2) (.bool ((rd_T48 l0_0 x17_1).f2))) (fun _ h_ => h_.1))) hb); have n1_ := z05.mk (blk_below (g := gb144) (o := .cells #[.slice (some ad146) l0_0.length c0_0, .int .i64 a0_1, .int .i64 a0_2, .int .i64 a0_3, .int .i64 a0_4] 24 (0, 0)) (by (with_reducible repeat (first | refine z07 ?_ _ | refine z08 ?_ | refine z06 ?_ _)); refine blk_far ?_ NB144_147.out _; (with_reducible repeat (first | refine z07 ?_ _ | refine z08 ?_ | refine z06 ?_ _)); refine blk_far ?_ NB144_147.out _; (with_reducible repeat (first | refine z07 ?_ _ | refine z08 ?_ | refine z06 ?_ _)); refine blk_far ?_ NB144_147.out _; (with_reducible repeat (first | refine z07 ?_ _ | refine z08 ?_ | refine z06 ?_ _)); exact BK144.out) hb); have n2_ := z05.mk (blk_below (g := gb147) (o := .cells #[.string ((rd_T48 l0_0 x17_1).f0), .int .i64 ((rd_T48 l0_0 x17_1).f1), .bool ((rd_T48 l0_0 x17_1).f2)] 48 (0, 0)) (by (with_reducible repeat (first | refine z07 ?_ _ | refine z08 ?_ | refine z06 ?_ _)); refine blk_put (cs := #[.string ((rd_T48 l0_0 x17_1).f0), .int .i64 ((rd_T48 l0_0 x17_1).f1), .bool false]) ?_ 2 _ rfl; (with_reducible repeat (first | refine z07 ?_ _ | refine z08 ?_ | refine z06 ?_ _)); refine blk_put (cs := #[.string ((rd_T48 l0_0 x17_1).f0), .int .i64 0, .bool false]) ?_ 1 _ rfl; (with_reducible repeat (first | refine z07 ?_ _ | refine z08 ?_ | refine z06 ?_ _)); refine blk_put (cs := #[.string (⟨#[]⟩ : ByteArray), .int .i64 0, .bool false]) ?_ 0 _ rfl; (with_reducible repeat (first | refine z07 ?_ _ | refine z08 ?_ | refine z06 ?_ _)); exact BK147.out) hb); have n3_ := z05.mk (below_step (by repeat (first | (with_reducible first | exact HB.out | apply z02 | apply z00 | apply z03 | refine z09 ?_ GE144.out | refine z09 ?_ GE147.out) | exact HB.out)) hb); have n4_ := z05.mk (hbox); have n5_ := z05.mk ((by rw [hg]; exact (below_size (by repeat (first | (with_reducible first | exact HB.out | apply z02 | apply z00 | apply z03 | refine z09 ?_ GE144.out | refine z09 ?_ GE147.out) | exact HB.out))) : w.heap.size ≤ gb149)); have n6_ := z05.mk ((by rw [hg]; exact (below_size (by repeat (first | (with_reducible first | exact HB.out | apply z02 | apply z00 | apply z03 | refine z09 ?_ GE144.out | refine z09 ?_ GE147.out) | exact HB.out))) : w.heap.size ≤ gb149)); have n7_ := z05.mk ((by rw [hg]; exact Nat.ne_of_lt (blk_lt (g := gb144) (o := .cells #[.slice (some ad146) l0_0.length c0_0, .int .i64 a0_1, .int .i64 a0_2, .int .i64 a0_3, .int .i64 a0_4] 24 (0, 0)) (by (with_reducible repeat (first | refine z07 ?_ _ | refine z08 ?_ | refine z06 ?_ _)); refine blk_far ?_ NB144_147.out _; (with_reducible repeat (first | refine z07 ?_ _ | refine z08 ?_ | refine z06 ?_ _)); refine blk_far ?_ NB144_147.out _; (with_reducible repeat (first | refine z07 ?_ _ | refine z08 ?_ | refine z06 ?_ _)); refine blk_far ?_ NB144_147.out _; (with_reducible repeat (first | refine z07 ?_ _ | refine z08 ?_ | refine z06 ?_ _)); exact BK144.out)) : gb144 ≠ gb149)); have n8_ := z05.mk ((by rw [hg]; exact Nat.ne_of_gt (blk_lt (g := gb144) (o := .cells #[.slice (some ad146) l0_0.length c0_0, .int .i64 a0_1, .int .i64 a0_2, .int .i64 a0_3, .int .i64 a0_4] 24 (0, 0)) (by (with_reducible repeat (first | refine z07 ?_ _ | refine z08 ?_ | refine z06 ?_ _)); refine blk_far ?_ NB144_147.out _; (with_reducible repeat (first | refine z07 ?_ _ | refine z08 ?_ | refine z06 ?_ _)); refine blk_far ?_ NB144_147.out _; (with_reducible repeat (first | refine z07 ?_ _ | refine z08 ?_ | refine z06 ?_ _)); refine blk_far ?_ NB144_147.out _; (with_reducible repeat (first | refine z07 ?_ _ | refine z08 ?_ | refine z06 ?_ _)); exact BK144.out)) : gb149 ≠ gb144)); have n9_ := z05.mk ((by rw [hg]; exact Nat.ne_of_lt (blk_lt (g := gb147) (o := .cells #[.string ((rd_T48 l0_0 x17_1).f0), .int .i64 ((rd_T48 l0_0 x17_1).f1), .bool ((rd_T48 l0_0 x17_1).f2)] 48 (0, 0)) (by (with_reducible repeat (first | refine z07 ?_ _ | refine z08 ?_ | refine z06 ?_ _)); refine blk_put (cs := #[.string ((rd_T48 l0_0 x17_1).f0), .int .i64 ((rd_T48 l0_0 x17_1).f1), .bool false]) ?_ 2 _ rfl; (with_reducible repeat (first | refine z07 ?_ _ | refine z08 ?_ | refine z06 ?_ _)); refine blk_put (cs := #[.string ((rd_T48 l0_0 x17_1).f0), .int .i64 0, .bool false]) ?_ 1 _ rfl; (with_reducible repeat (first | refine z07 ?_ _ | refine z08 ?_ | refine z06 ?_ _)); refine blk_put (cs := #[.string (⟨#[]⟩ : ByteArray), .int .i64 0, .bool false]) ?_ 0 _ rfl; (with_reducible repeat (first | refine z07 ?_ _ | refine z08 ?_ | refine z06 ?_ _)); exact BK147.out)) : gb147 ≠ gb149)); have n10_ := z05.mk ((by rw [hg]; exact Nat.ne_of_gt (blk_lt (g := gb147) (o := .cells #[.string ((rd_T48 l0_0 x17_1).f0), .int .i64 ((rd_T48 l0_0 x17_1).f1), .bool ((rd_T48 l0_0 x17_1).f2)] 48 (0, 0)) (by (with_reducible repeat (first | refine z07 ?_ _ | refine z08 ?_ | refine z06 ?_ _)); refine blk_put (cs := #[.string ((rd_T48 l0_0 x17_1).f0), .int .i64 ((rd_T48 l0_0 x17_1).f1), .bool false]) ?_ 2 _ rfl; (with_reducible repeat (first | refine z07 ?_ _ | refine z08 ?_ | refine z06 ?_ _)); refine blk_put (cs := #[.string ((rd_T48 l0_0 x17_1).f0), .int .i64 0, .bool false]) ?_ 1 _ rfl; (with_reducible repeat (first | refine z07 ?_ _ | refine z08 ?_ | refine z06 ?_ _)); refine blk_put (cs := #[.string (⟨#[]⟩ : ByteArray), .int .i64 0, .bool false]) ?_ 0 _ rfl; (with_reducible repeat (first | refine z07 ?_ _ | refine z08 ?_ | refine z06 ?_ _)); exact BK147.out)) : gb149 ≠ gb147)); clear HO_6; clear BK144; clear BK147; clear HB; have HO_6 := n0_; have BK144 := n1_; have BK147 := n2_; have HB := n3_; have BK149 := n4_; have GW149 := n5_; have GE149 := n6_; have NB144_149 := n7_; have NB149_144 := n8_; have NB147_149 := n9_; have NB149_147 := n10_; clear n0_ n1_ n2_ n3_ n4_ n5_ n6_ n7_ n8_ n9_ n10_; clear hb hbox hg; have hnb18 := NB149_144.out; have hnc18 := NB144_149.out; have hnb19 := NB149_147.out; have hnc19 := NB147_149.out; have hcz20_0 : w17.cell? ⟨gb149, 0, none⟩ = some (.int .i64 0) := (z04 BK149.out 0).trans rfl; have hcz20_1 : w17.cell? ⟨gb149, 1, none⟩ = some (.int .i64 0) := (z04 BK149.out 1).trans rfl; have hcz20_2 : w17.cell? ⟨gb149, 2, none⟩ = some (.string (⟨#[]⟩ : ByteArray)) := (z04 BK149.out 2).trans rfl; have hcz20_3 : w17.cell? ⟨gb149, 3, none⟩ = some (.bool false) := (z04 BK149.out 3).trans rfl; have hfz20_0 := z01 BK149.out 0; have hfz20_1 := z01 BK149.out 1; have hfz20_2 := z01 BK149.out 2; have hfz20_3 := z01 BK149.out 3))
                (try simp only [Act.put, List.setIfInBounds_toArray, List.set_cons_zero, List.set_cons_succ])
                go_cut [26] (fun v26 wc => ∃ (kq : Nat) (x26_12 : Bool), v26 = .bool x26_12 ∧ z05 (schema_Encode.j1 kq l1 x6_1 l0_0 (l0_0.length : Int) x17_1 x26_12 ((rd_T48 l0_0 x17_1).f0) ((rd_T48 l0_0 x17_1).f1) ((rd_T48 l0_0 x17_1).f2) ((rd_T46 l1 x17_1).f0) ((rd_T46 l1 x17_1).f1) ((rd_T46 l1 x17_1).f2) ((rd_T46 l1 x17_1).f3) = some (r1, r2)) ∧ z05 (kq ≤ k1) ∧ z05 (Kd.R (Kd.int .u8) 5 wc w.heap.size (fun _ => True) u6 x6_1) ∧ z05 (wc.heap[gb144]? = some (.cells #[(.slice (some ad146) l0_0.length c0_0), .int .i64 a0_1, .int .i64 a0_2, .int .i64 a0_3, .int .i64 a0_4] 24 (0, 0))) ∧ z05 (wc.heap[gb147]? = some (.cells #[.string ((rd_T48 l0_0 x17_1).f0), .int .i64 ((rd_T48 l0_0 x17_1).f1), .bool ((rd_T48 l0_0 x17_1).f2)] 48 (0, 0))) ∧ z05 (wc.heap[gb149]? = some (.cells #[.int .i64 ((rd_T46 l1 x17_1).f0), .int .i64 ((rd_T46 l1 x17_1).f1), .string ((rd_T46 l1 x17_1).f2), .bool ((rd_T46 l1 x17_1).f3)] 46 (0, 0))) ∧ z05 (Below w.heap.size w wc))
                case first =>
                  have H := HC13.out
                  clear HC13
                  obtain ⟨bq21, hbq21⟩ : ∃ b_ : Bool, b_ = ((rd_T48 l0_0 x17_1).f2) := ⟨_, rfl⟩
                  replace H : (if bq21 = true then (schema_Encode.j1 k1 l1 x6_1 l0_0 (l0_0.length : Int) x17_1 (((rd_T46 l1 x17_1).f0) == 0) ((rd_T48 l0_0 x17_1).f0) ((rd_T48 l0_0 x17_1).f1) bq21 ((rd_T46 l1 x17_1).f0) ((rd_T46 l1 x17_1).f1) ((rd_T46 l1 x17_1).f2) ((rd_T46 l1 x17_1).f3)) else (schema_Encode.j1 k1 l1 x6_1 l0_0 (l0_0.length : Int) x17_1 false ((rd_T48 l0_0 x17_1).f0) ((rd_T48 l0_0 x17_1).f1) bq21 ((rd_T46 l1 x17_1).f0) ((rd_T46 l1 x17_1).f1) ((rd_T46 l1 x17_1).f2) ((rd_T46 l1 x17_1).f3))) = some (r1, r2) := by rw [← hbq21] at H; exact H
                  have Nbq21 := z05.mk hbq21
                  clear hbq21
                  (try rw [← Nbq21.out])
                  by_cases c22 : bq21 = true
                  · subst c22
                    have H1 : (schema_Encode.j1 k1 l1 x6_1 l0_0 (l0_0.length : Int) x17_1 (((rd_T46 l1 x17_1).f0) == 0) ((rd_T48 l0_0 x17_1).f0) ((rd_T48 l0_0 x17_1).f1) true ((rd_T46 l1 x17_1).f0) ((rd_T46 l1 x17_1).f1) ((rd_T46 l1 x17_1).f2) ((rd_T46 l1 x17_1).f3)) = some (r1, r2) := by rw [if_pos rfl] at H; exact H
                    clear H
                    have H := H1
                    clear H1
                    have H' := z05.mk H
                    clear H
                    have hnb23 := NB147_144.out
                    have hnc23 := NB144_147.out
                    have hnb24 := NB147_149.out
                    have hnc24 := NB149_147.out
                    have hcz25_0 : w17.cell? ⟨gb147, 0, none⟩ = some (.string ((rd_T48 l0_0 x17_1).f0)) := (z04 BK147.out 0).trans rfl
                    have hcz25_1 : w17.cell? ⟨gb147, 1, none⟩ = some (.int .i64 ((rd_T48 l0_0 x17_1).f1)) := (z04 BK147.out 1).trans rfl
                    have hcz25_2 : w17.cell? ⟨gb147, 2, none⟩ = some (.bool true) := (z04 BK147.out 2).trans (by first | rfl | (rw [Nbq21.out]; rfl))
                    have hfz25_0 := z01 BK147.out 0
                    have hfz25_1 := z01 BK147.out 1
                    have hfz25_2 := z01 BK147.out 2
                    have hnb26 := NB149_144.out
                    have hnc26 := NB144_149.out
                    have hcz27_0 : w17.cell? ⟨gb149, 0, none⟩ = some (.int .i64 0) := (z04 BK149.out 0).trans rfl
                    have hcz27_1 : w17.cell? ⟨gb149, 1, none⟩ = some (.int .i64 0) := (z04 BK149.out 1).trans rfl
                    have hcz27_2 : w17.cell? ⟨gb149, 2, none⟩ = some (.string (⟨#[]⟩ : ByteArray)) := (z04 BK149.out 2).trans rfl
                    have hcz27_3 : w17.cell? ⟨gb149, 3, none⟩ = some (.bool false) := (z04 BK149.out 3).trans (by first | rfl | (rw [Nbq21.out]; rfl))
                    have hfz27_0 := z01 BK149.out 0
                    have hfz27_1 := z01 BK149.out 1
                    have hfz27_2 := z01 BK149.out 2
                    have hfz27_3 := z01 BK149.out 3
                    go_wp2
                    go_meet
                    case rel => exact ⟨_, ((((rd_T46 l1 x17_1).f0) == 0)), (by first | rfl | (simp; done) | (simp [*]; done)), (by first | exact H' | (rw [← Nbq21.out]; exact H')), ⟨by have := HK1.out; first | omega | exact Nat.le_refl _⟩, ⟨by (with_reducible repeat (first | apply Kd.R_alloc | apply Kd.R_drewN | apply Kd.R_drew)); exact Kd.R_mono (Kd.R_far (p := ⟨gb149, 3, none⟩) (Kd.R_far (p := ⟨gb149, 2, none⟩) (Kd.R_far (p := ⟨gb149, 1, none⟩) (Kd.R_far (p := ⟨gb149, 0, none⟩) (Kd.R_types HO_6.out BK149.out (by decide)) (fun _ hk => hk.2) (.int .i64 ((rd_T46 l1 x17_1).f0))) (fun _ hk => hk.2) (.int .i64 ((rd_T46 l1 x17_1).f1))) (fun _ hk => hk.2) (.string ((rd_T46 l1 x17_1).f2))) (fun _ hk => hk.2) (.bool ((rd_T46 l1 x17_1).f3))) (fun _ hk => trivial)⟩, ⟨by (with_reducible repeat (first | refine z07 ?_ _ | refine z08 ?_ | refine z06 ?_ _)); refine blk_far ?_ NB144_149.out _; (with_reducible repeat (first | refine z07 ?_ _ | refine z08 ?_ | refine z06 ?_ _)); refine blk_far ?_ NB144_149.out _; (with_reducible repeat (first | refine z07 ?_ _ | refine z08 ?_ | refine z06 ?_ _)); refine blk_far ?_ NB144_149.out _; (with_reducible repeat (first | refine z07 ?_ _ | refine z08 ?_ | refine z06 ?_ _)); refine blk_far ?_ NB144_149.out _; (with_reducible repeat (first | refine z07 ?_ _ | refine z08 ?_ | refine z06 ?_ _)); exact BK144.out⟩, ⟨by (with_reducible repeat (first | refine z07 ?_ _ | refine z08 ?_ | refine z06 ?_ _)); refine blk_far ?_ NB147_149.out _; (with_reducible repeat (first | refine z07 ?_ _ | refine z08 ?_ | refine z06 ?_ _)); refine blk_far ?_ NB147_149.out _; (with_reducible repeat (first | refine z07 ?_ _ | refine z08 ?_ | refine z06 ?_ _)); refine blk_far ?_ NB147_149.out _; (with_reducible repeat (first | refine z07 ?_ _ | refine z08 ?_ | refine z06 ?_ _)); refine blk_far ?_ NB147_149.out _; (with_reducible repeat (first | refine z07 ?_ _ | refine z08 ?_ | refine z06 ?_ _)); exact BK147.out⟩, ⟨by (with_reducible repeat (first | refine z07 ?_ _ | refine z08 ?_ | refine z06 ?_ _)); refine blk_put (cs := #[.int .i64 ((rd_T46 l1 x17_1).f0), .int .i64 ((rd_T46 l1 x17_1).f1), .string ((rd_T46 l1 x17_1).f2), .bool false]) ?_ 3 _ rfl; (with_reducible repeat (first | refine z07 ?_ _ | refine z08 ?_ | refine z06 ?_ _)); refine blk_put (cs := #[.int .i64 ((rd_T46 l1 x17_1).f0), .int .i64 ((rd_T46 l1 x17_1).f1), .string (⟨#[]⟩ : ByteArray), .bool false]) ?_ 2 _ rfl; (with_reducible repeat (first | refine z07 ?_ _ | refine z08 ?_ | refine z06 ?_ _)); refine blk_put (cs := #[.int .i64 ((rd_T46 l1 x17_1).f0), .int .i64 0, .string (⟨#[]⟩ : ByteArray), .bool false]) ?_ 1 _ rfl; (with_reducible repeat (first | refine z07 ?_ _ | refine z08 ?_ | refine z06 ?_ _)); refine blk_put (cs := #[.int .i64 0, .int .i64 0, .string (⟨#[]⟩ : ByteArray), .bool false]) ?_ 0 _ rfl; (with_reducible repeat (first | refine z07 ?_ _ | refine z08 ?_ | refine z06 ?_ _)); exact BK149.out⟩, ⟨by repeat (first | (with_reducible first | exact HB.out | apply z02 | apply z00 | apply z03 | refine z09 ?_ GE144.out | refine z09 ?_ GE147.out | refine z09 ?_ GE149.out) | exact HB.out)⟩⟩
                  · replace c22 := Bool.eq_false_iff.mpr c22
                    subst c22
                    have H1 : (schema_Encode.j1 k1 l1 x6_1 l0_0 (l0_0.length : Int) x17_1 false ((rd_T48 l0_0 x17_1).f0) ((rd_T48 l0_0 x17_1).f1) false ((rd_T46 l1 x17_1).f0) ((rd_T46 l1 x17_1).f1) ((rd_T46 l1 x17_1).f2) ((rd_T46 l1 x17_1).f3)) = some (r1, r2) := by rw [if_neg (show ¬ (false = true) by decide)] at H; exact H
                    clear H
                    have H := H1
                    clear H1
                    have H' := z05.mk H
                    clear H
                    have hnb28 := NB147_144.out
                    have hnc28 := NB144_147.out
                    have hnb29 := NB147_149.out
                    have hnc29 := NB149_147.out
                    have hcz30_0 : w17.cell? ⟨gb147, 0, none⟩ = some (.string ((rd_T48 l0_0 x17_1).f0)) := (z04 BK147.out 0).trans rfl
                    have hcz30_1 : w17.cell? ⟨gb147, 1, none⟩ = some (.int .i64 ((rd_T48 l0_0 x17_1).f1)) := (z04 BK147.out 1).trans rfl
                    have hcz30_2 : w17.cell? ⟨gb147, 2, none⟩ = some (.bool false) := (z04 BK147.out 2).trans (by first | rfl | (rw [Nbq21.out]; rfl))
                    have hfz30_0 := z01 BK147.out 0
                    have hfz30_1 := z01 BK147.out 1
                    have hfz30_2 := z01 BK147.out 2
                    go_wp2
                    go_meet
                    case rel => exact ⟨_, (false), (by first | rfl | (simp; done) | (simp [*]; done)), (by first | exact H' | (rw [← Nbq21.out]; exact H')), ⟨by have := HK1.out; first | omega | exact Nat.le_refl _⟩, ⟨by (with_reducible repeat (first | apply Kd.R_alloc | apply Kd.R_drewN | apply Kd.R_drew)); exact Kd.R_mono (Kd.R_far (p := ⟨gb149, 3, none⟩) (Kd.R_far (p := ⟨gb149, 2, none⟩) (Kd.R_far (p := ⟨gb149, 1, none⟩) (Kd.R_far (p := ⟨gb149, 0, none⟩) (Kd.R_types HO_6.out BK149.out (by decide)) (fun _ hk => hk.2) (.int .i64 ((rd_T46 l1 x17_1).f0))) (fun _ hk => hk.2) (.int .i64 ((rd_T46 l1 x17_1).f1))) (fun _ hk => hk.2) (.string ((rd_T46 l1 x17_1).f2))) (fun _ hk => hk.2) (.bool ((rd_T46 l1 x17_1).f3))) (fun _ hk => trivial)⟩, ⟨by (with_reducible repeat (first | refine z07 ?_ _ | refine z08 ?_ | refine z06 ?_ _)); refine blk_far ?_ NB144_149.out _; (with_reducible repeat (first | refine z07 ?_ _ | refine z08 ?_ | refine z06 ?_ _)); refine blk_far ?_ NB144_149.out _; (with_reducible repeat (first | refine z07 ?_ _ | refine z08 ?_ | refine z06 ?_ _)); refine blk_far ?_ NB144_149.out _; (with_reducible repeat (first | refine z07 ?_ _ | refine z08 ?_ | refine z06 ?_ _)); refine blk_far ?_ NB144_149.out _; (with_reducible repeat (first | refine z07 ?_ _ | refine z08 ?_ | refine z06 ?_ _)); exact BK144.out⟩, ⟨by (with_reducible repeat (first | refine z07 ?_ _ | refine z08 ?_ | refine z06 ?_ _)); refine blk_far ?_ NB147_149.out _; (with_reducible repeat (first | refine z07 ?_ _ | refine z08 ?_ | refine z06 ?_ _)); refine blk_far ?_ NB147_149.out _; (with_reducible repeat (first | refine z07 ?_ _ | refine z08 ?_ | refine z06 ?_ _)); refine blk_far ?_ NB147_149.out _; (with_reducible repeat (first | refine z07 ?_ _ | refine z08 ?_ | refine z06 ?_ _)); refine blk_far ?_ NB147_149.out _; (with_reducible repeat (first | refine z07 ?_ _ | refine z08 ?_ | refine z06 ?_ _)); exact BK147.out⟩, ⟨by (with_reducible repeat (first | refine z07 ?_ _ | refine z08 ?_ | refine z06 ?_ _)); refine blk_put (cs := #[.int .i64 ((rd_T46 l1 x17_1).f0), .int .i64 ((rd_T46 l1 x17_1).f1), .string ((rd_T46 l1 x17_1).f2), .bool false]) ?_ 3 _ rfl; (with_reducible repeat (first | refine z07 ?_ _ | refine z08 ?_ | refine z06 ?_ _)); refine blk_put (cs := #[.int .i64 ((rd_T46 l1 x17_1).f0), .int .i64 ((rd_T46 l1 x17_1).f1), .string (⟨#[]⟩ : ByteArray), .bool false]) ?_ 2 _ rfl; (with_reducible repeat (first | refine z07 ?_ _ | refine z08 ?_ | refine z06 ?_ _)); refine blk_put (cs := #[.int .i64 ((rd_T46 l1 x17_1).f0), .int .i64 0, .string (⟨#[]⟩ : ByteArray), .bool false]) ?_ 1 _ rfl; (with_reducible repeat (first | refine z07 ?_ _ | refine z08 ?_ | refine z06 ?_ _)); refine blk_put (cs := #[.int .i64 0, .int .i64 0, .string (⟨#[]⟩ : ByteArray), .bool false]) ?_ 0 _ rfl; (with_reducible repeat (first | refine z07 ?_ _ | refine z08 ?_ | refine z06 ?_ _)); exact BK149.out⟩, ⟨by repeat (first | (with_reducible first | exact HB.out | apply z02 | apply z00 | apply z03 | refine z09 ?_ GE144.out | refine z09 ?_ GE147.out | refine z09 ?_ GE149.out) | exact HB.out)⟩⟩
                case rest =>
                  clear HC13
                  try clear c1
                  try clear p1
                  try clear q1
                  try clear hx1
                  try clear c2
                  try clear p2
                  try clear q2
                  try clear c4
                  try clear c9
                  try clear c9b0
                  try clear c10
                  try clear c10b0
                  try clear c11
                  try clear c11b0
                  try clear c12
                  try clear c12b0
                  try clear p14
                  try clear q14
                  try clear hx14
                  try clear c15
                  try clear c18
                  try clear c19
                  try clear q21
                  try clear c22
                  try clear c23
                  try clear c24
                  try clear c26
                  try clear c28
                  try clear c29
                  try clear hcz16_0
                  try clear hcz16_1
                  try clear hcz16_2
                  try clear hcz20_0
                  try clear hcz20_1
                  try clear hcz20_2
                  try clear hcz20_3
                  try clear hcz25_0
                  try clear hcz25_1
                  try clear hcz25_2
                  try clear hcz27_0
                  try clear hcz27_1
                  try clear hcz27_2
                  try clear hcz27_3
                  try clear hcz30_0
                  try clear hcz30_1
                  try clear hcz30_2
                  try clear hcz6_0
                  try clear hcz6_1
                  try clear hcz6_2
                  try clear hcz6_3
                  try clear hcz6_4
                  try clear hcz8_0
                  try clear hcz8_1
                  try clear hcz8_2
                  try clear hcz8_3
                  try clear hcz8_4
                  try clear hfz16_0
                  try clear hfz16_1
                  try clear hfz16_2
                  try clear hfz20_0
                  try clear hfz20_1
                  try clear hfz20_2
                  try clear hfz20_3
                  try clear hfz25_0
                  try clear hfz25_1
                  try clear hfz25_2
                  try clear hfz27_0
                  try clear hfz27_1
                  try clear hfz27_2
                  try clear hfz27_3
                  try clear hfz30_0
                  try clear hfz30_1
                  try clear hfz30_2
                  try clear hfz6_0
                  try clear hfz6_1
                  try clear hfz6_2
                  try clear hfz6_3
                  try clear hfz6_4
                  try clear hfz8_0
                  try clear hfz8_1
                  try clear hfz8_2
                  try clear hfz8_3
                  try clear hfz8_4
                  try clear hx146_0
                  try clear hx146_1
                  try clear hx146_2
                  try clear hx148_0
                  try clear hx148_1
                  try clear hx148_2
                  try clear hx148_3
                  try clear p146
                  try clear p148
                  try clear p2
                  try clear q146
                  try clear q148
                  obtain ⟨kq, x26_12, rfl, HA, HJ12, HO_6, BK144, BK147, BK149, HB⟩ := hcut
                  cases kq with
                  | zero => exact absurd HA.out (by simp [schema_Encode.j1])
                  | succ kj12 =>
                    have H := HA.out
                    clear HA
                    simp only [schema_Encode.j1] at H
                    by_cases c31 : x26_12 = true
                    · subst c31
                      have H1 : (if x6_1.length < 140737488355328 then (schema_Encode.l0 kj12 l1 (x6_1 ++ [0]) l0_0 (l0_0.length : Int) (wrap64 (x17_1 + 1))) else (none)) = some (r1, r2) := by rw [if_pos rfl] at H; exact H
                      clear H
                      have H := H1
                      clear H1
                      by_cases c32 : x6_1.length < 140737488355328
                      · rw [if_pos c32] at H
                        have LMc32 := z05.mk c32
                        clear c32
                        obtain ⟨y150, hy150⟩ : ∃ y_ : List Int, y_ = (x6_1 ++ [0]) := ⟨_, rfl⟩
                        replace H : (schema_Encode.l0 kj12 l1 y150 l0_0 (l0_0.length : Int) (wrap64 (x17_1 + 1))) = some (r1, r2) := by first | (rw [hy150]; with_reducible exact H) | (have H2_ := (Option.bind_some _ _).symm.trans H; rw [hy150]; with_reducible exact H2_) | (have H2_ := (Option.bind_some _ _).symm.trans H; with_reducible exact H2_) | with_reducible exact H | (rw [hy150]; exact H) | exact H
                        have Ny150 := z05.mk hy150
                        clear hy150
                        have H' := z05.mk H
                        clear H
                        go_wp2_with (first | ((with_reducible refine gate_builtin (b := .append) (xs := #[.tmp 34, .tmp 35]) rfl ?_); at_builtin; refine Kd.R_append (Kd.int .u8) (w0 := w) w.heap.size rfl (.tmp 34) (.tmp 35) 29 5 (.int .u8 0) 1 rfl Tryd.underlying29 info5 rfl (by decide) (by omega) u6 x6_1 0 [.int .u8 0] (fun _ => True) (fun _ => False) rfl rfl ?aP (fun _ hk => hk.elim) ?aF ?aO ?aB ?aS ?aL ?_; (case aP => exact rfl); (case aB => exact (by repeat (first | (with_reducible first | exact HB.out | apply z02 | apply z00 | apply z03 | refine z09 ?_ GE144.out | refine z09 ?_ GE147.out | refine z09 ?_ GE149.out) | exact HB.out))); (case aF => exact (fun _ _ => trivial)); (case aO => exact (by (with_reducible repeat (first | apply Kd.R_alloc | apply Kd.R_drewN | apply Kd.R_drew)); exact HO_6.out)); (case aS => exact (below_size (by repeat (first | (with_reducible first | exact HB.out | apply z02 | apply z00 | apply z03 | refine z09 ?_ GE144.out | refine z09 ?_ GE147.out | refine z09 ?_ GE149.out) | exact HB.out)))); (case aL => have := LMc32.out; omega); intro v151 w33 ho hb hg hat; rw [← Ny150.out] at ho; have n0_ := z05.mk (blk_grown (g := gb144) (o := .cells #[.slice (some ad146) l0_0.length c0_0, .int .i64 a0_1, .int .i64 a0_2, .int .i64 a0_3, .int .i64 a0_4] 24 (0, 0)) (by (with_reducible repeat (first | refine z07 ?_ _ | refine z08 ?_ | refine z06 ?_ _)); exact BK144.out) hg (Kd.R_ne HO_6.out BK144.out (by decide))); have n1_ := z05.mk (blk_grown (g := gb147) (o := .cells #[.string ((rd_T48 l0_0 x17_1).f0), .int .i64 ((rd_T48 l0_0 x17_1).f1), .bool ((rd_T48 l0_0 x17_1).f2)] 48 (0, 0)) (by (with_reducible repeat (first | refine z07 ?_ _ | refine z08 ?_ | refine z06 ?_ _)); exact BK147.out) hg (Kd.R_ne HO_6.out BK147.out (by decide))); have n2_ := z05.mk (blk_grown (g := gb149) (o := .cells #[.int .i64 ((rd_T46 l1 x17_1).f0), .int .i64 ((rd_T46 l1 x17_1).f1), .string ((rd_T46 l1 x17_1).f2), .bool ((rd_T46 l1 x17_1).f3)] 46 (0, 0)) (by (with_reducible repeat (first | refine z07 ?_ _ | refine z08 ?_ | refine z06 ?_ _)); exact BK149.out) hg (Kd.R_ne HO_6.out BK149.out (by decide))); have n3_ := z05.mk (hb); have n4_ := z05.mk (ho); clear BK144; clear BK147; clear BK149; clear HB; clear HO_6; have BK144 := n0_; have BK147 := n1_; have BK149 := n2_; have HB := n3_; have HO152 := n4_; clear n0_ n1_ n2_ n3_ n4_; clear ho hb hg hat))
                        go_roundg kj12
                        case measure => have := HK1.out; have := HJ12.out; omega
                        case rel => exact ⟨(y150), (wrap64 (x17_1 + 1)), (by first | rfl | (simp; done) | (simp [*]; done)), (by first | exact H' | (rw [← Nbq21.out]; exact H')), ⟨by have := HK1.out; have := HJ12.out; omega⟩, ⟨by (with_reducible repeat (first | apply Kd.R_alloc | apply Kd.R_drewN | apply Kd.R_drew)); exact HO152.out⟩, ⟨by (with_reducible repeat (first | refine z07 ?_ _ | refine z08 ?_ | refine z06 ?_ _)); exact BK144.out⟩, ⟨by repeat (first | (with_reducible first | exact HB.out | apply z02 | apply z00 | apply z03 | refine z09 ?_ GE144.out | refine z09 ?_ GE147.out | refine z09 ?_ GE149.out) | exact HB.out)⟩⟩
                      · rw [if_neg c32] at H
                        exact absurd H (by simp)
                    · replace c31 := Bool.eq_false_iff.mpr c31
                      subst c31
                      have H1 : (if ((rd_T48 l0_0 x17_1).f2) = true then (if x6_1.length < 140737488355328 then ((value_Put.f (x6_1 ++ [1]) ((rd_T46 l1 x17_1).f0) ((rd_T46 l1 x17_1).f1) ((rd_T46 l1 x17_1).f2) ((rd_T46 l1 x17_1).f3)).bind fun bt156 => (schema_Encode.l0 kj12 l1 bt156.1 l0_0 (l0_0.length : Int) (wrap64 (x17_1 + 1)))) else (none)) else ((value_Put.f x6_1 ((rd_T46 l1 x17_1).f0) ((rd_T46 l1 x17_1).f1) ((rd_T46 l1 x17_1).f2) ((rd_T46 l1 x17_1).f3)).bind fun bt160 => (schema_Encode.l0 kj12 l1 bt160.1 l0_0 (l0_0.length : Int) (wrap64 (x17_1 + 1))))) = some (r1, r2) := by rw [if_neg (show ¬ (false = true) by decide)] at H; exact H
                      clear H
                      have H := H1
                      clear H1
                      by_cases c34 : ((rd_T48 l0_0 x17_1).f2) = true
                      · rw [if_pos c34] at H
                        have c34b0 : ((rd_T48 l0_0 x17_1).f2) = true := c34
                        clear c34
                        by_cases c35 : x6_1.length < 140737488355328
                        · rw [if_pos c35] at H
                          have LMc35 := z05.mk c35
                          clear c35
                          obtain ⟨y153, hy153⟩ : ∃ y_ : List Int, y_ = (x6_1 ++ [1]) := ⟨_, rfl⟩
                          replace H : ((value_Put.f y153 ((rd_T46 l1 x17_1).f0) ((rd_T46 l1 x17_1).f1) ((rd_T46 l1 x17_1).f2) ((rd_T46 l1 x17_1).f3)).bind fun bt156 => (schema_Encode.l0 kj12 l1 bt156.1 l0_0 (l0_0.length : Int) (wrap64 (x17_1 + 1)))) = some (r1, r2) := by first | (rw [hy153]; with_reducible exact H) | (have H2_ := (Option.bind_some _ _).symm.trans H; rw [hy153]; with_reducible exact H2_) | (have H2_ := (Option.bind_some _ _).symm.trans H; with_reducible exact H2_) | with_reducible exact H | (rw [hy153]; exact H) | exact H
                          have Ny153 := z05.mk hy153
                          clear hy153
                          replace H := Option.bind_eq_some_iff.mp H
                          obtain ⟨⟨t156, t159⟩, A360, H⟩ := H
                          replace H : (schema_Encode.l0 kj12 l1 t156 l0_0 (l0_0.length : Int) (wrap64 (x17_1 + 1))) = some (r1, r2) := H
                          have A36 := z05.mk A360
                          clear A360
                          have H' := z05.mk H
                          clear H
                          have hnb37 := NB147_144.out
                          have hnc37 := NB144_147.out
                          have hnb38 := NB147_149.out
                          have hnc38 := NB149_147.out
                          have hcz39_0 : wc.cell? ⟨gb147, 0, none⟩ = some (.string ((rd_T48 l0_0 x17_1).f0)) := (z04 BK147.out 0).trans rfl
                          have hcz39_1 : wc.cell? ⟨gb147, 1, none⟩ = some (.int .i64 ((rd_T48 l0_0 x17_1).f1)) := (z04 BK147.out 1).trans rfl
                          have hcz39_2 : wc.cell? ⟨gb147, 2, none⟩ = some (.bool ((rd_T48 l0_0 x17_1).f2)) := (z04 BK147.out 2).trans rfl
                          have hfz39_0 := z01 BK147.out 0
                          have hfz39_1 := z01 BK147.out 1
                          have hfz39_2 := z01 BK147.out 2
                          go_wp2_with (first | ((with_reducible refine gate_builtin (b := .append) (xs := #[.tmp 40, .tmp 41]) rfl ?_); at_builtin; refine Kd.R_append (Kd.int .u8) (w0 := w) w.heap.size rfl (.tmp 40) (.tmp 41) 29 5 (.int .u8 0) 1 rfl Tryd.underlying29 info5 rfl (by decide) (by omega) u6 x6_1 1 [.int .u8 1] (fun _ => True) (fun _ => False) rfl rfl ?aP (fun _ hk => hk.elim) ?aF ?aO ?aB ?aS ?aL ?_; (case aP => exact rfl); (case aB => exact (by repeat (first | (with_reducible first | exact HB.out | apply z02 | apply z00 | apply z03 | refine z09 ?_ GE144.out | refine z09 ?_ GE147.out | refine z09 ?_ GE149.out) | exact HB.out))); (case aF => exact (fun _ _ => trivial)); (case aO => exact (by (with_reducible repeat (first | apply Kd.R_alloc | apply Kd.R_drewN | apply Kd.R_drew)); exact HO_6.out)); (case aS => exact (below_size (by repeat (first | (with_reducible first | exact HB.out | apply z02 | apply z00 | apply z03 | refine z09 ?_ GE144.out | refine z09 ?_ GE147.out | refine z09 ?_ GE149.out) | exact HB.out)))); (case aL => have := LMc35.out; omega); intro v154 w40 ho hb hg hat; rw [← Ny153.out] at ho; have n0_ := z05.mk (blk_grown (g := gb144) (o := .cells #[.slice (some ad146) l0_0.length c0_0, .int .i64 a0_1, .int .i64 a0_2, .int .i64 a0_3, .int .i64 a0_4] 24 (0, 0)) (by (with_reducible repeat (first | refine z07 ?_ _ | refine z08 ?_ | refine z06 ?_ _)); exact BK144.out) hg (Kd.R_ne HO_6.out BK144.out (by decide))); have n1_ := z05.mk (blk_grown (g := gb147) (o := .cells #[.string ((rd_T48 l0_0 x17_1).f0), .int .i64 ((rd_T48 l0_0 x17_1).f1), .bool ((rd_T48 l0_0 x17_1).f2)] 48 (0, 0)) (by (with_reducible repeat (first | refine z07 ?_ _ | refine z08 ?_ | refine z06 ?_ _)); exact BK147.out) hg (Kd.R_ne HO_6.out BK147.out (by decide))); have n2_ := z05.mk (blk_grown (g := gb149) (o := .cells #[.int .i64 ((rd_T46 l1 x17_1).f0), .int .i64 ((rd_T46 l1 x17_1).f1), .string ((rd_T46 l1 x17_1).f2), .bool ((rd_T46 l1 x17_1).f3)] 46 (0, 0)) (by (with_reducible repeat (first | refine z07 ?_ _ | refine z08 ?_ | refine z06 ?_ _)); exact BK149.out) hg (Kd.R_ne HO_6.out BK149.out (by decide))); have n3_ := z05.mk (hb); have n4_ := z05.mk (ho); clear BK144; clear BK147; clear BK149; clear HB; clear HO_6; have BK144 := n0_; have BK147 := n1_; have BK149 := n2_; have HB := n3_; have HO155 := n4_; clear n0_ n1_ n2_ n3_ n4_; clear ho hb hg hat; have hnb41 := NB149_144.out; have hnc41 := NB144_149.out; have hcz42_0 : w40.cell? ⟨gb149, 0, none⟩ = some (.int .i64 ((rd_T46 l1 x17_1).f0)) := (z04 BK149.out 0).trans rfl; have hcz42_1 : w40.cell? ⟨gb149, 1, none⟩ = some (.int .i64 ((rd_T46 l1 x17_1).f1)) := (z04 BK149.out 1).trans rfl; have hcz42_2 : w40.cell? ⟨gb149, 2, none⟩ = some (.string ((rd_T46 l1 x17_1).f2)) := (z04 BK149.out 2).trans rfl; have hcz42_3 : w40.cell? ⟨gb149, 3, none⟩ = some (.bool ((rd_T46 l1 x17_1).f3)) := (z04 BK149.out 3).trans rfl; have hfz42_0 := z01 BK149.out 0; have hfz42_1 := z01 BK149.out 1; have hfz42_2 := z01 BK149.out 2; have hfz42_3 := z01 BK149.out 3; obtain ⟨Ao43, co43, eo43⟩ := Kd.R_slice HO155.out; subst eo43) | ((with_reducible refine gate_callee (f := 24) rfl ?_); refine goesL_ (some 46) rfl rfl Tryd.func24 (by kernel_rfl) rfl #[.slice Ao43 y153.length co43, .agg #[.int .i64 ((rd_T46 l1 x17_1).f0), .int .i64 ((rd_T46 l1 x17_1).f1), .string ((rd_T46 l1 x17_1).f2), .bool ((rd_T46 l1 x17_1).f3)]] rfl (by (try simp only [List.map_toArray, List.map_cons, List.map_nil]); first | done | rfl | (simp only [List.length_drop, List.length_take]; rfl)) ?_; (with_reducible refine (value_Put.calls (fun k_ => some k_ = (.slice Ao43 y153.length co43 : Value).ownBlock) (.slice Ao43 y153.length co43) y153 ((rd_T46 l1 x17_1).f0) ((rd_T46 l1 x17_1).f1) ((rd_T46 l1 x17_1).f2) ((rd_T46 l1 x17_1).f3) t156 t159 w _ ?side1 ?side2 A36.out).mono ?_); (case side1 => repeat (first | (with_reducible first | exact HB.out | apply z02 | apply z00 | apply z03 | refine z09 ?_ GE144.out | refine z09 ?_ GE147.out | refine z09 ?_ GE149.out) | exact HB.out)); (case side2 => exact Kd.R_tight rfl HO155.out); rintro e w44 ⟨v157, rfl, ho0, hb, hkp⟩; refine ⟨_, rfl, ?_⟩; have n0_ := z05.mk (blk_kept (by (with_reducible repeat (first | refine z07 ?_ _ | refine z08 ?_ | refine z06 ?_ _)); exact BK144.out) hkp (fun hs_ => (fun e_ => (Kd.R_ne HO155.out BK144.out (by decide)) e_) hs_)); have n1_ := z05.mk (blk_kept (by (with_reducible repeat (first | refine z07 ?_ _ | refine z08 ?_ | refine z06 ?_ _)); exact BK147.out) hkp (fun hs_ => (fun e_ => (Kd.R_ne HO155.out BK147.out (by decide)) e_) hs_)); have n2_ := z05.mk (blk_kept (by (with_reducible repeat (first | refine z07 ?_ _ | refine z08 ?_ | refine z06 ?_ _)); exact BK149.out) hkp (fun hs_ => (fun e_ => (Kd.R_ne HO155.out BK149.out (by decide)) e_) hs_)); have n3_ := z05.mk (Kd.R_mono (ok' := fun k_ => True) ho0 (fun k_ hk_ => trivial)); have n4_ := z05.mk (hb); clear BK144; clear BK147; clear BK149; clear HB; clear HO155; have BK144 := n0_; have BK147 := n1_; have BK149 := n2_; have HO158 := n3_; have HB := n4_; clear n0_ n1_ n2_ n3_ n4_; (try clear hb); (try clear hkp); (try clear ho0)))
                          go_roundg kj12
                          case measure => have := HK1.out; have := HJ12.out; omega
                          case rel => exact ⟨(t156), (wrap64 (x17_1 + 1)), (by first | rfl | (simp; done) | (simp [*]; done)), (by first | exact H' | (rw [← Nbq21.out]; exact H')), ⟨by have := HK1.out; have := HJ12.out; omega⟩, ⟨by (with_reducible repeat (first | apply Kd.R_alloc | apply Kd.R_drewN | apply Kd.R_drew)); exact HO158.out⟩, ⟨by (with_reducible repeat (first | refine z07 ?_ _ | refine z08 ?_ | refine z06 ?_ _)); exact BK144.out⟩, ⟨by repeat (first | (with_reducible first | exact HB.out | apply z02 | apply z00 | apply z03 | refine z09 ?_ GE144.out | refine z09 ?_ GE147.out | refine z09 ?_ GE149.out) | exact HB.out)⟩⟩
                        · rw [if_neg c35] at H
                          exact absurd H (by simp)
                      · rw [if_neg c34] at H
                        have c34b0 : ((rd_T48 l0_0 x17_1).f2) = false := by simpa using c34
                        clear c34
                        replace H := Option.bind_eq_some_iff.mp H
                        obtain ⟨⟨t160, t163⟩, A450, H⟩ := H
                        replace H : (schema_Encode.l0 kj12 l1 t160 l0_0 (l0_0.length : Int) (wrap64 (x17_1 + 1))) = some (r1, r2) := H
                        have A45 := z05.mk A450
                        clear A450
                        have H' := z05.mk H
                        clear H
                        have hnb46 := NB147_144.out
                        have hnc46 := NB144_147.out
                        have hnb47 := NB147_149.out
                        have hnc47 := NB149_147.out
                        have hcz48_0 : wc.cell? ⟨gb147, 0, none⟩ = some (.string ((rd_T48 l0_0 x17_1).f0)) := (z04 BK147.out 0).trans rfl
                        have hcz48_1 : wc.cell? ⟨gb147, 1, none⟩ = some (.int .i64 ((rd_T48 l0_0 x17_1).f1)) := (z04 BK147.out 1).trans rfl
                        have hcz48_2 : wc.cell? ⟨gb147, 2, none⟩ = some (.bool ((rd_T48 l0_0 x17_1).f2)) := (z04 BK147.out 2).trans rfl
                        have hfz48_0 := z01 BK147.out 0
                        have hfz48_1 := z01 BK147.out 1
                        have hfz48_2 := z01 BK147.out 2
                        have hnb49 := NB149_144.out
                        have hnc49 := NB144_149.out
                        have hcz50_0 : wc.cell? ⟨gb149, 0, none⟩ = some (.int .i64 ((rd_T46 l1 x17_1).f0)) := (z04 BK149.out 0).trans rfl
                        have hcz50_1 : wc.cell? ⟨gb149, 1, none⟩ = some (.int .i64 ((rd_T46 l1 x17_1).f1)) := (z04 BK149.out 1).trans rfl
                        have hcz50_2 : wc.cell? ⟨gb149, 2, none⟩ = some (.string ((rd_T46 l1 x17_1).f2)) := (z04 BK149.out 2).trans rfl
                        have hcz50_3 : wc.cell? ⟨gb149, 3, none⟩ = some (.bool ((rd_T46 l1 x17_1).f3)) := (z04 BK149.out 3).trans rfl
                        have hfz50_0 := z01 BK149.out 0
                        have hfz50_1 := z01 BK149.out 1
                        have hfz50_2 := z01 BK149.out 2
                        have hfz50_3 := z01 BK149.out 3
                        obtain ⟨Ao51, co51, eo51⟩ := Kd.R_slice HO_6.out
                        subst eo51
                        go_wp2_with (first | ((with_reducible refine gate_callee (f := 24) rfl ?_); refine goesL_ (some 46) rfl rfl Tryd.func24 (by kernel_rfl) rfl #[.slice Ao51 x6_1.length co51, .agg #[.int .i64 ((rd_T46 l1 x17_1).f0), .int .i64 ((rd_T46 l1 x17_1).f1), .string ((rd_T46 l1 x17_1).f2), .bool ((rd_T46 l1 x17_1).f3)]] rfl (by (try simp only [List.map_toArray, List.map_cons, List.map_nil]); first | done | rfl | (simp only [List.length_drop, List.length_take]; rfl)) ?_; (with_reducible refine (value_Put.calls (fun k_ => some k_ = (.slice Ao51 x6_1.length co51 : Value).ownBlock) (.slice Ao51 x6_1.length co51) x6_1 ((rd_T46 l1 x17_1).f0) ((rd_T46 l1 x17_1).f1) ((rd_T46 l1 x17_1).f2) ((rd_T46 l1 x17_1).f3) t160 t163 w _ ?side1 ?side2 A45.out).mono ?_); (case side1 => repeat (first | (with_reducible first | exact HB.out | apply z02 | apply z00 | apply z03 | refine z09 ?_ GE144.out | refine z09 ?_ GE147.out | refine z09 ?_ GE149.out) | exact HB.out)); (case side2 => exact Kd.R_tight rfl HO_6.out); rintro e w52 ⟨v161, rfl, ho0, hb, hkp⟩; refine ⟨_, rfl, ?_⟩; have n0_ := z05.mk (blk_kept (by (with_reducible repeat (first | refine z07 ?_ _ | refine z08 ?_ | refine z06 ?_ _)); exact BK144.out) hkp (fun hs_ => (fun e_ => (Kd.R_ne HO_6.out BK144.out (by decide)) e_) hs_)); have n1_ := z05.mk (blk_kept (by (with_reducible repeat (first | refine z07 ?_ _ | refine z08 ?_ | refine z06 ?_ _)); exact BK147.out) hkp (fun hs_ => (fun e_ => (Kd.R_ne HO_6.out BK147.out (by decide)) e_) hs_)); have n2_ := z05.mk (blk_kept (by (with_reducible repeat (first | refine z07 ?_ _ | refine z08 ?_ | refine z06 ?_ _)); exact BK149.out) hkp (fun hs_ => (fun e_ => (Kd.R_ne HO_6.out BK149.out (by decide)) e_) hs_)); have n3_ := z05.mk (Kd.R_mono (ok' := fun k_ => True) ho0 (fun k_ hk_ => trivial)); have n4_ := z05.mk (hb); clear BK144; clear BK147; clear BK149; clear HB; clear HO_6; have BK144 := n0_; have BK147 := n1_; have BK149 := n2_; have HO162 := n3_; have HB := n4_; clear n0_ n1_ n2_ n3_ n4_; (try clear hb); (try clear hkp); (try clear ho0)))
                        go_roundg kj12
                        case measure => have := HK1.out; have := HJ12.out; omega
                        case rel => exact ⟨(t160), (wrap64 (x17_1 + 1)), (by first | rfl | (simp; done) | (simp [*]; done)), (by first | exact H' | (rw [← Nbq21.out]; exact H')), ⟨by have := HK1.out; have := HJ12.out; omega⟩, ⟨by (with_reducible repeat (first | apply Kd.R_alloc | apply Kd.R_drewN | apply Kd.R_drew)); exact HO162.out⟩, ⟨by (with_reducible repeat (first | refine z07 ?_ _ | refine z08 ?_ | refine z06 ?_ _)); exact BK144.out⟩, ⟨by repeat (first | (with_reducible first | exact HB.out | apply z02 | apply z00 | apply z03 | refine z09 ?_ GE144.out | refine z09 ?_ GE147.out | refine z09 ?_ GE149.out) | exact HB.out)⟩⟩
              · rw [if_neg c12] at H
                exact absurd H (by simp)
            · rw [if_neg c11] at H
              exact absurd H (by simp)
          · rw [if_neg c10] at H
            exact absurd H (by simp)
        · rw [if_neg c9] at H
          have c9b0 : decide (x17_1 < (l0_0.length : Int)) = false := decide_eq_false c9
          clear c9
          simp only [Option.some.injEq, Prod.mk.injEq] at H
          obtain ⟨rfl, rfl⟩ := H
          go_wp2
          go_ret2
          exact ⟨_, by first | rfl | (simp [errW_none, errW_some] <;> rfl) | (refine congrArg (fun b_ : Bool => Ending.returned (Value.bool b_)) ?_; simp; done) | (simp [*, errW_none, errW_some] <;> rfl), by (with_reducible repeat (first | apply Kd.R_alloc | apply Kd.R_drewN | apply Kd.R_drew)); exact HO_6.out, by repeat (first | (with_reducible first | exact HB.out | apply z02 | apply z00 | apply z03 | refine z09 ?_ GE144.out) | exact HB.out)⟩
  · replace c4 := Bool.eq_false_iff.mpr c4
    subst c4
    have H1 : (some (([] : List Int), 1)) = some (r1, r2) := by rw [if_neg (show ¬ (false = true) by decide)] at H; exact H
    clear H
    have H := H1
    clear H1
    simp only [Option.some.injEq, Prod.mk.injEq] at H
    obtain ⟨rfl, rfl⟩ := H
    go_enter Tryd.func11, Tryd.ntmps11
    go_wp2_with (first | ((with_reducible refine gate_dst (N := 2) rfl ?_); refine box_event ?hg (N := 2) ?hd (cs := #[.slice A0_0 l0_0.length c0_0, .int .i64 a0_1, .int .i64 a0_2, .int .i64 a0_3, .int .i64 a0_4]) (t := 24) ?hr ?_; (case hd => rfl); (case hg => rfl); (case hr => first | (go_simp; done) | (go_simp; rfl)); intro gb144 hg w53 hbox hb; have n0_ := z05.mk (below_step (by repeat (first | (with_reducible first | exact HB.out | apply z02 | apply z00 | apply z03) | exact HB.out)) hb); have n1_ := z05.mk (hbox); have n2_ := z05.mk ((by rw [hg]; exact (below_size (by repeat (first | (with_reducible first | exact HB.out | apply z02 | apply z00 | apply z03) | exact HB.out))) : w.heap.size ≤ gb144)); have n3_ := z05.mk ((by rw [hg]; exact (below_size (by repeat (first | (with_reducible first | exact HB.out | apply z02 | apply z00 | apply z03) | exact HB.out))) : w.heap.size ≤ gb144)); clear HB; have HB := n0_; have BK144 := n1_; have GW144 := n2_; have GE144 := n3_; clear n0_ n1_ n2_ n3_; clear hb hbox hg; have hcz54_0 : w53.cell? ⟨gb144, 0, none⟩ = some (.slice A0_0 l0_0.length c0_0) := (z04 BK144.out 0).trans rfl; have hcz54_1 : w53.cell? ⟨gb144, 1, none⟩ = some (.int .i64 a0_1) := (z04 BK144.out 1).trans rfl; have hcz54_2 : w53.cell? ⟨gb144, 2, none⟩ = some (.int .i64 a0_2) := (z04 BK144.out 2).trans rfl; have hcz54_3 : w53.cell? ⟨gb144, 3, none⟩ = some (.int .i64 a0_3) := (z04 BK144.out 3).trans rfl; have hcz54_4 : w53.cell? ⟨gb144, 4, none⟩ = some (.int .i64 a0_4) := (z04 BK144.out 4).trans rfl; have hfz54_0 := z01 BK144.out 0; have hfz54_1 := z01 BK144.out 1; have hfz54_2 := z01 BK144.out 2; have hfz54_3 := z01 BK144.out 3; have hfz54_4 := z01 BK144.out 4) | ((with_reducible refine gate_callee (f := 18) rfl ?_); refine goesL_ (some 12) rfl rfl Tryd.func18 (by kernel_rfl) rfl #[.agg #[.slice A0_0 l0_0.length c0_0, .int .i64 a0_1, .int .i64 a0_2, .int .i64 a0_3, .int .i64 a0_4], .slice A1 l1.length c1] rfl (by (try simp only [List.map_toArray, List.map_cons, List.map_nil]); first | done | rfl | (simp only [List.length_drop, List.length_take]; rfl)) ?_; (with_reducible refine (schema_Fits.calls k _ _ l0_0 a0_1 a0_2 a0_3 a0_4 _ _ l1 false _ ?side1 ?side2 ?side3 ?side4 A3.out).mono ?_); (case side1 => repeat (first | exact (Kd.C_below HR0_0.out HB.out) | (with_reducible refine Kd.C_alloc ?_ _) | (with_reducible refine Kd.C_drewN ?_ _) | (with_reducible refine Kd.C_drew ?_))); (case side2 => exact HC0_0.out); (case side3 => repeat (first | exact (Kd.C_below HR1.out HB.out) | (with_reducible refine Kd.C_alloc ?_ _) | (with_reducible refine Kd.C_drewN ?_ _) | (with_reducible refine Kd.C_drew ?_))); (case side4 => exact HC1.out); rintro e w55 ⟨rfl, hb⟩; refine ⟨_, rfl, ?_⟩; have n0_ := z05.mk (blk_below (g := gb144) (o := .cells #[.slice A0_0 l0_0.length c0_0, .int .i64 a0_1, .int .i64 a0_2, .int .i64 a0_3, .int .i64 a0_4] 24 (0, 0)) (by (with_reducible repeat (first | refine z07 ?_ _ | refine z08 ?_ | refine z06 ?_ _)); exact BK144.out) hb); have n1_ := z05.mk (below_step (by repeat (first | (with_reducible first | exact HB.out | apply z02 | apply z00 | apply z03 | refine z09 ?_ GE144.out) | exact HB.out)) hb); clear BK144; clear HB; have BK144 := n0_; have HB := n1_; clear n0_ n1_; (try clear hb); (try clear hb2); (try clear hk); (try clear hi)))
    go_ret2
    exact ⟨_, by first | rfl | (simp [errW_none, errW_some] <;> rfl) | (refine congrArg (fun b_ : Bool => Ending.returned (Value.bool b_)) ?_; simp; done) | (simp [*, errW_none, errW_some] <;> rfl), by first | exact Kd.R_nil _ _ _ _ _ | exact Kd.N_nil _ _ _ _ _ | exact Kd.V_nil _ _ _ _ _ | exact Kd.Q_nil _ _ _ _ _ | exact Kd.S_nil _ _ _ _ _, by repeat (first | (with_reducible first | exact HB.out | apply z02 | apply z00 | apply z03 | refine z09 ?_ GE144.out) | exact HB.out)⟩

end Go.Proofs.YteefchdfdgfaaaaDoor.Q
