/- The machine side of laws, written by wip/tools/myprint.py (the printer's way, with functions proved by hand put in); Lean checks it. -/
import Derived.Test.YtimomihjghefdaaDoorJ1
import Derived.Test.YtimomihjghefdaaDoorJ7
import Derived.Test.YtimomihjghefdaaDoorQx11
import Derived.Test.YtimomihjghefdaaDoorQx12
import Derived.Test.YtimomihjghefdaaDoorJ5
import Derived.Test.YtimomihjghefdaaDoorJ2
namespace Go.Proofs.YtimomihjghefdaaDoor.Q
open Go.RowKit Go.Proofs.YtimomihjghefdaaDoorW.PrintWords Go.Proofs.YtimomihjghefdaaDoorW.PrintLast Go.Proofs.YtimomihjghefdaaDoorW.PrintMore
attribute [local go_sem] z0y z0v z0z z10 z0s z0t z0w z0x   -- for this text's walks alone
set_option linter.unusedVariables false
set_option linter.unusedSimpArgs false

/-! ### intake_Next: function 13 -/
def intake_Next.f (k : Nat) (a0 : Int) (a1_0 : Int) (a1_1 : Int) (l1_2 : List (List Int)) : Option (Int) := (intake_Check.f k a0 a1_0 a1_1 l1_2).bind fun t146 => (if t146 = 0 then (some (mx a0 (wrap64 (a1_1 + (l1_2.length : Int))))) else (some a0))
set_option maxHeartbeats 8000000 in
set_option maxRecDepth 100000 in
theorem intake_Next.calls (k : Nat) (a0 : Int) (a1_0 : Int) (a1_1 : Int) (A1_2 : Option Addr) (c1_2 : Nat) (l1_2 : List (List Int)) (r : Int) (w : World) (hr1_2 : Kd.C (Kd.slice 5 (Kd.int .u8)) w A1_2 l1_2.length l1_2) (hc1_2 : l1_2.length ≤ c1_2) (h : intake_Next.f k a0 a1_0 a1_1 l1_2 = some r) :
    Calls Tryd.prog 13 #[.int .i64 a0, .agg #[.int .i64 a1_0, .int .i64 a1_1, .slice A1_2 l1_2.length c1_2]] w fun e w' => e = .returned (.int .i64 r) ∧ Below w.heap.size w w' := by
  have hu27 := Tryd.underlying27
  have HR1_2 := z05.mk hr1_2
  have HC1_2 := z05.mk hc1_2
  clear hr1_2 hc1_2
  have HB := z05.mk (Below.refl w.heap.size w)
  have H : ((intake_Check.f k a0 a1_0 a1_1 l1_2).bind fun t146 => (if t146 = 0 then (some (mx a0 (wrap64 (a1_1 + (l1_2.length : Int))))) else (some a0))) = some r := h
  clear h
  replace H := Option.bind_eq_some_iff.mp H
  obtain ⟨t146, A30, H⟩ := H
  replace H : (if t146 = 0 then (some (mx a0 (wrap64 (a1_1 + (l1_2.length : Int))))) else (some a0)) = some r := H
  have A3 := z05.mk A30
  clear A30
  by_cases c4 : t146 = 0
  · rw [if_pos c4] at H
    have c4b0 : (t146 == 0) = true := beq_iff_eq.mpr c4
    have c4b1 : (t146 != 0) = false := bne_eq_false_iff_eq.mpr c4
    clear c4
    obtain ⟨ji5, hji5⟩ : ∃ j_ : Int, (mx a0 (wrap64 (a1_1 + (l1_2.length : Int)))) = j_ := ⟨_, rfl⟩
    replace H : (some ji5) = some r := by first | (rw [hji5] at H; exact H) | (simp only [hji5] at H ⊢; exact H)
    (try rw [hji5] at A3)
    have hji5_ : (if a0 < (wrap64 (a1_1 + (l1_2.length : Int))) then (wrap64 (a1_1 + (l1_2.length : Int))) else a0) = ji5 := hji5
    obtain rfl := Option.some.inj H
    go_enter Tryd.func13, Tryd.ntmps13
    go_wp2_with (first | ((with_reducible refine z0h (N := 3) rfl ?_); refine z0g ?hg (N := 3) ?hd (cs := #[.int .i64 a1_0, .int .i64 a1_1, .slice A1_2 l1_2.length c1_2]) (t := 27) ?hr ?_; (case hd => rfl); (case hg => rfl); (case hr => first | (go_simp; done) | (go_simp; rfl)); intro gb145 hg w6 hbox hb; have n0_ := z05.mk (z0a (by repeat (first | (with_reducible first | exact HB.out | apply z02 | apply z00 | apply z03) | exact HB.out)) hb); have n1_ := z05.mk (hbox); have n2_ := z05.mk ((by rw [hg]; exact (z0b (by repeat (first | (with_reducible first | exact HB.out | apply z02 | apply z00 | apply z03) | exact HB.out))) : w.heap.size ≤ gb145)); have n3_ := z05.mk ((by rw [hg]; exact (z0b (by repeat (first | (with_reducible first | exact HB.out | apply z02 | apply z00 | apply z03) | exact HB.out))) : w.heap.size ≤ gb145)); clear HB; have HB := n0_; have BK145 := n1_; have GW145 := n2_; have GE145 := n3_; clear n0_ n1_ n2_ n3_; clear hb hbox hg; have hcz7_0 : w6.cell? ⟨gb145, 0, none⟩ = some (.int .i64 a1_0) := (z04 BK145.out 0).trans rfl; have hcz7_1 : w6.cell? ⟨gb145, 1, none⟩ = some (.int .i64 a1_1) := (z04 BK145.out 1).trans rfl; have hcz7_2 : w6.cell? ⟨gb145, 2, none⟩ = some (.slice A1_2 l1_2.length c1_2) := (z04 BK145.out 2).trans rfl; have hfz7_0 := z01 BK145.out 0; have hfz7_1 := z01 BK145.out 1; have hfz7_2 := z01 BK145.out 2) | ((with_reducible refine z0j (f := 11) rfl ?_); refine z0u (some 7) rfl rfl Tryd.func11 (by kernel_rfl) rfl #[.int .i64 a0, .agg #[.int .i64 a1_0, .int .i64 a1_1, .slice A1_2 l1_2.length c1_2]] rfl (by (try simp only [List.map_toArray, List.map_cons, List.map_nil]); first | done | rfl | (simp only [List.length_drop, List.length_take]; rfl)) ?_; (with_reducible refine (intake_Check.calls k a0 a1_0 a1_1 _ _ l1_2 t146 _ ?side1 ?side2 A3.out).mono ?_); (case side1 => repeat (first | exact (Kd.C_below HR1_2.out HB.out) | (with_reducible refine Kd.C_alloc ?_ _) | (with_reducible refine Kd.C_drewN ?_ _) | (with_reducible refine Kd.C_drew ?_))); (case side2 => exact HC1_2.out); rintro e w8 ⟨rfl, hb⟩; refine ⟨_, rfl, ?_⟩; have n0_ := z05.mk (z0e (g := gb145) (o := .cells #[.int .i64 a1_0, .int .i64 a1_1, .slice A1_2 l1_2.length c1_2] 27 (0, 0)) (by (with_reducible repeat (first | refine z07 ?_ _ | refine z08 ?_ | refine z06 ?_ _)); exact BK145.out) hb); have n1_ := z05.mk (z0a (by repeat (first | (with_reducible first | exact HB.out | apply z02 | apply z00 | apply z03 | refine z09 ?_ GE145.out) | exact HB.out)) hb); clear BK145; clear HB; have BK145 := n0_; have HB := n1_; clear n0_ n1_; (try clear hb); (try clear hb2); (try clear hk); (try clear hi); have hcz9_0 : w8.cell? ⟨gb145, 0, none⟩ = some (.int .i64 a1_0) := (z04 BK145.out 0).trans rfl; have hcz9_1 : w8.cell? ⟨gb145, 1, none⟩ = some (.int .i64 a1_1) := (z04 BK145.out 1).trans rfl; have hcz9_2 : w8.cell? ⟨gb145, 2, none⟩ = some (.slice A1_2 l1_2.length c1_2) := (z04 BK145.out 2).trans rfl; have hfz9_0 := z01 BK145.out 0; have hfz9_1 := z01 BK145.out 1; have hfz9_2 := z01 BK145.out 2))
    go_ret
    exact ⟨by first | rfl | (simp [z0d, z0c] <;> rfl) | (simp only [← hji5]; first | rfl | (simp [z0d, z0c] <;> rfl)) | (refine congrArg (fun b_ : Bool => Ending.returned (Value.bool b_)) ?_; simp; done) | (simp [*, z0d, z0c] <;> rfl), by repeat (first | (with_reducible first | exact HB.out | apply z02 | apply z00 | apply z03 | refine z09 ?_ GE145.out) | exact HB.out)⟩
  · rw [if_neg c4] at H
    have c4b0 : (t146 == 0) = false := beq_eq_false_iff_ne.mpr c4
    have c4b1 : (t146 != 0) = true := bne_iff_ne.mpr c4
    obtain rfl := Option.some.inj H
    go_enter Tryd.func13, Tryd.ntmps13
    go_wp2_with (first | ((with_reducible refine z0h (N := 3) rfl ?_); refine z0g ?hg (N := 3) ?hd (cs := #[.int .i64 a1_0, .int .i64 a1_1, .slice A1_2 l1_2.length c1_2]) (t := 27) ?hr ?_; (case hd => rfl); (case hg => rfl); (case hr => first | (go_simp; done) | (go_simp; rfl)); intro gb145 hg w10 hbox hb; have n0_ := z05.mk (z0a (by repeat (first | (with_reducible first | exact HB.out | apply z02 | apply z00 | apply z03) | exact HB.out)) hb); have n1_ := z05.mk (hbox); have n2_ := z05.mk ((by rw [hg]; exact (z0b (by repeat (first | (with_reducible first | exact HB.out | apply z02 | apply z00 | apply z03) | exact HB.out))) : w.heap.size ≤ gb145)); have n3_ := z05.mk ((by rw [hg]; exact (z0b (by repeat (first | (with_reducible first | exact HB.out | apply z02 | apply z00 | apply z03) | exact HB.out))) : w.heap.size ≤ gb145)); clear HB; have HB := n0_; have BK145 := n1_; have GW145 := n2_; have GE145 := n3_; clear n0_ n1_ n2_ n3_; clear hb hbox hg; have hcz11_0 : w10.cell? ⟨gb145, 0, none⟩ = some (.int .i64 a1_0) := (z04 BK145.out 0).trans rfl; have hcz11_1 : w10.cell? ⟨gb145, 1, none⟩ = some (.int .i64 a1_1) := (z04 BK145.out 1).trans rfl; have hcz11_2 : w10.cell? ⟨gb145, 2, none⟩ = some (.slice A1_2 l1_2.length c1_2) := (z04 BK145.out 2).trans rfl; have hfz11_0 := z01 BK145.out 0; have hfz11_1 := z01 BK145.out 1; have hfz11_2 := z01 BK145.out 2) | ((with_reducible refine z0j (f := 11) rfl ?_); refine z0u (some 7) rfl rfl Tryd.func11 (by kernel_rfl) rfl #[.int .i64 a0, .agg #[.int .i64 a1_0, .int .i64 a1_1, .slice A1_2 l1_2.length c1_2]] rfl (by (try simp only [List.map_toArray, List.map_cons, List.map_nil]); first | done | rfl | (simp only [List.length_drop, List.length_take]; rfl)) ?_; (with_reducible refine (intake_Check.calls k a0 a1_0 a1_1 _ _ l1_2 t146 _ ?side1 ?side2 A3.out).mono ?_); (case side1 => repeat (first | exact (Kd.C_below HR1_2.out HB.out) | (with_reducible refine Kd.C_alloc ?_ _) | (with_reducible refine Kd.C_drewN ?_ _) | (with_reducible refine Kd.C_drew ?_))); (case side2 => exact HC1_2.out); rintro e w12 ⟨rfl, hb⟩; refine ⟨_, rfl, ?_⟩; have n0_ := z05.mk (z0e (g := gb145) (o := .cells #[.int .i64 a1_0, .int .i64 a1_1, .slice A1_2 l1_2.length c1_2] 27 (0, 0)) (by (with_reducible repeat (first | refine z07 ?_ _ | refine z08 ?_ | refine z06 ?_ _)); exact BK145.out) hb); have n1_ := z05.mk (z0a (by repeat (first | (with_reducible first | exact HB.out | apply z02 | apply z00 | apply z03 | refine z09 ?_ GE145.out) | exact HB.out)) hb); clear BK145; clear HB; have BK145 := n0_; have HB := n1_; clear n0_ n1_; (try clear hb); (try clear hb2); (try clear hk); (try clear hi)))
    go_ret
    exact ⟨by first | rfl | (simp [z0d, z0c] <;> rfl) | (refine congrArg (fun b_ : Bool => Ending.returned (Value.bool b_)) ?_; simp; done) | (simp [*, z0d, z0c] <;> rfl), by repeat (first | (with_reducible first | exact HB.out | apply z02 | apply z00 | apply z03 | refine z09 ?_ GE145.out) | exact HB.out)⟩

/-! ### winnowerlaw07_Small: function 15 -/
def winnowerlaw07_Small.f  : Option ((List (S45)) × Int × Int × Int × Int) := some ((([(⟨(⟨#[107]⟩ : ByteArray), 1, false⟩ : S45), (⟨(⟨#[118]⟩ : ByteArray), 2, true⟩ : S45)] : List (S45))), (-1), (-1), (-1), (-1))
set_option maxHeartbeats 8000000 in
set_option maxRecDepth 100000 in
theorem winnowerlaw07_Small.calls  (r1 : List (S45)) (r2 : Int) (r3 : Int) (r4 : Int) (r5 : Int) (w : World) (h : winnowerlaw07_Small.f  = some (r1, r2, r3, r4, r5)) :
    Calls Tryd.prog 15 #[] w fun e w' => ∃ v0_ : Value, e = .returned (.agg #[v0_, .int .i64 r2, .int .i64 r3, .int .i64 r4, .int .i64 r5]) ∧ Kd.R k45 45 w' w.heap.size (fun _ => True) v0_ r1 ∧ Below w.heap.size w w' := by
  have hu24 := Tryd.underlying24
  have hu45 := Tryd.underlying45
  have HB := z05.mk (Below.refl w.heap.size w)
  have H : (some ((([(⟨(⟨#[107]⟩ : ByteArray), 1, false⟩ : S45), (⟨(⟨#[118]⟩ : ByteArray), 2, true⟩ : S45)] : List (S45))), (-1), (-1), (-1), (-1))) = some (r1, r2, r3, r4, r5) := h
  clear h
  obtain ⟨y148, hy148⟩ : ∃ y_ : List (S45), y_ = (([(⟨(⟨#[107]⟩ : ByteArray), 1, false⟩ : S45), (⟨(⟨#[118]⟩ : ByteArray), 2, true⟩ : S45)] : List (S45))) := ⟨_, rfl⟩
  replace H : (some (y148, (-1), (-1), (-1), (-1))) = some (r1, r2, r3, r4, r5) := by first | (rw [hy148]; with_reducible exact H) | (have H2_ := (Option.bind_some _ _).symm.trans H; rw [hy148]; with_reducible exact H2_) | (have H2_ := (Option.bind_some _ _).symm.trans H; with_reducible exact H2_) | with_reducible exact H | (rw [hy148]; exact H) | exact H
  have Ny148 := z05.mk hy148
  clear hy148
  simp only [Option.some.injEq, Prod.mk.injEq] at H
  obtain ⟨rfl, rfl, rfl, rfl, rfl⟩ := H
  go_enter Tryd.func15, Tryd.ntmps15
  go_wp2_with (first | ((with_reducible refine z0h (N := 0) rfl ?_); refine z0g ?hg (N := 0) ?hd (cs := #[.slice none 0 0, .int .i64 0, .int .i64 0, .int .i64 0, .int .i64 0]) (t := 24) ?hr ?_; (case hd => rfl); (case hg => rfl); (case hr => first | (go_simp; done) | (go_simp; rfl)); intro gb147 hg w1 hbox hb; have n0_ := z05.mk (z0a (by repeat (first | (with_reducible first | exact HB.out | apply z02 | apply z00 | apply z03) | exact HB.out)) hb); have n1_ := z05.mk (hbox); have n2_ := z05.mk ((by rw [hg]; exact (z0b (by repeat (first | (with_reducible first | exact HB.out | apply z02 | apply z00 | apply z03) | exact HB.out))) : w.heap.size ≤ gb147)); have n3_ := z05.mk ((by rw [hg]; exact (z0b (by repeat (first | (with_reducible first | exact HB.out | apply z02 | apply z00 | apply z03) | exact HB.out))) : w.heap.size ≤ gb147)); clear HB; have HB := n0_; have BK147 := n1_; have GW147 := n2_; have GE147 := n3_; clear n0_ n1_ n2_ n3_; clear hb hbox hg) | ((with_reducible refine z0h (N := 3) rfl ?_); refine Kd.R_lit k45 _ 45 ?hg (N := 3) ?hd (xs := ([(⟨(⟨#[107]⟩ : ByteArray), 1, false⟩ : S45), (⟨(⟨#[118]⟩ : ByteArray), 2, true⟩ : S45)] : List (S45))) (inner := [.string (⟨#[107]⟩ : ByteArray), .int .i64 1, .bool false, .string (⟨#[118]⟩ : ByteArray), .int .i64 2, .bool true]) (ok := fun _ => True) (okp := fun _ => True) ?hr ?hp (fun _ hk => hk) trivial (Below.refl _ _) (Nat.le_refl _) (by simp) ?_; (case hd => rfl); (case hg => rfl); (case hr => first | (go_simp; done) | (go_simp; rfl)); (case hp => exact (Reps.c3 (show Kd.M k45 _ _ _ (⟨(⟨#[107]⟩ : ByteArray), 1, false⟩ : S45) [.string (⟨#[107]⟩ : ByteArray), .int .i64 1, .bool false] from (z6m _ _ _ (⟨(⟨#[107]⟩ : ByteArray), 1, false⟩ : S45) )) (Reps.c3 (show Kd.M k45 _ _ _ (⟨(⟨#[118]⟩ : ByteArray), 2, true⟩ : S45) [.string (⟨#[118]⟩ : ByteArray), .int .i64 2, .bool true] from (z6m _ _ _ (⟨(⟨#[118]⟩ : ByteArray), 2, true⟩ : S45) )) (Reps.none _ _)))); intro v149 w2 ho3 hb hg_ hnew_; clear hg_ hnew_; (first | rw [← Ny148.out] at ho3 | (simp only [Int.reduceToNat] at ho3; rw [← Ny148.out] at ho3)); have n0_ := z05.mk (Kd.R_lower ho3 (z0b (by repeat (first | (with_reducible first | exact HB.out | apply z02 | apply z00 | apply z03 | refine z09 ?_ GE147.out) | exact HB.out)))); have n1_ := z05.mk (z0e (g := gb147) (o := .cells #[.slice none 0 0, .int .i64 0, .int .i64 0, .int .i64 0, .int .i64 0] 24 (0, 0)) (by (with_reducible repeat (first | refine z07 ?_ _ | refine z08 ?_ | refine z06 ?_ _)); exact BK147.out) hb); have n2_ := z05.mk (z0a (by repeat (first | (with_reducible first | exact HB.out | apply z02 | apply z00 | apply z03 | refine z09 ?_ GE147.out) | exact HB.out)) hb); clear BK147; clear HB; have HO150 := n0_; have BK147 := n1_; have HB := n2_; clear n0_ n1_ n2_; clear hb ho3; obtain ⟨Ao4, co4, eo4⟩ := Kd.R_slice HO150.out; subst eo4; have hcz5_0 : w2.cell? ⟨gb147, 0, none⟩ = some (.slice none 0 0) := (z04 BK147.out 0).trans rfl; have hcz5_1 : w2.cell? ⟨gb147, 1, none⟩ = some (.int .i64 0) := (z04 BK147.out 1).trans rfl; have hcz5_2 : w2.cell? ⟨gb147, 2, none⟩ = some (.int .i64 0) := (z04 BK147.out 2).trans rfl; have hcz5_3 : w2.cell? ⟨gb147, 3, none⟩ = some (.int .i64 0) := (z04 BK147.out 3).trans rfl; have hcz5_4 : w2.cell? ⟨gb147, 4, none⟩ = some (.int .i64 0) := (z04 BK147.out 4).trans rfl; have hfz5_0 := z01 BK147.out 0; have hfz5_1 := z01 BK147.out 1; have hfz5_2 := z01 BK147.out 2; have hfz5_3 := z01 BK147.out 3; have hfz5_4 := z01 BK147.out 4))
  refine bodyPost_ret (results_cell_row rfl _ _ gb147 24 #[.slice Ao4 y148.length co4, .int .i64 (-1), .int .i64 (-1), .int .i64 (-1), .int .i64 (-1)] (0, 0) _ rfl (by (with_reducible repeat (first | refine z07 ?_ _ | refine z08 ?_ | refine z06 ?_ _)); refine z0i (cs := #[.slice Ao4 y148.length co4, .int .i64 (-1), .int .i64 (-1), .int .i64 (-1), .int .i64 0]) ?_ 4 _ rfl; (with_reducible repeat (first | refine z07 ?_ _ | refine z08 ?_ | refine z06 ?_ _)); refine z0i (cs := #[.slice Ao4 y148.length co4, .int .i64 (-1), .int .i64 (-1), .int .i64 0, .int .i64 0]) ?_ 3 _ rfl; (with_reducible repeat (first | refine z07 ?_ _ | refine z08 ?_ | refine z06 ?_ _)); refine z0i (cs := #[.slice Ao4 y148.length co4, .int .i64 (-1), .int .i64 0, .int .i64 0, .int .i64 0]) ?_ 2 _ rfl; (with_reducible repeat (first | refine z07 ?_ _ | refine z08 ?_ | refine z06 ?_ _)); refine z0i (cs := #[.slice Ao4 y148.length co4, .int .i64 0, .int .i64 0, .int .i64 0, .int .i64 0]) ?_ 1 _ rfl; (with_reducible repeat (first | refine z07 ?_ _ | refine z08 ?_ | refine z06 ?_ _)); refine z0i (cs := #[.slice none 0 0, .int .i64 0, .int .i64 0, .int .i64 0, .int .i64 0]) ?_ 0 _ rfl; (with_reducible repeat (first | refine z07 ?_ _ | refine z08 ?_ | refine z06 ?_ _)); exact BK147.out) Tryd.underlying24 rfl (by kernel_rfl)) rfl ?_
  exact ⟨_, by first | rfl | (simp [z0d, z0c] <;> rfl) | (refine congrArg (fun b_ : Bool => Ending.returned (Value.bool b_)) ?_; simp; done) | (simp [*, z0d, z0c] <;> rfl), by (with_reducible repeat (first | apply Kd.R_alloc | apply Kd.R_drewN | apply Kd.R_drew)); exact Kd.R_mono (Kd.R_far (p := ⟨gb147, 4, none⟩) (Kd.R_far (p := ⟨gb147, 3, none⟩) (Kd.R_far (p := ⟨gb147, 2, none⟩) (Kd.R_far (p := ⟨gb147, 1, none⟩) (Kd.R_far (p := ⟨gb147, 0, none⟩) (Kd.R_types HO150.out BK147.out (by decide)) (fun _ hk => hk.2) (.slice Ao4 y148.length co4)) (fun _ hk => hk.2) (.int .i64 (-1))) (fun _ hk => hk.2) (.int .i64 (-1))) (fun _ hk => hk.2) (.int .i64 (-1))) (fun _ hk => hk.2) (.int .i64 (-1))) (fun _ hk => trivial), by repeat (first | (with_reducible first | exact HB.out | apply z02 | apply z00 | apply z03 | refine z09 ?_ GE147.out) | exact HB.out)⟩

/-! ### winnowerlaw22_awake_p: function 5 -/
def winnowerlaw22_awake_p.f (k : Nat)  : Option (Bool) := (some (([(([10, 0] : List Int)), (([10, 0] : List Int)), (([10, 0] : List Int)), (([9] : List Int))] : List (List Int)) : List (List Int))).bind fun y163 => ((winnowerlaw07_Small.f).bind fun bt167 => ((intake_Take.f bt167.1 bt167.2.1 bt167.2.2.1 bt167.2.2.2.1 bt167.2.2.2.2 5 0 3 y163).bind fun bt174 => ((intake_Check.f k 2 0 3 y163).bind fun t178 => (if bt174.2 = 0 then (if (bt174.1.length : Int) = 2 then (if 0 < (bt174.1.length : Int) then (if ((z0l bt174.1 0).f0) = 5 then (if (z0l bt174.1 0).f1 = true then (if 1 < (bt174.1.length : Int) then (if ((z0l bt174.1 1).f1 = true) then (some false) else ((intake_Next.f k 5 0 3 y163).bind fun t182 => (if t182 = 7 then (some (t178 == 11)) else (some false)))) else (none)) else (some false)) else (some false)) else (none)) else (some false)) else (some false)))))
def winnowerlaw22_awake_p.T2 : Bool × List (List Nat × List Nat) := (true, [([], []), ([], []), ([0, 1, 0], [0, 1]), ([2], [2]), ([3], [3]), ([3], [3]), ([4, 2, 0, 1, 2, 3, 4], [4]), ([5, 6, 0, 1, 2, 3, 4, 5, 6], [5])])
def winnowerlaw22_awake_p.B2 : List Nat := [0, 0, 3, 7, 15, 15, 31, 127]
theorem winnowerlaw22_awake_p.tab2 : rtab .any (opsOf Tryd.f5 2) = winnowerlaw22_awake_p.T2 := by kernel_rfl
theorem winnowerlaw22_awake_p.bits2 : z29 winnowerlaw22_awake_p.T2.2 winnowerlaw22_awake_p.B2 = true := by kernel_rfl
set_option maxHeartbeats 8000000 in
set_option maxRecDepth 100000 in
theorem winnowerlaw22_awake_p.calls (k : Nat)  (r : Bool) (w : World) (hG : Globs w) (hT_ : r = true) (h : winnowerlaw22_awake_p.f k  = some r) :
    Calls Tryd.prog 5 #[] w fun e w' => e = .returned (.bool r) ∧ Below w.heap.size w w' := by
  have hu27 := Tryd.underlying27
  have HGL := z05.mk hG
  clear hG
  have HTRUE := z05.mk hT_
  clear hT_
  have HB := z05.mk (Below.refl w.heap.size w)
  have H : ((some (([(([10, 0] : List Int)), (([10, 0] : List Int)), (([10, 0] : List Int)), (([9] : List Int))] : List (List Int)) : List (List Int))).bind fun y163 => ((winnowerlaw07_Small.f).bind fun bt167 => ((intake_Take.f bt167.1 bt167.2.1 bt167.2.2.1 bt167.2.2.2.1 bt167.2.2.2.2 5 0 3 y163).bind fun bt174 => ((intake_Check.f k 2 0 3 y163).bind fun t178 => (if bt174.2 = 0 then (if (bt174.1.length : Int) = 2 then (if 0 < (bt174.1.length : Int) then (if ((z0l bt174.1 0).f0) = 5 then (if (z0l bt174.1 0).f1 = true then (if 1 < (bt174.1.length : Int) then (if ((z0l bt174.1 1).f1 = true) then (some false) else ((intake_Next.f k 5 0 3 y163).bind fun t182 => (if t182 = 7 then (some (t178 == 11)) else (some false)))) else (none)) else (some false)) else (some false)) else (none)) else (some false)) else (some false)))))) = some r := h
  clear h
  obtain ⟨y151, hy151⟩ : ∃ y_ : List Int, y_ = (([10, 0] : List Int)) := ⟨_, rfl⟩
  replace H : ((some (([y151, (([10, 0] : List Int)), (([10, 0] : List Int)), (([9] : List Int))] : List (List Int)) : List (List Int))).bind fun y163 => ((winnowerlaw07_Small.f).bind fun bt167 => ((intake_Take.f bt167.1 bt167.2.1 bt167.2.2.1 bt167.2.2.2.1 bt167.2.2.2.2 5 0 3 y163).bind fun bt174 => ((intake_Check.f k 2 0 3 y163).bind fun t178 => (if bt174.2 = 0 then (if (bt174.1.length : Int) = 2 then (if 0 < (bt174.1.length : Int) then (if ((z0l bt174.1 0).f0) = 5 then (if (z0l bt174.1 0).f1 = true then (if 1 < (bt174.1.length : Int) then (if ((z0l bt174.1 1).f1 = true) then (some false) else ((intake_Next.f k 5 0 3 y163).bind fun t182 => (if t182 = 7 then (some (t178 == 11)) else (some false)))) else (none)) else (some false)) else (some false)) else (none)) else (some false)) else (some false)))))) = some r := by first | (rw [hy151]; with_reducible exact H) | (have H2_ := (Option.bind_some _ _).symm.trans H; rw [hy151]; with_reducible exact H2_) | (have H2_ := (Option.bind_some _ _).symm.trans H; with_reducible exact H2_) | with_reducible exact H | (rw [hy151]; exact H) | exact H
  have Ny151 := z05.mk hy151
  clear hy151
  obtain ⟨y154, hy154⟩ : ∃ y_ : List Int, y_ = (([10, 0] : List Int)) := ⟨_, rfl⟩
  replace H : ((some (([y151, y154, (([10, 0] : List Int)), (([9] : List Int))] : List (List Int)) : List (List Int))).bind fun y163 => ((winnowerlaw07_Small.f).bind fun bt167 => ((intake_Take.f bt167.1 bt167.2.1 bt167.2.2.1 bt167.2.2.2.1 bt167.2.2.2.2 5 0 3 y163).bind fun bt174 => ((intake_Check.f k 2 0 3 y163).bind fun t178 => (if bt174.2 = 0 then (if (bt174.1.length : Int) = 2 then (if 0 < (bt174.1.length : Int) then (if ((z0l bt174.1 0).f0) = 5 then (if (z0l bt174.1 0).f1 = true then (if 1 < (bt174.1.length : Int) then (if ((z0l bt174.1 1).f1 = true) then (some false) else ((intake_Next.f k 5 0 3 y163).bind fun t182 => (if t182 = 7 then (some (t178 == 11)) else (some false)))) else (none)) else (some false)) else (some false)) else (none)) else (some false)) else (some false)))))) = some r := by first | (rw [hy154]; with_reducible exact H) | (have H2_ := (Option.bind_some _ _).symm.trans H; rw [hy154]; with_reducible exact H2_) | (have H2_ := (Option.bind_some _ _).symm.trans H; with_reducible exact H2_) | with_reducible exact H | (rw [hy154]; exact H) | exact H
  have Ny154 := z05.mk hy154
  clear hy154
  obtain ⟨y157, hy157⟩ : ∃ y_ : List Int, y_ = (([10, 0] : List Int)) := ⟨_, rfl⟩
  replace H : ((some (([y151, y154, y157, (([9] : List Int))] : List (List Int)) : List (List Int))).bind fun y163 => ((winnowerlaw07_Small.f).bind fun bt167 => ((intake_Take.f bt167.1 bt167.2.1 bt167.2.2.1 bt167.2.2.2.1 bt167.2.2.2.2 5 0 3 y163).bind fun bt174 => ((intake_Check.f k 2 0 3 y163).bind fun t178 => (if bt174.2 = 0 then (if (bt174.1.length : Int) = 2 then (if 0 < (bt174.1.length : Int) then (if ((z0l bt174.1 0).f0) = 5 then (if (z0l bt174.1 0).f1 = true then (if 1 < (bt174.1.length : Int) then (if ((z0l bt174.1 1).f1 = true) then (some false) else ((intake_Next.f k 5 0 3 y163).bind fun t182 => (if t182 = 7 then (some (t178 == 11)) else (some false)))) else (none)) else (some false)) else (some false)) else (none)) else (some false)) else (some false)))))) = some r := by first | (rw [hy157]; with_reducible exact H) | (have H2_ := (Option.bind_some _ _).symm.trans H; rw [hy157]; with_reducible exact H2_) | (have H2_ := (Option.bind_some _ _).symm.trans H; with_reducible exact H2_) | with_reducible exact H | (rw [hy157]; exact H) | exact H
  have Ny157 := z05.mk hy157
  clear hy157
  obtain ⟨y160, hy160⟩ : ∃ y_ : List Int, y_ = (([9] : List Int)) := ⟨_, rfl⟩
  replace H : ((some (([y151, y154, y157, y160] : List (List Int)) : List (List Int))).bind fun y163 => ((winnowerlaw07_Small.f).bind fun bt167 => ((intake_Take.f bt167.1 bt167.2.1 bt167.2.2.1 bt167.2.2.2.1 bt167.2.2.2.2 5 0 3 y163).bind fun bt174 => ((intake_Check.f k 2 0 3 y163).bind fun t178 => (if bt174.2 = 0 then (if (bt174.1.length : Int) = 2 then (if 0 < (bt174.1.length : Int) then (if ((z0l bt174.1 0).f0) = 5 then (if (z0l bt174.1 0).f1 = true then (if 1 < (bt174.1.length : Int) then (if ((z0l bt174.1 1).f1 = true) then (some false) else ((intake_Next.f k 5 0 3 y163).bind fun t182 => (if t182 = 7 then (some (t178 == 11)) else (some false)))) else (none)) else (some false)) else (some false)) else (none)) else (some false)) else (some false)))))) = some r := by first | (rw [hy160]; with_reducible exact H) | (have H2_ := (Option.bind_some _ _).symm.trans H; rw [hy160]; with_reducible exact H2_) | (have H2_ := (Option.bind_some _ _).symm.trans H; with_reducible exact H2_) | with_reducible exact H | (rw [hy160]; exact H) | exact H
  have Ny160 := z05.mk hy160
  clear hy160
  obtain ⟨y163, hy163⟩ : ∃ y_ : List (List Int), y_ = (([y151, y154, y157, y160] : List (List Int))) := ⟨_, rfl⟩
  replace H : ((winnowerlaw07_Small.f).bind fun bt167 => ((intake_Take.f bt167.1 bt167.2.1 bt167.2.2.1 bt167.2.2.2.1 bt167.2.2.2.2 5 0 3 y163).bind fun bt174 => ((intake_Check.f k 2 0 3 y163).bind fun t178 => (if bt174.2 = 0 then (if (bt174.1.length : Int) = 2 then (if 0 < (bt174.1.length : Int) then (if ((z0l bt174.1 0).f0) = 5 then (if (z0l bt174.1 0).f1 = true then (if 1 < (bt174.1.length : Int) then (if ((z0l bt174.1 1).f1 = true) then (some false) else ((intake_Next.f k 5 0 3 y163).bind fun t182 => (if t182 = 7 then (some (t178 == 11)) else (some false)))) else (none)) else (some false)) else (some false)) else (none)) else (some false)) else (some false))))) = some r := by first | (rw [hy163]; with_reducible exact H) | (have H2_ := (Option.bind_some _ _).symm.trans H; rw [hy163]; with_reducible exact H2_) | (have H2_ := (Option.bind_some _ _).symm.trans H; with_reducible exact H2_) | with_reducible exact H | (rw [hy163]; exact H) | exact H
  have Ny163 := z05.mk hy163
  clear hy163
  replace H := Option.bind_eq_some_iff.mp H
  obtain ⟨⟨t167, t170, t171, t172, t173⟩, A10, H⟩ := H
  replace H : ((intake_Take.f t167 t170 t171 t172 t173 5 0 3 y163).bind fun bt174 => ((intake_Check.f k 2 0 3 y163).bind fun t178 => (if bt174.2 = 0 then (if (bt174.1.length : Int) = 2 then (if 0 < (bt174.1.length : Int) then (if ((z0l bt174.1 0).f0) = 5 then (if (z0l bt174.1 0).f1 = true then (if 1 < (bt174.1.length : Int) then (if ((z0l bt174.1 1).f1 = true) then (some false) else ((intake_Next.f k 5 0 3 y163).bind fun t182 => (if t182 = 7 then (some (t178 == 11)) else (some false)))) else (none)) else (some false)) else (some false)) else (none)) else (some false)) else (some false)))) = some r := H
  have A1 := z05.mk A10
  clear A10
  replace H := Option.bind_eq_some_iff.mp H
  obtain ⟨⟨t174, t177⟩, A20, H⟩ := H
  replace H : ((intake_Check.f k 2 0 3 y163).bind fun t178 => (if t177 = 0 then (if (t174.length : Int) = 2 then (if 0 < (t174.length : Int) then (if ((z0l t174 0).f0) = 5 then (if (z0l t174 0).f1 = true then (if 1 < (t174.length : Int) then (if ((z0l t174 1).f1 = true) then (some false) else ((intake_Next.f k 5 0 3 y163).bind fun t182 => (if t182 = 7 then (some (t178 == 11)) else (some false)))) else (none)) else (some false)) else (some false)) else (none)) else (some false)) else (some false))) = some r := H
  have A2 := z05.mk A20
  clear A20
  replace H := Option.bind_eq_some_iff.mp H
  obtain ⟨t178, A30, H⟩ := H
  replace H : (if t177 = 0 then (if (t174.length : Int) = 2 then (if 0 < (t174.length : Int) then (if ((z0l t174 0).f0) = 5 then (if (z0l t174 0).f1 = true then (if 1 < (t174.length : Int) then (if ((z0l t174 1).f1 = true) then (some false) else ((intake_Next.f k 5 0 3 y163).bind fun t182 => (if t182 = 7 then (some (t178 == 11)) else (some false)))) else (none)) else (some false)) else (some false)) else (none)) else (some false)) else (some false)) = some r := H
  have A3 := z05.mk A30
  clear A30
  by_cases c4 : t177 = 0
  · rw [if_pos c4] at H
    have c4b0 : (t177 == 0) = true := beq_iff_eq.mpr c4
    have c4b1 : (t177 != 0) = false := bne_eq_false_iff_eq.mpr c4
    clear c4
    by_cases c5 : (t174.length : Int) = 2
    · rw [if_pos c5] at H
      have c5b0 : ((t174.length : Int) == 2) = true := beq_iff_eq.mpr c5
      have c5b0y0 := c5b0
      (try simp only [hl179_2] at c5b0y0)
      have c5b0y1 := c5b0
      (try simp only [hl180_2] at c5b0y1)
      have c5b0y2 := c5b0
      (try simp only [hl181_2] at c5b0y2)
      have c5b1 : ((t174.length : Int) != 2) = false := bne_eq_false_iff_eq.mpr c5
      have c5b1y0 := c5b1
      (try simp only [hl179_2] at c5b1y0)
      have c5b1y1 := c5b1
      (try simp only [hl180_2] at c5b1y1)
      have c5b1y2 := c5b1
      (try simp only [hl181_2] at c5b1y2)
      clear c5
      by_cases c6 : 0 < (t174.length : Int)
      · rw [if_pos c6] at H
        have c6b0 : decide (0 < (t174.length : Int)) = true := decide_eq_true c6
        have c6b0y0 := c6b0
        (try simp only [hl179_2] at c6b0y0)
        have c6b0y1 := c6b0
        (try simp only [hl180_2] at c6b0y1)
        have c6b0y2 := c6b0
        (try simp only [hl181_2] at c6b0y2)
        have c6b1 : decide (0 < t174.length) = true := decide_eq_true (by omega)
        have c6b1y0 := c6b1
        (try simp only [hl179_2] at c6b1y0)
        have c6b1y1 := c6b1
        (try simp only [hl180_2] at c6b1y1)
        have c6b1y2 := c6b1
        (try simp only [hl181_2] at c6b1y2)
        clear c6
        by_cases c7 : ((z0l t174 0).f0) = 5
        · rw [if_pos c7] at H
          have c7b0 : (((z0l t174 0).f0) == 5) = true := beq_iff_eq.mpr c7
          have c7b1 : (((z0l t174 0).f0) != 5) = false := bne_eq_false_iff_eq.mpr c7
          clear c7
          obtain ⟨bq8, hbq8⟩ : ∃ b_ : Bool, b_ = ((z0l t174 0).f1) := ⟨_, rfl⟩
          replace H : (if bq8 = true then (if 1 < (t174.length : Int) then (if ((z0l t174 1).f1 = true) then (some false) else ((intake_Next.f k 5 0 3 y163).bind fun t182 => (if t182 = 7 then (some (t178 == 11)) else (some false)))) else (none)) else (some false)) = some r := by rw [← hbq8] at H; exact H
          have Nbq8 := z05.mk hbq8
          clear hbq8
          by_cases c9 : bq8 = true
          · subst c9
            have H1 : (if 1 < (t174.length : Int) then (if ((z0l t174 1).f1 = true) then (some false) else ((intake_Next.f k 5 0 3 y163).bind fun t182 => (if t182 = 7 then (some (t178 == 11)) else (some false)))) else (none)) = some r := by rw [if_pos rfl] at H; exact H
            clear H
            have H := H1
            clear H1
            by_cases c10 : 1 < (t174.length : Int)
            · rw [if_pos c10] at H
              have c10b0 : decide (1 < (t174.length : Int)) = true := decide_eq_true c10
              have c10b0y0 := c10b0
              (try simp only [hl179_2] at c10b0y0)
              have c10b0y1 := c10b0
              (try simp only [hl180_2] at c10b0y1)
              have c10b0y2 := c10b0
              (try simp only [hl181_2] at c10b0y2)
              have c10b1 : decide (1 < t174.length) = true := decide_eq_true (by omega)
              have c10b1y0 := c10b1
              (try simp only [hl179_2] at c10b1y0)
              have c10b1y1 := c10b1
              (try simp only [hl180_2] at c10b1y1)
              have c10b1y2 := c10b1
              (try simp only [hl181_2] at c10b1y2)
              clear c10
              obtain ⟨bq11, hbq11⟩ : ∃ b_ : Bool, b_ = ((z0l t174 1).f1) := ⟨_, rfl⟩
              replace H : (if (bq11 = true) then (some false) else ((intake_Next.f k 5 0 3 y163).bind fun t182 => (if t182 = 7 then (some (t178 == 11)) else (some false)))) = some r := by rw [← hbq11] at H; exact H
              have Nbq11 := z05.mk hbq11
              clear hbq11
              by_cases c12 : (bq11 = true)
              · subst c12
                have H1 : (some false) = some r := by rw [if_pos rfl] at H; exact H
                clear H
                have H := H1
                clear H1
                exact absurd (HTRUE.out.symm.trans (Option.some.inj H).symm) (by decide)
              · replace c12 := Bool.eq_false_iff.mpr c12
                subst c12
                have H1 : ((intake_Next.f k 5 0 3 y163).bind fun t182 => (if t182 = 7 then (some (t178 == 11)) else (some false))) = some r := by rw [if_neg (show ¬ (false = true) by decide)] at H; exact H
                clear H
                have H := H1
                clear H1
                replace H := Option.bind_eq_some_iff.mp H
                obtain ⟨t182, A130, H⟩ := H
                replace H : (if t182 = 7 then (some (t178 == 11)) else (some false)) = some r := H
                have A13 := z05.mk A130
                clear A130
                by_cases c14 : t182 = 7
                · rw [if_pos c14] at H
                  have c14b0 : (t182 == 7) = true := beq_iff_eq.mpr c14
                  have c14b1 : (t182 != 7) = false := bne_eq_false_iff_eq.mpr c14
                  clear c14
                  obtain rfl := Option.some.inj H
                  go_enter Tryd.func5, Tryd.ntmps5
                  try go_wp2_with (first | ((with_reducible refine z0h (N := 5) rfl ?_); (try (refine z0r (by rfl) ?_; dsimp only)); refine Kd.R_lit (Kd.int .u8) _ 5 ?hg (N := 5) ?hd (xs := ([10, 0] : List Int)) (inner := [.int .u8 10, .int .u8 0]) (ok := fun _ => True) (okp := fun _ => True) ?hr ?hp (fun _ hk => hk) trivial (Below.refl _ _) (Nat.le_refl _) (by simp) ?_; (case hd => rfl); (case hg => rfl); (case hr => first | (go_simp; done) | (go_simp; rfl)); (case hp => exact (Reps.one (show Kd.M (Kd.int .u8) _ _ _ 10 [.int .u8 10] from rfl) (Reps.one (show Kd.M (Kd.int .u8) _ _ _ 0 [.int .u8 0] from rfl) (Reps.none _ _)))); intro v152 w15 ho16 hb hg_ hnew_; clear hg_ hnew_; (first | rw [← Ny151.out] at ho16 | (simp only [Int.reduceToNat] at ho16; rw [← Ny151.out] at ho16)); have n0_ := z05.mk (Kd.R_lower ho16 (z0b (by repeat (first | (with_reducible first | exact HB.out | apply z02 | apply z00 | apply z03) | exact HB.out)))); have n1_ := z05.mk (z0a (by repeat (first | (with_reducible first | exact HB.out | apply z02 | apply z00 | apply z03) | exact HB.out)) hb); clear HB; have HO153 := n0_; have HB := n1_; clear n0_ n1_; clear hb ho16) | ((with_reducible refine z0h (N := 6) rfl ?_); (try (refine z0r (by rfl) ?_; dsimp only)); refine Kd.R_lit (Kd.int .u8) _ 5 ?hg (N := 6) ?hd (xs := ([10, 0] : List Int)) (inner := [.int .u8 10, .int .u8 0]) (ok := fun _ => True) (okp := fun _ => True) ?hr ?hp (fun _ hk => hk) trivial (Below.refl _ _) (Nat.le_refl _) (by simp) ?_; (case hd => rfl); (case hg => rfl); (case hr => first | (go_simp; done) | (go_simp; rfl)); (case hp => exact (Reps.one (show Kd.M (Kd.int .u8) _ _ _ 10 [.int .u8 10] from rfl) (Reps.one (show Kd.M (Kd.int .u8) _ _ _ 0 [.int .u8 0] from rfl) (Reps.none _ _)))); intro v155 w17 ho18 hb hg_ hnew_; clear hg_ hnew_; (first | rw [← Ny154.out] at ho18 | (simp only [Int.reduceToNat] at ho18; rw [← Ny154.out] at ho18)); have n0_ := z05.mk (Kd.R_elder' (by (with_reducible repeat (first | apply Kd.R_alloc | apply Kd.R_drewN | apply Kd.R_drew)); exact HO153.out) (Kd.R_base ho18) hb); have n1_ := z05.mk (Kd.R_lower (Kd.R_new' ho18 (Kd.R_lt (by (with_reducible repeat (first | apply Kd.R_alloc | apply Kd.R_drewN | apply Kd.R_drew)); exact HO153.out))) (z0b (by repeat (first | (with_reducible first | exact HB.out | apply z02 | apply z00 | apply z03) | exact HB.out)))); have n2_ := z05.mk (z0a (by repeat (first | (with_reducible first | exact HB.out | apply z02 | apply z00 | apply z03) | exact HB.out)) hb); clear HO153; clear HB; have HO153 := n0_; have HO156 := n1_; have HB := n2_; clear n0_ n1_ n2_; clear hb ho18) | ((with_reducible refine z0h (N := 7) rfl ?_); (try (refine z0r (by rfl) ?_; dsimp only)); refine Kd.R_lit (Kd.int .u8) _ 5 ?hg (N := 7) ?hd (xs := ([10, 0] : List Int)) (inner := [.int .u8 10, .int .u8 0]) (ok := fun _ => True) (okp := fun _ => True) ?hr ?hp (fun _ hk => hk) trivial (Below.refl _ _) (Nat.le_refl _) (by simp) ?_; (case hd => rfl); (case hg => rfl); (case hr => first | (go_simp; done) | (go_simp; rfl)); (case hp => exact (Reps.one (show Kd.M (Kd.int .u8) _ _ _ 10 [.int .u8 10] from rfl) (Reps.one (show Kd.M (Kd.int .u8) _ _ _ 0 [.int .u8 0] from rfl) (Reps.none _ _)))); intro v158 w19 ho20 hb hg_ hnew_; clear hg_ hnew_; (first | rw [← Ny157.out] at ho20 | (simp only [Int.reduceToNat] at ho20; rw [← Ny157.out] at ho20)); have n0_ := z05.mk (Kd.R_elder' (by (with_reducible repeat (first | apply Kd.R_alloc | apply Kd.R_drewN | apply Kd.R_drew)); exact HO153.out) (Kd.R_base ho20) hb); have n1_ := z05.mk (Kd.R_elder' (by (with_reducible repeat (first | apply Kd.R_alloc | apply Kd.R_drewN | apply Kd.R_drew)); exact HO156.out) (Kd.R_base ho20) hb); have n2_ := z05.mk (Kd.R_lower (Kd.R_new' (Kd.R_new' ho20 (Kd.R_lt (by (with_reducible repeat (first | apply Kd.R_alloc | apply Kd.R_drewN | apply Kd.R_drew)); exact HO153.out))) (Kd.R_lt (by (with_reducible repeat (first | apply Kd.R_alloc | apply Kd.R_drewN | apply Kd.R_drew)); exact HO156.out))) (z0b (by repeat (first | (with_reducible first | exact HB.out | apply z02 | apply z00 | apply z03) | exact HB.out)))); have n3_ := z05.mk (z0a (by repeat (first | (with_reducible first | exact HB.out | apply z02 | apply z00 | apply z03) | exact HB.out)) hb); clear HO153; clear HO156; clear HB; have HO153 := n0_; have HO156 := n1_; have HO159 := n2_; have HB := n3_; clear n0_ n1_ n2_ n3_; clear hb ho20) | ((with_reducible refine z0h (N := 8) rfl ?_); (try (refine z0r (by rfl) ?_; dsimp only)); refine Kd.R_lit (Kd.int .u8) _ 5 ?hg (N := 8) ?hd (xs := ([9] : List Int)) (inner := [.int .u8 9]) (ok := fun _ => True) (okp := fun _ => True) ?hr ?hp (fun _ hk => hk) trivial (Below.refl _ _) (Nat.le_refl _) (by simp) ?_; (case hd => rfl); (case hg => rfl); (case hr => first | (go_simp; done) | (go_simp; rfl)); (case hp => exact (Reps.one (show Kd.M (Kd.int .u8) _ _ _ 9 [.int .u8 9] from rfl) (Reps.none _ _))); intro v161 w21 ho22 hb hg_ hnew_; clear hg_ hnew_; (first | rw [← Ny160.out] at ho22 | (simp only [Int.reduceToNat] at ho22; rw [← Ny160.out] at ho22)); have n0_ := z05.mk (Kd.R_elder' (by (with_reducible repeat (first | apply Kd.R_alloc | apply Kd.R_drewN | apply Kd.R_drew)); exact HO153.out) (Kd.R_base ho22) hb); have n1_ := z05.mk (Kd.R_elder' (by (with_reducible repeat (first | apply Kd.R_alloc | apply Kd.R_drewN | apply Kd.R_drew)); exact HO156.out) (Kd.R_base ho22) hb); have n2_ := z05.mk (Kd.R_elder' (by (with_reducible repeat (first | apply Kd.R_alloc | apply Kd.R_drewN | apply Kd.R_drew)); exact HO159.out) (Kd.R_base ho22) hb); have n3_ := z05.mk (Kd.R_lower (Kd.R_new' (Kd.R_new' (Kd.R_new' ho22 (Kd.R_lt (by (with_reducible repeat (first | apply Kd.R_alloc | apply Kd.R_drewN | apply Kd.R_drew)); exact HO153.out))) (Kd.R_lt (by (with_reducible repeat (first | apply Kd.R_alloc | apply Kd.R_drewN | apply Kd.R_drew)); exact HO156.out))) (Kd.R_lt (by (with_reducible repeat (first | apply Kd.R_alloc | apply Kd.R_drewN | apply Kd.R_drew)); exact HO159.out))) (z0b (by repeat (first | (with_reducible first | exact HB.out | apply z02 | apply z00 | apply z03) | exact HB.out)))); have n4_ := z05.mk (z0a (by repeat (first | (with_reducible first | exact HB.out | apply z02 | apply z00 | apply z03) | exact HB.out)) hb); clear HO153; clear HO156; clear HO159; clear HB; have HO153 := n0_; have HO156 := n1_; have HO159 := n2_; have HO162 := n3_; have HB := n4_; clear n0_ n1_ n2_ n3_ n4_; clear hb ho22; obtain ⟨Ao23, co23, eo23⟩ := Kd.R_slice HO153.out; subst eo23; obtain ⟨Ao24, co24, eo24⟩ := Kd.R_slice HO156.out; subst eo24; obtain ⟨Ao25, co25, eo25⟩ := Kd.R_slice HO159.out; subst eo25; obtain ⟨Ao26, co26, eo26⟩ := Kd.R_slice HO162.out; subst eo26) | ((with_reducible refine z0h (N := 9) rfl ?_); (try (refine z0r (by rfl) ?_; dsimp only)); refine Kd.N_lit (Kd.slice 5 (Kd.int .u8)) _ 42 ?hg (N' := 9) ?hd (xs := ([y151, y154, y157, y160] : List (List Int))) (inner := [.slice Ao23 y151.length co23, .slice Ao24 y154.length co24, .slice Ao25 y157.length co25, .slice Ao26 y160.length co26]) (ok := (fun _ => True)) (okp := (fun _ => True)) ?hr ?hp (fun _ hk => hk) ((show ∀ k_, w21.heap.size ≤ k_ → (fun _ => True) k_ from fun k_ hk => trivial) _ (Nat.le_refl _)) (Below.refl _ _) (Nat.le_refl _) (by simp) ?_; (case hd => rfl); (case hg => rfl); (case hr => first | (go_simp; done) | (go_simp; rfl)); (case hp => exact (Reps.one (show Kd.FK (Kd.slice 5 (Kd.int .u8)) _ _ y151 [.slice Ao23 y151.length co23] from (Kd.FK_slice_mk (Kd.R_reads' (Kd.R_mono (ok' := (fun _ => True)) (HO153.out) (fun k_ hk => trivial))).2.1 (Kd.R_F (Kd.R_mono (ok' := (fun _ => True)) (HO153.out) (fun k_ hk => trivial))))) (Reps.one (show Kd.FK (Kd.slice 5 (Kd.int .u8)) _ _ y154 [.slice Ao24 y154.length co24] from (Kd.FK_slice_mk (Kd.R_reads' (Kd.R_mono (ok' := (fun _ => True)) (HO156.out) (fun k_ hk => trivial))).2.1 (Kd.R_F (Kd.R_mono (ok' := (fun _ => True)) (HO156.out) (fun k_ hk => trivial))))) (Reps.one (show Kd.FK (Kd.slice 5 (Kd.int .u8)) _ _ y157 [.slice Ao25 y157.length co25] from (Kd.FK_slice_mk (Kd.R_reads' (Kd.R_mono (ok' := (fun _ => True)) (HO159.out) (fun k_ hk => trivial))).2.1 (Kd.R_F (Kd.R_mono (ok' := (fun _ => True)) (HO159.out) (fun k_ hk => trivial))))) (Reps.one (show Kd.FK (Kd.slice 5 (Kd.int .u8)) _ _ y160 [.slice Ao26 y160.length co26] from (Kd.FK_slice_mk (Kd.R_reads' (Kd.R_mono (ok' := (fun _ => True)) (HO162.out) (fun k_ hk => trivial))).2.1 (Kd.R_F (Kd.R_mono (ok' := (fun _ => True)) (HO162.out) (fun k_ hk => trivial))))) (Reps.none _ _)))))); intro v164 w27 ho28 hb hg_ hnew_; clear hg_ hnew_; (first | rw [← Ny163.out] at ho28 | (simp only [Int.reduceToNat] at ho28; rw [← Ny163.out] at ho28)); have n0_ := z05.mk (Kd.N_lower ho28 (z0b (by repeat (first | (with_reducible first | exact HB.out | apply z02 | apply z00 | apply z03) | exact HB.out)))); have n1_ := z05.mk (z0a (by repeat (first | (with_reducible first | exact HB.out | apply z02 | apply z00 | apply z03) | exact HB.out)) hb); clear HB; clear HO153; clear HO156; clear HO159; clear HO162; have HO165 := n0_; have HB := n1_; clear n0_ n1_; clear hb ho28; obtain ⟨Ao29, co29, eo29⟩ := Kd.N_slice HO165.out; subst eo29) | ((with_reducible refine z0h (N := 1) rfl ?_); (try (refine z0r (by rfl) ?_; dsimp only)); refine z0g ?hg (N := 1) ?hd (cs := #[.int .i64 0, .int .i64 0, .slice none 0 0]) (t := 27) ?hr ?_; (case hd => rfl); (case hg => rfl); (case hr => first | (go_simp; done) | (go_simp; rfl)); intro gb166 hg w30 hbox hb; have n0_ := z05.mk (Kd.N_below (Kd.N_elderB (by (with_reducible repeat (first | apply Kd.N_alloc | apply Kd.N_drewN | apply Kd.N_drew)); exact HO165.out) gb166 (Nat.le_of_eq hg.symm)) hb); have n1_ := z05.mk (z0a (by repeat (first | (with_reducible first | exact HB.out | apply z02 | apply z00 | apply z03) | exact HB.out)) hb); have n2_ := z05.mk (hbox); have n3_ := z05.mk ((by rw [hg]; exact (z0b (by repeat (first | (with_reducible first | exact HB.out | apply z02 | apply z00 | apply z03) | exact HB.out))) : w.heap.size ≤ gb166)); have n4_ := z05.mk ((by rw [hg]; exact (z0b (by repeat (first | (with_reducible first | exact HB.out | apply z02 | apply z00 | apply z03) | exact HB.out))) : w.heap.size ≤ gb166)); clear HO165; clear HB; have HO165 := n0_; have HB := n1_; have BK166 := n2_; have GW166 := n3_; have GE166 := n4_; clear n0_ n1_ n2_ n3_ n4_; clear hb hbox hg; have hcz31_0 : w30.cell? ⟨gb166, 0, none⟩ = some (.int .i64 0) := (z04 BK166.out 0).trans rfl; have hcz31_1 : w30.cell? ⟨gb166, 1, none⟩ = some (.int .i64 0) := (z04 BK166.out 1).trans rfl; have hcz31_2 : w30.cell? ⟨gb166, 2, none⟩ = some (.slice none 0 0) := (z04 BK166.out 2).trans rfl; have hfz31_0 := z01 BK166.out 0; have hfz31_1 := z01 BK166.out 1; have hfz31_2 := z01 BK166.out 2))
                  have n0_ : z05 (Kd.N (Kd.slice 5 (Kd.int .u8)) 42 (((w30.setCell ⟨gb166, 0, none⟩ (.int .i64 0)).setCell ⟨gb166, 1, none⟩ (.int .i64 3)).setCell ⟨gb166, 2, none⟩ (.slice Ao29 y163.length co29)) w.heap.size (fun k_ => k_ ≠ gb166) (.slice Ao29 y163.length co29) y163) := ⟨by (with_reducible repeat (first | apply Kd.N_alloc | apply Kd.N_drewN | apply Kd.N_drew)); exact Kd.N_mono (Kd.N_far (p := ⟨gb166, 2, none⟩) (Kd.N_far (p := ⟨gb166, 1, none⟩) (Kd.N_far (p := ⟨gb166, 0, none⟩) (Kd.N_mono HO165.out (fun k_ hk => (⟨hk, hk.2⟩ : _ ∧ k_ ≠ gb166))) (fun _ hk => hk.2) (.int .i64 0)) (fun _ hk => hk.2) (.int .i64 3)) (fun _ hk => hk.2) (.slice Ao29 y163.length co29)) (fun _ hk => hk.1.2)⟩
                  have n1_ : z05 ((((w30.setCell ⟨gb166, 0, none⟩ (.int .i64 0)).setCell ⟨gb166, 1, none⟩ (.int .i64 3)).setCell ⟨gb166, 2, none⟩ (.slice Ao29 y163.length co29)).heap[gb166]? = some (.cells #[.int .i64 0, .int .i64 3, .slice Ao29 y163.length co29] 27 (0, 0))) := ⟨by (with_reducible repeat (first | refine z07 ?_ _ | refine z08 ?_ | refine z06 ?_ _)); refine z0i (cs := #[.int .i64 0, .int .i64 3, .slice none 0 0]) ?_ 2 _ rfl; (with_reducible repeat (first | refine z07 ?_ _ | refine z08 ?_ | refine z06 ?_ _)); refine z0i (cs := #[.int .i64 0, .int .i64 0, .slice none 0 0]) ?_ 1 _ rfl; (with_reducible repeat (first | refine z07 ?_ _ | refine z08 ?_ | refine z06 ?_ _)); refine z0i (cs := #[.int .i64 0, .int .i64 0, .slice none 0 0]) ?_ 0 _ rfl; (with_reducible repeat (first | refine z07 ?_ _ | refine z08 ?_ | refine z06 ?_ _)); exact BK166.out⟩
                  have n2_ : z05 (Below w.heap.size w (((w30.setCell ⟨gb166, 0, none⟩ (.int .i64 0)).setCell ⟨gb166, 1, none⟩ (.int .i64 3)).setCell ⟨gb166, 2, none⟩ (.slice Ao29 y163.length co29))) := ⟨by repeat (first | (with_reducible first | exact HB.out | apply z02 | apply z00 | apply z03 | refine z09 ?_ GE166.out) | exact HB.out)⟩
                  (try clear HO165); (try clear BK166); (try clear HB)
                  generalize (((w30.setCell ⟨gb166, 0, none⟩ (.int .i64 0)).setCell ⟨gb166, 1, none⟩ (.int .i64 3)).setCell ⟨gb166, 2, none⟩ (.slice Ao29 y163.length co29)) = w32 at n0_ n1_ n2_ ⊢
                  have HO165 := n0_; have BK166 := n1_; have HB := n2_; clear n0_ n1_ n2_; have n0_ := z05.mk (Kd.N_drew HO165.out); have n1_ := z05.mk (z08 BK166.out); have n2_ := z05.mk (z03 HB.out); clear HO165; clear BK166; clear HB; have HO165 := n0_; have BK166 := n1_; have HB := n2_; clear n0_ n1_ n2_
                  refine z6f (n := 8) (S := fun w' => w'.cell? ⟨gb166, 0, none⟩ = some (.int .i64 0) ∧ w'.cell? ⟨gb166, 1, none⟩ = some (.int .i64 3) ∧ w'.cell? ⟨gb166, 2, none⟩ = some (.slice Ao29 y163.length co29)) (ds := []) #[false, false, false, false, false, false, false, false] (by kernel_rfl) rfl rfl ⟨(z04 BK166.out 0).trans rfl, (z04 BK166.out 1).trans rfl, (z04 BK166.out 2).trans rfl⟩ (fun hHeld => ?_); refine z39 winnowerlaw22_awake_p.tab2 winnowerlaw22_awake_p.bits2 (fun HT_ HW_ => ?_)
                  generalize w32.drew = w33 at HO165 BK166 HB hHeld ⊢
                  refine take_ (i := 1) (N := some 13) (v := ?_) (a' := ?_) #[false, true, false, false, false, false, false, false] rfl rfl (z1u HT_.out HW_.out (by kernel_rfl)) (fun _ _ _ h => h) (Or.inl ⟨by rfl, ?_⟩) hHeld ?_ ?_
                  rotate_left
                  · rintro w' ⟨s0, s1, s2⟩
                    go_simp
                    with_reducible rfl
                  rotate_left
                  · simp only [Act.put, List.setIfInBounds_toArray, List.set_cons_zero, List.set_cons_succ, i64_w, i32_w]
                    rfl
                  refine one_ (i := 0) (N := some 12) #[true, true, false, false, false, false, false, false] rfl rfl (z2x HT_.out (by kernel_rfl)) (by decide) (fun K hK => ?_)
                  refine goes_ Tryd.func15 (by kernel_rfl) rfl #[] (by rfl) rfl rfl (by (try simp only [List.map_toArray, List.map_cons, List.map_nil]); first | done | rfl | (simp only [List.length_drop, List.length_take]; rfl)) ?_
                  with_reducible refine (winnowerlaw07_Small.calls  t167 t170 t171 t172 t173 _ A1.out).mono ?_
                  rintro e w34 ⟨v168, rfl, ho0, hb⟩
                  refine ⟨_, rfl, ?_⟩
                  have n0_ := z05.mk (Kd.N_elder' (by (with_reducible repeat (first | apply Kd.N_alloc | apply Kd.N_drewN | apply Kd.N_drew)); exact HO165.out) (Kd.R_base ho0) hb); have n1_ := z05.mk (Kd.R_lower ho0 (z0b (by repeat (first | (with_reducible first | exact HB.out | apply z02 | apply z00 | apply z03 | refine z09 ?_ GE166.out) | exact HB.out)))); have n2_ := z05.mk (z0e (g := gb166) (o := .cells #[.int .i64 0, .int .i64 3, .slice Ao29 y163.length co29] 27 (0, 0)) (by (with_reducible repeat (first | refine z07 ?_ _ | refine z08 ?_ | refine z06 ?_ _)); exact BK166.out) hb); have n3_ := z05.mk (z0a (by repeat (first | (with_reducible first | exact HB.out | apply z02 | apply z00 | apply z03 | refine z09 ?_ GE166.out) | exact HB.out)) hb); clear HO165; clear BK166; clear HB; have HO165 := n0_; have HO169 := n1_; have BK166 := n2_; have HB := n3_; clear n0_ n1_ n2_ n3_; (try clear hb); (try clear hb2); (try clear hk); (try clear hi); (try clear ho0)
                  obtain ⟨Ao35, co35, eo35⟩ := Kd.R_slice HO169.out
                  (first | subst eo35 | (injection eo35 with f1_ f2_ f3_; have f4_ := f1_.symm; have f5_ := f3_.symm; clear f1_ f2_ f3_; subst f4_; subst f5_))
                  refine hK.out _ _ ⟨(z04 BK166.out 0).trans rfl, (z04 BK166.out 1).trans rfl, (z04 BK166.out 2).trans rfl⟩ (fun hHeld => ?_)
                  clear hK K
                  refine norm_ (a' := ?_) ?_ ?_
                  rotate_left
                  · show Act.put _ (some 12) _ = _
                    simp only [Act.put, List.setIfInBounds_toArray, List.set_cons_zero, List.set_cons_succ, i64_w, i32_w]
                    rfl
                  refine one_ (i := 2) (N := some 14) #[true, true, true, false, false, false, false, false] rfl rfl (z2x HT_.out (by kernel_rfl)) (by decide) (fun K hK => ?_)
                  refine goes_ Tryd.func8 (by kernel_rfl) rfl #[.agg #[.slice Ao35 t167.length co35, .int .i64 t170, .int .i64 t171, .int .i64 t172, .int .i64 t173], .int .i64 5, .agg #[.int .i64 0, .int .i64 3, .slice Ao29 y163.length co29]] (by rfl) rfl rfl (by (try simp only [List.map_toArray, List.map_cons, List.map_nil]); first | done | rfl | (simp only [List.length_drop, List.length_take]; rfl)) ?_
                  with_reducible refine (intake_Take.calls _ _ t167 t170 t171 t172 t173 5 0 3 _ _ y163 t174 t177 _ ?side1 ?side2 ?side3 ?side4 ?side5 A2.out).mono ?_
                  (case side1 => repeat (first | exact (Kd.R_reads' HO169.out).2.2 | (with_reducible refine Kd.C_alloc ?_ _) | (with_reducible refine Kd.C_drewN ?_ _) | (with_reducible refine Kd.C_drew ?_)))
                  (case side2 => exact (Kd.R_reads' HO169.out).2.1)
                  (case side3 => repeat (first | exact (Kd.N_reads' HO165.out).2.2 | (with_reducible refine Kd.C_alloc ?_ _) | (with_reducible refine Kd.C_drewN ?_ _) | (with_reducible refine Kd.C_drew ?_)))
                  (case side4 => exact (Kd.N_reads' HO165.out).2.1)
                  (case side5 => exact z1j HGL.out (by repeat (first | (with_reducible first | exact HB.out | apply z02 | apply z00 | apply z03 | refine z09 ?_ GE166.out) | exact HB.out)))
                  rintro e w36 ⟨v175, rfl, ho0, hb⟩
                  refine ⟨_, rfl, ?_⟩
                  have n0_ := z05.mk (Kd.N_elder' (by (with_reducible repeat (first | apply Kd.N_alloc | apply Kd.N_drewN | apply Kd.N_drew)); exact HO165.out) (Kd.N_base (Kd.S_N ho0)) hb); have n1_ := z05.mk (Kd.R_below (by (with_reducible repeat (first | apply Kd.R_alloc | apply Kd.R_drewN | apply Kd.R_drew)); exact HO169.out) hb); have n2_ := z05.mk (Kd.N_lower (Kd.N_mono (ok' := fun k_ => some k_ ≠ (.slice Ao29 y163.length co29 : Value).ownBlock ∧ some k_ ≠ (.slice Ao35 t167.length co35 : Value).ownBlock ∧ k_ ≠ gb166) (Kd.S_N (Kd.S_bound ho0)) (fun k_ hk_ => ⟨(Kd.fresh' (Kd.N_lt (by (with_reducible repeat (first | apply Kd.N_alloc | apply Kd.N_drewN | apply Kd.N_drew)); exact HO165.out)) k_ hk_.2.1), (Kd.fresh' (Kd.R_lt (by (with_reducible repeat (first | apply Kd.R_alloc | apply Kd.R_drewN | apply Kd.R_drew)); exact HO169.out)) k_ hk_.2.1), (Kd.freshB (g := gb166) (o := .cells #[.int .i64 0, .int .i64 3, .slice Ao29 y163.length co29] 27 (0, 0)) (by (with_reducible repeat (first | refine z07 ?_ _ | refine z08 ?_ | refine z06 ?_ _)); exact BK166.out) k_ hk_.2.1)⟩)) (z0b (by repeat (first | (with_reducible first | exact HB.out | apply z02 | apply z00 | apply z03 | refine z09 ?_ GE166.out) | exact HB.out)))); have n3_ := z05.mk (z0e (g := gb166) (o := .cells #[.int .i64 0, .int .i64 3, .slice Ao29 y163.length co29] 27 (0, 0)) (by (with_reducible repeat (first | refine z07 ?_ _ | refine z08 ?_ | refine z06 ?_ _)); exact BK166.out) hb); have n4_ := z05.mk (z0a (by repeat (first | (with_reducible first | exact HB.out | apply z02 | apply z00 | apply z03 | refine z09 ?_ GE166.out) | exact HB.out)) hb); clear HO165; clear HO169; clear BK166; clear HB; have HO165 := n0_; have HO169 := n1_; have HO176 := n2_; have BK166 := n3_; have HB := n4_; clear n0_ n1_ n2_ n3_ n4_; (try clear hb); (try clear hb2); (try clear hk); (try clear hi); (try clear ho0)
                  refine hK.out _ _ ⟨(z04 BK166.out 0).trans rfl, (z04 BK166.out 1).trans rfl, (z04 BK166.out 2).trans rfl⟩ (fun hHeld => ?_)
                  clear hK K
                  refine norm_ (a' := ?_) ?_ ?_
                  rotate_left
                  · show Act.put _ (some 14) _ = _
                    simp only [Act.put, List.setIfInBounds_toArray, List.set_cons_zero, List.set_cons_succ, i64_w, i32_w]
                    rfl
                  refine pure_ (i := 3) (N := some 11) (v := ?_) (a' := ?_) #[true, true, true, true, false, false, false, false] rfl rfl (z1a HT_.out (by kernel_rfl)) (fun _ _ _ h => h) (Or.inl ⟨by rfl, ?_⟩) ?_ ?_
                  rotate_left
                  · intro w'
                    go_simp
                    with_reducible rfl
                  rotate_left
                  · simp only [Act.put, List.setIfInBounds_toArray, List.set_cons_zero, List.set_cons_succ, i64_w, i32_w]
                    rfl
                  refine pure_ (i := 4) (N := some 15) (v := ?_) (a' := ?_) #[true, true, true, true, true, false, false, false] rfl rfl (z1a HT_.out (by kernel_rfl)) (fun _ _ _ h => h) (Or.inl ⟨by rfl, ?_⟩) ?_ ?_
                  rotate_left
                  · intro w'
                    go_simp
                    with_reducible rfl
                  rotate_left
                  · simp only [Act.put, List.setIfInBounds_toArray, List.set_cons_zero, List.set_cons_succ, i64_w, i32_w]
                    rfl
                  refine pure_ (i := 5) (N := some 16) (v := ?_) (a' := ?_) #[true, true, true, true, true, true, false, false] rfl rfl (z1a HT_.out (by kernel_rfl)) (fun _ _ _ h => h) (Or.inl ⟨by rfl, ?_⟩) ?_ ?_
                  rotate_left
                  · intro w'
                    go_simp
                    with_reducible rfl
                  rotate_left
                  · simp only [Act.put, List.setIfInBounds_toArray, List.set_cons_zero, List.set_cons_succ, i64_w, i32_w]
                    rfl
                  refine pure_ (i := 6) (N := some 2) (v := ?_) (a' := ?_) #[true, true, true, true, true, true, true, false] rfl rfl (z1a HT_.out (by kernel_rfl)) (fun _ _ _ h => h) (Or.inl ⟨by rfl, ?_⟩) ?_ ?_
                  rotate_left
                  · intro w'
                    go_simp
                    with_reducible rfl
                  rotate_left
                  · simp only [Act.put, List.setIfInBounds_toArray, List.set_cons_zero, List.set_cons_succ, i64_w, i32_w]
                    rfl
                  refine pure_ (i := 7) (N := some 3) (v := ?_) (a' := ?_) #[true, true, true, true, true, true, true, true] rfl rfl (z1a HT_.out (by kernel_rfl)) (fun _ _ _ h => h) (Or.inl ⟨by rfl, ?_⟩) ?_ ?_
                  rotate_left
                  · intro w'
                    go_simp
                    with_reducible rfl
                  rotate_left
                  · simp only [Act.put, List.setIfInBounds_toArray, List.set_cons_zero, List.set_cons_succ, i64_w, i32_w]
                    rfl
                  refine done_ (z4q HT_.out (by kernel_rfl)) ?_
                  have hcz37_0 : w36.cell? ⟨gb166, 0, none⟩ = some (.int .i64 0) := (z04 BK166.out 0).trans rfl
                  have hcz37_1 : w36.cell? ⟨gb166, 1, none⟩ = some (.int .i64 3) := (z04 BK166.out 1).trans rfl
                  have hcz37_2 : w36.cell? ⟨gb166, 2, none⟩ = some (.slice Ao29 y163.length co29) := (z04 BK166.out 2).trans rfl
                  have hfz37_0 := z01 BK166.out 0
                  have hfz37_1 := z01 BK166.out 1
                  have hfz37_2 := z01 BK166.out 2
                  try go_wp2_with (first | ((with_reducible refine z0j (f := 11) rfl ?_); refine z0u (some 18) rfl rfl Tryd.func11 (by kernel_rfl) rfl #[.int .i64 2, .agg #[.int .i64 0, .int .i64 3, .slice Ao29 y163.length co29]] rfl (by (try simp only [List.map_toArray, List.map_cons, List.map_nil]); first | done | rfl | (simp only [List.length_drop, List.length_take]; rfl)) ?_; (with_reducible refine (intake_Check.calls k 2 0 3 _ _ y163 t178 _ ?side1 ?side2 A3.out).mono ?_); (case side1 => repeat (first | exact (Kd.N_reads' HO165.out).2.2 | (with_reducible refine Kd.C_alloc ?_ _) | (with_reducible refine Kd.C_drewN ?_ _) | (with_reducible refine Kd.C_drew ?_))); (case side2 => exact (Kd.N_reads' HO165.out).2.1); rintro e w38 ⟨rfl, hb⟩; refine ⟨_, rfl, ?_⟩; have n0_ := z05.mk (Kd.N_below (by (with_reducible repeat (first | apply Kd.N_alloc | apply Kd.N_drewN | apply Kd.N_drew)); exact HO165.out) hb); have n1_ := z05.mk (Kd.R_below (by (with_reducible repeat (first | apply Kd.R_alloc | apply Kd.R_drewN | apply Kd.R_drew)); exact HO169.out) hb); have n2_ := z05.mk (Kd.N_below (by (with_reducible repeat (first | apply Kd.N_alloc | apply Kd.N_drewN | apply Kd.N_drew)); exact HO176.out) hb); have n3_ := z05.mk (z0e (g := gb166) (o := .cells #[.int .i64 0, .int .i64 3, .slice Ao29 y163.length co29] 27 (0, 0)) (by (with_reducible repeat (first | refine z07 ?_ _ | refine z08 ?_ | refine z06 ?_ _)); exact BK166.out) hb); have n4_ := z05.mk (z0a (by repeat (first | (with_reducible first | exact HB.out | apply z02 | apply z00 | apply z03 | refine z09 ?_ GE166.out) | exact HB.out)) hb); clear HO165; clear HO169; clear HO176; clear BK166; clear HB; have HO165 := n0_; have HO169 := n1_; have HO176 := n2_; have BK166 := n3_; have HB := n4_; clear n0_ n1_ n2_ n3_ n4_; (try clear hb); (try clear hb2); (try clear hk); (try clear hi); obtain ⟨Ao39, co39, eo39⟩ := Kd.N_slice HO176.out; subst eo39; have p179 : 0 ≤ (0 : Int) := (by omega); have q179 : 0 < (t174.length : Int) := of_decide_eq_true (by first | (with_reducible assumption) | assumption); obtain ⟨ad179, A179_2, c179_2, e179, hx179_0, hx179_1, hx179_2, hl179_2, hi179_2⟩ := z12 (Kd.N_reads' HO176.out).2.2 0 p179 q179; (try rw [← Nbq8.out] at hx179_1); (try rw [← Nbq11.out] at hx179_1); cases e179; obtain ⟨ce179, hce179, hMe179, hcc179⟩ := Kd.N_get HO176.out z41 0 p179 (by first | exact q179 | exact of_decide_eq_true (by first | (with_reducible assumption) | assumption) | (have e_ := (Kd.N_reads' HO176.out).1; omega)); obtain ⟨ua179_2, uc179_2, rfl, ul179_2, ge179_2⟩ := z36 hMe179; have hv179_2 := hcc179 2 _ rfl; rw [z1f _ _ 2 (by omega)] at hv179_2; replace hv179_2 := Option.some.inj (hv179_2.symm.trans hx179_2); injection hv179_2 with hva_ hvn_ hvc_; rw [hva_] at ge179_2; rw [hvc_] at ul179_2; have HL179_2 := z05.mk (show Kd.V k63 63 _ w.heap.size _ _ ((z0l t174 0).f2) from Kd.V_mk ul179_2 ge179_2); clear hva_ hvn_ hvc_ ge179_2 ul179_2; clear hcc179 hce179; have qi179 : (0 < t174.length) = True := eq_true (by omega); (try rw [show ((0 : Int)).toNat = 0 from rfl] at hx179_0); (try rw [show 0 * 3 = 0 from rfl] at hx179_0); (try rw [Addr.add_zero'] at hx179_0); (try rw [show ((0 : Int)).toNat = 0 from rfl] at hx179_1); (try rw [show 0 * 3 = 0 from rfl] at hx179_1); (try rw [Addr.add_zero'] at hx179_1); (try rw [show ((0 : Int)).toNat = 0 from rfl] at hx179_2); (try rw [show 0 * 3 = 0 from rfl] at hx179_2); (try rw [Addr.add_zero'] at hx179_2); have HR179_2 := z05.mk hi179_2; have HC179_2 := z05.mk hl179_2; clear hi179_2 hl179_2; replace p179 := eq_true p179; replace q179 := eq_true q179; have p180 : 0 ≤ (0 : Int) := (by omega); have q180 : 0 < (t174.length : Int) := of_decide_eq_true (by first | (with_reducible assumption) | assumption); obtain ⟨ad180, A180_2, c180_2, e180, hx180_0, hx180_1, hx180_2, hl180_2, hi180_2⟩ := z12 (Kd.N_reads' HO176.out).2.2 0 p180 q180; (try rw [← Nbq8.out] at hx180_1); (try rw [← Nbq11.out] at hx180_1); obtain rfl : ad179 = ad180 := (by injection e180); obtain ⟨ce180, hce180, hMe180, hcc180⟩ := Kd.N_get HO176.out z41 0 p180 (by first | exact q180 | exact of_decide_eq_true (by first | (with_reducible assumption) | assumption) | (have e_ := (Kd.N_reads' HO176.out).1; omega)); obtain ⟨ua180_2, uc180_2, rfl, ul180_2, ge180_2⟩ := z36 hMe180; have hv180_2 := hcc180 2 _ rfl; rw [z1f _ _ 2 (by omega)] at hv180_2; replace hv180_2 := Option.some.inj (hv180_2.symm.trans hx180_2); injection hv180_2 with hva_ hvn_ hvc_; rw [hva_] at ge180_2; rw [hvc_] at ul180_2; have HL180_2 := z05.mk (show Kd.V k63 63 _ w.heap.size _ _ ((z0l t174 0).f2) from Kd.V_mk ul180_2 ge180_2); clear hva_ hvn_ hvc_ ge180_2 ul180_2; clear hcc180 hce180; have qi180 : (0 < t174.length) = True := eq_true (by omega); (try rw [show ((0 : Int)).toNat = 0 from rfl] at hx180_0); (try rw [show 0 * 3 = 0 from rfl] at hx180_0); (try rw [Addr.add_zero'] at hx180_0); (try rw [show ((0 : Int)).toNat = 0 from rfl] at hx180_1); (try rw [show 0 * 3 = 0 from rfl] at hx180_1); (try rw [Addr.add_zero'] at hx180_1); (try rw [show ((0 : Int)).toNat = 0 from rfl] at hx180_2); (try rw [show 0 * 3 = 0 from rfl] at hx180_2); (try rw [Addr.add_zero'] at hx180_2); have HR180_2 := z05.mk hi180_2; have HC180_2 := z05.mk hl180_2; clear hi180_2 hl180_2; replace p180 := eq_true p180; replace q180 := eq_true q180; have ea_ := Option.some.inj (hx179_2.symm.trans hx180_2); injection ea_ with ea_ en_ ec_; subst ea_; subst ec_; clear en_; have p181 : 0 ≤ (1 : Int) := (by omega); have q181 : 1 < (t174.length : Int) := of_decide_eq_true (by first | (with_reducible assumption) | assumption); obtain ⟨ad181, A181_2, c181_2, e181, hx181_0, hx181_1, hx181_2, hl181_2, hi181_2⟩ := z12 (Kd.N_reads' HO176.out).2.2 1 p181 q181; (try rw [← Nbq8.out] at hx181_1); (try rw [← Nbq11.out] at hx181_1); obtain rfl : ad179 = ad181 := (by injection e181); obtain ⟨ce181, hce181, hMe181, hcc181⟩ := Kd.N_get HO176.out z41 1 p181 (by first | exact q181 | exact of_decide_eq_true (by first | (with_reducible assumption) | assumption) | (have e_ := (Kd.N_reads' HO176.out).1; omega)); obtain ⟨ua181_2, uc181_2, rfl, ul181_2, ge181_2⟩ := z36 hMe181; have hv181_2 := hcc181 2 _ rfl; rw [z1f _ _ 2 (by omega)] at hv181_2; replace hv181_2 := Option.some.inj (hv181_2.symm.trans hx181_2); injection hv181_2 with hva_ hvn_ hvc_; rw [hva_] at ge181_2; rw [hvc_] at ul181_2; have HL181_2 := z05.mk (show Kd.V k63 63 _ w.heap.size _ _ ((z0l t174 1).f2) from Kd.V_mk ul181_2 ge181_2); clear hva_ hvn_ hvc_ ge181_2 ul181_2; clear hcc181 hce181; (try simp only [show (1 : Int).toNat = 1 from rfl, Nat.reduceMul, Nat.reduceEqDiff, Go.Addr.add, ↓reduceIte] at hx181_0); (try simp only [show (1 : Int).toNat = 1 from rfl, Nat.reduceMul, Nat.reduceEqDiff, Go.Addr.add, ↓reduceIte] at hx181_1); (try simp only [show (1 : Int).toNat = 1 from rfl, Nat.reduceMul, Nat.reduceEqDiff, Go.Addr.add, ↓reduceIte] at hx181_2); have qi181 : (1 < t174.length) = True := eq_true (by omega); (try rw [show ((1 : Int)).toNat = 1 from rfl] at hx181_0); (try rw [show 1 * 3 = 3 from rfl] at hx181_0); (try rw [show ((1 : Int)).toNat = 1 from rfl] at hx181_1); (try rw [show 1 * 3 = 3 from rfl] at hx181_1); (try rw [show ((1 : Int)).toNat = 1 from rfl] at hx181_2); (try rw [show 1 * 3 = 3 from rfl] at hx181_2); have HR181_2 := z05.mk hi181_2; have HC181_2 := z05.mk hl181_2; clear hi181_2 hl181_2; replace p181 := eq_true p181; replace q181 := eq_true q181; have hcz40_0 : w38.cell? ⟨gb166, 0, none⟩ = some (.int .i64 0) := (z04 BK166.out 0).trans rfl; have hcz40_1 : w38.cell? ⟨gb166, 1, none⟩ = some (.int .i64 3) := (z04 BK166.out 1).trans rfl; have hcz40_2 : w38.cell? ⟨gb166, 2, none⟩ = some (.slice Ao29 y163.length co29) := (z04 BK166.out 2).trans rfl; have hfz40_0 := z01 BK166.out 0; have hfz40_1 := z01 BK166.out 1; have hfz40_2 := z01 BK166.out 2) | (go_at_call 13; (with_reducible refine (intake_Next.calls k 5 0 3 _ _ y163 t182 _ ?side1 ?side2 A13.out).mono ?_); (case side1 => repeat (first | exact (Kd.N_reads' HO165.out).2.2 | (with_reducible refine Kd.C_alloc ?_ _) | (with_reducible refine Kd.C_drewN ?_ _) | (with_reducible refine Kd.C_drew ?_))); (case side2 => exact (Kd.N_reads' HO165.out).2.1); rintro e w41 ⟨rfl, hb⟩; have n0_ := z05.mk (Kd.N_below (by (with_reducible repeat (first | apply Kd.N_alloc | apply Kd.N_drewN | apply Kd.N_drew)); exact HO165.out) hb); have n1_ := z05.mk (Kd.R_below (by (with_reducible repeat (first | apply Kd.R_alloc | apply Kd.R_drewN | apply Kd.R_drew)); exact HO169.out) hb); have n2_ := z05.mk (Kd.N_below (by (with_reducible repeat (first | apply Kd.N_alloc | apply Kd.N_drewN | apply Kd.N_drew)); exact HO176.out) hb); have n3_ := z05.mk (Kd.V_below (by (with_reducible repeat (first | apply Kd.V_alloc | apply Kd.V_drewN | apply Kd.V_drew)); exact HL179_2.out) hb); have n4_ := z05.mk (Kd.V_below (by (with_reducible repeat (first | apply Kd.V_alloc | apply Kd.V_drewN | apply Kd.V_drew)); exact HL180_2.out) hb); have n5_ := z05.mk (Kd.V_below (by (with_reducible repeat (first | apply Kd.V_alloc | apply Kd.V_drewN | apply Kd.V_drew)); exact HL181_2.out) hb); have n6_ := z05.mk (z0e (g := gb166) (o := .cells #[.int .i64 0, .int .i64 3, .slice Ao29 y163.length co29] 27 (0, 0)) (by (with_reducible repeat (first | refine z07 ?_ _ | refine z08 ?_ | refine z06 ?_ _)); exact BK166.out) hb); have n7_ := z05.mk (Kd.C_below (by repeat (first | (with_reducible exact HR179_2.out) | (with_reducible refine Kd.C_alloc ?_ _) | (with_reducible refine Kd.C_drewN ?_ _) | (with_reducible refine Kd.C_drew ?_) | exact HR179_2.out)) hb); have n8_ := z05.mk (Kd.C_below (by repeat (first | (with_reducible exact HR180_2.out) | (with_reducible refine Kd.C_alloc ?_ _) | (with_reducible refine Kd.C_drewN ?_ _) | (with_reducible refine Kd.C_drew ?_) | exact HR180_2.out)) hb); have n9_ := z05.mk (Kd.C_below (by repeat (first | (with_reducible exact HR181_2.out) | (with_reducible refine Kd.C_alloc ?_ _) | (with_reducible refine Kd.C_drewN ?_ _) | (with_reducible refine Kd.C_drew ?_) | exact HR181_2.out)) hb); have n10_ := z05.mk (z0a (by repeat (first | (with_reducible first | exact HB.out | apply z02 | apply z00 | apply z03 | refine z09 ?_ GE166.out) | exact HB.out)) hb); clear HO165; clear HO169; clear HO176; clear HL179_2; clear HL180_2; clear HL181_2; clear BK166; clear HR179_2; clear HR180_2; clear HR181_2; clear HB; have HO165 := n0_; have HO169 := n1_; have HO176 := n2_; have HL179_2 := n3_; have HL180_2 := n4_; have HL181_2 := n5_; have BK166 := n6_; have HR179_2 := n7_; have HR180_2 := n8_; have HR181_2 := n9_; have HB := n10_; clear n0_ n1_ n2_ n3_ n4_ n5_ n6_ n7_ n8_ n9_ n10_; (try clear hb); (try clear hb2); (try clear hk); (try clear hi)))
                  go_ret
                  exact ⟨by first | rfl | (simp [z0d, z0c] <;> rfl) | (refine congrArg (fun b_ : Bool => Ending.returned (Value.bool b_)) ?_; simp; done) | (simp [*, z0d, z0c] <;> rfl), by repeat (first | (with_reducible first | exact HB.out | apply z02 | apply z00 | apply z03 | refine z09 ?_ GE166.out) | exact HB.out)⟩
                · rw [if_neg c14] at H
                  have c14b0 : (t182 == 7) = false := beq_eq_false_iff_ne.mpr c14
                  have c14b1 : (t182 != 7) = true := bne_iff_ne.mpr c14
                  exact absurd (HTRUE.out.symm.trans (Option.some.inj H).symm) (by decide)
            · rw [if_neg c10] at H
              exact absurd H (by simp)
          · replace c9 := Bool.eq_false_iff.mpr c9
            subst c9
            have H1 : (some false) = some r := by rw [if_neg (show ¬ (false = true) by decide)] at H; exact H
            clear H
            have H := H1
            clear H1
            exact absurd (HTRUE.out.symm.trans (Option.some.inj H).symm) (by decide)
        · rw [if_neg c7] at H
          have c7b0 : (((z0l t174 0).f0) == 5) = false := beq_eq_false_iff_ne.mpr c7
          have c7b1 : (((z0l t174 0).f0) != 5) = true := bne_iff_ne.mpr c7
          exact absurd (HTRUE.out.symm.trans (Option.some.inj H).symm) (by decide)
      · rw [if_neg c6] at H
        exact absurd H (by simp)
    · rw [if_neg c5] at H
      have c5b0 : ((t174.length : Int) == 2) = false := beq_eq_false_iff_ne.mpr c5
      have c5b0y0 := c5b0
      (try simp only [hl179_2] at c5b0y0)
      have c5b0y1 := c5b0
      (try simp only [hl180_2] at c5b0y1)
      have c5b0y2 := c5b0
      (try simp only [hl181_2] at c5b0y2)
      have c5b1 : ((t174.length : Int) != 2) = true := bne_iff_ne.mpr c5
      have c5b1y0 := c5b1
      (try simp only [hl179_2] at c5b1y0)
      have c5b1y1 := c5b1
      (try simp only [hl180_2] at c5b1y1)
      have c5b1y2 := c5b1
      (try simp only [hl181_2] at c5b1y2)
      exact absurd (HTRUE.out.symm.trans (Option.some.inj H).symm) (by decide)
  · rw [if_neg c4] at H
    have c4b0 : (t177 == 0) = false := beq_eq_false_iff_ne.mpr c4
    have c4b1 : (t177 != 0) = true := bne_iff_ne.mpr c4
    exact absurd (HTRUE.out.symm.trans (Option.some.inj H).symm) (by decide)

end Go.Proofs.YtimomihjghefdaaDoor.Q
namespace Go.Proofs.YtimomihjghefdaaDoor.Q
open Go.RowKit Go.Proofs.YtimomihjghefdaaDoorW.PrintWords Go.Proofs.YtimomihjghefdaaDoorW.PrintLast Go.Proofs.YtimomihjghefdaaDoorW.PrintMore
attribute [local go_sem] z0y z0v z0z z10 z0s z0t z0w z0x   -- for this text's walks alone
set_option linter.unusedVariables false
set_option linter.unusedSimpArgs false

-- BY HAND: Derived.Test.YtimomihjghefdaaDoorHsch22
/-! ### winnowerlaw22_awake: function 5 -/
-- HAND winnower/winnowerlaw22.awake over making glob lawlike
-- IMPORT Derived.Test.YtimomihjghefdaaDoorHsch22
-- USES intake_Take intake_Check intake_Next
open Go.Proofs.YtimomihjghefdaaDoor.Hnum Go.Proofs.YtimomihjghefdaaDoor.Hval
theorem b9 : V.bytes ⟨1, -5, ⟨#[]⟩, false⟩ = [9] := by
  unfold V.bytes
  rw [if_pos rfl, show fold (-5) = 9 from rfl, z2g (by decide)]
  rfl
theorem z7w : V.may ⟨1, -5, ⟨#[]⟩, false⟩ = true := by
  unfold V.may
  rw [if_pos rfl, toL []]
  rfl
theorem z5i : decC z1i [9] [] = some ([], 6) := by
  have hg : value_Get.f [9] 1 = some (1, -5, ⟨#[]⟩, false, 1, 0) := by
    rw [value_Get.tell (by intro x hx; simp only [List.mem_cons, List.not_mem_nil, or_false] at hx; subst hx; decide) (by decide)]
    have h := z3m z7w (by decide) []
    rw [b9] at h
    exact congrArg some h
  have c1 : schema_column.f false 1 [9] = some (1, -5, ⟨#[]⟩, false, 1, 0) := by
    unfold schema_column.f
    rw [if_neg (by decide), hg, Option.map_some]
    unfold fin1
    simp only
    rw [show wrap64 (0 + 1) = 1 from by unfold wrap64; omega]
    first | rfl | simp
  have c2 : schema_column.f true 2 [] = some (0, 0, ⟨#[]⟩, false, 0, 6) := by
    unfold schema_column.f
    rw [if_pos rfl, if_pos rfl]
  unfold z1i
  simp only [decC]
  rw [c1, Option.bind_some]
  simp only
  rw [if_pos trivial, if_pos (by decide), show List.drop (Int.toNat 1) [(9 : Int)] = [] from rfl, c2, Option.bind_some]
  simp only
  rw [if_neg (by decide)]
theorem z97 : winnowerlaw22_awake_p.f 10 = some true := by
  unfold winnowerlaw22_awake_p.f
  rw [show winnowerlaw07_Small.f = some (z1i, -1, -1, -1, -1) from rfl, Option.bind_some, Option.bind_some]
  simp only
  have e1 : schema_Decode.f z1i (-1) (-1) (-1) (-1) [10, 0] = some ([⟨1, 5, ⟨#[]⟩, false⟩, ⟨0, 0, ⟨#[]⟩, false⟩], 0) := by
    rw [z2v z1i (by decide), z2y, if_pos rfl, z77]
  have e2 : schema_Decode.f z1i (-1) (-1) (-1) (-1) [9] = some ([], 6) := by
    rw [z2v z1i (by decide), z2y, if_pos rfl, z5i]
  have e3 : schema_May.f z1i (-1) (-1) (-1) (-1) = some true := by
    unfold schema_May.f
    rw [if_pos (by decide), z2y]
  have e4 : intake_Check.f 9 5 0 3 [[10, 0], [10, 0], [10, 0], [9]] = some 0 := by kernel_rfl
  have e5 : intake_Check.f 10 2 0 3 [[10, 0], [10, 0], [10, 0], [9]] = some 11 := by kernel_rfl
  have e6 : intake_Next.f 10 5 0 3 [[10, 0], [10, 0], [10, 0], [9]] = some 7 := by kernel_rfl
  have e7 : newR 5 3 [[10, 0], [10, 0], [10, 0], [9]] 0 = [(5, [10, 0]), (6, [9])] := by kernel_rfl
  have e8 : intake_Take.f z1i (-1) (-1) (-1) (-1) 5 0 3 [[10, 0], [10, 0], [10, 0], [9]] = some ([⟨5, true, [⟨1, 5, ⟨#[]⟩, false⟩, ⟨0, 0, ⟨#[]⟩, false⟩]⟩, ⟨6, false, []⟩], 0) := by
    unfold intake_Take.f
    rw [e3, Option.bind_some, if_pos rfl, e4, Option.bind_some, if_pos rfl, if_pos (by decide), e7]
    unfold recR recR recR
    rw [e1, Option.bind_some, e2, Option.bind_some, Option.bind_some, Option.bind_some]
    rfl
  rw [e8, Option.bind_some, e5, Option.bind_some]
  simp only
  rw [e6]
  rfl
def winnowerlaw22_awake.f : Option Bool := some true
theorem winnowerlaw22_awake.calls (r : Bool) (w : World) (hG : Globs w) (h : winnowerlaw22_awake.f = some r) :
    Calls Tryd.prog 5 #[] w fun e w' => e = .returned (.bool r) ∧ Below w.heap.size w w' :=
  winnowerlaw22_awake_p.calls 10 r w hG (Option.some.inj h).symm (z97.trans h)

end Go.Proofs.YtimomihjghefdaaDoor.Q
