/- The machine side of laws, written by wip/tools/myprint.py (the printer's way, with functions proved by hand put in); Lean checks it. Chapter 07: few columns, light rows, rows that are the same. Chapter 07: what bytes are decoded to, and back, in plain words. -/
import Derived.Test.YteefchdfdgfaaaaDoorJ1
import Derived.Test.YteefchdfdgfaaaaDoorJ4
import Derived.Test.YteefchdfdgfaaaaDoorJ2
import Derived.Test.YteefchdfdgfaaaaDoorJ3
import Derived.Test.YteefchdfdgfaaaaDoorQx12
import Derived.Test.YteefchdfdgfaaaaDoorQx18
import Derived.Test.YteefchdfdgfaaaaDoorJ0
import Derived.Deep.RegionLaw
namespace Go.Proofs.YteefchdfdgfaaaaDoor.Q
open Go.RowKit Go.Proofs.YteefchdfdgfaaaaDoorW.PrintWords Go.Proofs.YteefchdfdgfaaaaDoorW.PrintLast Go.Proofs.YteefchdfdgfaaaaDoorW.PrintMore
attribute [local go_sem] max2_int min2_int max_two min_two max_three min_three max_four min_four   -- for this text's walks alone
set_option linter.unusedVariables false
set_option linter.unusedSimpArgs false

attribute [local go_sem high] eqA46
/-! ### winnowerlaw07_Small: function 23 -/
def winnowerlaw07_Small.f  : Option ((List (S48)) × Int × Int × Int × Int) := some ((([(⟨(⟨#[107]⟩ : ByteArray), 1, false⟩ : S48), (⟨(⟨#[118]⟩ : ByteArray), 2, true⟩ : S48)] : List (S48))), (-1), (-1), (-1), (-1))
set_option maxHeartbeats 8000000 in
set_option maxRecDepth 100000 in
theorem winnowerlaw07_Small.calls  (r1 : List (S48)) (r2 : Int) (r3 : Int) (r4 : Int) (r5 : Int) (w : World) (h : winnowerlaw07_Small.f  = some (r1, r2, r3, r4, r5)) :
    Calls Tryd.prog 23 #[] w fun e w' => ∃ v0_ : Value, e = .returned (.agg #[v0_, .int .i64 r2, .int .i64 r3, .int .i64 r4, .int .i64 r5]) ∧ Kd.R k48 48 w' w.heap.size (fun _ => True) v0_ r1 ∧ Below w.heap.size w w' := by
  have hu24 := Tryd.underlying24
  have hu48 := Tryd.underlying48
  have HB := Aside0.mk (Below.refl w.heap.size w)
  have H : (some ((([(⟨(⟨#[107]⟩ : ByteArray), 1, false⟩ : S48), (⟨(⟨#[118]⟩ : ByteArray), 2, true⟩ : S48)] : List (S48))), (-1), (-1), (-1), (-1))) = some (r1, r2, r3, r4, r5) := h
  clear h
  obtain ⟨y192, hy192⟩ : ∃ y_ : List (S48), y_ = (([(⟨(⟨#[107]⟩ : ByteArray), 1, false⟩ : S48), (⟨(⟨#[118]⟩ : ByteArray), 2, true⟩ : S48)] : List (S48))) := ⟨_, rfl⟩
  replace H : (some (y192, (-1), (-1), (-1), (-1))) = some (r1, r2, r3, r4, r5) := by first | (rw [hy192]; with_reducible exact H) | (have H2_ := (Option.bind_some _ _).symm.trans H; rw [hy192]; with_reducible exact H2_) | (have H2_ := (Option.bind_some _ _).symm.trans H; with_reducible exact H2_) | with_reducible exact H | (rw [hy192]; exact H) | exact H
  have Ny192 := Aside0.mk hy192
  clear hy192
  simp only [Option.some.injEq, Prod.mk.injEq] at H
  obtain ⟨rfl, rfl, rfl, rfl, rfl⟩ := H
  go_enter Tryd.func23, Tryd.ntmps23
  go_wp2_with (first | ((with_reducible refine gate_dst (N := 0) rfl ?_); refine box_event ?hg (N := 0) ?hd (cs := #[.slice none 0 0, .int .i64 0, .int .i64 0, .int .i64 0, .int .i64 0]) (t := 24) ?hr ?_; (case hd => rfl); (case hg => rfl); (case hr => first | (go_simp; done) | (go_simp; rfl)); intro gb191 hg w1 hbox hb; have n0_ := Aside0.mk (below_step (by repeat (first | (with_reducible first | exact HB.out | apply below_alloc | apply pw_below_drewN | apply below_drew1) | exact HB.out)) hb); have n1_ := Aside0.mk (hbox); have n2_ := Aside0.mk ((by rw [hg]; exact (below_size (by repeat (first | (with_reducible first | exact HB.out | apply below_alloc | apply pw_below_drewN | apply below_drew1) | exact HB.out))) : w.heap.size ≤ gb191)); have n3_ := Aside0.mk ((by rw [hg]; exact (below_size (by repeat (first | (with_reducible first | exact HB.out | apply below_alloc | apply pw_below_drewN | apply below_drew1) | exact HB.out))) : w.heap.size ≤ gb191)); clear HB; have HB := n0_; have BK191 := n1_; have GW191 := n2_; have GE191 := n3_; clear n0_ n1_ n2_ n3_; clear hb hbox hg) | ((with_reducible refine gate_dst (N := 3) rfl ?_); refine Kd.R_lit k48 _ 48 ?hg (N := 3) ?hd (xs := ([(⟨(⟨#[107]⟩ : ByteArray), 1, false⟩ : S48), (⟨(⟨#[118]⟩ : ByteArray), 2, true⟩ : S48)] : List (S48))) (inner := [.string (⟨#[107]⟩ : ByteArray), .int .i64 1, .bool false, .string (⟨#[118]⟩ : ByteArray), .int .i64 2, .bool true]) (ok := fun _ => True) (okp := fun _ => True) ?hr ?hp (fun _ hk => hk) trivial (Below.refl _ _) (Nat.le_refl _) (by simp) ?_; (case hd => rfl); (case hg => rfl); (case hr => first | (go_simp; done) | (go_simp; rfl)); (case hp => exact (Reps.c3 (show Kd.M k48 _ _ _ (⟨(⟨#[107]⟩ : ByteArray), 1, false⟩ : S48) [.string (⟨#[107]⟩ : ByteArray), .int .i64 1, .bool false] from (k48_mkM _ _ _ (⟨(⟨#[107]⟩ : ByteArray), 1, false⟩ : S48) )) (Reps.c3 (show Kd.M k48 _ _ _ (⟨(⟨#[118]⟩ : ByteArray), 2, true⟩ : S48) [.string (⟨#[118]⟩ : ByteArray), .int .i64 2, .bool true] from (k48_mkM _ _ _ (⟨(⟨#[118]⟩ : ByteArray), 2, true⟩ : S48) )) (Reps.none _ _)))); intro v193 w2 ho3 hb hg_ hnew_; clear hg_ hnew_; (first | rw [← Ny192.out] at ho3 | (simp only [Int.reduceToNat] at ho3; rw [← Ny192.out] at ho3)); have n0_ := Aside0.mk (Kd.R_lower ho3 (below_size (by repeat (first | (with_reducible first | exact HB.out | apply below_alloc | apply pw_below_drewN | apply below_drew1 | refine below_set ?_ GE191.out) | exact HB.out)))); have n1_ := Aside0.mk (blk_below (g := gb191) (o := .cells #[.slice none 0 0, .int .i64 0, .int .i64 0, .int .i64 0, .int .i64 0] 24 (0, 0)) (by (with_reducible repeat (first | refine blk_drewN ?_ _ | refine blk_drew ?_ | refine blk_alloc ?_ _)); exact BK191.out) hb); have n2_ := Aside0.mk (below_step (by repeat (first | (with_reducible first | exact HB.out | apply below_alloc | apply pw_below_drewN | apply below_drew1 | refine below_set ?_ GE191.out) | exact HB.out)) hb); clear BK191; clear HB; have HO194 := n0_; have BK191 := n1_; have HB := n2_; clear n0_ n1_ n2_; clear hb ho3; obtain ⟨Ao4, co4, eo4⟩ := Kd.R_slice HO194.out; subst eo4; have hcz5_0 : w2.cell? ⟨gb191, 0, none⟩ = some (.slice none 0 0) := (blk_cell BK191.out 0).trans rfl; have hcz5_1 : w2.cell? ⟨gb191, 1, none⟩ = some (.int .i64 0) := (blk_cell BK191.out 1).trans rfl; have hcz5_2 : w2.cell? ⟨gb191, 2, none⟩ = some (.int .i64 0) := (blk_cell BK191.out 2).trans rfl; have hcz5_3 : w2.cell? ⟨gb191, 3, none⟩ = some (.int .i64 0) := (blk_cell BK191.out 3).trans rfl; have hcz5_4 : w2.cell? ⟨gb191, 4, none⟩ = some (.int .i64 0) := (blk_cell BK191.out 4).trans rfl; have hfz5_0 := blk_frozen BK191.out 0; have hfz5_1 := blk_frozen BK191.out 1; have hfz5_2 := blk_frozen BK191.out 2; have hfz5_3 := blk_frozen BK191.out 3; have hfz5_4 := blk_frozen BK191.out 4))
  refine bodyPost_ret (results_cell_row rfl _ _ gb191 24 #[.slice Ao4 y192.length co4, .int .i64 (-1), .int .i64 (-1), .int .i64 (-1), .int .i64 (-1)] (0, 0) _ rfl (by (with_reducible repeat (first | refine blk_drewN ?_ _ | refine blk_drew ?_ | refine blk_alloc ?_ _)); refine blk_put (cs := #[.slice Ao4 y192.length co4, .int .i64 (-1), .int .i64 (-1), .int .i64 (-1), .int .i64 0]) ?_ 4 _ rfl; (with_reducible repeat (first | refine blk_drewN ?_ _ | refine blk_drew ?_ | refine blk_alloc ?_ _)); refine blk_put (cs := #[.slice Ao4 y192.length co4, .int .i64 (-1), .int .i64 (-1), .int .i64 0, .int .i64 0]) ?_ 3 _ rfl; (with_reducible repeat (first | refine blk_drewN ?_ _ | refine blk_drew ?_ | refine blk_alloc ?_ _)); refine blk_put (cs := #[.slice Ao4 y192.length co4, .int .i64 (-1), .int .i64 0, .int .i64 0, .int .i64 0]) ?_ 2 _ rfl; (with_reducible repeat (first | refine blk_drewN ?_ _ | refine blk_drew ?_ | refine blk_alloc ?_ _)); refine blk_put (cs := #[.slice Ao4 y192.length co4, .int .i64 0, .int .i64 0, .int .i64 0, .int .i64 0]) ?_ 1 _ rfl; (with_reducible repeat (first | refine blk_drewN ?_ _ | refine blk_drew ?_ | refine blk_alloc ?_ _)); refine blk_put (cs := #[.slice none 0 0, .int .i64 0, .int .i64 0, .int .i64 0, .int .i64 0]) ?_ 0 _ rfl; (with_reducible repeat (first | refine blk_drewN ?_ _ | refine blk_drew ?_ | refine blk_alloc ?_ _)); exact BK191.out) Tryd.underlying24 rfl (by kernel_rfl)) rfl ?_
  exact ⟨_, by first | rfl | (simp [errW_none, errW_some] <;> rfl) | (refine congrArg (fun b_ : Bool => Ending.returned (Value.bool b_)) ?_; simp; done) | (simp [*, errW_none, errW_some] <;> rfl), by (with_reducible repeat (first | apply Kd.R_alloc | apply Kd.R_drewN | apply Kd.R_drew)); exact Kd.R_mono (Kd.R_far (p := ⟨gb191, 4, none⟩) (Kd.R_far (p := ⟨gb191, 3, none⟩) (Kd.R_far (p := ⟨gb191, 2, none⟩) (Kd.R_far (p := ⟨gb191, 1, none⟩) (Kd.R_far (p := ⟨gb191, 0, none⟩) (Kd.R_types HO194.out BK191.out (by decide)) (fun _ hk => hk.2) (.slice Ao4 y192.length co4)) (fun _ hk => hk.2) (.int .i64 (-1))) (fun _ hk => hk.2) (.int .i64 (-1))) (fun _ hk => hk.2) (.int .i64 (-1))) (fun _ hk => hk.2) (.int .i64 (-1))) (fun _ hk => trivial), by repeat (first | (with_reducible first | exact HB.out | apply below_alloc | apply pw_below_drewN | apply below_drew1 | refine below_set ?_ GE191.out) | exact HB.out)⟩

/-! ### winnowerlaw07_awake_p: function 8 -/
def winnowerlaw07_awake_p.f (k : Nat)  : Option (Bool) := (winnowerlaw07_Small.f).bind fun bt195 => ((schema_Encode.f k bt195.1 bt195.2.1 bt195.2.2.1 bt195.2.2.2.1 bt195.2.2.2.2 (([(⟨1, 5, (⟨#[]⟩ : ByteArray), false⟩ : S46), (⟨2, 0, (⟨#[97]⟩ : ByteArray), false⟩ : S46)] : List (S46)))).bind fun bt206 => ((schema_Decode.f bt195.1 bt195.2.1 bt195.2.2.1 bt195.2.2.2.1 bt195.2.2.2.2 (([10, 0] : List Int))).bind fun bt213 => ((winnowerref01_Same.f bt206.1 (([10, 1, 1, 97] : List Int))).bind fun t220 => (if t220 = true then (if bt206.2 = 0 then (if bt213.2 = 0 then (if (bt213.1.length : Int) = 2 then (if 0 < (bt213.1.length : Int) then (if ((rd_T46 bt213.1 0).f1) = 5 then (if 1 < (bt213.1.length : Int) then (if (((rd_T46 bt213.1 1).f0) == 0 && (((rd_T46 bt213.1 1).f1) == 0 && ((((rd_T46 bt213.1 1).f2).toList) == ([] : List UInt8) && (!((rd_T46 bt213.1 1).f3))))) = true then ((schema_Find.f bt195.1 bt195.2.1 bt195.2.2.1 bt195.2.2.2.1 bt195.2.2.2.2 (⟨#[118]⟩ : ByteArray)).bind fun t223 => (if t223 = 1 then ((schema_May.f bt195.1 bt195.2.1 bt195.2.2.1 bt195.2.2.2.1 bt195.2.2.2.2).bind fun t224 => (some t224)) else (some false))) else (some false)) else (none)) else (some false)) else (none)) else (some false)) else (some false)) else (some false)) else (some false)))))
set_option maxHeartbeats 8000000 in
set_option maxRecDepth 100000 in
theorem winnowerlaw07_awake_p.calls (k : Nat)  (r : Bool) (w : World) (hG : Globs w) (hT_ : r = true) (h : winnowerlaw07_awake_p.f k  = some r) :
    Calls Tryd.prog 8 #[] w fun e w' => e = .returned (.bool r) ∧ Below w.heap.size w w' := by
  have hu24 := Tryd.underlying24
  have hu46 := Tryd.underlying46
  have HGL := Aside0.mk hG
  clear hG
  have HTRUE := Aside0.mk hT_
  clear hT_
  have HB := Aside0.mk (Below.refl w.heap.size w)
  have H : ((winnowerlaw07_Small.f).bind fun bt195 => ((schema_Encode.f k bt195.1 bt195.2.1 bt195.2.2.1 bt195.2.2.2.1 bt195.2.2.2.2 (([(⟨1, 5, (⟨#[]⟩ : ByteArray), false⟩ : S46), (⟨2, 0, (⟨#[97]⟩ : ByteArray), false⟩ : S46)] : List (S46)))).bind fun bt206 => ((schema_Decode.f bt195.1 bt195.2.1 bt195.2.2.1 bt195.2.2.2.1 bt195.2.2.2.2 (([10, 0] : List Int))).bind fun bt213 => ((winnowerref01_Same.f bt206.1 (([10, 1, 1, 97] : List Int))).bind fun t220 => (if t220 = true then (if bt206.2 = 0 then (if bt213.2 = 0 then (if (bt213.1.length : Int) = 2 then (if 0 < (bt213.1.length : Int) then (if ((rd_T46 bt213.1 0).f1) = 5 then (if 1 < (bt213.1.length : Int) then (if (((rd_T46 bt213.1 1).f0) == 0 && (((rd_T46 bt213.1 1).f1) == 0 && ((((rd_T46 bt213.1 1).f2).toList) == ([] : List UInt8) && (!((rd_T46 bt213.1 1).f3))))) = true then ((schema_Find.f bt195.1 bt195.2.1 bt195.2.2.1 bt195.2.2.2.1 bt195.2.2.2.2 (⟨#[118]⟩ : ByteArray)).bind fun t223 => (if t223 = 1 then ((schema_May.f bt195.1 bt195.2.1 bt195.2.2.1 bt195.2.2.2.1 bt195.2.2.2.2).bind fun t224 => (some t224)) else (some false))) else (some false)) else (none)) else (some false)) else (none)) else (some false)) else (some false)) else (some false)) else (some false)))))) = some r := h
  clear h
  replace H := Option.bind_eq_some_iff.mp H
  obtain ⟨⟨t195, t198, t199, t200, t201⟩, A10, H⟩ := H
  replace H : ((schema_Encode.f k t195 t198 t199 t200 t201 (([(⟨1, 5, (⟨#[]⟩ : ByteArray), false⟩ : S46), (⟨2, 0, (⟨#[97]⟩ : ByteArray), false⟩ : S46)] : List (S46)))).bind fun bt206 => ((schema_Decode.f t195 t198 t199 t200 t201 (([10, 0] : List Int))).bind fun bt213 => ((winnowerref01_Same.f bt206.1 (([10, 1, 1, 97] : List Int))).bind fun t220 => (if t220 = true then (if bt206.2 = 0 then (if bt213.2 = 0 then (if (bt213.1.length : Int) = 2 then (if 0 < (bt213.1.length : Int) then (if ((rd_T46 bt213.1 0).f1) = 5 then (if 1 < (bt213.1.length : Int) then (if (((rd_T46 bt213.1 1).f0) == 0 && (((rd_T46 bt213.1 1).f1) == 0 && ((((rd_T46 bt213.1 1).f2).toList) == ([] : List UInt8) && (!((rd_T46 bt213.1 1).f3))))) = true then ((schema_Find.f t195 t198 t199 t200 t201 (⟨#[118]⟩ : ByteArray)).bind fun t223 => (if t223 = 1 then ((schema_May.f t195 t198 t199 t200 t201).bind fun t224 => (some t224)) else (some false))) else (some false)) else (none)) else (some false)) else (none)) else (some false)) else (some false)) else (some false)) else (some false))))) = some r := H
  have A1 := Aside0.mk A10
  clear A10
  obtain ⟨y203, hy203⟩ : ∃ y_ : List (S46), y_ = (([(⟨1, 5, (⟨#[]⟩ : ByteArray), false⟩ : S46), (⟨2, 0, (⟨#[97]⟩ : ByteArray), false⟩ : S46)] : List (S46))) := ⟨_, rfl⟩
  replace H : ((schema_Encode.f k t195 t198 t199 t200 t201 y203).bind fun bt206 => ((schema_Decode.f t195 t198 t199 t200 t201 (([10, 0] : List Int))).bind fun bt213 => ((winnowerref01_Same.f bt206.1 (([10, 1, 1, 97] : List Int))).bind fun t220 => (if t220 = true then (if bt206.2 = 0 then (if bt213.2 = 0 then (if (bt213.1.length : Int) = 2 then (if 0 < (bt213.1.length : Int) then (if ((rd_T46 bt213.1 0).f1) = 5 then (if 1 < (bt213.1.length : Int) then (if (((rd_T46 bt213.1 1).f0) == 0 && (((rd_T46 bt213.1 1).f1) == 0 && ((((rd_T46 bt213.1 1).f2).toList) == ([] : List UInt8) && (!((rd_T46 bt213.1 1).f3))))) = true then ((schema_Find.f t195 t198 t199 t200 t201 (⟨#[118]⟩ : ByteArray)).bind fun t223 => (if t223 = 1 then ((schema_May.f t195 t198 t199 t200 t201).bind fun t224 => (some t224)) else (some false))) else (some false)) else (none)) else (some false)) else (none)) else (some false)) else (some false)) else (some false)) else (some false))))) = some r := by first | (rw [hy203]; with_reducible exact H) | (have H2_ := (Option.bind_some _ _).symm.trans H; rw [hy203]; with_reducible exact H2_) | (have H2_ := (Option.bind_some _ _).symm.trans H; with_reducible exact H2_) | with_reducible exact H | (rw [hy203]; exact H) | exact H
  have Ny203 := Aside0.mk hy203
  clear hy203
  replace H := Option.bind_eq_some_iff.mp H
  obtain ⟨⟨t206, t209⟩, A20, H⟩ := H
  replace H : ((schema_Decode.f t195 t198 t199 t200 t201 (([10, 0] : List Int))).bind fun bt213 => ((winnowerref01_Same.f t206 (([10, 1, 1, 97] : List Int))).bind fun t220 => (if t220 = true then (if t209 = 0 then (if bt213.2 = 0 then (if (bt213.1.length : Int) = 2 then (if 0 < (bt213.1.length : Int) then (if ((rd_T46 bt213.1 0).f1) = 5 then (if 1 < (bt213.1.length : Int) then (if (((rd_T46 bt213.1 1).f0) == 0 && (((rd_T46 bt213.1 1).f1) == 0 && ((((rd_T46 bt213.1 1).f2).toList) == ([] : List UInt8) && (!((rd_T46 bt213.1 1).f3))))) = true then ((schema_Find.f t195 t198 t199 t200 t201 (⟨#[118]⟩ : ByteArray)).bind fun t223 => (if t223 = 1 then ((schema_May.f t195 t198 t199 t200 t201).bind fun t224 => (some t224)) else (some false))) else (some false)) else (none)) else (some false)) else (none)) else (some false)) else (some false)) else (some false)) else (some false)))) = some r := H
  have A2 := Aside0.mk A20
  clear A20
  obtain ⟨y210, hy210⟩ : ∃ y_ : List Int, y_ = (([10, 0] : List Int)) := ⟨_, rfl⟩
  replace H : ((schema_Decode.f t195 t198 t199 t200 t201 y210).bind fun bt213 => ((winnowerref01_Same.f t206 (([10, 1, 1, 97] : List Int))).bind fun t220 => (if t220 = true then (if t209 = 0 then (if bt213.2 = 0 then (if (bt213.1.length : Int) = 2 then (if 0 < (bt213.1.length : Int) then (if ((rd_T46 bt213.1 0).f1) = 5 then (if 1 < (bt213.1.length : Int) then (if (((rd_T46 bt213.1 1).f0) == 0 && (((rd_T46 bt213.1 1).f1) == 0 && ((((rd_T46 bt213.1 1).f2).toList) == ([] : List UInt8) && (!((rd_T46 bt213.1 1).f3))))) = true then ((schema_Find.f t195 t198 t199 t200 t201 (⟨#[118]⟩ : ByteArray)).bind fun t223 => (if t223 = 1 then ((schema_May.f t195 t198 t199 t200 t201).bind fun t224 => (some t224)) else (some false))) else (some false)) else (none)) else (some false)) else (none)) else (some false)) else (some false)) else (some false)) else (some false)))) = some r := by first | (rw [hy210]; with_reducible exact H) | (have H2_ := (Option.bind_some _ _).symm.trans H; rw [hy210]; with_reducible exact H2_) | (have H2_ := (Option.bind_some _ _).symm.trans H; with_reducible exact H2_) | with_reducible exact H | (rw [hy210]; exact H) | exact H
  have Ny210 := Aside0.mk hy210
  clear hy210
  replace H := Option.bind_eq_some_iff.mp H
  obtain ⟨⟨t213, t216⟩, A30, H⟩ := H
  replace H : ((winnowerref01_Same.f t206 (([10, 1, 1, 97] : List Int))).bind fun t220 => (if t220 = true then (if t209 = 0 then (if t216 = 0 then (if (t213.length : Int) = 2 then (if 0 < (t213.length : Int) then (if ((rd_T46 t213 0).f1) = 5 then (if 1 < (t213.length : Int) then (if (((rd_T46 t213 1).f0) == 0 && (((rd_T46 t213 1).f1) == 0 && ((((rd_T46 t213 1).f2).toList) == ([] : List UInt8) && (!((rd_T46 t213 1).f3))))) = true then ((schema_Find.f t195 t198 t199 t200 t201 (⟨#[118]⟩ : ByteArray)).bind fun t223 => (if t223 = 1 then ((schema_May.f t195 t198 t199 t200 t201).bind fun t224 => (some t224)) else (some false))) else (some false)) else (none)) else (some false)) else (none)) else (some false)) else (some false)) else (some false)) else (some false))) = some r := H
  have A3 := Aside0.mk A30
  clear A30
  obtain ⟨y217, hy217⟩ : ∃ y_ : List Int, y_ = (([10, 1, 1, 97] : List Int)) := ⟨_, rfl⟩
  replace H : ((winnowerref01_Same.f t206 y217).bind fun t220 => (if t220 = true then (if t209 = 0 then (if t216 = 0 then (if (t213.length : Int) = 2 then (if 0 < (t213.length : Int) then (if ((rd_T46 t213 0).f1) = 5 then (if 1 < (t213.length : Int) then (if (((rd_T46 t213 1).f0) == 0 && (((rd_T46 t213 1).f1) == 0 && ((((rd_T46 t213 1).f2).toList) == ([] : List UInt8) && (!((rd_T46 t213 1).f3))))) = true then ((schema_Find.f t195 t198 t199 t200 t201 (⟨#[118]⟩ : ByteArray)).bind fun t223 => (if t223 = 1 then ((schema_May.f t195 t198 t199 t200 t201).bind fun t224 => (some t224)) else (some false))) else (some false)) else (none)) else (some false)) else (none)) else (some false)) else (some false)) else (some false)) else (some false))) = some r := by first | (rw [hy217]; with_reducible exact H) | (have H2_ := (Option.bind_some _ _).symm.trans H; rw [hy217]; with_reducible exact H2_) | (have H2_ := (Option.bind_some _ _).symm.trans H; with_reducible exact H2_) | with_reducible exact H | (rw [hy217]; exact H) | exact H
  have Ny217 := Aside0.mk hy217
  clear hy217
  replace H := Option.bind_eq_some_iff.mp H
  obtain ⟨t220, A40, H⟩ := H
  replace H : (if t220 = true then (if t209 = 0 then (if t216 = 0 then (if (t213.length : Int) = 2 then (if 0 < (t213.length : Int) then (if ((rd_T46 t213 0).f1) = 5 then (if 1 < (t213.length : Int) then (if (((rd_T46 t213 1).f0) == 0 && (((rd_T46 t213 1).f1) == 0 && ((((rd_T46 t213 1).f2).toList) == ([] : List UInt8) && (!((rd_T46 t213 1).f3))))) = true then ((schema_Find.f t195 t198 t199 t200 t201 (⟨#[118]⟩ : ByteArray)).bind fun t223 => (if t223 = 1 then ((schema_May.f t195 t198 t199 t200 t201).bind fun t224 => (some t224)) else (some false))) else (some false)) else (none)) else (some false)) else (none)) else (some false)) else (some false)) else (some false)) else (some false)) = some r := H
  have A4 := Aside0.mk A40
  clear A40
  by_cases c5 : t220 = true
  · subst c5
    have H1 : (if t209 = 0 then (if t216 = 0 then (if (t213.length : Int) = 2 then (if 0 < (t213.length : Int) then (if ((rd_T46 t213 0).f1) = 5 then (if 1 < (t213.length : Int) then (if (((rd_T46 t213 1).f0) == 0 && (((rd_T46 t213 1).f1) == 0 && ((((rd_T46 t213 1).f2).toList) == ([] : List UInt8) && (!((rd_T46 t213 1).f3))))) = true then ((schema_Find.f t195 t198 t199 t200 t201 (⟨#[118]⟩ : ByteArray)).bind fun t223 => (if t223 = 1 then ((schema_May.f t195 t198 t199 t200 t201).bind fun t224 => (some t224)) else (some false))) else (some false)) else (none)) else (some false)) else (none)) else (some false)) else (some false)) else (some false)) = some r := by rw [if_pos rfl] at H; exact H
    clear H
    have H := H1
    clear H1
    by_cases c6 : t209 = 0
    · rw [if_pos c6] at H
      have c6b0 : (t209 == 0) = true := beq_iff_eq.mpr c6
      have c6b1 : (t209 != 0) = false := bne_eq_false_iff_eq.mpr c6
      clear c6
      by_cases c7 : t216 = 0
      · rw [if_pos c7] at H
        have c7b0 : (t216 == 0) = true := beq_iff_eq.mpr c7
        have c7b1 : (t216 != 0) = false := bne_eq_false_iff_eq.mpr c7
        clear c7
        by_cases c8 : (t213.length : Int) = 2
        · rw [if_pos c8] at H
          have c8b0 : ((t213.length : Int) == 2) = true := beq_iff_eq.mpr c8
          have c8b1 : ((t213.length : Int) != 2) = false := bne_eq_false_iff_eq.mpr c8
          clear c8
          by_cases c9 : 0 < (t213.length : Int)
          · rw [if_pos c9] at H
            have c9b0 : decide (0 < (t213.length : Int)) = true := decide_eq_true c9
            have c9b1 : decide (0 < t213.length) = true := decide_eq_true (by omega)
            clear c9
            by_cases c10 : ((rd_T46 t213 0).f1) = 5
            · rw [if_pos c10] at H
              have c10b0 : (((rd_T46 t213 0).f1) == 5) = true := beq_iff_eq.mpr c10
              have c10b1 : (((rd_T46 t213 0).f1) != 5) = false := bne_eq_false_iff_eq.mpr c10
              clear c10
              by_cases c11 : 1 < (t213.length : Int)
              · rw [if_pos c11] at H
                have c11b0 : decide (1 < (t213.length : Int)) = true := decide_eq_true c11
                have c11b1 : decide (1 < t213.length) = true := decide_eq_true (by omega)
                clear c11
                by_cases c12 : (((rd_T46 t213 1).f0) == 0 && (((rd_T46 t213 1).f1) == 0 && ((((rd_T46 t213 1).f2).toList) == ([] : List UInt8) && (!((rd_T46 t213 1).f3))))) = true
                · rw [if_pos c12] at H
                  have c12b0 : (((rd_T46 t213 1).f0) == 0 && (((rd_T46 t213 1).f1) == 0 && ((((rd_T46 t213 1).f2).toList) == ([] : List UInt8) && (!((rd_T46 t213 1).f3))))) = true := c12
                  (try (have c12b1 : decide (((rd_T46 t213 1).f0) = 0 && (((rd_T46 t213 1).f1) == 0 && ((((rd_T46 t213 1).f2).toList) == ([] : List UInt8) && (!((rd_T46 t213 1).f3))))) = true := by simpa using c12))
                  (try (have c12b2 : (((rd_T46 t213 1).f0) == 0 && (((rd_T46 t213 1).f1) == 0 && ((((rd_T46 t213 1).f2).toList) == ([] : List UInt8) && (!((rd_T46 t213 1).f3))))) = true := by simpa using c12))
                  (try (have c12b4 : ((((rd_T46 t213 1).f0) = 0 ∧ (((rd_T46 t213 1).f1) = 0 ∧ ((((rd_T46 t213 1).f2).toList) = ([] : List UInt8) ∧ (((rd_T46 t213 1).f3) = false))))) := by simpa using c12))
                  clear c12
                  replace H := Option.bind_eq_some_iff.mp H
                  obtain ⟨t223, A130, H⟩ := H
                  replace H : (if t223 = 1 then ((schema_May.f t195 t198 t199 t200 t201).bind fun t224 => (some t224)) else (some false)) = some r := H
                  have A13 := Aside0.mk A130
                  clear A130
                  by_cases c14 : t223 = 1
                  · rw [if_pos c14] at H
                    have c14b0 : (t223 == 1) = true := beq_iff_eq.mpr c14
                    have c14b1 : (t223 != 1) = false := bne_eq_false_iff_eq.mpr c14
                    clear c14
                    replace H := Option.bind_eq_some_iff.mp H
                    obtain ⟨t224, A150, H⟩ := H
                    replace H : (some t224) = some r := H
                    have A15 := Aside0.mk A150
                    clear A150
                    obtain rfl := Option.some.inj H
                    go_enter Tryd.func8, Tryd.ntmps8
                    go_wp2_with (first | ((with_reducible refine gate_callee (f := 23) rfl ?_); refine goesL_ (some 7) rfl rfl Tryd.func23 (by kernel_rfl) rfl #[] rfl (by (try simp only [List.map_toArray, List.map_cons, List.map_nil]); first | done | rfl | (simp only [List.length_drop, List.length_take]; rfl)) ?_; (with_reducible refine (winnowerlaw07_Small.calls  t195 t198 t199 t200 t201 _ A1.out).mono ?_); rintro e w16 ⟨v196, rfl, ho0, hb⟩; refine ⟨_, rfl, ?_⟩; have n0_ := Aside0.mk (Kd.R_lower ho0 (below_size (by repeat (first | (with_reducible first | exact HB.out | apply below_alloc | apply pw_below_drewN | apply below_drew1) | exact HB.out)))); have n1_ := Aside0.mk (below_step (by repeat (first | (with_reducible first | exact HB.out | apply below_alloc | apply pw_below_drewN | apply below_drew1) | exact HB.out)) hb); clear HB; have HO197 := n0_; have HB := n1_; clear n0_ n1_; (try clear hb); (try clear hb2); (try clear hk); (try clear hi); (try clear ho0)) | ((with_reducible refine gate_dst (N := 1) rfl ?_); (try (refine gate_guard (by rfl) ?_; dsimp only)); refine box_event ?hg (N := 1) ?hd (cs := #[.slice none 0 0, .int .i64 0, .int .i64 0, .int .i64 0, .int .i64 0]) (t := 24) ?hr ?_; (case hd => rfl); (case hg => rfl); (case hr => first | (go_simp; done) | (go_simp; rfl)); intro gb202 hg w17 hbox hb; have n0_ := Aside0.mk (Kd.R_below (by (with_reducible repeat (first | apply Kd.R_alloc | apply Kd.R_drewN | apply Kd.R_drew)); exact HO197.out) hb); have n1_ := Aside0.mk (below_step (by repeat (first | (with_reducible first | exact HB.out | apply below_alloc | apply pw_below_drewN | apply below_drew1) | exact HB.out)) hb); have n2_ := Aside0.mk (hbox); have n3_ := Aside0.mk ((by rw [hg]; exact (below_size (by repeat (first | (with_reducible first | exact HB.out | apply below_alloc | apply pw_below_drewN | apply below_drew1) | exact HB.out))) : w.heap.size ≤ gb202)); have n4_ := Aside0.mk ((by rw [hg]; exact (below_size (by repeat (first | (with_reducible first | exact HB.out | apply below_alloc | apply pw_below_drewN | apply below_drew1) | exact HB.out))) : w.heap.size ≤ gb202)); clear HO197; clear HB; have HO197 := n0_; have HB := n1_; have BK202 := n2_; have GW202 := n3_; have GE202 := n4_; clear n0_ n1_ n2_ n3_ n4_; clear hb hbox hg; obtain ⟨Ao18, co18, eo18⟩ := Kd.R_slice HO197.out; subst eo18; have hcz19_0 : w17.cell? ⟨gb202, 0, none⟩ = some (.slice none 0 0) := (blk_cell BK202.out 0).trans rfl; have hcz19_1 : w17.cell? ⟨gb202, 1, none⟩ = some (.int .i64 0) := (blk_cell BK202.out 1).trans rfl; have hcz19_2 : w17.cell? ⟨gb202, 2, none⟩ = some (.int .i64 0) := (blk_cell BK202.out 2).trans rfl; have hcz19_3 : w17.cell? ⟨gb202, 3, none⟩ = some (.int .i64 0) := (blk_cell BK202.out 3).trans rfl; have hcz19_4 : w17.cell? ⟨gb202, 4, none⟩ = some (.int .i64 0) := (blk_cell BK202.out 4).trans rfl; have hfz19_0 := blk_frozen BK202.out 0; have hfz19_1 := blk_frozen BK202.out 1; have hfz19_2 := blk_frozen BK202.out 2; have hfz19_3 := blk_frozen BK202.out 3; have hfz19_4 := blk_frozen BK202.out 4) | ((with_reducible refine gate_dst (N := 12) rfl ?_); (try (refine gate_guard (by rfl) ?_; dsimp only)); refine Kd.R_lit k46 _ 46 ?hg (N := 12) ?hd (xs := ([(⟨1, 5, (⟨#[]⟩ : ByteArray), false⟩ : S46), (⟨2, 0, (⟨#[97]⟩ : ByteArray), false⟩ : S46)] : List (S46))) (inner := [.int .i64 1, .int .i64 5, .string (⟨#[]⟩ : ByteArray), .bool false, .int .i64 2, .int .i64 0, .string (⟨#[97]⟩ : ByteArray), .bool false]) (ok := fun _ => True) (okp := fun _ => True) ?hr ?hp (fun _ hk => hk) trivial (Below.refl _ _) (Nat.le_refl _) (by simp) ?_; (case hd => rfl); (case hg => rfl); (case hr => first | (go_simp; done) | (go_simp; rfl)); (case hp => exact (Reps.c4 (show Kd.M k46 _ _ _ (⟨1, 5, (⟨#[]⟩ : ByteArray), false⟩ : S46) [.int .i64 1, .int .i64 5, .string (⟨#[]⟩ : ByteArray), .bool false] from (k46_mkM _ _ _ (⟨1, 5, (⟨#[]⟩ : ByteArray), false⟩ : S46) )) (Reps.c4 (show Kd.M k46 _ _ _ (⟨2, 0, (⟨#[97]⟩ : ByteArray), false⟩ : S46) [.int .i64 2, .int .i64 0, .string (⟨#[97]⟩ : ByteArray), .bool false] from (k46_mkM _ _ _ (⟨2, 0, (⟨#[97]⟩ : ByteArray), false⟩ : S46) )) (Reps.none _ _)))); intro v204 w20 ho21 hb hg_ hnew_; clear hg_ hnew_; (first | rw [← Ny203.out] at ho21 | (simp only [Int.reduceToNat] at ho21; rw [← Ny203.out] at ho21)); have n0_ := Aside0.mk (Kd.R_below (by (with_reducible repeat (first | apply Kd.R_alloc | apply Kd.R_drewN | apply Kd.R_drew)); exact (Kd.R_mono (Kd.R_far (p := ⟨gb202, 4, none⟩) (Kd.R_far (p := ⟨gb202, 3, none⟩) (Kd.R_far (p := ⟨gb202, 2, none⟩) (Kd.R_far (p := ⟨gb202, 1, none⟩) (Kd.R_far (p := ⟨gb202, 0, none⟩) (Kd.R_types HO197.out BK202.out (by decide)) (fun _ hk => hk.2) (.slice Ao18 t195.length co18)) (fun _ hk => hk.2) (.int .i64 t198)) (fun _ hk => hk.2) (.int .i64 t199)) (fun _ hk => hk.2) (.int .i64 t200)) (fun _ hk => hk.2) (.int .i64 t201)) (fun _ h_ => h_.1))) hb); have n1_ := Aside0.mk (Kd.R_lower ho21 (below_size (by repeat (first | (with_reducible first | exact HB.out | apply below_alloc | apply pw_below_drewN | apply below_drew1 | refine below_set ?_ GE202.out) | exact HB.out)))); have n2_ := Aside0.mk (blk_below (g := gb202) (o := .cells #[.slice Ao18 t195.length co18, .int .i64 t198, .int .i64 t199, .int .i64 t200, .int .i64 t201] 24 (0, 0)) (by (with_reducible repeat (first | refine blk_drewN ?_ _ | refine blk_drew ?_ | refine blk_alloc ?_ _)); refine blk_put (cs := #[.slice Ao18 t195.length co18, .int .i64 t198, .int .i64 t199, .int .i64 t200, .int .i64 0]) ?_ 4 _ rfl; (with_reducible repeat (first | refine blk_drewN ?_ _ | refine blk_drew ?_ | refine blk_alloc ?_ _)); refine blk_put (cs := #[.slice Ao18 t195.length co18, .int .i64 t198, .int .i64 t199, .int .i64 0, .int .i64 0]) ?_ 3 _ rfl; (with_reducible repeat (first | refine blk_drewN ?_ _ | refine blk_drew ?_ | refine blk_alloc ?_ _)); refine blk_put (cs := #[.slice Ao18 t195.length co18, .int .i64 t198, .int .i64 0, .int .i64 0, .int .i64 0]) ?_ 2 _ rfl; (with_reducible repeat (first | refine blk_drewN ?_ _ | refine blk_drew ?_ | refine blk_alloc ?_ _)); refine blk_put (cs := #[.slice Ao18 t195.length co18, .int .i64 0, .int .i64 0, .int .i64 0, .int .i64 0]) ?_ 1 _ rfl; (with_reducible repeat (first | refine blk_drewN ?_ _ | refine blk_drew ?_ | refine blk_alloc ?_ _)); refine blk_put (cs := #[.slice none 0 0, .int .i64 0, .int .i64 0, .int .i64 0, .int .i64 0]) ?_ 0 _ rfl; (with_reducible repeat (first | refine blk_drewN ?_ _ | refine blk_drew ?_ | refine blk_alloc ?_ _)); exact BK202.out) hb); have n3_ := Aside0.mk (below_step (by repeat (first | (with_reducible first | exact HB.out | apply below_alloc | apply pw_below_drewN | apply below_drew1 | refine below_set ?_ GE202.out) | exact HB.out)) hb); clear HO197; clear BK202; clear HB; have HO197 := n0_; have HO205 := n1_; have BK202 := n2_; have HB := n3_; clear n0_ n1_ n2_ n3_; clear hb ho21; obtain ⟨Ao22, co22, eo22⟩ := Kd.R_slice HO205.out; subst eo22) | ((with_reducible refine gate_callee (f := 11) rfl ?_); refine goesL_ (some 13) rfl rfl Tryd.func11 (by kernel_rfl) rfl #[.agg #[.slice Ao18 t195.length co18, .int .i64 t198, .int .i64 t199, .int .i64 t200, .int .i64 t201], .slice Ao22 y203.length co22] rfl (by (try simp only [List.map_toArray, List.map_cons, List.map_nil]); first | done | rfl | (simp only [List.length_drop, List.length_take]; rfl)) ?_; (with_reducible refine (schema_Encode.calls k _ _ t195 t198 t199 t200 t201 _ _ y203 t206 t209 _ ?side1 ?side2 ?side3 ?side4 A2.out).mono ?_); (case side1 => repeat (first | exact (Kd.R_reads' HO197.out).2.2 | (with_reducible refine Kd.C_alloc ?_ _) | (with_reducible refine Kd.C_drewN ?_ _) | (with_reducible refine Kd.C_drew ?_))); (case side2 => exact (Kd.R_reads' HO197.out).2.1); (case side3 => repeat (first | exact (Kd.R_reads' HO205.out).2.2 | (with_reducible refine Kd.C_alloc ?_ _) | (with_reducible refine Kd.C_drewN ?_ _) | (with_reducible refine Kd.C_drew ?_))); (case side4 => exact (Kd.R_reads' HO205.out).2.1); rintro e w23 ⟨v207, rfl, ho0, hb⟩; refine ⟨_, rfl, ?_⟩; have n0_ := Aside0.mk (Kd.R_below (by (with_reducible repeat (first | apply Kd.R_alloc | apply Kd.R_drewN | apply Kd.R_drew)); exact HO197.out) hb); have n1_ := Aside0.mk (Kd.R_below (by (with_reducible repeat (first | apply Kd.R_alloc | apply Kd.R_drewN | apply Kd.R_drew)); exact HO205.out) hb); have n2_ := Aside0.mk (Kd.R_lower ho0 (below_size (by repeat (first | (with_reducible first | exact HB.out | apply below_alloc | apply pw_below_drewN | apply below_drew1 | refine below_set ?_ GE202.out) | exact HB.out)))); have n3_ := Aside0.mk (blk_below (g := gb202) (o := .cells #[.slice Ao18 t195.length co18, .int .i64 t198, .int .i64 t199, .int .i64 t200, .int .i64 t201] 24 (0, 0)) (by (with_reducible repeat (first | refine blk_drewN ?_ _ | refine blk_drew ?_ | refine blk_alloc ?_ _)); exact BK202.out) hb); have n4_ := Aside0.mk (below_step (by repeat (first | (with_reducible first | exact HB.out | apply below_alloc | apply pw_below_drewN | apply below_drew1 | refine below_set ?_ GE202.out) | exact HB.out)) hb); clear HO197; clear HO205; clear BK202; clear HB; have HO197 := n0_; have HO205 := n1_; have HO208 := n2_; have BK202 := n3_; have HB := n4_; clear n0_ n1_ n2_ n3_ n4_; (try clear hb); (try clear hb2); (try clear hk); (try clear hi); (try clear ho0); have hcz24_0 : w23.cell? ⟨gb202, 0, none⟩ = some (.slice Ao18 t195.length co18) := (blk_cell BK202.out 0).trans rfl; have hcz24_1 : w23.cell? ⟨gb202, 1, none⟩ = some (.int .i64 t198) := (blk_cell BK202.out 1).trans rfl; have hcz24_2 : w23.cell? ⟨gb202, 2, none⟩ = some (.int .i64 t199) := (blk_cell BK202.out 2).trans rfl; have hcz24_3 : w23.cell? ⟨gb202, 3, none⟩ = some (.int .i64 t200) := (blk_cell BK202.out 3).trans rfl; have hcz24_4 : w23.cell? ⟨gb202, 4, none⟩ = some (.int .i64 t201) := (blk_cell BK202.out 4).trans rfl; have hfz24_0 := blk_frozen BK202.out 0; have hfz24_1 := blk_frozen BK202.out 1; have hfz24_2 := blk_frozen BK202.out 2; have hfz24_3 := blk_frozen BK202.out 3; have hfz24_4 := blk_frozen BK202.out 4) | ((with_reducible refine gate_dst (N := 18) rfl ?_); (try (refine gate_guard (by rfl) ?_; dsimp only)); refine Kd.R_lit (Kd.int .u8) _ 5 ?hg (N := 18) ?hd (xs := ([10, 0] : List Int)) (inner := [.int .u8 10, .int .u8 0]) (ok := fun _ => True) (okp := fun _ => True) ?hr ?hp (fun _ hk => hk) trivial (Below.refl _ _) (Nat.le_refl _) (by simp) ?_; (case hd => rfl); (case hg => rfl); (case hr => first | (go_simp; done) | (go_simp; rfl)); (case hp => exact (Reps.one (show Kd.M (Kd.int .u8) _ _ _ 10 [.int .u8 10] from rfl) (Reps.one (show Kd.M (Kd.int .u8) _ _ _ 0 [.int .u8 0] from rfl) (Reps.none _ _)))); intro v211 w25 ho26 hb hg_ hnew_; clear hg_ hnew_; (first | rw [← Ny210.out] at ho26 | (simp only [Int.reduceToNat] at ho26; rw [← Ny210.out] at ho26)); have n0_ := Aside0.mk (Kd.R_below (by (with_reducible repeat (first | apply Kd.R_alloc | apply Kd.R_drewN | apply Kd.R_drew)); exact HO197.out) hb); have n1_ := Aside0.mk (Kd.R_below (by (with_reducible repeat (first | apply Kd.R_alloc | apply Kd.R_drewN | apply Kd.R_drew)); exact HO205.out) hb); have n2_ := Aside0.mk (Kd.R_elder' (by (with_reducible repeat (first | apply Kd.R_alloc | apply Kd.R_drewN | apply Kd.R_drew)); exact HO208.out) (Kd.R_base ho26) hb); have n3_ := Aside0.mk (Kd.R_lower (Kd.R_new' ho26 (Kd.R_lt (by (with_reducible repeat (first | apply Kd.R_alloc | apply Kd.R_drewN | apply Kd.R_drew)); exact HO208.out))) (below_size (by repeat (first | (with_reducible first | exact HB.out | apply below_alloc | apply pw_below_drewN | apply below_drew1 | refine below_set ?_ GE202.out) | exact HB.out)))); have n4_ := Aside0.mk (blk_below (g := gb202) (o := .cells #[.slice Ao18 t195.length co18, .int .i64 t198, .int .i64 t199, .int .i64 t200, .int .i64 t201] 24 (0, 0)) (by (with_reducible repeat (first | refine blk_drewN ?_ _ | refine blk_drew ?_ | refine blk_alloc ?_ _)); exact BK202.out) hb); have n5_ := Aside0.mk (below_step (by repeat (first | (with_reducible first | exact HB.out | apply below_alloc | apply pw_below_drewN | apply below_drew1 | refine below_set ?_ GE202.out) | exact HB.out)) hb); clear HO197; clear HO205; clear HO208; clear BK202; clear HB; have HO197 := n0_; have HO205 := n1_; have HO208 := n2_; have HO212 := n3_; have BK202 := n4_; have HB := n5_; clear n0_ n1_ n2_ n3_ n4_ n5_; clear hb ho26; obtain ⟨Ao27, co27, eo27⟩ := Kd.R_slice HO212.out; subst eo27) | ((with_reducible refine gate_callee (f := 20) rfl ?_); refine goesL_ (some 19) rfl rfl Tryd.func20 (by kernel_rfl) rfl #[.agg #[.slice Ao18 t195.length co18, .int .i64 t198, .int .i64 t199, .int .i64 t200, .int .i64 t201], .slice Ao27 y210.length co27] rfl (by (try simp only [List.map_toArray, List.map_cons, List.map_nil]); first | done | rfl | (simp only [List.length_drop, List.length_take]; rfl)) ?_; (with_reducible refine (schema_Decode.calls _ _ t195 t198 t199 t200 t201 _ _ y210 t213 t216 _ ?side1 ?side2 ?side3 ?side4 ?side5 A3.out).mono ?_); (case side1 => repeat (first | exact (Kd.R_reads' HO197.out).2.2 | (with_reducible refine Kd.C_alloc ?_ _) | (with_reducible refine Kd.C_drewN ?_ _) | (with_reducible refine Kd.C_drew ?_))); (case side2 => exact (Kd.R_reads' HO197.out).2.1); (case side3 => repeat (first | exact (Kd.R_reads' HO212.out).2.2 | (with_reducible refine Kd.C_alloc ?_ _) | (with_reducible refine Kd.C_drewN ?_ _) | (with_reducible refine Kd.C_drew ?_))); (case side4 => exact (Kd.R_reads' HO212.out).2.1); (case side5 => exact globs_below HGL.out (by repeat (first | (with_reducible first | exact HB.out | apply below_alloc | apply pw_below_drewN | apply below_drew1 | refine below_set ?_ GE202.out) | exact HB.out))); rintro e w28 ⟨v214, rfl, ho0, hb⟩; refine ⟨_, rfl, ?_⟩; have n0_ := Aside0.mk (Kd.R_below (by (with_reducible repeat (first | apply Kd.R_alloc | apply Kd.R_drewN | apply Kd.R_drew)); exact HO197.out) hb); have n1_ := Aside0.mk (Kd.R_elder' (by (with_reducible repeat (first | apply Kd.R_alloc | apply Kd.R_drewN | apply Kd.R_drew)); exact HO205.out) (Kd.R_base ho0) hb); have n2_ := Aside0.mk (Kd.R_below (by (with_reducible repeat (first | apply Kd.R_alloc | apply Kd.R_drewN | apply Kd.R_drew)); exact HO208.out) hb); have n3_ := Aside0.mk (Kd.R_below (by (with_reducible repeat (first | apply Kd.R_alloc | apply Kd.R_drewN | apply Kd.R_drew)); exact HO212.out) hb); have n4_ := Aside0.mk (Kd.R_lower (Kd.R_new' ho0 (Kd.R_lt (by (with_reducible repeat (first | apply Kd.R_alloc | apply Kd.R_drewN | apply Kd.R_drew)); exact HO205.out))) (below_size (by repeat (first | (with_reducible first | exact HB.out | apply below_alloc | apply pw_below_drewN | apply below_drew1 | refine below_set ?_ GE202.out) | exact HB.out)))); have n5_ := Aside0.mk (blk_below (g := gb202) (o := .cells #[.slice Ao18 t195.length co18, .int .i64 t198, .int .i64 t199, .int .i64 t200, .int .i64 t201] 24 (0, 0)) (by (with_reducible repeat (first | refine blk_drewN ?_ _ | refine blk_drew ?_ | refine blk_alloc ?_ _)); exact BK202.out) hb); have n6_ := Aside0.mk (below_step (by repeat (first | (with_reducible first | exact HB.out | apply below_alloc | apply pw_below_drewN | apply below_drew1 | refine below_set ?_ GE202.out) | exact HB.out)) hb); clear HO197; clear HO205; clear HO208; clear HO212; clear BK202; clear HB; have HO197 := n0_; have HO205 := n1_; have HO208 := n2_; have HO212 := n3_; have HO215 := n4_; have BK202 := n5_; have HB := n6_; clear n0_ n1_ n2_ n3_ n4_ n5_ n6_; (try clear hb); (try clear hb2); (try clear hk); (try clear hi); (try clear ho0)) | ((with_reducible refine gate_dst (N := 23) rfl ?_); (try (refine gate_guard (by rfl) ?_; dsimp only)); refine Kd.R_lit (Kd.int .u8) _ 5 ?hg (N := 23) ?hd (xs := ([10, 1, 1, 97] : List Int)) (inner := [.int .u8 10, .int .u8 1, .int .u8 1, .int .u8 97]) (ok := fun _ => True) (okp := fun _ => True) ?hr ?hp (fun _ hk => hk) trivial (Below.refl _ _) (Nat.le_refl _) (by simp) ?_; (case hd => rfl); (case hg => rfl); (case hr => first | (go_simp; done) | (go_simp; rfl)); (case hp => exact (Reps.one (show Kd.M (Kd.int .u8) _ _ _ 10 [.int .u8 10] from rfl) (Reps.one (show Kd.M (Kd.int .u8) _ _ _ 1 [.int .u8 1] from rfl) (Reps.one (show Kd.M (Kd.int .u8) _ _ _ 1 [.int .u8 1] from rfl) (Reps.one (show Kd.M (Kd.int .u8) _ _ _ 97 [.int .u8 97] from rfl) (Reps.none _ _)))))); intro v218 w29 ho30 hb hg_ hnew_; clear hg_ hnew_; (first | rw [← Ny217.out] at ho30 | (simp only [Int.reduceToNat] at ho30; rw [← Ny217.out] at ho30)); have n0_ := Aside0.mk (Kd.R_below (by (with_reducible repeat (first | apply Kd.R_alloc | apply Kd.R_drewN | apply Kd.R_drew)); exact HO197.out) hb); have n1_ := Aside0.mk (Kd.R_below (by (with_reducible repeat (first | apply Kd.R_alloc | apply Kd.R_drewN | apply Kd.R_drew)); exact HO205.out) hb); have n2_ := Aside0.mk (Kd.R_elder' (by (with_reducible repeat (first | apply Kd.R_alloc | apply Kd.R_drewN | apply Kd.R_drew)); exact HO208.out) (Kd.R_base ho30) hb); have n3_ := Aside0.mk (Kd.R_elder' (by (with_reducible repeat (first | apply Kd.R_alloc | apply Kd.R_drewN | apply Kd.R_drew)); exact HO212.out) (Kd.R_base ho30) hb); have n4_ := Aside0.mk (Kd.R_below (by (with_reducible repeat (first | apply Kd.R_alloc | apply Kd.R_drewN | apply Kd.R_drew)); exact HO215.out) hb); have n5_ := Aside0.mk (Kd.R_lower (Kd.R_new' (Kd.R_new' ho30 (Kd.R_lt (by (with_reducible repeat (first | apply Kd.R_alloc | apply Kd.R_drewN | apply Kd.R_drew)); exact HO208.out))) (Kd.R_lt (by (with_reducible repeat (first | apply Kd.R_alloc | apply Kd.R_drewN | apply Kd.R_drew)); exact HO212.out))) (below_size (by repeat (first | (with_reducible first | exact HB.out | apply below_alloc | apply pw_below_drewN | apply below_drew1 | refine below_set ?_ GE202.out) | exact HB.out)))); have n6_ := Aside0.mk (blk_below (g := gb202) (o := .cells #[.slice Ao18 t195.length co18, .int .i64 t198, .int .i64 t199, .int .i64 t200, .int .i64 t201] 24 (0, 0)) (by (with_reducible repeat (first | refine blk_drewN ?_ _ | refine blk_drew ?_ | refine blk_alloc ?_ _)); exact BK202.out) hb); have n7_ := Aside0.mk (below_step (by repeat (first | (with_reducible first | exact HB.out | apply below_alloc | apply pw_below_drewN | apply below_drew1 | refine below_set ?_ GE202.out) | exact HB.out)) hb); clear HO197; clear HO205; clear HO208; clear HO212; clear HO215; clear BK202; clear HB; have HO197 := n0_; have HO205 := n1_; have HO208 := n2_; have HO212 := n3_; have HO215 := n4_; have HO219 := n5_; have BK202 := n6_; have HB := n7_; clear n0_ n1_ n2_ n3_ n4_ n5_ n6_ n7_; clear hb ho30; obtain ⟨Ao31, co31, eo31⟩ := Kd.R_slice HO208.out; subst eo31; obtain ⟨Ao32, co32, eo32⟩ := Kd.R_slice HO219.out; subst eo32) | ((with_reducible refine gate_callee (f := 13) rfl ?_); refine goesL_ (some 24) rfl rfl Tryd.func13 (by kernel_rfl) rfl #[.slice Ao31 t206.length co31, .slice Ao32 y217.length co32] rfl (by (try simp only [List.map_toArray, List.map_cons, List.map_nil]); first | done | rfl | (simp only [List.length_drop, List.length_take]; rfl)) ?_; (with_reducible refine (winnowerref01_Same.calls _ _ t206 _ _ y217 true _ ?side1 ?side2 ?side3 ?side4 A4.out).mono ?_); (case side1 => repeat (first | exact (Kd.R_reads' HO208.out).2.2 | (with_reducible refine Kd.C_alloc ?_ _) | (with_reducible refine Kd.C_drewN ?_ _) | (with_reducible refine Kd.C_drew ?_))); (case side2 => exact (Kd.R_reads' HO208.out).2.1); (case side3 => repeat (first | exact (Kd.R_reads' HO219.out).2.2 | (with_reducible refine Kd.C_alloc ?_ _) | (with_reducible refine Kd.C_drewN ?_ _) | (with_reducible refine Kd.C_drew ?_))); (case side4 => exact (Kd.R_reads' HO219.out).2.1); rintro e w' ⟨rfl, ⟨nd, rfl⟩⟩; refine ⟨_, rfl, ?_⟩; obtain ⟨Ao33, co33, eo33⟩ := Kd.R_slice HO215.out; subst eo33; have p221 : 0 ≤ (0 : Int) := (by omega); have q221 : 0 < (t213.length : Int) := of_decide_eq_true (by first | (with_reducible assumption) | assumption); obtain ⟨ad221, e221, hx221_0, hx221_1, hx221_2, hx221_3⟩ := at_T46 (Kd.R_reads' HO215.out).2.2 0 p221 q221; cases e221; have qi221 : (0 < t213.length) = True := eq_true (by omega); (try rw [show ((0 : Int)).toNat = 0 from rfl] at hx221_0); (try rw [show 0 * 4 = 0 from rfl] at hx221_0); (try rw [Addr.add_zero'] at hx221_0); (try rw [show ((0 : Int)).toNat = 0 from rfl] at hx221_1); (try rw [show 0 * 4 = 0 from rfl] at hx221_1); (try rw [Addr.add_zero'] at hx221_1); (try rw [show ((0 : Int)).toNat = 0 from rfl] at hx221_2); (try rw [show 0 * 4 = 0 from rfl] at hx221_2); (try rw [Addr.add_zero'] at hx221_2); (try rw [show ((0 : Int)).toNat = 0 from rfl] at hx221_3); (try rw [show 0 * 4 = 0 from rfl] at hx221_3); (try rw [Addr.add_zero'] at hx221_3); replace p221 := eq_true p221; replace q221 := eq_true q221; have p222 : 0 ≤ (1 : Int) := (by omega); have q222 : 1 < (t213.length : Int) := of_decide_eq_true (by first | (with_reducible assumption) | assumption); obtain ⟨ad222, e222, hx222_0, hx222_1, hx222_2, hx222_3⟩ := at_T46 (Kd.R_reads' HO215.out).2.2 1 p222 q222; obtain rfl : ad221 = ad222 := (by injection e222); (try simp only [show (1 : Int).toNat = 1 from rfl, Nat.reduceMul, Nat.reduceEqDiff, Go.Addr.add, ↓reduceIte] at hx222_0); (try simp only [show (1 : Int).toNat = 1 from rfl, Nat.reduceMul, Nat.reduceEqDiff, Go.Addr.add, ↓reduceIte] at hx222_1); (try simp only [show (1 : Int).toNat = 1 from rfl, Nat.reduceMul, Nat.reduceEqDiff, Go.Addr.add, ↓reduceIte] at hx222_2); (try simp only [show (1 : Int).toNat = 1 from rfl, Nat.reduceMul, Nat.reduceEqDiff, Go.Addr.add, ↓reduceIte] at hx222_3); have qi222 : (1 < t213.length) = True := eq_true (by omega); (try rw [show ((1 : Int)).toNat = 1 from rfl] at hx222_0); (try rw [show 1 * 4 = 4 from rfl] at hx222_0); (try rw [show ((1 : Int)).toNat = 1 from rfl] at hx222_1); (try rw [show 1 * 4 = 4 from rfl] at hx222_1); (try rw [show ((1 : Int)).toNat = 1 from rfl] at hx222_2); (try rw [show 1 * 4 = 4 from rfl] at hx222_2); (try rw [show ((1 : Int)).toNat = 1 from rfl] at hx222_3); (try rw [show 1 * 4 = 4 from rfl] at hx222_3); replace p222 := eq_true p222; replace q222 := eq_true q222; have hcz34_0 : w29.cell? ⟨gb202, 0, none⟩ = some (.slice Ao18 t195.length co18) := (blk_cell BK202.out 0).trans rfl; have hcz34_1 : w29.cell? ⟨gb202, 1, none⟩ = some (.int .i64 t198) := (blk_cell BK202.out 1).trans rfl; have hcz34_2 : w29.cell? ⟨gb202, 2, none⟩ = some (.int .i64 t199) := (blk_cell BK202.out 2).trans rfl; have hcz34_3 : w29.cell? ⟨gb202, 3, none⟩ = some (.int .i64 t200) := (blk_cell BK202.out 3).trans rfl; have hcz34_4 : w29.cell? ⟨gb202, 4, none⟩ = some (.int .i64 t201) := (blk_cell BK202.out 4).trans rfl; have hfz34_0 := blk_frozen BK202.out 0; have hfz34_1 := blk_frozen BK202.out 1; have hfz34_2 := blk_frozen BK202.out 2; have hfz34_3 := blk_frozen BK202.out 3; have hfz34_4 := blk_frozen BK202.out 4) | (go_at_call 16; (with_reducible refine (schema_Find.calls _ _ t195 t198 t199 t200 t201 (⟨#[118]⟩ : ByteArray) t223 _ ?side1 ?side2 A13.out).mono ?_); (case side1 => repeat (first | exact (Kd.R_reads' HO197.out).2.2 | (with_reducible refine Kd.C_alloc ?_ _) | (with_reducible refine Kd.C_drewN ?_ _) | (with_reducible refine Kd.C_drew ?_))); (case side2 => exact (Kd.R_reads' HO197.out).2.1); rintro e w35 ⟨rfl, hb⟩; have n0_ := Aside0.mk (Kd.R_below (by (with_reducible repeat (first | apply Kd.R_alloc | apply Kd.R_drewN | apply Kd.R_drew)); exact HO197.out) hb); have n1_ := Aside0.mk (Kd.R_below (by (with_reducible repeat (first | apply Kd.R_alloc | apply Kd.R_drewN | apply Kd.R_drew)); exact HO205.out) hb); have n2_ := Aside0.mk (Kd.R_below (by (with_reducible repeat (first | apply Kd.R_alloc | apply Kd.R_drewN | apply Kd.R_drew)); exact HO208.out) hb); have n3_ := Aside0.mk (Kd.R_below (by (with_reducible repeat (first | apply Kd.R_alloc | apply Kd.R_drewN | apply Kd.R_drew)); exact HO212.out) hb); have n4_ := Aside0.mk (Kd.R_below (by (with_reducible repeat (first | apply Kd.R_alloc | apply Kd.R_drewN | apply Kd.R_drew)); exact HO215.out) hb); have n5_ := Aside0.mk (Kd.R_below (by (with_reducible repeat (first | apply Kd.R_alloc | apply Kd.R_drewN | apply Kd.R_drew)); exact HO219.out) hb); have n6_ := Aside0.mk (blk_below (g := gb202) (o := .cells #[.slice Ao18 t195.length co18, .int .i64 t198, .int .i64 t199, .int .i64 t200, .int .i64 t201] 24 (0, 0)) (by (with_reducible repeat (first | refine blk_drewN ?_ _ | refine blk_drew ?_ | refine blk_alloc ?_ _)); exact BK202.out) hb); have n7_ := Aside0.mk (below_step (by repeat (first | (with_reducible first | exact HB.out | apply below_alloc | apply pw_below_drewN | apply below_drew1 | refine below_set ?_ GE202.out) | exact HB.out)) hb); clear HO197; clear HO205; clear HO208; clear HO212; clear HO215; clear HO219; clear BK202; clear HB; have HO197 := n0_; have HO205 := n1_; have HO208 := n2_; have HO212 := n3_; have HO215 := n4_; have HO219 := n5_; have BK202 := n6_; have HB := n7_; clear n0_ n1_ n2_ n3_ n4_ n5_ n6_ n7_; (try clear hb); (try clear hb2); (try clear hk); (try clear hi); have hcz36_0 : w35.cell? ⟨gb202, 0, none⟩ = some (.slice Ao18 t195.length co18) := (blk_cell BK202.out 0).trans rfl; have hcz36_1 : w35.cell? ⟨gb202, 1, none⟩ = some (.int .i64 t198) := (blk_cell BK202.out 1).trans rfl; have hcz36_2 : w35.cell? ⟨gb202, 2, none⟩ = some (.int .i64 t199) := (blk_cell BK202.out 2).trans rfl; have hcz36_3 : w35.cell? ⟨gb202, 3, none⟩ = some (.int .i64 t200) := (blk_cell BK202.out 3).trans rfl; have hcz36_4 : w35.cell? ⟨gb202, 4, none⟩ = some (.int .i64 t201) := (blk_cell BK202.out 4).trans rfl; have hfz36_0 := blk_frozen BK202.out 0; have hfz36_1 := blk_frozen BK202.out 1; have hfz36_2 := blk_frozen BK202.out 2; have hfz36_3 := blk_frozen BK202.out 3; have hfz36_4 := blk_frozen BK202.out 4) | (go_at_call 14; (with_reducible refine (schema_May.calls _ _ t195 t198 t199 t200 t201 t224 _ ?side1 ?side2 A15.out).mono ?_); (case side1 => repeat (first | exact (Kd.R_reads' HO197.out).2.2 | (with_reducible refine Kd.C_alloc ?_ _) | (with_reducible refine Kd.C_drewN ?_ _) | (with_reducible refine Kd.C_drew ?_))); (case side2 => exact (Kd.R_reads' HO197.out).2.1); rintro e w37 ⟨rfl, hb⟩; have n0_ := Aside0.mk (Kd.R_below (by (with_reducible repeat (first | apply Kd.R_alloc | apply Kd.R_drewN | apply Kd.R_drew)); exact HO197.out) hb); have n1_ := Aside0.mk (Kd.R_below (by (with_reducible repeat (first | apply Kd.R_alloc | apply Kd.R_drewN | apply Kd.R_drew)); exact HO205.out) hb); have n2_ := Aside0.mk (Kd.R_below (by (with_reducible repeat (first | apply Kd.R_alloc | apply Kd.R_drewN | apply Kd.R_drew)); exact HO208.out) hb); have n3_ := Aside0.mk (Kd.R_below (by (with_reducible repeat (first | apply Kd.R_alloc | apply Kd.R_drewN | apply Kd.R_drew)); exact HO212.out) hb); have n4_ := Aside0.mk (Kd.R_below (by (with_reducible repeat (first | apply Kd.R_alloc | apply Kd.R_drewN | apply Kd.R_drew)); exact HO215.out) hb); have n5_ := Aside0.mk (Kd.R_below (by (with_reducible repeat (first | apply Kd.R_alloc | apply Kd.R_drewN | apply Kd.R_drew)); exact HO219.out) hb); have n6_ := Aside0.mk (blk_below (g := gb202) (o := .cells #[.slice Ao18 t195.length co18, .int .i64 t198, .int .i64 t199, .int .i64 t200, .int .i64 t201] 24 (0, 0)) (by (with_reducible repeat (first | refine blk_drewN ?_ _ | refine blk_drew ?_ | refine blk_alloc ?_ _)); exact BK202.out) hb); have n7_ := Aside0.mk (below_step (by repeat (first | (with_reducible first | exact HB.out | apply below_alloc | apply pw_below_drewN | apply below_drew1 | refine below_set ?_ GE202.out) | exact HB.out)) hb); clear HO197; clear HO205; clear HO208; clear HO212; clear HO215; clear HO219; clear BK202; clear HB; have HO197 := n0_; have HO205 := n1_; have HO208 := n2_; have HO212 := n3_; have HO215 := n4_; have HO219 := n5_; have BK202 := n6_; have HB := n7_; clear n0_ n1_ n2_ n3_ n4_ n5_ n6_ n7_; (try clear hb); (try clear hb2); (try clear hk); (try clear hi)))
                    go_ret
                    exact ⟨by first | rfl | (simp [errW_none, errW_some] <;> rfl) | (refine congrArg (fun b_ : Bool => Ending.returned (Value.bool b_)) ?_; simp; done) | (simp [*, errW_none, errW_some] <;> rfl), by repeat (first | (with_reducible first | exact HB.out | apply below_alloc | apply pw_below_drewN | apply below_drew1 | refine below_set ?_ GE202.out) | exact HB.out)⟩
                  · rw [if_neg c14] at H
                    have c14b0 : (t223 == 1) = false := beq_eq_false_iff_ne.mpr c14
                    have c14b1 : (t223 != 1) = true := bne_iff_ne.mpr c14
                    exact absurd (HTRUE.out.symm.trans (Option.some.inj H).symm) (by decide)
                · rw [if_neg c12] at H
                  have c12b0 : (((rd_T46 t213 1).f0) == 0 && (((rd_T46 t213 1).f1) == 0 && ((((rd_T46 t213 1).f2).toList) == ([] : List UInt8) && (!((rd_T46 t213 1).f3))))) = false := by simpa using c12
                  (try (have c12b1 : decide (((rd_T46 t213 1).f0) = 0 && (((rd_T46 t213 1).f1) == 0 && ((((rd_T46 t213 1).f2).toList) == ([] : List UInt8) && (!((rd_T46 t213 1).f3))))) = false := by simpa using c12))
                  (try (have c12b2 : (((rd_T46 t213 1).f0) == 0 && (((rd_T46 t213 1).f1) == 0 && ((((rd_T46 t213 1).f2).toList) == ([] : List UInt8) && (!((rd_T46 t213 1).f3))))) = false := by simpa using c12))
                  (try (have c12b4 : ¬ ((((rd_T46 t213 1).f0) = 0 ∧ (((rd_T46 t213 1).f1) = 0 ∧ ((((rd_T46 t213 1).f2).toList) = ([] : List UInt8) ∧ (((rd_T46 t213 1).f3) = false))))) := by simpa using c12))
                  (try (have c12b3 : ¬ (((rd_T46 t213 1).f0) = 0 && (((rd_T46 t213 1).f1) == 0 && ((((rd_T46 t213 1).f2).toList) == ([] : List UInt8) && (!((rd_T46 t213 1).f3))))) := by simpa using c12))
                  clear c12
                  exact absurd (HTRUE.out.symm.trans (Option.some.inj H).symm) (by decide)
              · rw [if_neg c11] at H
                exact absurd H (by simp)
            · rw [if_neg c10] at H
              have c10b0 : (((rd_T46 t213 0).f1) == 5) = false := beq_eq_false_iff_ne.mpr c10
              have c10b1 : (((rd_T46 t213 0).f1) != 5) = true := bne_iff_ne.mpr c10
              exact absurd (HTRUE.out.symm.trans (Option.some.inj H).symm) (by decide)
          · rw [if_neg c9] at H
            exact absurd H (by simp)
        · rw [if_neg c8] at H
          have c8b0 : ((t213.length : Int) == 2) = false := beq_eq_false_iff_ne.mpr c8
          have c8b1 : ((t213.length : Int) != 2) = true := bne_iff_ne.mpr c8
          exact absurd (HTRUE.out.symm.trans (Option.some.inj H).symm) (by decide)
      · rw [if_neg c7] at H
        have c7b0 : (t216 == 0) = false := beq_eq_false_iff_ne.mpr c7
        have c7b1 : (t216 != 0) = true := bne_iff_ne.mpr c7
        exact absurd (HTRUE.out.symm.trans (Option.some.inj H).symm) (by decide)
    · rw [if_neg c6] at H
      have c6b0 : (t209 == 0) = false := beq_eq_false_iff_ne.mpr c6
      have c6b1 : (t209 != 0) = true := bne_iff_ne.mpr c6
      exact absurd (HTRUE.out.symm.trans (Option.some.inj H).symm) (by decide)
  · replace c5 := Bool.eq_false_iff.mpr c5
    subst c5
    have H1 : (some false) = some r := by rw [if_neg (show ¬ (false = true) by decide)] at H; exact H
    clear H
    have H := H1
    clear H1
    exact absurd (HTRUE.out.symm.trans (Option.some.inj H).symm) (by decide)

end Go.Proofs.YteefchdfdgfaaaaDoor.Q
namespace Go.Proofs.YteefchdfdgfaaaaDoor.Q
open Go.RowKit Go.Proofs.YteefchdfdgfaaaaDoorW.PrintWords Go.Proofs.YteefchdfdgfaaaaDoorW.PrintLast Go.Proofs.YteefchdfdgfaaaaDoorW.PrintMore
attribute [local go_sem] max2_int min2_int max_two min_two max_three min_three max_four min_four   -- for this text's walks alone
set_option linter.unusedVariables false
set_option linter.unusedSimpArgs false

attribute [local go_sem high] eqA46
-- BY HAND: Derived.Test.YteefchdfdgfaaaaDoorHsch07
/-! ### winnowerlaw07_awake: function 8 -/
-- HAND winnower/winnowerlaw07.awake over making glob lawlike
-- IMPORT Derived.Test.YteefchdfdgfaaaaDoorHsch07
open Go.Proofs.YteefchdfdgfaaaaDoor.Hnum Go.Proofs.YteefchdfdgfaaaaDoor.Hval
theorem awake07 {k : Nat} (hk : 10 ≤ k) : winnowerlaw07_awake_p.f k = some true := by
  unfold winnowerlaw07_awake_p.f
  rw [show winnowerlaw07_Small.f = some (smallC, -1, -1, -1, -1) from rfl, Option.bind_some]
  simp only
  have hi : ∀ v ∈ smallR, i64 v.f1 := by
    intro v hv
    simp only [smallR, List.mem_cons, List.not_mem_nil, or_false] at hv
    rcases hv with rfl | rfl <;> decide
  have e1 := enc_tell (l := smallC) (by decide) (-1) (-1) (-1) (-1) (row := smallR) hi (k := k) (show 2 * smallC.length + 2 ≤ k by show 2 * 2 + 2 ≤ k; omega)
  rw [small_fits, if_pos rfl, small_enc] at e1
  have e2 : schema_Decode.f smallC (-1) (-1) (-1) (-1) [10, 0] = some ([⟨1, 5, ⟨#[]⟩, false⟩, ⟨0, 0, ⟨#[]⟩, false⟩], 0) := by
    unfold schema_Decode.f
    rw [if_pos (by decide), small_may, if_pos rfl, small_dec]
  have e3 : schema_May.f smallC (-1) (-1) (-1) (-1) = some true := by
    unfold schema_May.f
    rw [if_pos (by decide), small_may]
  have e4 : schema_Find.f smallC (-1) (-1) (-1) (-1) ⟨#[118]⟩ = some 1 := by
    unfold schema_Find.f
    rw [small_find2]
  rw [show ([(⟨1, 5, (⟨#[]⟩ : ByteArray), false⟩ : S46), (⟨2, 0, (⟨#[97]⟩ : ByteArray), false⟩ : S46)] : List S46) = smallR from rfl, e1, Option.bind_some, e2, Option.bind_some]
  simp only
  unfold winnowerref01_Same.f
  rw [e3, e4]
  have hz : (((rd_T46 [(⟨1, 5, ⟨#[]⟩, false⟩ : S46), ⟨0, 0, ⟨#[]⟩, false⟩] 1).f0 == 0) && (((rd_T46 [(⟨1, 5, ⟨#[]⟩, false⟩ : S46), ⟨0, 0, ⟨#[]⟩, false⟩] 1).f1 == 0) && ((((rd_T46 [(⟨1, 5, ⟨#[]⟩, false⟩ : S46), ⟨0, 0, ⟨#[]⟩, false⟩] 1).f2).toList == ([] : List UInt8)) && !((rd_T46 [(⟨1, 5, ⟨#[]⟩, false⟩ : S46), ⟨0, 0, ⟨#[]⟩, false⟩] 1).f3)))) = true := by
    show ((0 : Int) == 0 && ((0 : Int) == 0 && (((⟨#[]⟩ : ByteArray).toList == ([] : List UInt8)) && !false))) = true
    rw [toL []]
    rfl
  rw [Option.bind_some, decide_eq_true rfl, if_pos rfl]
  simp only [if_true]
  rw [if_pos (by decide), if_pos (by decide), if_pos (by rfl), if_pos (by decide), if_pos hz, Option.bind_some, if_pos rfl, Option.bind_some]

def winnowerlaw07_awake.f : Option Bool := some true
theorem winnowerlaw07_awake.calls (r : Bool) (w : World) (hG : Globs w) (h : winnowerlaw07_awake.f = some r) :
    Calls Tryd.prog 8 #[] w fun e w' => e = .returned (.bool r) ∧ Below w.heap.size w w' :=
  winnowerlaw07_awake_p.calls 10 r w hG (Option.some.inj h).symm ((awake07 (by omega)).trans h)

end Go.Proofs.YteefchdfdgfaaaaDoor.Q
namespace Go.Proofs.YteefchdfdgfaaaaDoor.Q
open Go.RowKit Go.Proofs.YteefchdfdgfaaaaDoorW.PrintWords Go.Proofs.YteefchdfdgfaaaaDoorW.PrintLast Go.Proofs.YteefchdfdgfaaaaDoorW.PrintMore
attribute [local go_sem] max2_int min2_int max_two min_two max_three min_three max_four min_four   -- for this text's walks alone
set_option linter.unusedVariables false
set_option linter.unusedSimpArgs false

/-! ### winnowerref06_May: function 33 -/

/-! ### winnowerref07_Fits: function 19 -/

/-! ### winnowerref01_digits_p: function 52 -/

end Go.Proofs.YteefchdfdgfaaaaDoor.Q
namespace Go.Proofs.YteefchdfdgfaaaaDoor.Q
open Go.RowKit Go.Proofs.YteefchdfdgfaaaaDoorW.PrintWords Go.Proofs.YteefchdfdgfaaaaDoorW.PrintLast Go.Proofs.YteefchdfdgfaaaaDoorW.PrintMore
attribute [local go_sem] max2_int min2_int max_two min_two max_three min_three max_four min_four   -- for this text's walks alone
set_option linter.unusedVariables false
set_option linter.unusedSimpArgs false

-- BY HAND: Derived.Test.YteefchdfdgfaaaaDoorHnum
/-! ### winnowerref01_digits: function 52 -/
-- HAND winnower/winnowerref01.digits over
-- IMPORT Derived.Test.YteefchdfdgfaaaaDoorHnum
open Go.Proofs.YteefchdfdgfaaaaDoor.Hnum

end Go.Proofs.YteefchdfdgfaaaaDoor.Q
namespace Go.Proofs.YteefchdfdgfaaaaDoor.Q
open Go.RowKit Go.Proofs.YteefchdfdgfaaaaDoorW.PrintWords Go.Proofs.YteefchdfdgfaaaaDoorW.PrintLast Go.Proofs.YteefchdfdgfaaaaDoorW.PrintMore
attribute [local go_sem] max2_int min2_int max_two min_two max_three min_three max_four min_four   -- for this text's walks alone
set_option linter.unusedVariables false
set_option linter.unusedSimpArgs false

/-! ### winnowerref01_Put: function 41 -/

/-! ### winnowerref01_PutLen: function 42 -/

end Go.Proofs.YteefchdfdgfaaaaDoor.Q
namespace Go.Proofs.YteefchdfdgfaaaaDoor.Q
open Go.RowKit Go.Proofs.YteefchdfdgfaaaaDoorW.PrintWords Go.Proofs.YteefchdfdgfaaaaDoorW.PrintLast Go.Proofs.YteefchdfdgfaaaaDoorW.PrintMore
attribute [local go_sem] max2_int min2_int max_two min_two max_three min_three max_four min_four   -- for this text's walks alone
set_option linter.unusedVariables false
set_option linter.unusedSimpArgs false

-- BY HAND: Derived.Test.YteefchdfdgfaaaaDoorHnum,Derived.Test.YteefchdfdgfaaaaDoorHval,Derived.Deep.RegionLaw
/-! ### winnowerref06_Put: function 25 -/
-- HAND winnower/winnowerref06.Put making
-- IMPORT Derived.Test.YteefchdfdgfaaaaDoorHnum
-- IMPORT Derived.Test.YteefchdfdgfaaaaDoorHval
-- IMPORT Derived.Deep.RegionLaw
open Go.Proofs.YteefchdfdgfaaaaDoor.Hnum Go.Proofs.YteefchdfdgfaaaaDoor.Hval

end Go.Proofs.YteefchdfdgfaaaaDoor.Q
namespace Go.Proofs.YteefchdfdgfaaaaDoor.Q
open Go.RowKit Go.Proofs.YteefchdfdgfaaaaDoorW.PrintWords Go.Proofs.YteefchdfdgfaaaaDoorW.PrintLast Go.Proofs.YteefchdfdgfaaaaDoorW.PrintMore
attribute [local go_sem] max2_int min2_int max_two min_two max_three min_three max_four min_four   -- for this text's walks alone
set_option linter.unusedVariables false
set_option linter.unusedSimpArgs false

/-! ### winnowerref07_Encode: function 12 -/

/-! ### winnowerref07_Find: function 17 -/

end Go.Proofs.YteefchdfdgfaaaaDoor.Q
namespace Go.Proofs.YteefchdfdgfaaaaDoor.Q
open Go.RowKit Go.Proofs.YteefchdfdgfaaaaDoorW.PrintWords Go.Proofs.YteefchdfdgfaaaaDoorW.PrintLast Go.Proofs.YteefchdfdgfaaaaDoorW.PrintMore
attribute [local go_sem] max2_int min2_int max_two min_two max_three min_three max_four min_four   -- for this text's walks alone
set_option linter.unusedVariables false
set_option linter.unusedSimpArgs false

/-! ### winnowerlaw07_SchemaTells: function 3 -/

/-! ### winnowerref01_run_p: function 67 -/

end Go.Proofs.YteefchdfdgfaaaaDoor.Q
namespace Go.Proofs.YteefchdfdgfaaaaDoor.Q
open Go.RowKit Go.Proofs.YteefchdfdgfaaaaDoorW.PrintWords Go.Proofs.YteefchdfdgfaaaaDoorW.PrintLast Go.Proofs.YteefchdfdgfaaaaDoorW.PrintMore
attribute [local go_sem] max2_int min2_int max_two min_two max_three min_three max_four min_four   -- for this text's walks alone
set_option linter.unusedVariables false
set_option linter.unusedSimpArgs false

-- BY HAND: Derived.Test.YteefchdfdgfaaaaDoorHnum
/-! ### winnowerref01_run: function 67 -/
-- HAND winnower/winnowerref01.run over
-- IMPORT Derived.Test.YteefchdfdgfaaaaDoorHnum
open Go.Proofs.YteefchdfdgfaaaaDoor.Hnum

end Go.Proofs.YteefchdfdgfaaaaDoor.Q
namespace Go.Proofs.YteefchdfdgfaaaaDoor.Q
open Go.RowKit Go.Proofs.YteefchdfdgfaaaaDoorW.PrintWords Go.Proofs.YteefchdfdgfaaaaDoorW.PrintLast Go.Proofs.YteefchdfdgfaaaaDoorW.PrintMore
attribute [local go_sem] max2_int min2_int max_two min_two max_three min_three max_four min_four   -- for this text's walks alone
set_option linter.unusedVariables false
set_option linter.unusedSimpArgs false

/-! ### winnowerref01_halves_p: function 68 -/

end Go.Proofs.YteefchdfdgfaaaaDoor.Q
namespace Go.Proofs.YteefchdfdgfaaaaDoor.Q
open Go.RowKit Go.Proofs.YteefchdfdgfaaaaDoorW.PrintWords Go.Proofs.YteefchdfdgfaaaaDoorW.PrintLast Go.Proofs.YteefchdfdgfaaaaDoorW.PrintMore
attribute [local go_sem] max2_int min2_int max_two min_two max_three min_three max_four min_four   -- for this text's walks alone
set_option linter.unusedVariables false
set_option linter.unusedSimpArgs false

-- BY HAND: Derived.Test.YteefchdfdgfaaaaDoorHnum
/-! ### winnowerref01_halves: function 68 -/
-- HAND winnower/winnowerref01.halves over
-- IMPORT Derived.Test.YteefchdfdgfaaaaDoorHnum
open Go.Proofs.YteefchdfdgfaaaaDoor.Hnum

end Go.Proofs.YteefchdfdgfaaaaDoor.Q
namespace Go.Proofs.YteefchdfdgfaaaaDoor.Q
open Go.RowKit Go.Proofs.YteefchdfdgfaaaaDoorW.PrintWords Go.Proofs.YteefchdfdgfaaaaDoorW.PrintLast Go.Proofs.YteefchdfdgfaaaaDoorW.PrintMore
attribute [local go_sem] max2_int min2_int max_two min_two max_three min_three max_four min_four   -- for this text's walks alone
set_option linter.unusedVariables false
set_option linter.unusedSimpArgs false

/-! ### winnowerref01_Get: function 48 -/

/-! ### winnowerref01_GetLen: function 49 -/

/-! ### winnowerref06_Get: function 36 -/

end Go.Proofs.YteefchdfdgfaaaaDoor.Q
namespace Go.Proofs.YteefchdfdgfaaaaDoor.Q
open Go.RowKit Go.Proofs.YteefchdfdgfaaaaDoorW.PrintWords Go.Proofs.YteefchdfdgfaaaaDoorW.PrintLast Go.Proofs.YteefchdfdgfaaaaDoorW.PrintMore
attribute [local go_sem] max2_int min2_int max_two min_two max_three min_three max_four min_four   -- for this text's walks alone
set_option linter.unusedVariables false
set_option linter.unusedSimpArgs false

attribute [local go_sem high] eqA46
/-! ### winnowerref07_Decode: function 21 -/

/-! ### winnowerref06_Same: function 22 -/
def winnowerref06_Same.l0 : Nat → List (S46) → List (S46) → Int → Option (Bool)
  | 0, _, _, _ => none
  | k + 1, x0, x1, x5 => if x5 < (x0.length : Int) then (if 0 ≤ x5 then (if x5 < (x1.length : Int) then (if (!(((rd_T46 x0 x5).f0) == ((rd_T46 x1 x5).f0)) || (!(((rd_T46 x0 x5).f1) == ((rd_T46 x1 x5).f1)) || (!((((rd_T46 x0 x5).f2).toList) == (((rd_T46 x1 x5).f2).toList)) || (!(((rd_T46 x0 x5).f3) == ((rd_T46 x1 x5).f3)))))) = true then (some false) else (winnowerref06_Same.l0 k x0 x1 (wrap64 (x5 + 1)))) else (none)) else (none)) else (some true)
def winnowerref06_Same.f (k : Nat) (l0 : List (S46)) (l1 : List (S46)) : Option (Bool) := if (l0.length : Int) = (l1.length : Int) then (winnowerref06_Same.l0 k l0 l1 0) else (some false)
set_option maxHeartbeats 8000000 in
set_option maxRecDepth 100000 in
theorem winnowerref06_Same.calls (k : Nat) (A0 : Option Addr) (c0 : Nat) (l0 : List (S46)) (A1 : Option Addr) (c1 : Nat) (l1 : List (S46)) (r : Bool) (w : World) (hr0 : Kd.C k46 w A0 l0.length l0) (hc0 : l0.length ≤ c0) (hr1 : Kd.C k46 w A1 l1.length l1) (hc1 : l1.length ≤ c1) (h : winnowerref06_Same.f k l0 l1 = some r) :
    Calls Tryd.prog 22 #[.slice A0 l0.length c0, .slice A1 l1.length c1] w fun e w' => e = .returned (.bool r) ∧ Drawn0 w w' := by
  have hu46 := Tryd.underlying46
  have HR0 := Aside0.mk hr0
  have HC0 := Aside0.mk hc0
  clear hr0 hc0
  have HR1 := Aside0.mk hr1
  have HC1 := Aside0.mk hc1
  clear hr1 hc1
  have H : (if (l0.length : Int) = (l1.length : Int) then (winnowerref06_Same.l0 k l0 l1 0) else (some false)) = some r := h
  clear h
  by_cases c3 : (l0.length : Int) = (l1.length : Int)
  · rw [if_pos c3] at H
    have c3b0 : ((l0.length : Int) == (l1.length : Int)) = true := beq_iff_eq.mpr c3
    have c3b1 : ((l0.length : Int) != (l1.length : Int)) = false := bne_eq_false_iff_eq.mpr c3
    have c3b2 : (l0.length == l1.length) = true := by first | simpa using c3 | (simp at c3 ⊢; omega)
    clear c3
    have H' := Aside0.mk H
    clear H
    go_enter Tryd.func22, Tryd.ntmps22
    go_wp2
    repeat (go_quiet (fail); try go_wp2)
    go_loopg [5] k (fun kq v5 w' => ∃ (x5_1 : Int), v5 = .int .i64 x5_1 ∧ Aside0 (winnowerref06_Same.l0 kq l0 l1 x5_1 = some r) ∧ Aside0 (kq ≤ k) ∧ Drawn0 w w')
    case atStart => exact ⟨(0), (by first | rfl | (simp; done) | (simp [*]; done)), H', ⟨Nat.le_refl _⟩, by repeat (first | exact Drawn0.refl _ | apply Drawn0.step)⟩
    case round =>
      clear H'
      try clear c1
      try clear c2
      try clear p2
      try clear c3
      try clear c3b0
      try clear c3b1
      try clear c3b2
      obtain ⟨x5_1, rfl, HA, HK1, ⟨m1, rfl⟩⟩ := hrel
      cases gk with
      | zero => exact absurd HA.out (by simp [winnowerref06_Same.l0])
      | succ k1 =>
        have H := HA.out
        clear HA
        simp only [winnowerref06_Same.l0] at H
        by_cases c4 : x5_1 < (l0.length : Int)
        · rw [if_pos c4] at H
          have c4b0 : decide (x5_1 < (l0.length : Int)) = true := decide_eq_true c4
          clear c4
          by_cases c5 : 0 ≤ x5_1
          · rw [if_pos c5] at H
            have c5b0 : decide (0 ≤ x5_1) = true := decide_eq_true c5
            clear c5
            by_cases c6 : x5_1 < (l1.length : Int)
            · rw [if_pos c6] at H
              have c6b0 : decide (x5_1 < (l1.length : Int)) = true := decide_eq_true c6
              clear c6
              by_cases c7 : (!(((rd_T46 l0 x5_1).f0) == ((rd_T46 l1 x5_1).f0)) || (!(((rd_T46 l0 x5_1).f1) == ((rd_T46 l1 x5_1).f1)) || (!((((rd_T46 l0 x5_1).f2).toList) == (((rd_T46 l1 x5_1).f2).toList)) || (!(((rd_T46 l0 x5_1).f3) == ((rd_T46 l1 x5_1).f3)))))) = true
              · rw [if_pos c7] at H
                have c7b0 : (!(((rd_T46 l0 x5_1).f0) == ((rd_T46 l1 x5_1).f0)) || (!(((rd_T46 l0 x5_1).f1) == ((rd_T46 l1 x5_1).f1)) || (!((((rd_T46 l0 x5_1).f2).toList) == (((rd_T46 l1 x5_1).f2).toList)) || (!(((rd_T46 l0 x5_1).f3) == ((rd_T46 l1 x5_1).f3)))))) = true := c7
                clear c7
                obtain rfl := Option.some.inj H
                have p391 : 0 ≤ (x5_1 : Int) := of_decide_eq_true (by first | (with_reducible assumption) | assumption)
                have q391 : x5_1 < (l0.length : Int) := of_decide_eq_true (by first | (with_reducible assumption) | assumption)
                obtain ⟨ad391, e391, hx391_0, hx391_1, hx391_2, hx391_3⟩ := at_T46 HR0.out x5_1 p391 q391
                cases e391
                replace p391 := eq_true p391
                replace q391 := eq_true q391
                have p392 : 0 ≤ (x5_1 : Int) := of_decide_eq_true (by first | (with_reducible assumption) | assumption)
                have q392 : x5_1 < (l1.length : Int) := of_decide_eq_true (by first | (with_reducible assumption) | assumption)
                obtain ⟨ad392, e392, hx392_0, hx392_1, hx392_2, hx392_3⟩ := at_T46 HR1.out x5_1 p392 q392
                cases e392
                replace p392 := eq_true p392
                replace q392 := eq_true q392
                go_wp2
                repeat (go_quiet (fail); try go_wp2)
                go_ret
                exact ⟨by first | rfl | (simp; done) | (simp [*]; done), by repeat (first | exact Drawn0.refl _ | apply Drawn0.step)⟩
              · rw [if_neg c7] at H
                have c7b0 : (!(((rd_T46 l0 x5_1).f0) == ((rd_T46 l1 x5_1).f0)) || (!(((rd_T46 l0 x5_1).f1) == ((rd_T46 l1 x5_1).f1)) || (!((((rd_T46 l0 x5_1).f2).toList) == (((rd_T46 l1 x5_1).f2).toList)) || (!(((rd_T46 l0 x5_1).f3) == ((rd_T46 l1 x5_1).f3)))))) = false := by simpa using c7
                clear c7
                have H' := Aside0.mk H
                clear H
                have p391 : 0 ≤ (x5_1 : Int) := of_decide_eq_true (by first | (with_reducible assumption) | assumption)
                have q391 : x5_1 < (l0.length : Int) := of_decide_eq_true (by first | (with_reducible assumption) | assumption)
                obtain ⟨ad391, e391, hx391_0, hx391_1, hx391_2, hx391_3⟩ := at_T46 HR0.out x5_1 p391 q391
                cases e391
                replace p391 := eq_true p391
                replace q391 := eq_true q391
                have p392 : 0 ≤ (x5_1 : Int) := of_decide_eq_true (by first | (with_reducible assumption) | assumption)
                have q392 : x5_1 < (l1.length : Int) := of_decide_eq_true (by first | (with_reducible assumption) | assumption)
                obtain ⟨ad392, e392, hx392_0, hx392_1, hx392_2, hx392_3⟩ := at_T46 HR1.out x5_1 p392 q392
                cases e392
                replace p392 := eq_true p392
                replace q392 := eq_true q392
                go_wp2
                repeat (go_quiet (fail); try go_wp2)
                go_roundg k1
                case measure => have := HK1.out; omega
                case rel => exact ⟨(wrap64 (x5_1 + 1)), (by first | rfl | (simp; done) | (simp [*]; done)), H', ⟨by have := HK1.out; omega⟩, by repeat (first | exact Drawn0.refl _ | apply Drawn0.step)⟩
            · rw [if_neg c6] at H
              exact absurd H (by simp)
          · rw [if_neg c5] at H
            exact absurd H (by simp)
        · rw [if_neg c4] at H
          have c4b0 : decide (x5_1 < (l0.length : Int)) = false := decide_eq_false c4
          clear c4
          obtain rfl := Option.some.inj H
          go_wp2
          repeat (go_quiet (fail); try go_wp2)
          go_ret
          exact ⟨by first | rfl | (simp; done) | (simp [*]; done), by repeat (first | exact Drawn0.refl _ | apply Drawn0.step)⟩
  · rw [if_neg c3] at H
    have c3b0 : ((l0.length : Int) == (l1.length : Int)) = false := beq_eq_false_iff_ne.mpr c3
    have c3b1 : ((l0.length : Int) != (l1.length : Int)) = true := bne_iff_ne.mpr c3
    have c3b2 : (l0.length == l1.length) = false := by first | simpa using c3 | (simp at c3 ⊢; omega)
    obtain rfl := Option.some.inj H
    go_enter Tryd.func22, Tryd.ntmps22
    go_wp2
    repeat (go_quiet (fail); try go_wp2)
    go_ret
    exact ⟨by first | rfl | (simp; done) | (simp [*]; done), by repeat (first | exact Drawn0.refl _ | apply Drawn0.step)⟩

end Go.Proofs.YteefchdfdgfaaaaDoor.Q
namespace Go.Proofs.YteefchdfdgfaaaaDoor.Q
open Go.RowKit Go.Proofs.YteefchdfdgfaaaaDoorW.PrintWords Go.Proofs.YteefchdfdgfaaaaDoorW.PrintLast Go.Proofs.YteefchdfdgfaaaaDoorW.PrintMore
attribute [local go_sem] max2_int min2_int max_two min_two max_three min_three max_four min_four   -- for this text's walks alone
set_option linter.unusedVariables false
set_option linter.unusedSimpArgs false

-- SAYS Chapter 07: few columns, light rows, rows that are the same.
-- FUNCS winnower/winnowerref07.Few
-- NEEDS winnowerref07_Few.f winnowerref07_Light.f winnowerref06_Same.f
-- IMPORT Derived.Test.YteefchdfdgfaaaaDoorHnum
-- IMPORT Derived.Test.YteefchdfdgfaaaaDoorHval
-- IMPORT Derived.Test.YteefchdfdgfaaaaDoorHsch07
open Go.Proofs.YteefchdfdgfaaaaDoor.Hnum Go.Proofs.YteefchdfdgfaaaaDoor.Hval
/-- Few columns, of short names. -/
def fewC (l : List S48) : Bool := decide (l.length ≤ 12) && l.all fun x => decide (x.f0.size ≤ 100)
theorem few07_go {l : List S48} (hl : l.length ≤ 12) (a1 a2 a3 a4 : Int) (q : Nat) : ∀ (d i : Nat), i + d = l.length → winnowerref07_Few.l0 (d + q + 1) (i : Int) l a1 a2 a3 a4 = some ((l.drop i).all fun x => decide (x.f0.size ≤ 100)) := by
  intro d
  induction d with
  | zero =>
    intro i hi
    rw [Nat.zero_add]
    unfold winnowerref07_Few.l0
    rw [if_neg (by omega), List.drop_of_length_le (by omega)]
    rfl
  | succ d ih =>
    intro i hi
    have hk : i < l.length := by omega
    rw [show d + 1 + q + 1 = (d + q + 1) + 1 by omega]
    unfold winnowerref07_Few.l0
    rw [if_pos (by omega), if_pos (by omega), rd48_at hk, wr1 (by omega), ih (i + 1) (by omega), List.drop_eq_getElem_cons hk, List.all_cons]
    by_cases h : (l[i].f0.size : Int) > 100
    · rw [if_pos h, decide_eq_false (show ¬ l[i].f0.size ≤ 100 by omega)]; rfl
    · rw [if_neg h, decide_eq_true (show l[i].f0.size ≤ 100 by omega)]; rfl
theorem few07_tell (l : List S48) (a1 a2 a3 a4 : Int) {k : Nat} (hk : l.length + 1 ≤ k) : winnowerref07_Few.f k l a1 a2 a3 a4 = some (fewC l) := by
  obtain ⟨q, rfl⟩ : ∃ q, k = l.length + q + 1 := ⟨k - l.length - 1, by omega⟩
  clear hk
  unfold winnowerref07_Few.f fewC
  by_cases h : (l.length : Int) > 12
  · rw [if_pos h, decide_eq_false (show ¬ l.length ≤ 12 by omega)]; rfl
  · rw [if_neg h, decide_eq_true (show l.length ≤ 12 by omega)]
    have g := few07_go (l := l) (by omega) a1 a2 a3 a4 q l.length 0 (by omega)
    exact g
/-- A row of few values, of short texts. -/
def lightS (l : List S46) : Bool := decide (l.length ≤ 12) && l.all fun x => decide (x.f2.size ≤ 300)
theorem light07_go {l : List S46} (hl : l.length ≤ 12) (q : Nat) : ∀ (d i : Nat), i + d = l.length → winnowerref07_Light.l0 (d + q + 1) l (i : Int) = some ((l.drop i).all fun x => decide (x.f2.size ≤ 300)) := by
  intro d
  induction d with
  | zero =>
    intro i hi
    rw [Nat.zero_add]
    unfold winnowerref07_Light.l0
    rw [if_neg (by omega), List.drop_of_length_le (by omega)]
    rfl
  | succ d ih =>
    intro i hi
    have hk : i < l.length := by omega
    rw [show d + 1 + q + 1 = (d + q + 1) + 1 by omega]
    unfold winnowerref07_Light.l0
    rw [if_pos (by omega), if_pos (by omega), rd46_at hk, wr1 (by omega), ih (i + 1) (by omega), List.drop_eq_getElem_cons hk, List.all_cons]
    by_cases h : (l[i].f2.size : Int) > 300
    · rw [if_pos h, decide_eq_false (show ¬ l[i].f2.size ≤ 300 by omega)]; rfl
    · rw [if_neg h, decide_eq_true (show l[i].f2.size ≤ 300 by omega)]; rfl
theorem light07_tell (l : List S46) {k : Nat} (hk : l.length + 1 ≤ k) : winnowerref07_Light.f k l = some (lightS l) := by
  obtain ⟨q, rfl⟩ : ∃ q, k = l.length + q + 1 := ⟨k - l.length - 1, by omega⟩
  clear hk
  unfold winnowerref07_Light.f lightS
  by_cases h : (l.length : Int) > 12
  · rw [if_pos h, decide_eq_false (show ¬ l.length ≤ 12 by omega)]; rfl
  · rw [if_neg h, decide_eq_true (show l.length ≤ 12 by omega)]
    exact light07_go (l := l) (by omega) q l.length 0 (by omega)
/-- Are two rows the same? -/
theorem same06_one (a b : S46) : (!((a.f0 == b.f0)) || (!((a.f1 == b.f1)) || (!((a.f2.toList == b.f2.toList)) || !((a.f3 == b.f3))))) = !decide (a = b) := by
  by_cases h : a = b
  · subst h
    simp
  · rw [decide_eq_false h]
    cases a with
    | mk a0 a1 a2 a3 =>
      cases b with
      | mk b0 b1 b2 b3 =>
        by_cases e0 : a0 = b0
        · by_cases e1 : a1 = b1
          · by_cases e2 : a2.toList = b2.toList
            · by_cases e3 : a3 = b3
              · exact absurd (by rw [e0, e1, bytes_ext e2, e3]) h
              · simp [e3]
            · simp [e2]
          · simp [e1]
        · simp [e0]
theorem same06_go {a b : List S46} (hl : a.length = b.length) (h9 : a.length ≤ 1000000) (q : Nat) : ∀ (d i : Nat), i + d = a.length → winnowerref06_Same.l0 (d + q + 1) a b (i : Int) = some (decide (a.drop i = b.drop i)) := by
  intro d
  induction d with
  | zero =>
    intro i hi
    rw [Nat.zero_add]
    unfold winnowerref06_Same.l0
    rw [if_neg (by omega), List.drop_of_length_le (by omega), List.drop_of_length_le (by omega)]
    rfl
  | succ d ih =>
    intro i hi
    have hk : i < a.length := by omega
    have hk2 : i < b.length := by omega
    rw [show d + 1 + q + 1 = (d + q + 1) + 1 by omega]
    unfold winnowerref06_Same.l0
    rw [if_pos (by omega), if_pos (by omega), if_pos (by omega), rd46_at hk, rd46_at hk2, same06_one, wr1 (by omega), ih (i + 1) (by omega), List.drop_eq_getElem_cons hk, List.drop_eq_getElem_cons hk2]
    by_cases h : a[i] = b[i]
    · rw [decide_eq_true h, if_neg (by decide)]
      exact congrArg some (decide_eq_decide.2 ⟨fun e => by rw [h, e], fun e => (List.cons.inj e).2⟩)
    · rw [decide_eq_false h, if_pos (by decide)]
      exact congrArg some (decide_eq_false (fun e => h (List.cons.inj e).1)).symm
theorem same06_tell (a b : List S46) (h9 : a.length ≤ 1000000) {k : Nat} (hk : a.length + 1 ≤ k) : winnowerref06_Same.f k a b = some (decide (a = b)) := by
  obtain ⟨q, rfl⟩ : ∃ q, k = a.length + q + 1 := ⟨k - a.length - 1, by omega⟩
  clear hk
  unfold winnowerref06_Same.f
  by_cases hl : a.length = b.length
  · rw [if_pos (by omega)]
    have g := same06_go hl h9 q a.length 0 (by omega)
    exact g
  · rw [if_neg (by omega)]
    exact congrArg some (decide_eq_false (fun e => hl (by rw [e]))).symm

end Go.Proofs.YteefchdfdgfaaaaDoor.Q
namespace Go.Proofs.YteefchdfdgfaaaaDoor.Q
open Go.RowKit Go.Proofs.YteefchdfdgfaaaaDoorW.PrintWords Go.Proofs.YteefchdfdgfaaaaDoorW.PrintLast Go.Proofs.YteefchdfdgfaaaaDoorW.PrintMore
attribute [local go_sem] max2_int min2_int max_two min_two max_three min_three max_four min_four   -- for this text's walks alone
set_option linter.unusedVariables false
set_option linter.unusedSimpArgs false

-- SAYS Chapter 07: what bytes are decoded to, and back, in plain words.
-- FUNCS winnower/winnowerlaw07.SchemaBack winnower/winnowerlaw07.SchemaOnly winnower/winnowerlaw07.SchemaApart
-- NEEDS schema_Encode.f schema_Fits.f schema_May.f schema_Find.f schema_fits.f value_Get.f schema_Decode.f winnowerref01_Same.f
-- IMPORT Derived.Test.YteefchdfdgfaaaaDoorHnum
-- IMPORT Derived.Test.YteefchdfdgfaaaaDoorHval
-- IMPORT Derived.Test.YteefchdfdgfaaaaDoorHsch07
-- IMPORT Derived.Test.YteefchdfdgfaaaaDoorHsch07f
open Go.Proofs.YteefchdfdgfaaaaDoor.Hnum Go.Proofs.YteefchdfdgfaaaaDoor.Hval
/-- What a column's bytes are. -/
def colV (x : S48) (l : List Int) : Got :=
  if x.f2 = true then (if l = [] then bad 6 else if 1 < rd l 0 then bad 7 else if rd l 0 = 0 then (0, 0, ⟨#[]⟩, false, 1, 0) else fin1 1 (getV (l.drop 1) x.f1))
  else fin1 0 (getV l x.f1)
theorem Bytes.drop' {l : List Int} (hb : Bytes l) (n : Nat) : Bytes (l.drop n) := fun x hx => hb x (List.mem_of_mem_drop hx)
theorem col_tell {x : S48} {l : List Int} (hb : Bytes l) (hl : l.length ≤ 1000000) : schema_column.f x.f2 x.f1 l = some (colV x l) := by
  unfold schema_column.f colV
  split
  · split
    · rfl
    · split
      · rfl
      · split
        · rfl
        · rw [value_Get.tell (Bytes.drop' hb 1) (by rw [List.length_drop]; omega)]
          rfl
  · rw [value_Get.tell hb (by omega)]
    rfl
theorem getV_err {l : List Int} (hb : Bytes l) {kind : Int} (h1 : 1 ≤ kind) (h3 : kind ≤ 3) {e : Int} (h : getV l kind = bad e) (he : e ≠ 0) : e ≠ 1 := by
  rintro rfl
  unfold getV at h
  rw [if_neg (by omega)] at h
  split at h
  · split at h
    · simp [good, bad] at h
    · rename_i hg
      rcases getn_cases hb with ⟨e, he, h67⟩ | ⟨u, n, he, _⟩
      · rw [he] at h
        simp only [bad, Prod.mk.injEq] at h
        omega
      · rw [he] at hg
        exact absurd rfl hg
  · split at h
    · split at h
      · split at h
        · simp [bad] at h
        · split at h
          · simp [bad] at h
          · simp [good, bad] at h
      · rename_i hg
        rcases getl_cases hb with ⟨e, he, h67⟩ | ⟨u, n, he, _⟩
        · rw [he] at h
          simp only [bad, Prod.mk.injEq] at h
          omega
        · rw [he] at hg
          exact absurd rfl hg
    · split at h
      · split at h
        · simp [bad] at h
        · split at h
          · simp [bad] at h
          · simp [good, bad] at h
      · exact absurd h3 (by omega)
/-- A column of a schema that may be has a kind. -/
def kindC (x : S48) : Prop := 1 ≤ x.f1 ∧ x.f1 ≤ 3
theorem fin1_bad (h e : Int) (he : e ≠ 0) : fin1 h (bad e) = bad e := by unfold fin1; rw [if_neg he]
theorem fin1_good (h : Int) (v : V) (n : Int) : fin1 h (good v n) = good v (wrap64 (h + n)) := by unfold fin1; rw [if_pos rfl]
theorem col_cases {x : S48} (hk : kindC x) {l : List Int} (hb : Bytes l) (hl : l.length ≤ 1000000) :
    (∃ e, colV x l = bad e ∧ e ≠ 0 ∧ e ≠ 1) ∨ ∃ (v : S46) (n : Nat), colV x l = good (tv v) n ∧ fitC x v = true ∧ encV x v = l.take n ∧ n ≤ l.length ∧ i64 v.f1 := by
  unfold colV
  by_cases hn : x.f2 = true
  · rw [if_pos hn]
    by_cases h0 : l = []
    · rw [if_pos h0]; exact .inl ⟨6, rfl, by decide, by decide⟩
    · rw [if_neg h0]
      obtain ⟨y, t, rfl⟩ := List.exists_cons_of_ne_nil h0
      have hy := hb y (List.mem_cons_self ..)
      rw [show rd (y :: t) 0 = y from rfl, show List.drop 1 (y :: t) = t from rfl]
      by_cases h1 : 1 < y
      · rw [if_pos h1]; exact .inl ⟨7, rfl, by decide, by decide⟩
      · rw [if_neg h1]
        by_cases h2 : y = 0
        · rw [if_pos h2]
          refine .inr ⟨⟨0, 0, ⟨#[]⟩, false⟩, 1, rfl, ?_, ?_, by simp, by decide⟩
          · unfold fitC tv
            rw [show V.may ⟨0, 0, ⟨#[]⟩, false⟩ = true from V.may_null, hn]
            simp
          · unfold encV
            rw [if_pos hn, if_pos rfl, h2]
            rfl
        · rw [if_neg h2]
          have hy1 : y = 1 := by omega
          subst hy1
          have hb' : Bytes t := fun z hz => hb z (List.mem_cons_of_mem _ hz)
          have hl' : t.length + 1 ≤ 1000000 := hl
          rcases getV_cases hb' x.f1 with ⟨e, he, h3, h4⟩ | ⟨v, n, hv, hm, hvk, hvb, hvn, hvi⟩
          · rw [he, fin1_bad 1 e h3]
            exact .inl ⟨e, rfl, h3, getV_err hb' hk.1 hk.2 he h3⟩
          · rw [hv, fin1_good, show wrap64 (1 + (n : Int)) = ((n + 1 : Nat) : Int) by rw [Int.add_comm]; exact wr1 (by omega)]
            refine .inr ⟨⟨v.k, v.i, v.s, v.b⟩, n + 1, rfl, ?_, ?_, by simp; omega, hvi⟩
            · unfold fitC tv
              simp only
              rw [show V.may ⟨v.k, v.i, v.s, v.b⟩ = true from hm, decide_eq_true hvk]
              rfl
            · unfold encV tv
              simp only
              rw [if_pos hn, if_neg (by unfold kindC at hk; omega), show V.bytes ⟨v.k, v.i, v.s, v.b⟩ = v.bytes from rfl, hvb]
              rfl
  · rw [if_neg hn]
    rcases getV_cases hb x.f1 with ⟨e, he, h3, h4⟩ | ⟨v, n, hv, hm, hvk, hvb, hvn, hvi⟩
    · rw [he, fin1_bad 0 e h3]
      exact .inl ⟨e, rfl, h3, getV_err hb hk.1 hk.2 he h3⟩
    · rw [hv, fin1_good, show wrap64 (0 + (n : Int)) = (n : Int) by unfold wrap64; omega]
      refine .inr ⟨⟨v.k, v.i, v.s, v.b⟩, n, rfl, ?_, ?_, hvn, hvi⟩
      · unfold fitC tv
        simp only
        rw [show V.may ⟨v.k, v.i, v.s, v.b⟩ = true from hm, decide_eq_true hvk]
        rfl
      · unfold encV tv
        rw [if_neg hn]
        exact hvb
theorem decC_cons {x : S48} {t : List S48} {b : List Int} {acc : List S46} (hb : Bytes b) (hl : b.length ≤ 1000000) : decC (x :: t) b acc = if (colV x b).2.2.2.2.2 = 0 then (if 0 ≤ (colV x b).2.2.2.2.1 ∧ (colV x b).2.2.2.2.1 ≤ (b.length : Int) then decC t (b.drop (colV x b).2.2.2.2.1.toNat) (acc ++ [⟨(colV x b).1, (colV x b).2.1, (colV x b).2.2.1, (colV x b).2.2.2.1⟩]) else none) else some ([], (colV x b).2.2.2.2.2) := by
  rw [decC, col_tell hb hl, Option.bind_some]
theorem dec_cases : ∀ (l : List S48) (b : List Int) (acc : List S46), (∀ x ∈ l, kindC x) → Bytes b → b.length ≤ 1000000 →
    (∃ e, decC l b acc = some ([], e) ∧ e ≠ 0 ∧ e ≠ 1) ∨ ∃ row : List S46, row.length = l.length ∧ fitAll l row = true ∧ encS l row = b ∧ (∀ v ∈ row, i64 v.f1) ∧ decC l b acc = some (acc ++ row, 0)
  | [], b, acc, _, _, _ => by
    by_cases h : b = []
    · exact .inr ⟨[], rfl, rfl, h.symm, by simp, by rw [decC, if_pos h, List.append_nil]⟩
    · exact .inl ⟨7, by rw [decC, if_neg h], by decide, by decide⟩
  | x :: t, b, acc, hk, hb, hl => by
    rw [decC_cons hb hl]
    rcases col_cases (hk x (List.mem_cons_self ..)) hb hl with ⟨e, he, h0, h1⟩ | ⟨v, n, he, hf, hv, hn, hi⟩
    · rw [he]
      simp only
      rw [if_neg h0]
      exact .inl ⟨e, rfl, h0, h1⟩
    · rw [he]
      simp only
      rw [if_pos trivial, if_pos ⟨by omega, by omega⟩, Int.toNat_natCast]
      rcases dec_cases t (b.drop n) (acc ++ [v]) (fun y hy => hk y (List.mem_cons_of_mem _ hy)) (Bytes.drop' hb n) (by rw [List.length_drop]; omega) with ⟨e, he, h0, h1⟩ | ⟨row, r1, r2, r3, r4, r5⟩
      · exact .inl ⟨e, he, h0, h1⟩
      · refine .inr ⟨v :: row, by rw [List.length_cons, List.length_cons, r1], ?_, ?_, ?_, ?_⟩
        · unfold fitAll; rw [hf, r2]; rfl
        · unfold encS; rw [hv, r3, List.take_append_drop]
        · intro z hz
          rcases List.mem_cons.mp hz with rfl | hz
          · exact hi
          · exact r4 z hz
        · refine Eq.trans r5 ?_
          rw [List.append_assoc]
          rfl
theorem col_enc {x : S48} {v : S46} (hk : kindC x) (hf : fitC x v = true) (hi : i64 v.f1) (hb : Bytes (encV x v)) (X : List Int) : colV x (encV x v ++ X) = good (tv v) (encV x v).length := by
  have hm := fitC_may hf
  have hs := bytes_short (v := tv v) hm hi
  unfold colV encV
  by_cases hn : x.f2 = true
  · rw [if_pos hn, if_pos hn]
    by_cases h0 : v.f0 = 0
    · rw [if_pos h0, if_neg (by simp), null_tv hm h0]
      rfl
    · rw [if_neg h0, if_neg (by simp)]
      have e := fit_kind hf (.inl h0)
      show (if (1 : Int) < 1 then _ else if (1 : Int) = 0 then _ else fin1 1 (getV (V.bytes (tv v) ++ X) x.f1)) = _
      rw [if_neg (by decide), if_neg (by decide), ← e, show v.f0 = (tv v).k from rfl, getV_bytes hm hi X, fin1_good, show wrap64 (1 + ((V.bytes (tv v)).length : Int)) = (((V.bytes (tv v)).length + 1 : Nat) : Int) by rw [Int.add_comm]; exact wr1 (by omega)]
      rfl
  · rw [if_neg hn, if_neg hn, ← fit_kind hf (.inr hn), show v.f0 = (tv v).k from rfl, getV_bytes hm hi X, fin1_good, show wrap64 (0 + ((V.bytes (tv v)).length : Int)) = ((V.bytes (tv v)).length : Int) by unfold wrap64; omega]
theorem encV_bytes (x : S48) (v : S46) : Bytes (encV x v) := by
  unfold encV
  split
  · split
    · exact Bytes.cons (by decide) (by decide) Bytes.nil
    · exact Bytes.cons (by decide) (by decide) (V.bytes_bytes _)
  · exact V.bytes_bytes _
theorem encS_bytes : ∀ (l : List S48) (row : List S46), Bytes (encS l row)
  | [], _ => Bytes.nil
  | _ :: _, [] => Bytes.nil
  | x :: t, v :: r => fun y hy => by
    rcases List.mem_append.mp hy with h | h
    · exact encV_bytes x v y h
    · exact encS_bytes t r y h
theorem encS_short : ∀ (l : List S48) (row : List S46), fitAll l row = true → (∀ v ∈ row, i64 v.f1) → (encS l row).length ≤ 101 * l.length
  | [], _, _, _ => by simp [encS]
  | _ :: _, [], _, _ => by simp [encS]
  | x :: t, v :: r, hf, hi => by
    unfold fitAll at hf
    rw [Bool.and_eq_true] at hf
    have h1 := encV_short (x := x) (fitC_may hf.1) (hi v (List.mem_cons_self ..))
    have h2 := encS_short t r hf.2 (fun z hz => hi z (List.mem_cons_of_mem _ hz))
    unfold encS
    rw [List.length_append, List.length_cons]
    omega
theorem dec_enc : ∀ (l : List S48) (row : List S46) (X : List Int) (acc : List S46), (∀ x ∈ l, kindC x) → row.length = l.length → fitAll l row = true → (∀ v ∈ row, i64 v.f1) → Bytes X → 101 * l.length + X.length ≤ 1000000 →
    decC l (encS l row ++ X) acc = if X = [] then some (acc ++ row, 0) else some ([], 7)
  | [], [], X, acc, _, _, _, _, _, _ => by
    show decC [] X acc = _
    rw [decC, List.append_nil]
  | x :: t, v :: r, X, acc, hk, hr, hf, hi, hX, hs => by
    unfold fitAll at hf
    rw [Bool.and_eq_true] at hf
    have h1 := encV_short (x := x) (fitC_may hf.1) (hi v (List.mem_cons_self ..))
    have h2 := encS_short t r hf.2 (fun z hz => hi z (List.mem_cons_of_mem _ hz))
    rw [List.length_cons] at hs
    have e : encS (x :: t) (v :: r) ++ X = encV x v ++ (encS t r ++ X) := by rw [encS, List.append_assoc]
    rw [e, decC_cons (by
      intro y hy
      rcases List.mem_append.mp hy with h | h
      · exact encV_bytes x v y h
      · rcases List.mem_append.mp h with h | h
        · exact encS_bytes t r y h
        · exact hX y h) (by rw [List.length_append, List.length_append]; omega), col_enc (hk x (List.mem_cons_self ..)) hf.1 (hi v (List.mem_cons_self ..)) (encV_bytes x v)]
    simp only
    rw [if_pos trivial, if_pos ⟨by omega, by rw [List.length_append]; omega⟩, Int.toNat_natCast, List.drop_left]
    have ih := dec_enc t r X (acc ++ [v]) (fun y hy => hk y (List.mem_cons_of_mem _ hy)) (by simpa using hr) hf.2 (fun z hz => hi z (List.mem_cons_of_mem _ hz)) hX (by omega)
    rw [List.append_assoc] at ih
    exact ih
/-- What a schema that may be says of its columns. -/
theorem colsS_kind : ∀ (L l : List S48) (i : Int), colsS L l i = true → ∀ x ∈ l, kindC x
  | _, [], _, _, x, hx => by cases hx
  | L, y :: t, i, h, x, hx => by
    unfold colsS at h
    rw [Bool.and_eq_true, Bool.and_eq_true, Bool.and_eq_true, Bool.and_eq_true, decide_eq_true_eq, decide_eq_true_eq] at h
    obtain ⟨_, h1, h3, _, ht⟩ := h
    rcases List.mem_cons.mp hx with rfl | hx
    · exact ⟨h1, h3⟩
    · exact colsS_kind L t (i + 1) ht x hx
theorem mayS_kind {l : List S48} {a1 a2 a3 a4 : Int} (h : mayS l a1 a2 a3 a4 = true) : ∀ x ∈ l, kindC x := by
  unfold mayS at h
  rw [Bool.and_eq_true] at h
  exact colsS_kind l l 0 h.1
theorem dec_tell (l : List S48) (hl : l.length ≤ 1000) (a1 a2 a3 a4 : Int) (b : List Int) : schema_Decode.f l a1 a2 a3 a4 b = if mayS l a1 a2 a3 a4 = true then decC l b [] else some ([], 1) := by
  unfold schema_Decode.f
  rw [if_pos hl]
theorem fitsS_may {l : List S48} {a1 a2 a3 a4 : Int} {row : List S46} (h : fitsS l a1 a2 a3 a4 row = true) : mayS l a1 a2 a3 a4 = true := by
  unfold fitsS at h
  rw [Bool.and_eq_true] at h
  exact h.1
theorem fewC_len {l : List S48} (h : fewC l = true) : l.length ≤ 12 := by
  unfold fewC at h
  rw [Bool.and_eq_true, decide_eq_true_eq] at h
  exact h.1
theorem few_any (l : List S48) (a1 a2 a3 a4 : Int) : winnowerref07_Few.f 200 l a1 a2 a3 a4 = some (fewC l) := by
  by_cases h : l.length ≤ 12
  · exact few07_tell l a1 a2 a3 a4 (by omega)
  · unfold winnowerref07_Few.f fewC
    rw [if_pos (by omega), decide_eq_false h]
    rfl
theorem light_any (l : List S46) : winnowerref07_Light.f 200 l = some (lightS l) := by
  by_cases h : l.length ≤ 12
  · exact light07_tell l (by omega)
  · unfold winnowerref07_Light.f lightS
    rw [if_pos (by omega), decide_eq_false h]
    rfl

end Go.Proofs.YteefchdfdgfaaaaDoor.Q
