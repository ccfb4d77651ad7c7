/- The machine side of laws, written by wip/tools/myprint.py (the printer's way, with functions proved by hand put in); Lean checks it. Chapter 07: SchemaBack, SchemaOnly, SchemaApart answer true. What the document's Get and GetLen of layer 1 answer, in plain words. Chapter 07: what the document's functions answer. Chapter 07: SchemaTells, SchemaDecodes answer true. Chapter 07: a law's call with a schema that is read as data. What a law's arguments are, read as data: opened to rows of any kind. What the listed variables of the library give: the handle of the type error. -/
import Derived.Test.YteefchdfdgfaaaaDoorJ1
import Derived.Test.YteefchdfdgfaaaaDoorJ3
import Derived.Test.YteefchdfdgfaaaaDoorQx12
import Derived.Test.YteefchdfdgfaaaaDoorJ4
import Derived.Test.YteefchdfdgfaaaaDoorQx18
import Derived.Test.YteefchdfdgfaaaaDoorJ5
import Derived.Test.YteefchdfdgfaaaaDoorJ0
import Derived.Test.YteefchdfdgfaaaaDoorQx34
import Derived.Test.YteefchdfdgfaaaaDoorQx35
import Derived.Test.YteefchdfdgfaaaaDoorJ2
import Derived.Test.YteefchdfdgfaaaaDoorQx5
import Derived.Deep.Slices
import Derived.Deep.Fields
import Derived.ChangeSame
import Derived.OpenShut
import Derived.Test.YteefchdfdgfaaaaDoorWWords
import Derived.Test.YteefchdfdgfaaaaDoorWArr
import Derived.Test.YteefchdfdgfaaaaDoorWMore
import Derived.Test.YteefchdfdgfaaaaDoorRows
import Derived.ProofKit
import Derived.LaidMore
import Derived.Lay
import Derived.LaidLaws
import Derived.LaidHandle
import Derived.Stop.Joined
namespace Go.Proofs.YteefchdfdgfaaaaDoor.Q
open Go.RowKit Go.Proofs.YteefchdfdgfaaaaDoorW.PrintWords Go.Proofs.YteefchdfdgfaaaaDoorW.PrintLast Go.Proofs.YteefchdfdgfaaaaDoorW.PrintMore
attribute [local go_sem] max2_int min2_int max_two min_two max_three min_three max_four min_four   -- for this text's walks alone
set_option linter.unusedVariables false
set_option linter.unusedSimpArgs false

/-! ### winnowerlaw07_SchemaApart: function 7 -/
mutual
def winnowerlaw07_SchemaApart.j0 : Nat → List (S46) → List (S46) → Bool → Bool → List (S48) → Int → Int → Int → Int → Option (Bool)
  | 0, _, _, _, _, _, _, _, _, _ => none
  | k + 1, x1, x2, x7, x49, x450000, x450001, x450002, x450003, x450004 => if x49 = true then (some x7) else ((schema_Encode.f k x450000 x450001 x450002 x450003 x450004 x1).bind fun bt456 => ((schema_Encode.f k x450000 x450001 x450002 x450003 x450004 x2).bind fun bt460 => (if bt456.2 = 0 then (winnowerlaw07_SchemaApart.j1 k x1 x2 bt456.1 bt460.1 (bt460.2 != 0)) else (winnowerlaw07_SchemaApart.j1 k x1 x2 bt456.1 bt460.1 true))))
def winnowerlaw07_SchemaApart.j1 : Nat → List (S46) → List (S46) → List Int → List Int → Bool → Option (Bool)
  | 0, _, _, _, _, _ => none
  | k + 1, x1, x2, x11, x13, x68 => if x68 = true then (some false) else ((winnowerref06_Same.f k x1 x2).bind fun t464 => ((winnowerref01_Same.f x11 x13).bind fun t465 => (if (x11.length : Int) < (x13.length : Int) then (if 0 ≤ (x11.length : Int) then (if (x11.length : Int) ≤ (x13.length : Int) then ((winnowerref01_Same.f x11 (x13.take ((x11.length : Int) : Int).toNat)).bind fun t470 => (if t470 = true then (some false) else (some (t464 == t465)))) else (none)) else (none)) else (some (t464 == t465)))))
end
def winnowerlaw07_SchemaApart.f (k : Nat) (l0_0 : List (S48)) (a0_1 : Int) (a0_2 : Int) (a0_3 : Int) (a0_4 : Int) (l1 : List (S46)) (l2 : List (S46)) : Option (Bool) := (winnowerlaw07_awake.f).bind fun t450 => ((winnowerref07_Few.f k l0_0 a0_1 a0_2 a0_3 a0_4).bind fun t451 => ((winnowerref07_Light.f k l1).bind fun t452 => ((winnowerref07_Light.f k l2).bind fun t453 => (if t450 = true then (if t451 = true then (if t452 = true then (if t453 = true then ((schema_Fits.f k l0_0 a0_1 a0_2 a0_3 a0_4 l1).bind fun t454 => (if t454 = true then ((schema_Fits.f k l0_0 a0_1 a0_2 a0_3 a0_4 l2).bind fun t455 => (winnowerlaw07_SchemaApart.j0 k l1 l2 t450 (!t455) l0_0 a0_1 a0_2 a0_3 a0_4)) else (winnowerlaw07_SchemaApart.j0 k l1 l2 t450 true l0_0 a0_1 a0_2 a0_3 a0_4))) else (winnowerlaw07_SchemaApart.j0 k l1 l2 t450 true l0_0 a0_1 a0_2 a0_3 a0_4)) else (winnowerlaw07_SchemaApart.j0 k l1 l2 t450 true l0_0 a0_1 a0_2 a0_3 a0_4)) else (winnowerlaw07_SchemaApart.j0 k l1 l2 t450 true l0_0 a0_1 a0_2 a0_3 a0_4)) else (winnowerlaw07_SchemaApart.j0 k l1 l2 t450 true l0_0 a0_1 a0_2 a0_3 a0_4)))))
set_option maxHeartbeats 8000000 in
set_option maxRecDepth 100000 in
theorem winnowerlaw07_SchemaApart.calls (k : Nat) (A0_0 : Option Addr) (c0_0 : Nat) (l0_0 : List (S48)) (a0_1 : Int) (a0_2 : Int) (a0_3 : Int) (a0_4 : Int) (A1 : Option Addr) (c1 : Nat) (l1 : List (S46)) (A2 : Option Addr) (c2 : Nat) (l2 : List (S46)) (r : Bool) (w : World) (hr0_0 : Kd.C k48 w A0_0 l0_0.length l0_0) (hc0_0 : l0_0.length ≤ c0_0) (hr1 : Kd.C k46 w A1 l1.length l1) (hc1 : l1.length ≤ c1) (hr2 : Kd.C k46 w A2 l2.length l2) (hc2 : l2.length ≤ c2) (hG : Globs w) (hT_ : r = true) (h : winnowerlaw07_SchemaApart.f k l0_0 a0_1 a0_2 a0_3 a0_4 l1 l2 = some r) :
    Calls Tryd.prog 7 #[.agg #[.slice A0_0 l0_0.length c0_0, .int .i64 a0_1, .int .i64 a0_2, .int .i64 a0_3, .int .i64 a0_4], .slice A1 l1.length c1, .slice A2 l2.length c2] w fun e w' => e = .returned (.bool r) ∧ Below w.heap.size w w' := by
  have hu24 := Tryd.underlying24
  have HR0_0 := Aside0.mk hr0_0
  have HC0_0 := Aside0.mk hc0_0
  clear hr0_0 hc0_0
  have HR1 := Aside0.mk hr1
  have HC1 := Aside0.mk hc1
  clear hr1 hc1
  have HR2 := Aside0.mk hr2
  have HC2 := Aside0.mk hc2
  clear hr2 hc2
  have HGL := Aside0.mk hG
  clear hG
  have HTRUE := Aside0.mk hT_
  clear hT_
  have HB := Aside0.mk (Below.refl w.heap.size w)
  have H : ((winnowerlaw07_awake.f).bind fun t450 => ((winnowerref07_Few.f k l0_0 a0_1 a0_2 a0_3 a0_4).bind fun t451 => ((winnowerref07_Light.f k l1).bind fun t452 => ((winnowerref07_Light.f k l2).bind fun t453 => (if t450 = true then (if t451 = true then (if t452 = true then (if t453 = true then ((schema_Fits.f k l0_0 a0_1 a0_2 a0_3 a0_4 l1).bind fun t454 => (if t454 = true then ((schema_Fits.f k l0_0 a0_1 a0_2 a0_3 a0_4 l2).bind fun t455 => (winnowerlaw07_SchemaApart.j0 k l1 l2 t450 (!t455) l0_0 a0_1 a0_2 a0_3 a0_4)) else (winnowerlaw07_SchemaApart.j0 k l1 l2 t450 true l0_0 a0_1 a0_2 a0_3 a0_4))) else (winnowerlaw07_SchemaApart.j0 k l1 l2 t450 true l0_0 a0_1 a0_2 a0_3 a0_4)) else (winnowerlaw07_SchemaApart.j0 k l1 l2 t450 true l0_0 a0_1 a0_2 a0_3 a0_4)) else (winnowerlaw07_SchemaApart.j0 k l1 l2 t450 true l0_0 a0_1 a0_2 a0_3 a0_4)) else (winnowerlaw07_SchemaApart.j0 k l1 l2 t450 true l0_0 a0_1 a0_2 a0_3 a0_4)))))) = some r := h
  clear h
  replace H := Option.bind_eq_some_iff.mp H
  obtain ⟨t450, A40, H⟩ := H
  replace H : ((winnowerref07_Few.f k l0_0 a0_1 a0_2 a0_3 a0_4).bind fun t451 => ((winnowerref07_Light.f k l1).bind fun t452 => ((winnowerref07_Light.f k l2).bind fun t453 => (if t450 = true then (if t451 = true then (if t452 = true then (if t453 = true then ((schema_Fits.f k l0_0 a0_1 a0_2 a0_3 a0_4 l1).bind fun t454 => (if t454 = true then ((schema_Fits.f k l0_0 a0_1 a0_2 a0_3 a0_4 l2).bind fun t455 => (winnowerlaw07_SchemaApart.j0 k l1 l2 t450 (!t455) l0_0 a0_1 a0_2 a0_3 a0_4)) else (winnowerlaw07_SchemaApart.j0 k l1 l2 t450 true l0_0 a0_1 a0_2 a0_3 a0_4))) else (winnowerlaw07_SchemaApart.j0 k l1 l2 t450 true l0_0 a0_1 a0_2 a0_3 a0_4)) else (winnowerlaw07_SchemaApart.j0 k l1 l2 t450 true l0_0 a0_1 a0_2 a0_3 a0_4)) else (winnowerlaw07_SchemaApart.j0 k l1 l2 t450 true l0_0 a0_1 a0_2 a0_3 a0_4)) else (winnowerlaw07_SchemaApart.j0 k l1 l2 t450 true l0_0 a0_1 a0_2 a0_3 a0_4))))) = some r := H
  have A4 := Aside0.mk A40
  clear A40
  replace H := Option.bind_eq_some_iff.mp H
  obtain ⟨t451, A50, H⟩ := H
  replace H : ((winnowerref07_Light.f k l1).bind fun t452 => ((winnowerref07_Light.f k l2).bind fun t453 => (if t450 = true then (if t451 = true then (if t452 = true then (if t453 = true then ((schema_Fits.f k l0_0 a0_1 a0_2 a0_3 a0_4 l1).bind fun t454 => (if t454 = true then ((schema_Fits.f k l0_0 a0_1 a0_2 a0_3 a0_4 l2).bind fun t455 => (winnowerlaw07_SchemaApart.j0 k l1 l2 t450 (!t455) l0_0 a0_1 a0_2 a0_3 a0_4)) else (winnowerlaw07_SchemaApart.j0 k l1 l2 t450 true l0_0 a0_1 a0_2 a0_3 a0_4))) else (winnowerlaw07_SchemaApart.j0 k l1 l2 t450 true l0_0 a0_1 a0_2 a0_3 a0_4)) else (winnowerlaw07_SchemaApart.j0 k l1 l2 t450 true l0_0 a0_1 a0_2 a0_3 a0_4)) else (winnowerlaw07_SchemaApart.j0 k l1 l2 t450 true l0_0 a0_1 a0_2 a0_3 a0_4)) else (winnowerlaw07_SchemaApart.j0 k l1 l2 t450 true l0_0 a0_1 a0_2 a0_3 a0_4)))) = some r := H
  have A5 := Aside0.mk A50
  clear A50
  replace H := Option.bind_eq_some_iff.mp H
  obtain ⟨t452, A60, H⟩ := H
  replace H : ((winnowerref07_Light.f k l2).bind fun t453 => (if t450 = true then (if t451 = true then (if t452 = true then (if t453 = true then ((schema_Fits.f k l0_0 a0_1 a0_2 a0_3 a0_4 l1).bind fun t454 => (if t454 = true then ((schema_Fits.f k l0_0 a0_1 a0_2 a0_3 a0_4 l2).bind fun t455 => (winnowerlaw07_SchemaApart.j0 k l1 l2 t450 (!t455) l0_0 a0_1 a0_2 a0_3 a0_4)) else (winnowerlaw07_SchemaApart.j0 k l1 l2 t450 true l0_0 a0_1 a0_2 a0_3 a0_4))) else (winnowerlaw07_SchemaApart.j0 k l1 l2 t450 true l0_0 a0_1 a0_2 a0_3 a0_4)) else (winnowerlaw07_SchemaApart.j0 k l1 l2 t450 true l0_0 a0_1 a0_2 a0_3 a0_4)) else (winnowerlaw07_SchemaApart.j0 k l1 l2 t450 true l0_0 a0_1 a0_2 a0_3 a0_4)) else (winnowerlaw07_SchemaApart.j0 k l1 l2 t450 true l0_0 a0_1 a0_2 a0_3 a0_4))) = some r := H
  have A6 := Aside0.mk A60
  clear A60
  replace H := Option.bind_eq_some_iff.mp H
  obtain ⟨t453, A70, H⟩ := H
  replace H : (if t450 = true then (if t451 = true then (if t452 = true then (if t453 = true then ((schema_Fits.f k l0_0 a0_1 a0_2 a0_3 a0_4 l1).bind fun t454 => (if t454 = true then ((schema_Fits.f k l0_0 a0_1 a0_2 a0_3 a0_4 l2).bind fun t455 => (winnowerlaw07_SchemaApart.j0 k l1 l2 t450 (!t455) l0_0 a0_1 a0_2 a0_3 a0_4)) else (winnowerlaw07_SchemaApart.j0 k l1 l2 t450 true l0_0 a0_1 a0_2 a0_3 a0_4))) else (winnowerlaw07_SchemaApart.j0 k l1 l2 t450 true l0_0 a0_1 a0_2 a0_3 a0_4)) else (winnowerlaw07_SchemaApart.j0 k l1 l2 t450 true l0_0 a0_1 a0_2 a0_3 a0_4)) else (winnowerlaw07_SchemaApart.j0 k l1 l2 t450 true l0_0 a0_1 a0_2 a0_3 a0_4)) else (winnowerlaw07_SchemaApart.j0 k l1 l2 t450 true l0_0 a0_1 a0_2 a0_3 a0_4)) = some r := H
  have A7 := Aside0.mk A70
  clear A70
  have HC8 := Aside0.mk H
  clear H
  go_enter Tryd.func7, Tryd.ntmps7
  go_upto_region 5 with (first | ((with_reducible refine gate_dst (N := 3) rfl ?_); (try (refine gate_guard (by rfl) ?_; dsimp only)); refine box_event ?hg (N := 3) ?hd (cs := #[.slice A0_0 l0_0.length c0_0, .int .i64 a0_1, .int .i64 a0_2, .int .i64 a0_3, .int .i64 a0_4]) (t := 24) ?hr ?_; (case hd => rfl); (case hg => rfl); (case hr => first | (go_simp; done) | (go_simp; rfl)); intro gb449 hg w9 hbox hb; have n0_ := Aside0.mk (below_step (by repeat (first | (with_reducible first | exact HB.out | apply below_alloc | apply pw_below_drewN | apply below_drew1) | exact HB.out)) hb); have n1_ := Aside0.mk (hbox); have n2_ := Aside0.mk ((by rw [hg]; exact (below_size (by repeat (first | (with_reducible first | exact HB.out | apply below_alloc | apply pw_below_drewN | apply below_drew1) | exact HB.out))) : w.heap.size ≤ gb449)); have n3_ := Aside0.mk ((by rw [hg]; exact (below_size (by repeat (first | (with_reducible first | exact HB.out | apply below_alloc | apply pw_below_drewN | apply below_drew1) | exact HB.out))) : w.heap.size ≤ gb449)); clear HB; have HB := n0_; have BK449 := n1_; have GW449 := n2_; have GE449 := n3_; clear n0_ n1_ n2_ n3_; clear hb hbox hg) | ((with_reducible refine gate_callee (f := 8) rfl ?_); refine goesL_ (some 17) rfl rfl Tryd.func8 (by kernel_rfl) rfl #[] rfl (by (try simp only [List.map_toArray, List.map_cons, List.map_nil]); first | done | rfl | (simp only [List.length_drop, List.length_take]; rfl)) ?_; (with_reducible refine (winnowerlaw07_awake.calls  t450 _ ?side1 A4.out).mono ?_); (case side1 => exact globs_below HGL.out (by repeat (first | (with_reducible first | exact HB.out | apply below_alloc | apply pw_below_drewN | apply below_drew1 | refine below_set ?_ GE449.out) | exact HB.out))); rintro e w10 ⟨rfl, hb⟩; refine ⟨_, rfl, ?_⟩; have n0_ := Aside0.mk (blk_below (g := gb449) (o := .cells #[.slice A0_0 l0_0.length c0_0, .int .i64 a0_1, .int .i64 a0_2, .int .i64 a0_3, .int .i64 a0_4] 24 (0, 0)) (by (with_reducible repeat (first | refine blk_drewN ?_ _ | refine blk_drew ?_ | refine blk_alloc ?_ _)); exact BK449.out) hb); have n1_ := Aside0.mk (below_step (by repeat (first | (with_reducible first | exact HB.out | apply below_alloc | apply pw_below_drewN | apply below_drew1 | refine below_set ?_ GE449.out) | exact HB.out)) hb); clear BK449; clear HB; have BK449 := n0_; have HB := n1_; clear n0_ n1_; (try clear hb); (try clear hb2); (try clear hk); (try clear hi); have hcz11_0 : w10.cell? ⟨gb449, 0, none⟩ = some (.slice A0_0 l0_0.length c0_0) := (blk_cell BK449.out 0).trans rfl; have hcz11_1 : w10.cell? ⟨gb449, 1, none⟩ = some (.int .i64 a0_1) := (blk_cell BK449.out 1).trans rfl; have hcz11_2 : w10.cell? ⟨gb449, 2, none⟩ = some (.int .i64 a0_2) := (blk_cell BK449.out 2).trans rfl; have hcz11_3 : w10.cell? ⟨gb449, 3, none⟩ = some (.int .i64 a0_3) := (blk_cell BK449.out 3).trans rfl; have hcz11_4 : w10.cell? ⟨gb449, 4, none⟩ = some (.int .i64 a0_4) := (blk_cell BK449.out 4).trans rfl; have hfz11_0 := blk_frozen BK449.out 0; have hfz11_1 := blk_frozen BK449.out 1; have hfz11_2 := blk_frozen BK449.out 2; have hfz11_3 := blk_frozen BK449.out 3; have hfz11_4 := blk_frozen BK449.out 4) | ((with_reducible refine gate_callee (f := 9) rfl ?_); refine goesL_ (some 19) rfl rfl Tryd.func9 (by kernel_rfl) rfl #[.agg #[.slice A0_0 l0_0.length c0_0, .int .i64 a0_1, .int .i64 a0_2, .int .i64 a0_3, .int .i64 a0_4]] rfl (by (try simp only [List.map_toArray, List.map_cons, List.map_nil]); first | done | rfl | (simp only [List.length_drop, List.length_take]; rfl)) ?_; (with_reducible refine (winnowerref07_Few.calls k _ _ l0_0 a0_1 a0_2 a0_3 a0_4 t451 _ ?side1 ?side2 A5.out).mono ?_); (case side1 => repeat (first | exact (Kd.C_below HR0_0.out HB.out) | (with_reducible refine Kd.C_alloc ?_ _) | (with_reducible refine Kd.C_drewN ?_ _) | (with_reducible refine Kd.C_drew ?_))); (case side2 => exact HC0_0.out); rintro e w12 ⟨rfl, hb⟩; refine ⟨_, rfl, ?_⟩; have n0_ := Aside0.mk (blk_below (g := gb449) (o := .cells #[.slice A0_0 l0_0.length c0_0, .int .i64 a0_1, .int .i64 a0_2, .int .i64 a0_3, .int .i64 a0_4] 24 (0, 0)) (by (with_reducible repeat (first | refine blk_drewN ?_ _ | refine blk_drew ?_ | refine blk_alloc ?_ _)); exact BK449.out) hb); have n1_ := Aside0.mk (below_step (by repeat (first | (with_reducible first | exact HB.out | apply below_alloc | apply pw_below_drewN | apply below_drew1 | refine below_set ?_ GE449.out) | exact HB.out)) hb); clear BK449; clear HB; have BK449 := n0_; have HB := n1_; clear n0_ n1_; (try clear hb); (try clear hb2); (try clear hk); (try clear hi)) | ((with_reducible refine gate_callee (f := 10) rfl ?_); refine goesL_ (some 21) rfl rfl Tryd.func10 (by kernel_rfl) rfl #[.slice A1 l1.length c1] rfl (by (try simp only [List.map_toArray, List.map_cons, List.map_nil]); first | done | rfl | (simp only [List.length_drop, List.length_take]; rfl)) ?_; (with_reducible refine (winnowerref07_Light.calls k _ _ l1 t452 _ ?side1 ?side2 A6.out).mono ?_); (case side1 => repeat (first | exact (Kd.C_below HR1.out HB.out) | (with_reducible refine Kd.C_alloc ?_ _) | (with_reducible refine Kd.C_drewN ?_ _) | (with_reducible refine Kd.C_drew ?_))); (case side2 => exact HC1.out); rintro e w' ⟨rfl, ⟨nd, rfl⟩⟩; refine ⟨_, rfl, ?_⟩) | ((with_reducible refine gate_callee (f := 10) rfl ?_); refine goesL_ (some 23) rfl rfl Tryd.func10 (by kernel_rfl) rfl #[.slice A2 l2.length c2] rfl (by (try simp only [List.map_toArray, List.map_cons, List.map_nil]); first | done | rfl | (simp only [List.length_drop, List.length_take]; rfl)) ?_; (with_reducible refine (winnowerref07_Light.calls k _ _ l2 t453 _ ?side1 ?side2 A7.out).mono ?_); (case side1 => repeat (first | exact (Kd.C_below HR2.out (by repeat (first | (with_reducible first | exact HB.out | apply below_alloc | apply pw_below_drewN | apply below_drew1 | refine below_set ?_ GE449.out) | exact HB.out))) | (with_reducible refine Kd.C_alloc ?_ _) | (with_reducible refine Kd.C_drewN ?_ _) | (with_reducible refine Kd.C_drew ?_))); (case side2 => exact HC2.out); rintro e w' ⟨rfl, ⟨nd, rfl⟩⟩; refine ⟨_, rfl, ?_⟩))
  (try simp only [Act.put, List.setIfInBounds_toArray, List.set_cons_zero, List.set_cons_succ])
  go_cut [49] (fun v49 wc => ∃ (kq : Nat) (x49_7 : Bool), v49 = .bool x49_7 ∧ Aside0 (winnowerlaw07_SchemaApart.j0 kq l1 l2 t450 x49_7 l0_0 a0_1 a0_2 a0_3 a0_4 = some r) ∧ Aside0 (kq ≤ k) ∧ Aside0 (wc.heap[gb449]? = some (.cells #[(.slice A0_0 l0_0.length c0_0), .int .i64 a0_1, .int .i64 a0_2, .int .i64 a0_3, .int .i64 a0_4] 24 (0, 0))) ∧ Aside0 (Below w.heap.size w wc))
  case first =>
    have H := HC8.out
    clear HC8
    by_cases c13 : t450 = true
    · subst c13
      have H1 : (if t451 = true then (if t452 = true then (if t453 = true then ((schema_Fits.f k l0_0 a0_1 a0_2 a0_3 a0_4 l1).bind fun t454 => (if t454 = true then ((schema_Fits.f k l0_0 a0_1 a0_2 a0_3 a0_4 l2).bind fun t455 => (winnowerlaw07_SchemaApart.j0 k l1 l2 true (!t455) l0_0 a0_1 a0_2 a0_3 a0_4)) else (winnowerlaw07_SchemaApart.j0 k l1 l2 true true l0_0 a0_1 a0_2 a0_3 a0_4))) else (winnowerlaw07_SchemaApart.j0 k l1 l2 true true l0_0 a0_1 a0_2 a0_3 a0_4)) else (winnowerlaw07_SchemaApart.j0 k l1 l2 true true l0_0 a0_1 a0_2 a0_3 a0_4)) else (winnowerlaw07_SchemaApart.j0 k l1 l2 true true l0_0 a0_1 a0_2 a0_3 a0_4)) = some r := by rw [if_pos rfl] at H; exact H
      clear H
      have H := H1
      clear H1
      by_cases c14 : t451 = true
      · subst c14
        have H1 : (if t452 = true then (if t453 = true then ((schema_Fits.f k l0_0 a0_1 a0_2 a0_3 a0_4 l1).bind fun t454 => (if t454 = true then ((schema_Fits.f k l0_0 a0_1 a0_2 a0_3 a0_4 l2).bind fun t455 => (winnowerlaw07_SchemaApart.j0 k l1 l2 true (!t455) l0_0 a0_1 a0_2 a0_3 a0_4)) else (winnowerlaw07_SchemaApart.j0 k l1 l2 true true l0_0 a0_1 a0_2 a0_3 a0_4))) else (winnowerlaw07_SchemaApart.j0 k l1 l2 true true l0_0 a0_1 a0_2 a0_3 a0_4)) else (winnowerlaw07_SchemaApart.j0 k l1 l2 true true l0_0 a0_1 a0_2 a0_3 a0_4)) = some r := by rw [if_pos rfl] at H; exact H
        clear H
        have H := H1
        clear H1
        by_cases c15 : t452 = true
        · subst c15
          have H1 : (if t453 = true then ((schema_Fits.f k l0_0 a0_1 a0_2 a0_3 a0_4 l1).bind fun t454 => (if t454 = true then ((schema_Fits.f k l0_0 a0_1 a0_2 a0_3 a0_4 l2).bind fun t455 => (winnowerlaw07_SchemaApart.j0 k l1 l2 true (!t455) l0_0 a0_1 a0_2 a0_3 a0_4)) else (winnowerlaw07_SchemaApart.j0 k l1 l2 true true l0_0 a0_1 a0_2 a0_3 a0_4))) else (winnowerlaw07_SchemaApart.j0 k l1 l2 true true l0_0 a0_1 a0_2 a0_3 a0_4)) = some r := by rw [if_pos rfl] at H; exact H
          clear H
          have H := H1
          clear H1
          by_cases c16 : t453 = true
          · subst c16
            have H1 : ((schema_Fits.f k l0_0 a0_1 a0_2 a0_3 a0_4 l1).bind fun t454 => (if t454 = true then ((schema_Fits.f k l0_0 a0_1 a0_2 a0_3 a0_4 l2).bind fun t455 => (winnowerlaw07_SchemaApart.j0 k l1 l2 true (!t455) l0_0 a0_1 a0_2 a0_3 a0_4)) else (winnowerlaw07_SchemaApart.j0 k l1 l2 true true l0_0 a0_1 a0_2 a0_3 a0_4))) = some r := by rw [if_pos rfl] at H; exact H
            clear H
            have H := H1
            clear H1
            replace H := Option.bind_eq_some_iff.mp H
            obtain ⟨t454, A170, H⟩ := H
            replace H : (if t454 = true then ((schema_Fits.f k l0_0 a0_1 a0_2 a0_3 a0_4 l2).bind fun t455 => (winnowerlaw07_SchemaApart.j0 k l1 l2 true (!t455) l0_0 a0_1 a0_2 a0_3 a0_4)) else (winnowerlaw07_SchemaApart.j0 k l1 l2 true true l0_0 a0_1 a0_2 a0_3 a0_4)) = some r := H
            have A17 := Aside0.mk A170
            clear A170
            by_cases c18 : t454 = true
            · subst c18
              have H1 : ((schema_Fits.f k l0_0 a0_1 a0_2 a0_3 a0_4 l2).bind fun t455 => (winnowerlaw07_SchemaApart.j0 k l1 l2 true (!t455) l0_0 a0_1 a0_2 a0_3 a0_4)) = some r := by rw [if_pos rfl] at H; exact H
              clear H
              have H := H1
              clear H1
              replace H := Option.bind_eq_some_iff.mp H
              obtain ⟨t455, A190, H⟩ := H
              replace H : (winnowerlaw07_SchemaApart.j0 k l1 l2 true (!t455) l0_0 a0_1 a0_2 a0_3 a0_4) = some r := H
              have A19 := Aside0.mk A190
              clear A190
              have H' := Aside0.mk H
              clear H
              have hcz20_0 : w12.cell? ⟨gb449, 0, none⟩ = some (.slice A0_0 l0_0.length c0_0) := (blk_cell BK449.out 0).trans rfl
              have hcz20_1 : w12.cell? ⟨gb449, 1, none⟩ = some (.int .i64 a0_1) := (blk_cell BK449.out 1).trans rfl
              have hcz20_2 : w12.cell? ⟨gb449, 2, none⟩ = some (.int .i64 a0_2) := (blk_cell BK449.out 2).trans rfl
              have hcz20_3 : w12.cell? ⟨gb449, 3, none⟩ = some (.int .i64 a0_3) := (blk_cell BK449.out 3).trans rfl
              have hcz20_4 : w12.cell? ⟨gb449, 4, none⟩ = some (.int .i64 a0_4) := (blk_cell BK449.out 4).trans rfl
              have hfz20_0 := blk_frozen BK449.out 0
              have hfz20_1 := blk_frozen BK449.out 1
              have hfz20_2 := blk_frozen BK449.out 2
              have hfz20_3 := blk_frozen BK449.out 3
              have hfz20_4 := blk_frozen BK449.out 4
              go_wp2_with (first | (go_at_call 18; (with_reducible refine (schema_Fits.calls k _ _ l0_0 a0_1 a0_2 a0_3 a0_4 _ _ l1 true _ ?side1 ?side2 ?side3 ?side4 A17.out).mono ?_); (case side1 => repeat (first | exact (Kd.C_below HR0_0.out HB.out) | (with_reducible refine Kd.C_alloc ?_ _) | (with_reducible refine Kd.C_drewN ?_ _) | (with_reducible refine Kd.C_drew ?_))); (case side2 => exact HC0_0.out); (case side3 => repeat (first | exact (Kd.C_below HR1.out HB.out) | (with_reducible refine Kd.C_alloc ?_ _) | (with_reducible refine Kd.C_drewN ?_ _) | (with_reducible refine Kd.C_drew ?_))); (case side4 => exact HC1.out); rintro e w21 ⟨rfl, hb⟩; have n0_ := Aside0.mk (blk_below (g := gb449) (o := .cells #[.slice A0_0 l0_0.length c0_0, .int .i64 a0_1, .int .i64 a0_2, .int .i64 a0_3, .int .i64 a0_4] 24 (0, 0)) (by (with_reducible repeat (first | refine blk_drewN ?_ _ | refine blk_drew ?_ | refine blk_alloc ?_ _)); exact BK449.out) hb); have n1_ := Aside0.mk (below_step (by repeat (first | (with_reducible first | exact HB.out | apply below_alloc | apply pw_below_drewN | apply below_drew1 | refine below_set ?_ GE449.out) | exact HB.out)) hb); clear BK449; clear HB; have BK449 := n0_; have HB := n1_; clear n0_ n1_; (try clear hb); (try clear hb2); (try clear hk); (try clear hi); have hcz22_0 : w21.cell? ⟨gb449, 0, none⟩ = some (.slice A0_0 l0_0.length c0_0) := (blk_cell BK449.out 0).trans rfl; have hcz22_1 : w21.cell? ⟨gb449, 1, none⟩ = some (.int .i64 a0_1) := (blk_cell BK449.out 1).trans rfl; have hcz22_2 : w21.cell? ⟨gb449, 2, none⟩ = some (.int .i64 a0_2) := (blk_cell BK449.out 2).trans rfl; have hcz22_3 : w21.cell? ⟨gb449, 3, none⟩ = some (.int .i64 a0_3) := (blk_cell BK449.out 3).trans rfl; have hcz22_4 : w21.cell? ⟨gb449, 4, none⟩ = some (.int .i64 a0_4) := (blk_cell BK449.out 4).trans rfl; have hfz22_0 := blk_frozen BK449.out 0; have hfz22_1 := blk_frozen BK449.out 1; have hfz22_2 := blk_frozen BK449.out 2; have hfz22_3 := blk_frozen BK449.out 3; have hfz22_4 := blk_frozen BK449.out 4) | (go_at_call 18; (with_reducible refine (schema_Fits.calls k _ _ l0_0 a0_1 a0_2 a0_3 a0_4 _ _ l2 t455 _ ?side1 ?side2 ?side3 ?side4 A19.out).mono ?_); (case side1 => repeat (first | exact (Kd.C_below HR0_0.out HB.out) | (with_reducible refine Kd.C_alloc ?_ _) | (with_reducible refine Kd.C_drewN ?_ _) | (with_reducible refine Kd.C_drew ?_))); (case side2 => exact HC0_0.out); (case side3 => repeat (first | exact (Kd.C_below HR2.out HB.out) | (with_reducible refine Kd.C_alloc ?_ _) | (with_reducible refine Kd.C_drewN ?_ _) | (with_reducible refine Kd.C_drew ?_))); (case side4 => exact HC2.out); rintro e w23 ⟨rfl, hb⟩; have n0_ := Aside0.mk (blk_below (g := gb449) (o := .cells #[.slice A0_0 l0_0.length c0_0, .int .i64 a0_1, .int .i64 a0_2, .int .i64 a0_3, .int .i64 a0_4] 24 (0, 0)) (by (with_reducible repeat (first | refine blk_drewN ?_ _ | refine blk_drew ?_ | refine blk_alloc ?_ _)); exact BK449.out) hb); have n1_ := Aside0.mk (below_step (by repeat (first | (with_reducible first | exact HB.out | apply below_alloc | apply pw_below_drewN | apply below_drew1 | refine below_set ?_ GE449.out) | exact HB.out)) hb); clear BK449; clear HB; have BK449 := n0_; have HB := n1_; clear n0_ n1_; (try clear hb); (try clear hb2); (try clear hk); (try clear hi)))
              go_meet
              case rel => exact ⟨_, (!t455), (by first | rfl | (simp; done) | (simp [*]; done)), H', ⟨by first | omega | exact Nat.le_refl _⟩, ⟨by (with_reducible repeat (first | refine blk_drewN ?_ _ | refine blk_drew ?_ | refine blk_alloc ?_ _)); exact BK449.out⟩, ⟨by repeat (first | (with_reducible first | exact HB.out | apply below_alloc | apply pw_below_drewN | apply below_drew1 | refine below_set ?_ GE449.out) | exact HB.out)⟩⟩
            · replace c18 := Bool.eq_false_iff.mpr c18
              subst c18
              have H1 : (winnowerlaw07_SchemaApart.j0 k l1 l2 true true l0_0 a0_1 a0_2 a0_3 a0_4) = some r := by rw [if_neg (show ¬ (false = true) by decide)] at H; exact H
              clear H
              have H := H1
              clear H1
              have H' := Aside0.mk H
              clear H
              have hcz24_0 : w12.cell? ⟨gb449, 0, none⟩ = some (.slice A0_0 l0_0.length c0_0) := (blk_cell BK449.out 0).trans rfl
              have hcz24_1 : w12.cell? ⟨gb449, 1, none⟩ = some (.int .i64 a0_1) := (blk_cell BK449.out 1).trans rfl
              have hcz24_2 : w12.cell? ⟨gb449, 2, none⟩ = some (.int .i64 a0_2) := (blk_cell BK449.out 2).trans rfl
              have hcz24_3 : w12.cell? ⟨gb449, 3, none⟩ = some (.int .i64 a0_3) := (blk_cell BK449.out 3).trans rfl
              have hcz24_4 : w12.cell? ⟨gb449, 4, none⟩ = some (.int .i64 a0_4) := (blk_cell BK449.out 4).trans rfl
              have hfz24_0 := blk_frozen BK449.out 0
              have hfz24_1 := blk_frozen BK449.out 1
              have hfz24_2 := blk_frozen BK449.out 2
              have hfz24_3 := blk_frozen BK449.out 3
              have hfz24_4 := blk_frozen BK449.out 4
              go_wp2_with (first | (go_at_call 18; (with_reducible refine (schema_Fits.calls k _ _ l0_0 a0_1 a0_2 a0_3 a0_4 _ _ l1 false _ ?side1 ?side2 ?side3 ?side4 A17.out).mono ?_); (case side1 => repeat (first | exact (Kd.C_below HR0_0.out HB.out) | (with_reducible refine Kd.C_alloc ?_ _) | (with_reducible refine Kd.C_drewN ?_ _) | (with_reducible refine Kd.C_drew ?_))); (case side2 => exact HC0_0.out); (case side3 => repeat (first | exact (Kd.C_below HR1.out HB.out) | (with_reducible refine Kd.C_alloc ?_ _) | (with_reducible refine Kd.C_drewN ?_ _) | (with_reducible refine Kd.C_drew ?_))); (case side4 => exact HC1.out); rintro e w25 ⟨rfl, hb⟩; have n0_ := Aside0.mk (blk_below (g := gb449) (o := .cells #[.slice A0_0 l0_0.length c0_0, .int .i64 a0_1, .int .i64 a0_2, .int .i64 a0_3, .int .i64 a0_4] 24 (0, 0)) (by (with_reducible repeat (first | refine blk_drewN ?_ _ | refine blk_drew ?_ | refine blk_alloc ?_ _)); exact BK449.out) hb); have n1_ := Aside0.mk (below_step (by repeat (first | (with_reducible first | exact HB.out | apply below_alloc | apply pw_below_drewN | apply below_drew1 | refine below_set ?_ GE449.out) | exact HB.out)) hb); clear BK449; clear HB; have BK449 := n0_; have HB := n1_; clear n0_ n1_; (try clear hb); (try clear hb2); (try clear hk); (try clear hi)))
              go_meet
              case rel => exact ⟨_, (true), (by first | rfl | (simp; done) | (simp [*]; done)), H', ⟨by first | omega | exact Nat.le_refl _⟩, ⟨by (with_reducible repeat (first | refine blk_drewN ?_ _ | refine blk_drew ?_ | refine blk_alloc ?_ _)); exact BK449.out⟩, ⟨by repeat (first | (with_reducible first | exact HB.out | apply below_alloc | apply pw_below_drewN | apply below_drew1 | refine below_set ?_ GE449.out) | exact HB.out)⟩⟩
          · replace c16 := Bool.eq_false_iff.mpr c16
            subst c16
            have H1 : (winnowerlaw07_SchemaApart.j0 k l1 l2 true true l0_0 a0_1 a0_2 a0_3 a0_4) = some r := by rw [if_neg (show ¬ (false = true) by decide)] at H; exact H
            clear H
            have H := H1
            clear H1
            have H' := Aside0.mk H
            clear H
            go_wp2
            go_meet
            case rel => exact ⟨_, (true), (by first | rfl | (simp; done) | (simp [*]; done)), H', ⟨by first | omega | exact Nat.le_refl _⟩, ⟨by (with_reducible repeat (first | refine blk_drewN ?_ _ | refine blk_drew ?_ | refine blk_alloc ?_ _)); exact BK449.out⟩, ⟨by repeat (first | (with_reducible first | exact HB.out | apply below_alloc | apply pw_below_drewN | apply below_drew1 | refine below_set ?_ GE449.out) | exact HB.out)⟩⟩
        · replace c15 := Bool.eq_false_iff.mpr c15
          subst c15
          have H1 : (winnowerlaw07_SchemaApart.j0 k l1 l2 true true l0_0 a0_1 a0_2 a0_3 a0_4) = some r := by rw [if_neg (show ¬ (false = true) by decide)] at H; exact H
          clear H
          have H := H1
          clear H1
          have H' := Aside0.mk H
          clear H
          go_wp2
          go_meet
          case rel => exact ⟨_, (true), (by first | rfl | (simp; done) | (simp [*]; done)), H', ⟨by first | omega | exact Nat.le_refl _⟩, ⟨by (with_reducible repeat (first | refine blk_drewN ?_ _ | refine blk_drew ?_ | refine blk_alloc ?_ _)); exact BK449.out⟩, ⟨by repeat (first | (with_reducible first | exact HB.out | apply below_alloc | apply pw_below_drewN | apply below_drew1 | refine below_set ?_ GE449.out) | exact HB.out)⟩⟩
      · replace c14 := Bool.eq_false_iff.mpr c14
        subst c14
        have H1 : (winnowerlaw07_SchemaApart.j0 k l1 l2 true true l0_0 a0_1 a0_2 a0_3 a0_4) = some r := by rw [if_neg (show ¬ (false = true) by decide)] at H; exact H
        clear H
        have H := H1
        clear H1
        have H' := Aside0.mk H
        clear H
        go_wp2
        go_meet
        case rel => exact ⟨_, (true), (by first | rfl | (simp; done) | (simp [*]; done)), H', ⟨by first | omega | exact Nat.le_refl _⟩, ⟨by (with_reducible repeat (first | refine blk_drewN ?_ _ | refine blk_drew ?_ | refine blk_alloc ?_ _)); exact BK449.out⟩, ⟨by repeat (first | (with_reducible first | exact HB.out | apply below_alloc | apply pw_below_drewN | apply below_drew1 | refine below_set ?_ GE449.out) | exact HB.out)⟩⟩
    · replace c13 := Bool.eq_false_iff.mpr c13
      subst c13
      have H1 : (winnowerlaw07_SchemaApart.j0 k l1 l2 false true l0_0 a0_1 a0_2 a0_3 a0_4) = some r := by rw [if_neg (show ¬ (false = true) by decide)] at H; exact H
      clear H
      have H := H1
      clear H1
      have H' := Aside0.mk H
      clear H
      go_wp2
      go_meet
      case rel => exact ⟨_, (true), (by first | rfl | (simp; done) | (simp [*]; done)), H', ⟨by first | omega | exact Nat.le_refl _⟩, ⟨by (with_reducible repeat (first | refine blk_drewN ?_ _ | refine blk_drew ?_ | refine blk_alloc ?_ _)); exact BK449.out⟩, ⟨by repeat (first | (with_reducible first | exact HB.out | apply below_alloc | apply pw_below_drewN | apply below_drew1 | refine below_set ?_ GE449.out) | exact HB.out)⟩⟩
  case rest =>
    clear HC8
    try clear c1
    try clear c2
    try clear p2
    try clear c7
    try clear c8
    try clear c9
    try clear c10
    try clear c13
    try clear c14
    try clear c15
    try clear c16
    try clear c18
    try clear hcz11_0
    try clear hcz11_1
    try clear hcz11_2
    try clear hcz11_3
    try clear hcz11_4
    try clear hcz20_0
    try clear hcz20_1
    try clear hcz20_2
    try clear hcz20_3
    try clear hcz20_4
    try clear hcz22_0
    try clear hcz22_1
    try clear hcz22_2
    try clear hcz22_3
    try clear hcz22_4
    try clear hcz24_0
    try clear hcz24_1
    try clear hcz24_2
    try clear hcz24_3
    try clear hcz24_4
    try clear hfz11_0
    try clear hfz11_1
    try clear hfz11_2
    try clear hfz11_3
    try clear hfz11_4
    try clear hfz20_0
    try clear hfz20_1
    try clear hfz20_2
    try clear hfz20_3
    try clear hfz20_4
    try clear hfz22_0
    try clear hfz22_1
    try clear hfz22_2
    try clear hfz22_3
    try clear hfz22_4
    try clear hfz24_0
    try clear hfz24_1
    try clear hfz24_2
    try clear hfz24_3
    try clear hfz24_4
    obtain ⟨kq, x49_7, rfl, HA, HJ7, BK449, HB⟩ := hcut
    cases kq with
    | zero => exact absurd HA.out (by simp [winnowerlaw07_SchemaApart.j0])
    | succ kj7 =>
      have H := HA.out
      clear HA
      simp only [winnowerlaw07_SchemaApart.j0] at H
      by_cases c26 : x49_7 = true
      · subst c26
        have H1 : (some t450) = some r := by rw [if_pos rfl] at H; exact H
        clear H
        have H := H1
        clear H1
        obtain rfl := Option.some.inj H
        go_wp2
        go_ret
        exact ⟨by first | rfl | (simp [errW_none, errW_some] <;> rfl) | (refine congrArg (fun b_ : Bool => Ending.returned (Value.bool b_)) ?_; simp; done) | (simp [*, errW_none, errW_some] <;> rfl), by repeat (first | (with_reducible first | exact HB.out | apply below_alloc | apply pw_below_drewN | apply below_drew1 | refine below_set ?_ GE449.out) | exact HB.out)⟩
      · replace c26 := Bool.eq_false_iff.mpr c26
        subst c26
        have H1 : ((schema_Encode.f kj7 l0_0 a0_1 a0_2 a0_3 a0_4 l1).bind fun bt456 => ((schema_Encode.f kj7 l0_0 a0_1 a0_2 a0_3 a0_4 l2).bind fun bt460 => (if bt456.2 = 0 then (winnowerlaw07_SchemaApart.j1 kj7 l1 l2 bt456.1 bt460.1 (bt460.2 != 0)) else (winnowerlaw07_SchemaApart.j1 kj7 l1 l2 bt456.1 bt460.1 true)))) = some r := by rw [if_neg (show ¬ (false = true) by decide)] at H; exact H
        clear H
        have H := H1
        clear H1
        replace H := Option.bind_eq_some_iff.mp H
        obtain ⟨⟨t456, t459⟩, A270, H⟩ := H
        replace H : ((schema_Encode.f kj7 l0_0 a0_1 a0_2 a0_3 a0_4 l2).bind fun bt460 => (if t459 = 0 then (winnowerlaw07_SchemaApart.j1 kj7 l1 l2 t456 bt460.1 (bt460.2 != 0)) else (winnowerlaw07_SchemaApart.j1 kj7 l1 l2 t456 bt460.1 true))) = some r := H
        have A27 := Aside0.mk A270
        clear A270
        replace H := Option.bind_eq_some_iff.mp H
        obtain ⟨⟨t460, t463⟩, A280, H⟩ := H
        replace H : (if t459 = 0 then (winnowerlaw07_SchemaApart.j1 kj7 l1 l2 t456 t460 (t463 != 0)) else (winnowerlaw07_SchemaApart.j1 kj7 l1 l2 t456 t460 true)) = some r := H
        have A28 := Aside0.mk A280
        clear A280
        have HC29 := Aside0.mk H
        clear H
        have hcz30_0 : wc.cell? ⟨gb449, 0, none⟩ = some (.slice A0_0 l0_0.length c0_0) := (blk_cell BK449.out 0).trans rfl
        have hcz30_1 : wc.cell? ⟨gb449, 1, none⟩ = some (.int .i64 a0_1) := (blk_cell BK449.out 1).trans rfl
        have hcz30_2 : wc.cell? ⟨gb449, 2, none⟩ = some (.int .i64 a0_2) := (blk_cell BK449.out 2).trans rfl
        have hcz30_3 : wc.cell? ⟨gb449, 3, none⟩ = some (.int .i64 a0_3) := (blk_cell BK449.out 3).trans rfl
        have hcz30_4 : wc.cell? ⟨gb449, 4, none⟩ = some (.int .i64 a0_4) := (blk_cell BK449.out 4).trans rfl
        have hfz30_0 := blk_frozen BK449.out 0
        have hfz30_1 := blk_frozen BK449.out 1
        have hfz30_2 := blk_frozen BK449.out 2
        have hfz30_3 := blk_frozen BK449.out 3
        have hfz30_4 := blk_frozen BK449.out 4
        go_upto_region 9 with (first | ((with_reducible refine gate_callee (f := 11) rfl ?_); refine goesL_ (some 54) rfl rfl Tryd.func11 (by kernel_rfl) rfl #[.agg #[.slice A0_0 l0_0.length c0_0, .int .i64 a0_1, .int .i64 a0_2, .int .i64 a0_3, .int .i64 a0_4], .slice A1 l1.length c1] rfl (by (try simp only [List.map_toArray, List.map_cons, List.map_nil]); first | done | rfl | (simp only [List.length_drop, List.length_take]; rfl)) ?_; (with_reducible refine (schema_Encode.calls kj7 _ _ l0_0 a0_1 a0_2 a0_3 a0_4 _ _ l1 t456 t459 _ ?side1 ?side2 ?side3 ?side4 A27.out).mono ?_); (case side1 => repeat (first | exact (Kd.C_below HR0_0.out HB.out) | (with_reducible refine Kd.C_alloc ?_ _) | (with_reducible refine Kd.C_drewN ?_ _) | (with_reducible refine Kd.C_drew ?_))); (case side2 => exact HC0_0.out); (case side3 => repeat (first | exact (Kd.C_below HR1.out HB.out) | (with_reducible refine Kd.C_alloc ?_ _) | (with_reducible refine Kd.C_drewN ?_ _) | (with_reducible refine Kd.C_drew ?_))); (case side4 => exact HC1.out); rintro e w31 ⟨v457, rfl, ho0, hb⟩; refine ⟨_, rfl, ?_⟩; have n0_ := Aside0.mk (Kd.R_lower ho0 (below_size (by repeat (first | (with_reducible first | exact HB.out | apply below_alloc | apply pw_below_drewN | apply below_drew1 | refine below_set ?_ GE449.out) | exact HB.out)))); have n1_ := Aside0.mk (blk_below (g := gb449) (o := .cells #[.slice A0_0 l0_0.length c0_0, .int .i64 a0_1, .int .i64 a0_2, .int .i64 a0_3, .int .i64 a0_4] 24 (0, 0)) (by (with_reducible repeat (first | refine blk_drewN ?_ _ | refine blk_drew ?_ | refine blk_alloc ?_ _)); exact BK449.out) hb); have n2_ := Aside0.mk (below_step (by repeat (first | (with_reducible first | exact HB.out | apply below_alloc | apply pw_below_drewN | apply below_drew1 | refine below_set ?_ GE449.out) | exact HB.out)) hb); clear BK449; clear HB; have HO458 := n0_; have BK449 := n1_; have HB := n2_; clear n0_ n1_ n2_; (try clear hb); (try clear hb2); (try clear hk); (try clear hi); (try clear ho0); have hcz32_0 : w31.cell? ⟨gb449, 0, none⟩ = some (.slice A0_0 l0_0.length c0_0) := (blk_cell BK449.out 0).trans rfl; have hcz32_1 : w31.cell? ⟨gb449, 1, none⟩ = some (.int .i64 a0_1) := (blk_cell BK449.out 1).trans rfl; have hcz32_2 : w31.cell? ⟨gb449, 2, none⟩ = some (.int .i64 a0_2) := (blk_cell BK449.out 2).trans rfl; have hcz32_3 : w31.cell? ⟨gb449, 3, none⟩ = some (.int .i64 a0_3) := (blk_cell BK449.out 3).trans rfl; have hcz32_4 : w31.cell? ⟨gb449, 4, none⟩ = some (.int .i64 a0_4) := (blk_cell BK449.out 4).trans rfl; have hfz32_0 := blk_frozen BK449.out 0; have hfz32_1 := blk_frozen BK449.out 1; have hfz32_2 := blk_frozen BK449.out 2; have hfz32_3 := blk_frozen BK449.out 3; have hfz32_4 := blk_frozen BK449.out 4) | ((with_reducible refine gate_callee (f := 11) rfl ?_); refine goesL_ (some 60) rfl rfl Tryd.func11 (by kernel_rfl) rfl #[.agg #[.slice A0_0 l0_0.length c0_0, .int .i64 a0_1, .int .i64 a0_2, .int .i64 a0_3, .int .i64 a0_4], .slice A2 l2.length c2] rfl (by (try simp only [List.map_toArray, List.map_cons, List.map_nil]); first | done | rfl | (simp only [List.length_drop, List.length_take]; rfl)) ?_; (with_reducible refine (schema_Encode.calls kj7 _ _ l0_0 a0_1 a0_2 a0_3 a0_4 _ _ l2 t460 t463 _ ?side1 ?side2 ?side3 ?side4 A28.out).mono ?_); (case side1 => repeat (first | exact (Kd.C_below HR0_0.out HB.out) | (with_reducible refine Kd.C_alloc ?_ _) | (with_reducible refine Kd.C_drewN ?_ _) | (with_reducible refine Kd.C_drew ?_))); (case side2 => exact HC0_0.out); (case side3 => repeat (first | exact (Kd.C_below HR2.out HB.out) | (with_reducible refine Kd.C_alloc ?_ _) | (with_reducible refine Kd.C_drewN ?_ _) | (with_reducible refine Kd.C_drew ?_))); (case side4 => exact HC2.out); rintro e w33 ⟨v461, rfl, ho0, hb⟩; refine ⟨_, rfl, ?_⟩; have n0_ := Aside0.mk (Kd.R_elder' (by (with_reducible repeat (first | apply Kd.R_alloc | apply Kd.R_drewN | apply Kd.R_drew)); exact HO458.out) (Kd.R_base ho0) hb); have n1_ := Aside0.mk (Kd.R_lower (Kd.R_new' ho0 (Kd.R_lt (by (with_reducible repeat (first | apply Kd.R_alloc | apply Kd.R_drewN | apply Kd.R_drew)); exact HO458.out))) (below_size (by repeat (first | (with_reducible first | exact HB.out | apply below_alloc | apply pw_below_drewN | apply below_drew1 | refine below_set ?_ GE449.out) | exact HB.out)))); have n2_ := Aside0.mk (blk_below (g := gb449) (o := .cells #[.slice A0_0 l0_0.length c0_0, .int .i64 a0_1, .int .i64 a0_2, .int .i64 a0_3, .int .i64 a0_4] 24 (0, 0)) (by (with_reducible repeat (first | refine blk_drewN ?_ _ | refine blk_drew ?_ | refine blk_alloc ?_ _)); exact BK449.out) hb); have n3_ := Aside0.mk (below_step (by repeat (first | (with_reducible first | exact HB.out | apply below_alloc | apply pw_below_drewN | apply below_drew1 | refine below_set ?_ GE449.out) | exact HB.out)) hb); clear HO458; clear BK449; clear HB; have HO458 := n0_; have HO462 := n1_; have BK449 := n2_; have HB := n3_; clear n0_ n1_ n2_ n3_; (try clear hb); (try clear hb2); (try clear hk); (try clear hi); (try clear ho0)))
        (try simp only [Act.put, List.setIfInBounds_toArray, List.set_cons_zero, List.set_cons_succ])
        go_cut [68] (fun v68 wc => ∃ (kq : Nat) (x68_28 : Bool), v68 = .bool x68_28 ∧ Aside0 (winnowerlaw07_SchemaApart.j1 kq l1 l2 t456 t460 x68_28 = some r) ∧ Aside0 (kq ≤ kj7) ∧ Aside0 (Kd.R (Kd.int .u8) 5 wc w.heap.size (fun k_ => some k_ ≠ (v461 : Value).ownBlock) v457 t456) ∧ Aside0 (Kd.R (Kd.int .u8) 5 wc w.heap.size (fun k_ => some k_ ≠ (v457 : Value).ownBlock) v461 t460) ∧ Aside0 (wc.heap[gb449]? = some (.cells #[(.slice A0_0 l0_0.length c0_0), .int .i64 a0_1, .int .i64 a0_2, .int .i64 a0_3, .int .i64 a0_4] 24 (0, 0))) ∧ Aside0 (Below w.heap.size w wc))
        case first =>
          have H := HC29.out
          clear HC29
          by_cases c34 : t459 = 0
          · rw [if_pos c34] at H
            have c34b0 : (t459 == 0) = true := beq_iff_eq.mpr c34
            have c34b1 : (t459 != 0) = false := bne_eq_false_iff_eq.mpr c34
            clear c34
            (first | rw [c34b0] | (simp only [i64_w, i32_w]; rw [c34b0]) | skip)
            have H' := Aside0.mk H
            clear H
            go_wp2
            go_meet
            case rel => exact ⟨_, ((t463 != 0)), (by first | rfl | (simp; done) | (simp [*]; done)), H', ⟨by have := HJ7.out; first | omega | exact Nat.le_refl _⟩, ⟨by (with_reducible repeat (first | apply Kd.R_alloc | apply Kd.R_drewN | apply Kd.R_drew)); exact Kd.R_mono HO458.out (fun _ hk => hk.2)⟩, ⟨by (with_reducible repeat (first | apply Kd.R_alloc | apply Kd.R_drewN | apply Kd.R_drew)); exact Kd.R_mono HO462.out (fun _ hk => hk.2)⟩, ⟨by (with_reducible repeat (first | refine blk_drewN ?_ _ | refine blk_drew ?_ | refine blk_alloc ?_ _)); exact BK449.out⟩, ⟨by repeat (first | (with_reducible first | exact HB.out | apply below_alloc | apply pw_below_drewN | apply below_drew1 | refine below_set ?_ GE449.out) | exact HB.out)⟩⟩
          · rw [if_neg c34] at H
            have c34b0 : (t459 == 0) = false := beq_eq_false_iff_ne.mpr c34
            have c34b1 : (t459 != 0) = true := bne_iff_ne.mpr c34
            (first | rw [c34b0] | (simp only [i64_w, i32_w]; rw [c34b0]) | skip)
            have H' := Aside0.mk H
            clear H
            go_wp2
            go_meet
            case rel => exact ⟨_, (true), (by first | rfl | (simp; done) | (simp [*]; done)), H', ⟨by have := HJ7.out; first | omega | exact Nat.le_refl _⟩, ⟨by (with_reducible repeat (first | apply Kd.R_alloc | apply Kd.R_drewN | apply Kd.R_drew)); exact Kd.R_mono HO458.out (fun _ hk => hk.2)⟩, ⟨by (with_reducible repeat (first | apply Kd.R_alloc | apply Kd.R_drewN | apply Kd.R_drew)); exact Kd.R_mono HO462.out (fun _ hk => hk.2)⟩, ⟨by (with_reducible repeat (first | refine blk_drewN ?_ _ | refine blk_drew ?_ | refine blk_alloc ?_ _)); exact BK449.out⟩, ⟨by repeat (first | (with_reducible first | exact HB.out | apply below_alloc | apply pw_below_drewN | apply below_drew1 | refine below_set ?_ GE449.out) | exact HB.out)⟩⟩
        case rest =>
          clear HC29
          try clear c1
          try clear c2
          try clear p2
          try clear c3
          try clear c7
          try clear c8
          try clear c9
          try clear c10
          try clear c11
          try clear c13
          try clear c14
          try clear c15
          try clear c16
          try clear c18
          try clear c26
          try clear c34
          try clear c34b0
          try clear c34b1
          try clear hcz11_0
          try clear hcz11_1
          try clear hcz11_2
          try clear hcz11_3
          try clear hcz11_4
          try clear hcz20_0
          try clear hcz20_1
          try clear hcz20_2
          try clear hcz20_3
          try clear hcz20_4
          try clear hcz22_0
          try clear hcz22_1
          try clear hcz22_2
          try clear hcz22_3
          try clear hcz22_4
          try clear hcz24_0
          try clear hcz24_1
          try clear hcz24_2
          try clear hcz24_3
          try clear hcz24_4
          try clear hcz30_0
          try clear hcz30_1
          try clear hcz30_2
          try clear hcz30_3
          try clear hcz30_4
          try clear hcz32_0
          try clear hcz32_1
          try clear hcz32_2
          try clear hcz32_3
          try clear hcz32_4
          try clear hfz11_0
          try clear hfz11_1
          try clear hfz11_2
          try clear hfz11_3
          try clear hfz11_4
          try clear hfz20_0
          try clear hfz20_1
          try clear hfz20_2
          try clear hfz20_3
          try clear hfz20_4
          try clear hfz22_0
          try clear hfz22_1
          try clear hfz22_2
          try clear hfz22_3
          try clear hfz22_4
          try clear hfz24_0
          try clear hfz24_1
          try clear hfz24_2
          try clear hfz24_3
          try clear hfz24_4
          try clear hfz30_0
          try clear hfz30_1
          try clear hfz30_2
          try clear hfz30_3
          try clear hfz30_4
          try clear hfz32_0
          try clear hfz32_1
          try clear hfz32_2
          try clear hfz32_3
          try clear hfz32_4
          try clear p2
          obtain ⟨kq, x68_28, rfl, HA, HJ28, HO_11, HO_13, BK449, HB⟩ := hcut
          cases kq with
          | zero => exact absurd HA.out (by simp [winnowerlaw07_SchemaApart.j1])
          | succ kj28 =>
            have H := HA.out
            clear HA
            simp only [winnowerlaw07_SchemaApart.j1] at H
            by_cases c35 : x68_28 = true
            · subst c35
              have H1 : (some false) = some r := by rw [if_pos rfl] at H; exact H
              clear H
              have H := H1
              clear H1
              exact absurd (HTRUE.out.symm.trans (Option.some.inj H).symm) (by decide)
            · replace c35 := Bool.eq_false_iff.mpr c35
              subst c35
              have H1 : ((winnowerref06_Same.f kj28 l1 l2).bind fun t464 => ((winnowerref01_Same.f t456 t460).bind fun t465 => (if (t456.length : Int) < (t460.length : Int) then (if 0 ≤ (t456.length : Int) then (if (t456.length : Int) ≤ (t460.length : Int) then ((winnowerref01_Same.f t456 (t460.take ((t456.length : Int) : Int).toNat)).bind fun t470 => (if t470 = true then (some false) else (some (t464 == t465)))) else (none)) else (none)) else (some (t464 == t465))))) = some r := by rw [if_neg (show ¬ (false = true) by decide)] at H; exact H
              clear H
              have H := H1
              clear H1
              replace H := Option.bind_eq_some_iff.mp H
              obtain ⟨t464, A360, H⟩ := H
              replace H : ((winnowerref01_Same.f t456 t460).bind fun t465 => (if (t456.length : Int) < (t460.length : Int) then (if 0 ≤ (t456.length : Int) then (if (t456.length : Int) ≤ (t460.length : Int) then ((winnowerref01_Same.f t456 (t460.take ((t456.length : Int) : Int).toNat)).bind fun t470 => (if t470 = true then (some false) else (some (t464 == t465)))) else (none)) else (none)) else (some (t464 == t465)))) = some r := H
              have A36 := Aside0.mk A360
              clear A360
              replace H := Option.bind_eq_some_iff.mp H
              obtain ⟨t465, A370, H⟩ := H
              replace H : (if (t456.length : Int) < (t460.length : Int) then (if 0 ≤ (t456.length : Int) then (if (t456.length : Int) ≤ (t460.length : Int) then ((winnowerref01_Same.f t456 (t460.take ((t456.length : Int) : Int).toNat)).bind fun t470 => (if t470 = true then (some false) else (some (t464 == t465)))) else (none)) else (none)) else (some (t464 == t465))) = some r := H
              have A37 := Aside0.mk A370
              clear A370
              by_cases c38 : (t456.length : Int) < (t460.length : Int)
              · rw [if_pos c38] at H
                have c38b0 : decide ((t456.length : Int) < (t460.length : Int)) = true := decide_eq_true c38
                have c38b1 : decide (t456.length < t460.length) = true := decide_eq_true (Int.ofNat_lt.mp c38)
                clear c38
                by_cases c39 : 0 ≤ (t456.length : Int)
                · rw [if_pos c39] at H
                  have c39b0 := eq_true c39
                  have c39b1 : decide (0 ≤ (t456.length : Int)) = true := decide_eq_true c39
                  clear c39
                  by_cases c40 : (t456.length : Int) ≤ (t460.length : Int)
                  · rw [if_pos c40] at H
                    have c40b0 := eq_true c40
                    have c40b1 : decide ((t456.length : Int) ≤ (t460.length : Int)) = true := decide_eq_true c40
                    clear c40
                    obtain ⟨y466, hy466⟩ : ∃ y_ : List Int, y_ = (t460.take ((t456.length : Int) : Int).toNat) := ⟨_, rfl⟩
                    replace H : ((winnowerref01_Same.f t456 y466).bind fun t470 => (if t470 = true then (some false) else (some (t464 == t465)))) = some r := by first | (rw [hy466]; with_reducible exact H) | (have H2_ := (Option.bind_some _ _).symm.trans H; rw [hy466]; with_reducible exact H2_) | (have H2_ := (Option.bind_some _ _).symm.trans H; with_reducible exact H2_) | with_reducible exact H | (rw [hy466]; exact H) | exact H
                    have Ny466 := Aside0.mk hy466
                    clear hy466
                    replace H := Option.bind_eq_some_iff.mp H
                    obtain ⟨t470, A410, H⟩ := H
                    replace H : (if t470 = true then (some false) else (some (t464 == t465))) = some r := H
                    have A41 := Aside0.mk A410
                    clear A410
                    by_cases c42 : t470 = true
                    · subst c42
                      have H1 : (some false) = some r := by rw [if_pos rfl] at H; exact H
                      clear H
                      have H := H1
                      clear H1
                      exact absurd (HTRUE.out.symm.trans (Option.some.inj H).symm) (by decide)
                    · replace c42 := Bool.eq_false_iff.mpr c42
                      subst c42
                      have H1 : (some (t464 == t465)) = some r := by rw [if_neg (show ¬ (false = true) by decide)] at H; exact H
                      clear H
                      have H := H1
                      clear H1
                      obtain rfl := Option.some.inj H
                      go_wp2_with (first | ((with_reducible refine gate_callee (f := 22) rfl ?_); refine goesL_ (some 71) rfl rfl Tryd.func22 (by kernel_rfl) rfl #[.slice A1 l1.length c1, .slice A2 l2.length c2] rfl (by (try simp only [List.map_toArray, List.map_cons, List.map_nil]); first | done | rfl | (simp only [List.length_drop, List.length_take]; rfl)) ?_; (with_reducible refine (winnowerref06_Same.calls kj28 _ _ l1 _ _ l2 t464 _ ?side1 ?side2 ?side3 ?side4 A36.out).mono ?_); (case side1 => repeat (first | exact (Kd.C_below HR1.out HB.out) | (with_reducible refine Kd.C_alloc ?_ _) | (with_reducible refine Kd.C_drewN ?_ _) | (with_reducible refine Kd.C_drew ?_))); (case side2 => exact HC1.out); (case side3 => repeat (first | exact (Kd.C_below HR2.out HB.out) | (with_reducible refine Kd.C_alloc ?_ _) | (with_reducible refine Kd.C_drewN ?_ _) | (with_reducible refine Kd.C_drew ?_))); (case side4 => exact HC2.out); rintro e w' ⟨rfl, ⟨nd, rfl⟩⟩; refine ⟨_, rfl, ?_⟩; obtain ⟨Ao43, co43, eo43⟩ := Kd.R_slice HO_11.out; subst eo43; obtain ⟨Ao44, co44, eo44⟩ := Kd.R_slice HO_13.out; subst eo44) | ((with_reducible refine gate_callee (f := 13) rfl ?_); refine goesL_ (some 74) rfl rfl Tryd.func13 (by kernel_rfl) rfl #[.slice Ao43 t456.length co43, .slice Ao44 t460.length co44] rfl (by (try simp only [List.map_toArray, List.map_cons, List.map_nil]); first | done | rfl | (simp only [List.length_drop, List.length_take]; rfl)) ?_; (with_reducible refine (winnowerref01_Same.calls _ _ t456 _ _ t460 t465 _ ?side1 ?side2 ?side3 ?side4 A37.out).mono ?_); (case side1 => repeat (first | exact (Kd.R_reads' HO_11.out).2.2 | (with_reducible refine Kd.C_alloc ?_ _) | (with_reducible refine Kd.C_drewN ?_ _) | (with_reducible refine Kd.C_drew ?_))); (case side2 => exact (Kd.R_reads' HO_11.out).2.1); (case side3 => repeat (first | exact (Kd.R_reads' HO_13.out).2.2 | (with_reducible refine Kd.C_alloc ?_ _) | (with_reducible refine Kd.C_drewN ?_ _) | (with_reducible refine Kd.C_drew ?_))); (case side4 => exact (Kd.R_reads' HO_13.out).2.1); rintro e w' ⟨rfl, ⟨nd, rfl⟩⟩; refine ⟨_, rfl, ?_⟩; have q45 : ((t456.length : Int) : Int) ≤ ((t460.length : Int) : Int) := of_decide_eq_true (by first | (with_reducible assumption) | assumption); obtain ⟨i045, hi045, _, hsz45, _⟩ := info_parts info5; have hroom45 : t460.length ≤ co44 := (Kd.R_reads' HO_13.out).2.1; have hC45 : Kd.C (Kd.int .u8) _ Ao44 t460.length t460 := (Kd.R_reads' HO_13.out).2.2; have hcut45 := cut_to (P := Tryd.prog) 29 5 .i64 Tryd.underlying29 hi045 Ao44 t460.length co44 (t456.length : Int) (of_decide_eq_true (by first | (with_reducible assumption) | assumption)) q45 hroom45; have hr45 := Kd.C_take (m := ((t456.length : Int) : Int).toNat) hC45 (by omega); have hy45 : y466.length = ((t456.length : Int) : Int).toNat := (by rw [Ny466.out, List.length_take]; omega); rw [← Ny466.out] at hr45; rw [← hy45] at hcut45; have HR469 := Aside0.mk hr45; have HC469 := Aside0.mk (show y466.length ≤ co44 from by omega); clear hr45 hC45 hroom45 hi045 hsz45; have KY45 := Aside0.mk hy45; clear hy45; have KL45 := Aside0.mk (show ((t456.length : Int) : Int).toNat ≤ t460.length from by omega); replace q45 := eq_true q45) | (go_at_call 13; (with_reducible refine (winnowerref01_Same.calls _ _ t456 _ _ y466 false _ ?side1 ?side2 ?side3 ?side4 A41.out).mono ?_); (case side1 => repeat (first | exact (Kd.R_reads' HO_11.out).2.2 | (with_reducible refine Kd.C_alloc ?_ _) | (with_reducible refine Kd.C_drewN ?_ _) | (with_reducible refine Kd.C_drew ?_))); (case side2 => exact (Kd.R_reads' HO_11.out).2.1); (case side3 => repeat (first | exact (by repeat (first | (with_reducible exact HR469.out) | (with_reducible refine Kd.C_alloc ?_ _) | (with_reducible refine Kd.C_drewN ?_ _) | (with_reducible refine Kd.C_drew ?_) | exact HR469.out)) | (with_reducible refine Kd.C_alloc ?_ _) | (with_reducible refine Kd.C_drewN ?_ _) | (with_reducible refine Kd.C_drew ?_))); (case side4 => exact HC469.out); rintro e w' ⟨rfl, ⟨nd, rfl⟩⟩))
                      go_ret
                      exact ⟨by first | rfl | (simp [errW_none, errW_some] <;> rfl) | (refine congrArg (fun b_ : Bool => Ending.returned (Value.bool b_)) ?_; simp; done) | (simp [*, errW_none, errW_some] <;> rfl), by repeat (first | (with_reducible first | exact HB.out | apply below_alloc | apply pw_below_drewN | apply below_drew1 | refine below_set ?_ GE449.out) | exact HB.out)⟩
                  · rw [if_neg c40] at H
                    exact absurd H (by simp)
                · rw [if_neg c39] at H
                  exact absurd H (by simp)
              · rw [if_neg c38] at H
                have c38b0 : decide ((t456.length : Int) < (t460.length : Int)) = false := decide_eq_false c38
                have c38b1 : decide (t456.length < t460.length) = false := decide_eq_false (fun h => c38 (Int.ofNat_lt.mpr h))
                clear c38
                obtain rfl := Option.some.inj H
                go_wp2_with (first | ((with_reducible refine gate_callee (f := 22) rfl ?_); refine goesL_ (some 71) rfl rfl Tryd.func22 (by kernel_rfl) rfl #[.slice A1 l1.length c1, .slice A2 l2.length c2] rfl (by (try simp only [List.map_toArray, List.map_cons, List.map_nil]); first | done | rfl | (simp only [List.length_drop, List.length_take]; rfl)) ?_; (with_reducible refine (winnowerref06_Same.calls kj28 _ _ l1 _ _ l2 t464 _ ?side1 ?side2 ?side3 ?side4 A36.out).mono ?_); (case side1 => repeat (first | exact (Kd.C_below HR1.out HB.out) | (with_reducible refine Kd.C_alloc ?_ _) | (with_reducible refine Kd.C_drewN ?_ _) | (with_reducible refine Kd.C_drew ?_))); (case side2 => exact HC1.out); (case side3 => repeat (first | exact (Kd.C_below HR2.out HB.out) | (with_reducible refine Kd.C_alloc ?_ _) | (with_reducible refine Kd.C_drewN ?_ _) | (with_reducible refine Kd.C_drew ?_))); (case side4 => exact HC2.out); rintro e w' ⟨rfl, ⟨nd, rfl⟩⟩; refine ⟨_, rfl, ?_⟩; obtain ⟨Ao46, co46, eo46⟩ := Kd.R_slice HO_11.out; subst eo46; obtain ⟨Ao47, co47, eo47⟩ := Kd.R_slice HO_13.out; subst eo47) | ((with_reducible refine gate_callee (f := 13) rfl ?_); refine goesL_ (some 74) rfl rfl Tryd.func13 (by kernel_rfl) rfl #[.slice Ao46 t456.length co46, .slice Ao47 t460.length co47] rfl (by (try simp only [List.map_toArray, List.map_cons, List.map_nil]); first | done | rfl | (simp only [List.length_drop, List.length_take]; rfl)) ?_; (with_reducible refine (winnowerref01_Same.calls _ _ t456 _ _ t460 t465 _ ?side1 ?side2 ?side3 ?side4 A37.out).mono ?_); (case side1 => repeat (first | exact (Kd.R_reads' HO_11.out).2.2 | (with_reducible refine Kd.C_alloc ?_ _) | (with_reducible refine Kd.C_drewN ?_ _) | (with_reducible refine Kd.C_drew ?_))); (case side2 => exact (Kd.R_reads' HO_11.out).2.1); (case side3 => repeat (first | exact (Kd.R_reads' HO_13.out).2.2 | (with_reducible refine Kd.C_alloc ?_ _) | (with_reducible refine Kd.C_drewN ?_ _) | (with_reducible refine Kd.C_drew ?_))); (case side4 => exact (Kd.R_reads' HO_13.out).2.1); rintro e w' ⟨rfl, ⟨nd, rfl⟩⟩; refine ⟨_, rfl, ?_⟩))
                go_ret
                exact ⟨by first | rfl | (simp [errW_none, errW_some] <;> rfl) | (refine congrArg (fun b_ : Bool => Ending.returned (Value.bool b_)) ?_; simp; done) | (simp [*, errW_none, errW_some] <;> rfl), by repeat (first | (with_reducible first | exact HB.out | apply below_alloc | apply pw_below_drewN | apply below_drew1 | refine below_set ?_ GE449.out) | exact HB.out)⟩

end Go.Proofs.YteefchdfdgfaaaaDoor.Q
namespace Go.Proofs.YteefchdfdgfaaaaDoor.Q
open Go.RowKit Go.Proofs.YteefchdfdgfaaaaDoorW.PrintWords Go.Proofs.YteefchdfdgfaaaaDoorW.PrintLast Go.Proofs.YteefchdfdgfaaaaDoorW.PrintMore
attribute [local go_sem] max2_int min2_int max_two min_two max_three min_three max_four min_four   -- for this text's walks alone
set_option linter.unusedVariables false
set_option linter.unusedSimpArgs false

-- SAYS Chapter 07: SchemaBack, SchemaOnly, SchemaApart answer true.
-- FUNCS winnower/winnowerlaw07.SchemaBack winnower/winnowerlaw07.SchemaOnly winnower/winnowerlaw07.SchemaApart
-- NEEDS winnowerlaw07_SchemaBack.f winnowerlaw07_SchemaOnly.f winnowerlaw07_SchemaApart.f schema_Encode.f schema_Fits.f schema_May.f schema_Decode.f winnowerref01_Same.f
-- IMPORT Derived.Test.YteefchdfdgfaaaaDoorHnum
-- IMPORT Derived.Test.YteefchdfdgfaaaaDoorHval
-- IMPORT Derived.Test.YteefchdfdgfaaaaDoorHsch07
-- IMPORT Derived.Test.YteefchdfdgfaaaaDoorHsch07b
open Go.Proofs.YteefchdfdgfaaaaDoor.Hnum Go.Proofs.YteefchdfdgfaaaaDoor.Hval
theorem awake_200 : winnowerlaw07_awake.f = some true := rfl
theorem fits_200 {l : List S48} (hl : l.length ≤ 12) (a1 a2 a3 a4 : Int) (row : List S46) {k : Nat} (hk : 100 ≤ k) : schema_Fits.f k l a1 a2 a3 a4 row = some (fitsS l a1 a2 a3 a4 row) := fits_tell (by omega) a1 a2 a3 a4 row (by omega)
theorem enc_200 {l : List S48} (hl : l.length ≤ 12) (a1 a2 a3 a4 : Int) {row : List S46} (hi : ∀ v ∈ row, i64 v.f1) {k : Nat} (hk : 100 ≤ k) : schema_Encode.f k l a1 a2 a3 a4 row = some (if fitsS l a1 a2 a3 a4 row = true then (encS l row, 0) else ([], 1)) := enc_tell (by omega) a1 a2 a3 a4 hi (by omega)
theorem apart07 {l : List S48} {a1 a2 a3 a4 : Int} {a b : List S46} (ia : ∀ v ∈ a, i64 v.f1) (ib : ∀ v ∈ b, i64 v.f1) : winnowerlaw07_SchemaApart.f 200 l a1 a2 a3 a4 a b = some true := by
  have skip : ∀ k, winnowerlaw07_SchemaApart.j0 (k + 1) a b true true l a1 a2 a3 a4 = some true := fun k => by simp only [winnowerlaw07_SchemaApart.j0]; rw [if_pos trivial]
  unfold winnowerlaw07_SchemaApart.f
  rw [awake_200, Option.bind_some, few_any, Option.bind_some, light_any, Option.bind_some, light_any, Option.bind_some, if_pos rfl]
  cases hf : fewC l with
  | false => rw [if_neg (by decide)]; exact skip 199
  | true =>
    rw [if_pos rfl]
    have hl := fewC_len hf
    cases ha : lightS a with
    | false => rw [if_neg (by decide)]; exact skip 199
    | true =>
      rw [if_pos rfl]
      cases hb : lightS b with
      | false => rw [if_neg (by decide)]; exact skip 199
      | true =>
        rw [if_pos rfl, fits_200 hl a1 a2 a3 a4 a (by decide), Option.bind_some]
        cases h1 : fitsS l a1 a2 a3 a4 a with
        | false => rw [if_neg (by decide)]; exact skip 199
        | true =>
          rw [if_pos rfl, fits_200 hl a1 a2 a3 a4 b (by decide), Option.bind_some]
          cases h2 : fitsS l a1 a2 a3 a4 b with
          | false => exact skip 199
          | true =>
            obtain ⟨p1, p2⟩ := fitsS_len h1
            obtain ⟨q1, q2⟩ := fitsS_len h2
            rw [winnowerlaw07_SchemaApart.j0, if_neg (by decide), enc_200 hl a1 a2 a3 a4 ia (by decide), Option.bind_some, enc_200 hl a1 a2 a3 a4 ib (by decide), Option.bind_some, h1, h2, if_pos rfl, if_pos rfl]
            simp only
            rw [if_pos trivial, show ((0 : Int) != 0) = false from rfl, winnowerlaw07_SchemaApart.j1, if_neg (by decide), same06_tell a b (by omega) (by omega), Option.bind_some]
            have hs : ∀ x y : List Int, winnowerref01_Same.f x y = some (decide (x = y)) := fun _ _ => rfl
            have he : decide (a = b) = decide (encS l a = encS l b) := by
              by_cases e : a = b
              · rw [decide_eq_true e, decide_eq_true (by rw [e])]
              · rw [decide_eq_false e, decide_eq_false (fun h => e (encS_prefix l a b p1 q1 p2 q2 ia ib [] [] (by rw [h])).1)]
            rw [hs, Option.bind_some, ← he]
            dsimp only
            by_cases hlt : ((encS l a).length : Int) < ((encS l b).length : Int)
            · rw [if_pos hlt, if_pos (by omega), if_pos (by omega), hs, Option.bind_some, Int.toNat_natCast]
              have hne : ¬ encS l a = (encS l b).take (encS l a).length := by
                intro h
                have h3 : encS l a ++ (encS l b).drop (encS l a).length = encS l b ++ [] := by
                  conv => lhs; lhs; rw [h]
                  rw [List.take_append_drop, List.append_nil]
                have h4 := (encS_prefix l a b p1 q1 p2 q2 ia ib _ _ h3).2
                have h5 := congrArg List.length h4
                rw [List.length_drop, List.length_nil] at h5
                omega
              rw [decide_eq_false hne, if_neg (by decide)]
              simp
            · rw [if_neg hlt]
              simp
theorem back07 {l : List S48} {a1 a2 a3 a4 : Int} {row : List S46} {more : List Int} (ia : ∀ v ∈ row, i64 v.f1) (hm : Bytes more) : winnowerlaw07_SchemaBack.f 200 l a1 a2 a3 a4 row more = some true := by
  have skip : ∀ k, winnowerlaw07_SchemaBack.j0 (k + 1) row more true true l a1 a2 a3 a4 = some true := fun k => by simp only [winnowerlaw07_SchemaBack.j0]; rw [if_pos trivial]
  unfold winnowerlaw07_SchemaBack.f
  rw [awake_200, Option.bind_some, few_any, Option.bind_some, light_any, Option.bind_some, if_pos rfl]
  cases hf : fewC l with
  | false => rw [if_neg (by decide)]; exact skip 199
  | true =>
    rw [if_pos rfl]
    have hl := fewC_len hf
    cases ha : lightS row with
    | false => rw [if_neg (by decide)]; exact skip 199
    | true =>
      rw [if_pos rfl]
      by_cases h1 : (more.length : Int) > 100
      · rw [decide_eq_true h1]; exact skip 199
      · rw [decide_eq_false h1, winnowerlaw07_SchemaBack.j0, if_neg (by decide), enc_200 hl a1 a2 a3 a4 ia (by decide), Option.bind_some, fits_200 hl a1 a2 a3 a4 row (by decide), Option.bind_some]
        cases h2 : fitsS l a1 a2 a3 a4 row with
        | false => rw [if_neg (show ¬ (false = true) by decide), if_neg (show ¬ (false = true) by decide)]; rfl
        | true =>
          obtain ⟨p1, p2⟩ := fitsS_len h2
          have hk := mayS_kind (fitsS_may h2)
          have hs := encS_short l row p2 ia
          have d1 := dec_enc l row [] [] hk p1 p2 ia Bytes.nil (by simp only [List.length_nil]; omega)
          rw [List.append_nil, if_pos rfl, List.nil_append] at d1
          rw [if_pos rfl, if_pos rfl]
          simp only
          rw [dec_tell l (by omega), fitsS_may h2, if_pos rfl, d1, Option.bind_some, same06_tell row row (by omega) (by omega), Option.bind_some, decide_eq_true rfl]
          by_cases h3 : (more.length : Int) > 0
          · have hne : more ≠ [] := by rintro rfl; simp at h3
            have d2 := dec_enc l row more [] hk p1 p2 ia hm (by omega)
            rw [if_neg hne] at d2
            rw [if_pos h3, if_pos (by rw [List.length_nil]; omega), List.nil_append, Option.bind_some, if_pos (by omega), dec_tell l (by omega), fitsS_may h2, if_pos rfl, d2, Option.bind_some]
            simp only
            rw [if_pos trivial, if_pos trivial, if_pos trivial]
          · rw [if_neg h3]
            simp only
            rw [if_pos trivial, if_pos trivial]
theorem only07 {l : List S48} {a1 a2 a3 a4 : Int} {b : List Int} {n : Int} (hb : Bytes b) : winnowerlaw07_SchemaOnly.f 200 l a1 a2 a3 a4 b n = some true := by
  have skip : ∀ k, winnowerlaw07_SchemaOnly.j0 (k + 1) b n true true l a1 a2 a3 a4 = some true := fun k => by simp only [winnowerlaw07_SchemaOnly.j0]; rw [if_pos trivial]
  unfold winnowerlaw07_SchemaOnly.f
  rw [awake_200, Option.bind_some, few_any, Option.bind_some, if_pos rfl]
  cases hf : fewC l with
  | false => rw [if_neg (by decide)]; exact skip 199
  | true =>
    rw [if_pos rfl]
    have hl := fewC_len hf
    by_cases h1 : (b.length : Int) > 1000
    · rw [decide_eq_true h1]; exact skip 199
    · rw [decide_eq_false h1, winnowerlaw07_SchemaOnly.j0, if_neg (by decide), dec_tell l (by omega)]
      have hmy : schema_May.f l a1 a2 a3 a4 = some (mayS l a1 a2 a3 a4) := by unfold schema_May.f; rw [if_pos (by omega)]
      cases hm : mayS l a1 a2 a3 a4 with
      | false =>
        rw [if_neg (by decide), Option.bind_some]
        simp only
        rw [if_neg (by decide), if_pos (by simp), hmy, hm]
        rfl
      | true =>
        rw [if_pos rfl]
        have hk := mayS_kind hm
        rcases dec_cases l b [] hk hb (by omega) with ⟨e, he, h0, h2⟩ | ⟨row, r1, r2, r3, r4, r5⟩
        · rw [he, Option.bind_some]
          simp only
          rw [if_neg h0, if_pos (by simp), hmy, hm, Option.bind_some]
          simp [h2]
        · rw [r5, Option.bind_some]
          simp only
          rw [List.nil_append]
          have hfit : fitsS l a1 a2 a3 a4 row = true := by unfold fitsS; rw [hm, r1, r2]; simp
          have hs : ∀ x y : List Int, winnowerref01_Same.f x y = some (decide (x = y)) := fun _ _ => rfl
          rw [if_pos trivial, enc_200 hl a1 a2 a3 a4 r4 (by decide), hfit, if_pos rfl, Option.bind_some]
          simp only
          rw [r3, hs, Option.bind_some, decide_eq_true rfl]
          have tail : (if (true : Bool) = true then (if (0 : Int) = 0 then ((schema_Fits.f 198 l a1 a2 a3 a4 row).bind fun t448 => (some t448)) else (some false)) else (some false)) = some true := by
            rw [if_pos rfl, if_pos rfl, fits_200 hl a1 a2 a3 a4 row (by decide), hfit]; rfl
          by_cases hn : n ≥ 0
          · rw [if_pos hn]
            by_cases hn2 : n < (b.length : Int)
            · rw [decide_eq_true hn2, winnowerlaw07_SchemaOnly.j1, if_pos rfl, if_pos hn, if_pos (by omega), dec_tell l (by omega), hm, if_pos rfl]
              rcases dec_cases l (b.take n.toNat) [] hk (fun x hx => hb x (List.mem_of_mem_take hx)) (by rw [List.length_take]; omega) with ⟨e, he, h0, h2⟩ | ⟨row2, t1, t2, t3, t4, t5⟩
              · rw [he, Option.bind_some]
                simp only
                rw [if_neg h0]
                exact tail
              · have h3 : encS l row2 ++ b.drop n.toNat = encS l row ++ [] := by rw [t3, r3, List.take_append_drop, List.append_nil]
                have h4 := (encS_prefix l row2 row t1 r1 t2 r2 t4 r4 _ _ h3).2
                have h5 := congrArg List.length h4
                rw [List.length_drop, List.length_nil] at h5
                omega
            · rw [decide_eq_false hn2, winnowerlaw07_SchemaOnly.j1, if_neg (by decide)]
              exact tail
          · rw [if_neg hn, winnowerlaw07_SchemaOnly.j1, if_neg (by decide)]
            exact tail

end Go.Proofs.YteefchdfdgfaaaaDoor.Q
namespace Go.Proofs.YteefchdfdgfaaaaDoor.Q
open Go.RowKit Go.Proofs.YteefchdfdgfaaaaDoorW.PrintWords Go.Proofs.YteefchdfdgfaaaaDoorW.PrintLast Go.Proofs.YteefchdfdgfaaaaDoorW.PrintMore
attribute [local go_sem] max2_int min2_int max_two min_two max_three min_three max_four min_four   -- for this text's walks alone
set_option linter.unusedVariables false
set_option linter.unusedSimpArgs false

-- SAYS What the document's Get and GetLen of layer 1 answer, in plain words.
-- FUNCS winnower/winnowerref01.Get winnower/winnowerref01.GetLen
-- NEEDS winnowerref01_Get.f winnowerref01_GetLen.f winnowerref01_run.f winnowerref01_halves.f
-- IMPORT Derived.Test.YteefchdfdgfaaaaDoorHnum
open Go.Proofs.YteefchdfdgfaaaaDoor.Hnum

end Go.Proofs.YteefchdfdgfaaaaDoor.Q
namespace Go.Proofs.YteefchdfdgfaaaaDoor.Q
open Go.RowKit Go.Proofs.YteefchdfdgfaaaaDoorW.PrintWords Go.Proofs.YteefchdfdgfaaaaDoorW.PrintLast Go.Proofs.YteefchdfdgfaaaaDoorW.PrintMore
attribute [local go_sem] max2_int min2_int max_two min_two max_three min_three max_four min_four   -- for this text's walks alone
set_option linter.unusedVariables false
set_option linter.unusedSimpArgs false

-- SAYS Chapter 07: what the document's functions answer.
-- FUNCS winnower/winnowerref07.Encode winnower/winnowerref07.Decode winnower/winnowerref07.Find
-- NEEDS schema_May.f schema_Find.f winnowerref07_May.f winnowerref07_name.f winnowerref07_whole.f winnowerref07_Fits.f winnowerref07_Encode.f winnowerref07_Find.f winnowerref07_Decode.f winnowerref06_May.f winnowerref06_Put.f winnowerref06_Get.f winnowerref01_Get.f winnowerref01_GetLen.f schema_keyed.f schema_of.f schema_name.f
-- IMPORT Derived.Test.YteefchdfdgfaaaaDoorHnum
-- IMPORT Derived.Test.YteefchdfdgfaaaaDoorHval
-- IMPORT Derived.Test.YteefchdfdgfaaaaDoorHsch07
-- IMPORT Derived.Test.YteefchdfdgfaaaaDoorHsch07b
-- IMPORT Derived.Test.YteefchdfdgfaaaaDoorHrefget
open Go.Proofs.YteefchdfdgfaaaaDoor.Hnum Go.Proofs.YteefchdfdgfaaaaDoor.Hval
def letters : List UInt8 := [97, 98, 99, 100, 101, 102, 103, 104, 105, 106, 107, 108, 109, 110, 111, 112, 113, 114, 115, 116, 117, 118, 119, 120, 121, 122, 48, 49, 50, 51, 52, 53, 54, 55, 56, 57, 95]

end Go.Proofs.YteefchdfdgfaaaaDoor.Q
namespace Go.Proofs.YteefchdfdgfaaaaDoor.Q
open Go.RowKit Go.Proofs.YteefchdfdgfaaaaDoorW.PrintWords Go.Proofs.YteefchdfdgfaaaaDoorW.PrintLast Go.Proofs.YteefchdfdgfaaaaDoorW.PrintMore
attribute [local go_sem] max2_int min2_int max_two min_two max_three min_three max_four min_four   -- for this text's walks alone
set_option linter.unusedVariables false
set_option linter.unusedSimpArgs false

-- SAYS Chapter 07: SchemaTells, SchemaDecodes answer true.
-- FUNCS winnower/winnowerlaw07.SchemaTells winnower/winnowerlaw07.SchemaDecodes
-- NEEDS winnowerlaw07_SchemaTells.f winnowerlaw07_SchemaDecodes.f schema_Encode.f schema_Fits.f schema_May.f schema_Decode.f schema_Find.f winnowerref01_Same.f
-- IMPORT Derived.Test.YteefchdfdgfaaaaDoorHnum
-- IMPORT Derived.Test.YteefchdfdgfaaaaDoorHval
-- IMPORT Derived.Test.YteefchdfdgfaaaaDoorHsch07
-- IMPORT Derived.Test.YteefchdfdgfaaaaDoorHsch07b
-- IMPORT Derived.Test.YteefchdfdgfaaaaDoorHsch07c
-- IMPORT Derived.Test.YteefchdfdgfaaaaDoorHsch07d
open Go.Proofs.YteefchdfdgfaaaaDoor.Hnum Go.Proofs.YteefchdfdgfaaaaDoor.Hval

end Go.Proofs.YteefchdfdgfaaaaDoor.Q
namespace Go.Proofs.YteefchdfdgfaaaaDoor.Q
open Go.RowKit Go.Proofs.YteefchdfdgfaaaaDoorW.PrintWords Go.Proofs.YteefchdfdgfaaaaDoorW.PrintLast Go.Proofs.YteefchdfdgfaaaaDoorW.PrintMore
attribute [local go_sem] max2_int min2_int max_two min_two max_three min_three max_four min_four   -- for this text's walks alone
set_option linter.unusedVariables false
set_option linter.unusedSimpArgs false

-- SAYS Chapter 07: a law's call with a schema that is read as data.
-- FUNCS winnower/winnowerlaw07.SchemaTells winnower/winnowerlaw07.SchemaDecodes winnower/winnowerlaw07.SchemaBack winnower/winnowerlaw07.SchemaOnly winnower/winnowerlaw07.SchemaApart
-- NEEDS Globs winnowerlaw07_SchemaTells.f winnowerlaw07_SchemaDecodes.f winnowerlaw07_SchemaBack.f winnowerlaw07_SchemaOnly.f winnowerlaw07_SchemaApart.f
-- IMPORT Derived.Test.YteefchdfdgfaaaaDoorHnum
-- IMPORT Derived.Test.YteefchdfdgfaaaaDoorHval
-- IMPORT Derived.Test.YteefchdfdgfaaaaDoorHsch07c
-- IMPORT Derived.Test.YteefchdfdgfaaaaDoorHsch07e
open Go.Proofs.YteefchdfdgfaaaaDoor.Hnum Go.Proofs.YteefchdfdgfaaaaDoor.Hval
/-- A schema as it is read: its columns and four numbers. -/
abbrev SchV := List S48 × Int × Int × Int × Int
abbrev kSch : Kd SchV := Kd.pair (Kd.slice 48 k48) (Kd.pair (Kd.int .i64) (Kd.pair (Kd.int .i64) (Kd.pair (Kd.int .i64) (Kd.int .i64))))
theorem sch_open {W : World} {x : SchV} {cs : List Value} (h : kSch.K W x cs) : ∃ A c, Value.agg cs.toArray = .agg #[.slice A x.1.length c, .int .i64 x.2.1, .int .i64 x.2.2.1, .int .i64 x.2.2.2.1, .int .i64 x.2.2.2.2] ∧ x.1.length ≤ c ∧ Kd.C k48 W A x.1.length x.1 := by
  obtain ⟨c1, c2, rfl, ⟨A, c, rfl, hl, hC⟩, c3, c4, rfl, h3, c5, c6, rfl, h5, c7, c8, rfl, h7, h8⟩ := h
  obtain rfl : c3 = [.int .i64 x.2.1] := h3
  obtain rfl : c5 = [.int .i64 x.2.2.1] := h5
  obtain rfl : c7 = [.int .i64 x.2.2.2.1] := h7
  obtain rfl : c8 = [.int .i64 x.2.2.2.2] := h8
  exact ⟨A, c, rfl, hl, hC⟩
theorem schemaBack_call {x : SchV} {cs : List Value} (A1 : Option Addr) (c1 : Nat) (l1 : List S46) (A2 : Option Addr) (c2 : Nat) (l2 : List Int) (W : World) (hk : kSch.K W x cs) (hr1 : Kd.C k46 W A1 l1.length l1) (hc1 : l1.length ≤ c1) (hi : ∀ v ∈ l1, i64 v.f1) (hr2 : Kd.C (Kd.int .u8) W A2 l2.length l2) (hc2 : l2.length ≤ c2) (hb : Bytes l2) (hG : Globs W) :
    Calls Tryd.prog 5 #[.agg cs.toArray, .slice A1 l1.length c1, .slice A2 l2.length c2] W fun e w' => e = .returned (.bool true) ∧ Below W.heap.size W w' := by
  obtain ⟨A, c, e, hl, hC⟩ := sch_open hk
  rw [e]
  exact winnowerlaw07_SchemaBack.calls 200 A c x.1 _ _ _ _ A1 c1 l1 A2 c2 l2 true W hC hl hr1 hc1 hr2 hc2 hG rfl (back07 hi hb)
theorem schemaOnly_call {x : SchV} {cs : List Value} (A1 : Option Addr) (c1 : Nat) (l1 : List Int) (n : Int) (W : World) (hk : kSch.K W x cs) (hr1 : Kd.C (Kd.int .u8) W A1 l1.length l1) (hc1 : l1.length ≤ c1) (hb : Bytes l1) (hG : Globs W) :
    Calls Tryd.prog 6 #[.agg cs.toArray, .slice A1 l1.length c1, .int .i64 n] W fun e w' => e = .returned (.bool true) ∧ Below W.heap.size W w' := by
  obtain ⟨A, c, e, hl, hC⟩ := sch_open hk
  rw [e]
  exact winnowerlaw07_SchemaOnly.calls 200 A c x.1 _ _ _ _ A1 c1 l1 n true W hC hl hr1 hc1 hG rfl (only07 hb)
theorem schemaApart_call {x : SchV} {cs : List Value} (A1 : Option Addr) (c1 : Nat) (l1 : List S46) (A2 : Option Addr) (c2 : Nat) (l2 : List S46) (W : World) (hk : kSch.K W x cs) (hr1 : Kd.C k46 W A1 l1.length l1) (hc1 : l1.length ≤ c1) (hi : ∀ v ∈ l1, i64 v.f1) (hr2 : Kd.C k46 W A2 l2.length l2) (hc2 : l2.length ≤ c2) (hi2 : ∀ v ∈ l2, i64 v.f1) (hG : Globs W) :
    Calls Tryd.prog 7 #[.agg cs.toArray, .slice A1 l1.length c1, .slice A2 l2.length c2] W fun e w' => e = .returned (.bool true) ∧ Below W.heap.size W w' := by
  obtain ⟨A, c, e, hl, hC⟩ := sch_open hk
  rw [e]
  exact winnowerlaw07_SchemaApart.calls 200 A c x.1 _ _ _ _ A1 c1 l1 A2 c2 l2 true W hC hl hr1 hc1 hr2 hc2 hG rfl (apart07 hi hi2)

end Go.Proofs.YteefchdfdgfaaaaDoor.Q
namespace Go.Proofs.YteefchdfdgfaaaaDoor.Hopen
open Go.RowKit Go.Deep Go.ChangeShapes Go.WideShapes Go.Proofs.YteefchdfdgfaaaaDoorW.PrintWords Go.Proofs.YteefchdfdgfaaaaDoorW.PrintLast Go.Proofs.YteefchdfdgfaaaaDoorW.PrintMore
set_option linter.unusedVariables false
set_option linter.unusedSectionVars false

/-- Whatever reads as data of type t is of kind d, and so well formed. -/
def Opens {α : Type} (P : Program) (w : World) (t : TypeId) (d : Kd α) (ok : α → Prop) : Prop :=
  P.cellsOf t = d.sz ∧ ∀ (H : Type) (enc : TypeId × Value → H) (fuel : Nat) (cs : List Value) (x : DataW H × List MemPlace), DataW.trod enc P w 0 (fun _ => true) true fuel t cs = some x → ∃ a, d.K w a cs ∧ ok a
variable {P : Program} {w : World} {t e : TypeId} {α β : Type} {d : Kd α} {ok : α → Prop}
theorem Opens.int {k : IntKind} (ht : P.underlying t = some (.int k)) (hc : P.cellsOf t = 1) : Opens P w t (Kd.int k) (fun n => (Lit.int k n).wf = true) := by
  refine ⟨hc, fun H enc fuel cs x hx => ?_⟩
  obtain ⟨n, rfl, _, hw⟩ := DataW.trod_int ht hx
  exact ⟨n, rfl, hw⟩
theorem Opens.string (ht : P.underlying t = some .string) (hc : P.cellsOf t = 1) : Opens P w t Kd.string (fun s => s.size ≤ maxLen) := by
  refine ⟨hc, fun H enc fuel cs x hx => ?_⟩
  obtain ⟨s, rfl, _, hw⟩ := DataW.trod_string ht hx
  exact ⟨s, rfl, hw⟩
theorem Opens.bool (ht : P.underlying t = some .bool) (hc : P.cellsOf t = 1) : Opens P w t Kd.bool (fun _ => True) := by
  refine ⟨hc, fun H enc fuel cs x hx => ?_⟩
  obtain ⟨b, rfl, _⟩ := DataW.trod_bool ht hx
  exact ⟨b, rfl, trivial⟩
theorem list_of {p : Nat → α → Prop} (n : Nat) (h : ∀ i, i < n → ∃ x, p i x) : ∃ xs : List α, xs.length = n ∧ ∀ i x, xs[i]? = some x → p i x := by
  induction n with
  | zero => exact ⟨[], rfl, fun i x hx => by simp at hx⟩
  | succ n ih =>
    obtain ⟨xs, hl, hp⟩ := ih (fun i hi => h i (by omega))
    obtain ⟨y, hy⟩ := h n (by omega)
    refine ⟨xs ++ [y], by simp [hl], fun i x hx => ?_⟩
    rcases Nat.lt_or_ge i xs.length with hi | hi
    · rw [List.getElem?_append_left hi] at hx; exact hp i x hx
    · have hlt := (List.getElem?_eq_some_iff.1 hx).1
      rw [List.length_append, List.length_singleton] at hlt
      obtain rfl : i = n := by omega
      rw [List.getElem?_append_right (by omega), hl, Nat.sub_self] at hx
      simp at hx; rw [← hx]; exact hy
theorem C_nil (d : Kd α) (w : World) (A : Option Addr) : d.C w A 0 [] := ⟨rfl, by omega, fun h => by omega⟩
theorem Opens.slice {e' : Nat} (h : Opens P w e d ok) (ht : P.underlying t = some (.slice e)) (hc : P.cellsOf t = 1) : Opens P w t (Kd.slice e' d) (fun xs => xs.length ≤ maxLen ∧ ∀ x ∈ xs, ok x) := by
  refine ⟨hc, fun H enc fuel cs x hx => ?_⟩
  rcases open_slice ht hx with ⟨rfl, _⟩ | ⟨a, len, cap, m, n, D, Pl, rfl, _, hl, hm, hmm, _, hi⟩
  · exact ⟨[], ⟨none, 0, rfl, Nat.le_refl _, C_nil d w none⟩, by simp, fun x hx => by cases hx⟩
  · have hmc : m = cap := by simpa using hmm
    subst hmc
    obtain ⟨xs, hxl, hxs⟩ := list_of (p := fun i y => ∃ cs', w.cells? 0 (a.add (i * P.cellsOf e)) (P.cellsOf e) = some cs' ∧ d.K w y cs' ∧ ok y) len (fun i hlt => by
      obtain ⟨cs', h1, h2⟩ := hi i (by omega)
      obtain ⟨y, hy, ho⟩ := h.2 H enc n cs' _ h2
      exact ⟨y, cs', h1, hy, ho⟩)
    subst hxl
    refine ⟨xs, ⟨some a, m, rfl, hl, rfl, by unfold maxLen at hm; omega, fun _ => ⟨a, rfl, fun j p hj => ?_⟩⟩, by omega, fun y hy => ?_⟩
    · obtain ⟨cs', h1, h2, _⟩ := hxs j p hj
      obtain ⟨_, hcl, hat⟩ := World.cells?_some h1
      rw [h.1] at hcl hat
      refine ⟨cs', hcl, h2, fun i u hu => ?_⟩
      have hlt := (List.getElem?_eq_some_iff.1 hu).1
      rw [← Go.Deep.add_add, hat i (by omega), hu]
    · obtain ⟨i, hi⟩ := List.mem_iff_getElem?.1 hy
      exact (hxs i y hi).choose_spec.2.2
/-- So the fields from a place on. -/
def OpensF {α : Type} (P : Program) (w : World) (l : List Field) (off : Nat) (d : Kd α) (ok : α → Prop) : Prop :=
  ∀ (H : Type) (enc : TypeId × Value → H) (cs : List Value), (∀ f ∈ l, ∃ fuel y, DataW.trod enc P w 0 (fun _ => true) true fuel f.type ((cs.drop f.offset).take (P.cellsOf f.type)) = some y) → ∃ a, d.K w a ((cs.drop off).take d.sz) ∧ ok a
theorem OpensF.last {f : Field} {off : Nat} (h : Opens P w f.type d ok) (ho : f.offset = off) : OpensF P w [f] off d ok := by
  intro H enc cs hf
  obtain ⟨fuel, y, hy⟩ := hf f (List.mem_singleton.2 rfl)
  rw [ho, h.1] at hy
  exact h.2 H enc fuel _ y hy
theorem OpensF.cons {f : Field} {l : List Field} {off : Nat} {d2 : Kd β} {ok2 : β → Prop} (h : Opens P w f.type d ok) (ho : f.offset = off) (h2 : OpensF P w l (off + d.sz) d2 ok2) : OpensF P w (f :: l) off (Kd.pair d d2) (fun a => ok a.1 ∧ ok2 a.2) := by
  intro H enc cs hf
  obtain ⟨fuel, y, hy⟩ := hf f (List.mem_cons_self ..)
  rw [ho, h.1] at hy
  obtain ⟨a, ha, oa⟩ := h.2 H enc fuel _ y hy
  obtain ⟨b, hb, ob⟩ := h2 H enc cs (fun g hg => hf g (List.mem_cons_of_mem _ hg))
  refine ⟨(a, b), ⟨_, _, ?_, ha, hb⟩, oa, ob⟩
  show (cs.drop off).take (d.sz + d2.sz) = _
  rw [← List.drop_drop, List.take_add]
theorem Opens.struct {fs : Array Field} (h : OpensF P w fs.toList 0 d ok) (ht : P.underlying t = some (.struct fs)) (hc : P.cellsOf t = d.sz) : Opens P w t d ok := by
  refine ⟨hc, fun H enc fuel cs x hx => ?_⟩
  obtain ⟨xs, n, _, _, hl, hxl, hf⟩ := DataW.trod_struct ht hx
  obtain ⟨a, ha, oa⟩ := h H enc cs (fun f hm => by
    obtain ⟨i, hi⟩ := List.mem_iff_getElem?.1 hm
    have hi' : fs[i]? = some f := by simpa using hi
    have := hf i f hi'
    have hlt : i < xs.length := by have := (Array.getElem?_eq_some_iff.1 hi').1; omega
    exact ⟨n, _, this.trans (List.getElem?_eq_getElem hlt)⟩)
  rw [List.drop_zero, ← hc, ← hl, List.take_length] at ha
  exact ⟨a, ha, oa⟩
theorem Opens.iso (h : Opens P w t d ok) (f : β → α) (g : α → β) (hfg : ∀ a, f (g a) = a) : Opens P w t (Kd.iso d f) (fun b => ok (f b)) := by
  refine ⟨h.1, fun H enc fuel cs x hx => ?_⟩
  obtain ⟨a, ha, oa⟩ := h.2 H enc fuel cs x hx
  exact ⟨g a, by show d.K w (f (g a)) cs; rw [hfg]; exact ha, by show ok (f (g a)); rw [hfg]; exact oa⟩
/-- An argument. -/
theorem Opens.arg (h : Opens P w t d ok) {H : Type} {enc : TypeId × Value → H} {v : Value} {x : DataW H} {p : List MemPlace} (ht : DataW.Trod enc P w 0 (fun _ => true) true t v x p) : ∃ a, d.K w a v.cells.toList ∧ ok a := by
  obtain ⟨fuel, hf⟩ := ht
  exact h.2 H enc fuel _ _ hf
/-- An argument that is a slice. -/
theorem Opens.sliceArg (h : Opens P w e d ok) (ht : P.underlying t = some (.slice e)) (hc : P.cellsOf t = 1) {r : Reach} {b0 : Nat} {H : Type} {enc : TypeId × Value → H} {v : Value} {x : DataW H} {p : List MemPlace} (hv : Value.okWide P w r b0 t v) (hx : DataW.Trod enc P w 0 (fun _ => true) true t v x p) :
    ∃ (xs : List α) (A : Option Addr) (c : Nat), v = .slice A xs.length c ∧ xs.length ≤ c ∧ d.C w A xs.length xs ∧ xs.length ≤ maxLen ∧ ∀ y ∈ xs, ok y := by
  obtain ⟨A, len, cap, rfl⟩ := okWide_slice ht hv
  obtain ⟨xs, ⟨A', c, hcs, hl, hC⟩, h1, h2⟩ := (Opens.slice (e' := 0) h ht hc).arg hx
  have hcs' : [Value.slice A len cap] = [Value.slice A' xs.length c] := hcs
  simp only [List.cons.injEq, Value.slice.injEq, and_true] at hcs'
  obtain ⟨rfl, rfl, rfl⟩ := hcs'
  exact ⟨xs, A, cap, rfl, hl, hC, h1, h2⟩
/-- An argument that is a struct. -/
theorem Opens.structArg (h : Opens P w t d ok) {fs : Array Field} (ht : P.underlying t = some (.struct fs)) {r : Reach} {b0 : Nat} {H : Type} {enc : TypeId × Value → H} {v : Value} {x : DataW H} {p : List MemPlace} (hv : Value.okWide P w r b0 t v) (hx : DataW.Trod enc P w 0 (fun _ => true) true t v x p) :
    ∃ (a : α) (cs : List Value), v = .agg cs.toArray ∧ d.K w a cs ∧ ok a := by
  obtain ⟨cs, rfl, hsz⟩ := okWide_struct ht hv
  obtain ⟨a, ha, oa⟩ := h.arg hx
  exact ⟨a, cs.toList, by simp, ha, oa⟩
end Go.Proofs.YteefchdfdgfaaaaDoor.Hopen
namespace Go.Proofs.YteefchdfdgfaaaaDoor.Q
open Go.RowKit Go.Proofs.YteefchdfdgfaaaaDoorW.PrintWords Go.Proofs.YteefchdfdgfaaaaDoorW.PrintLast Go.Proofs.YteefchdfdgfaaaaDoorW.PrintMore
attribute [local go_sem] max2_int min2_int max_two min_two max_three min_three max_four min_four   -- for this text's walks alone
set_option linter.unusedVariables false
set_option linter.unusedSimpArgs false

-- SAYS What the listed variables of the library give: the handle of the type error.
-- FUNCS winnower/schema.Decode
-- NEEDS Globs
-- IMPORT Derived.Test.YteefchdfdgfaaaaDoorRows
-- IMPORT Derived.ProofKit
-- IMPORT Derived.LaidMore
-- IMPORT Derived.Lay
-- IMPORT Derived.LaidLaws
-- IMPORT Derived.LaidHandle
-- IMPORT Derived.OpenShut
-- IMPORT Derived.Stop.Joined
namespace Laid
open Go.ChangeShapes Go.WideShapes Go.ChangeAt Go.WideMaps Go.WideElems
def three : List (String × DataW Unit) := [("unicode/utf8.acceptRanges", Rows.laid_unicode_utf8_acceptRanges), ("errors.errorType", Rows.laid_errors_errorType), ("unicode/utf8.first", Rows.laid_unicode_utf8_first)]
theorem gErr : Tryd.prog.globalNamed "errors.errorType" = some 0 := by kernel_rfl
theorem rtErr : (Tryd.prog.cutTypes.find? (·.1 == "internal/reflectlite.rtype")).map (·.2) = some 117 := by kernel_rfl
theorem sizeT : Tryd.prog.types.size = 174 := by kernel_rfl
theorem oneRow : ((List.range 174).filter fun t => Tryd.prog.rowNamed t [101, 114, 114, 111, 114]) = [58] := by kernel_rfl
def two : List (String × DataW Unit) := [("unicode/utf8.acceptRanges", Rows.laid_unicode_utf8_acceptRanges), ("unicode/utf8.first", Rows.laid_unicode_utf8_first)]
/-- A start that reads as listed: the one that the door's own run leaves, Go's two tables laid. -/
noncomputable def start (os : Os) : World := (World.doorLaid Tryd.prog 400 os).layVars Tryd.prog two
theorem start_os (os : Os) : (start os).os = os := (World.layVars_os _ _ _).trans rfl
theorem start_shaped (os : Os) (args : Array Value) : ((start os).forCall (fun _ _ => 0) ⟨#[], args, []⟩).Shaped Tryd.prog := World.shaped_of_ZipB (by kernel_rfl) (by kernel_rfl)
theorem two_met (os : Os) (args : Array Value) : laidMet Tryd.prog (three.filter fun x => x.2.handleName?.isNone) ((start os).forCall (fun _ _ => 0) ⟨#[], args, []⟩).memory := by
  have e0 : (three.filter fun x => x.2.handleName?.isNone) = two := by kernel_rfl
  have e1 : (two.filter fun x => (["unicode/utf8.acceptRanges", "unicode/utf8.first"] : List String).contains x.1) = two := by kernel_rfl
  have e2 : (two.filter fun x => !(["unicode/utf8.acceptRanges", "unicode/utf8.first"] : List String).contains x.1) = [] := by kernel_rfl
  rw [e0]
  have h : laidMet Tryd.prog two (start os) := laidMet_layVars (w0 := World.doorLaid Tryd.prog 400 os) ["unicode/utf8.acceptRanges", "unicode/utf8.first"] [] (by rw [e1]; rfl) (by rw [e1]; kernel_rfl) (by rw [e1]; kernel_rfl) (by rw [e2]; exact LaidIn.none)
  exact h.of_heap (by simp [World.memory, World.forCall, Input.heap])
theorem door_met (os : Os) (args : Array Value) : laidMetH Tryd.prog three ((start os).forCall (fun _ _ => 0) ⟨#[], args, []⟩).memory :=
  laidMetH_of_parts3 (fuel := 8) (two_met os args) (by kernel_rfl) (by kernel_rfl)
theorem globs_of_laid {W : World} (h : laidMetH Tryd.prog three W) : Globs W := by
  have h' : handlesMet Tryd.prog [("errors.errorType", Rows.laid_errors_errorType)] W := h.2
  obtain ⟨name, u, ty, e1, e2, e3, e4, e5⟩ := h' _ (List.mem_singleton.2 rfl)
  have en : name = [101, 114, 114, 111, 114] := (Option.some.inj e1).symm
  subst en
  obtain rfl := Option.some.inj (rtErr.symm.trans e2)
  have hm : ty ∈ (List.range 174).filter fun t => Tryd.prog.rowNamed t [101, 114, 114, 111, 114] := List.mem_filter.2 ⟨List.mem_range.2 (by rw [← sizeT]; exact e3), e4⟩
  rw [oneRow] at hm
  obtain rfl := List.mem_singleton.1 hm
  unfold Globs
  have hh : Value.iface 117 (.agg #[typeHandle Tryd.prog 58]) = RT 58 := by kernel_rfl
  rw [← hh]
  simpa using World.var?_cell gErr e5 0
end Laid

end Go.Proofs.YteefchdfdgfaaaaDoor.Q
