/- The machine side of laws, written by wip/tools/myprint.py (the printer's way, with functions proved by hand put in); Lean checks it. Chapter 07: few columns, light rows, rows that are the same. Chapter 07: what bytes are decoded to, and back, in plain words. Chapter 07: SchemaBack, SchemaOnly, SchemaApart answer true. What the document's Get and GetLen of layer 1 answer, in plain words. -/
import Derived.Test.YteefchdfdgfaaaaDoorJ1
import Derived.Test.YteefchdfdgfaaaaDoorJ2
import Derived.Test.YteefchdfdgfaaaaDoorJ3
import Derived.Test.YteefchdfdgfaaaaDoorQx12
import Derived.Test.YteefchdfdgfaaaaDoorJ5
import Derived.Test.YteefchdfdgfaaaaDoorQx18
import Derived.Test.YteefchdfdgfaaaaDoorJ4
import Derived.Test.YteefchdfdgfaaaaDoorQx22
import Derived.Test.YteefchdfdgfaaaaDoorQx23
import Derived.Test.YteefchdfdgfaaaaDoorJ6
import Derived.Test.YteefchdfdgfaaaaDoorJ0
namespace Go.Proofs.YteefchdfdgfaaaaDoor.Q
open Go.RowKit Go.Proofs.YteefchdfdgfaaaaDoorW.PrintWords Go.Proofs.YteefchdfdgfaaaaDoorW.PrintLast Go.Proofs.YteefchdfdgfaaaaDoorW.PrintMore
attribute [local go_sem] max2_int min2_int max_two min_two max_three min_three max_four min_four   -- for this text's walks alone
set_option linter.unusedVariables false
set_option linter.unusedSimpArgs false

/-! ### winnowerlaw07_SchemaTells: function 3 -/
def winnowerlaw07_SchemaTells.j0 : Nat → List (S46) → ByteArray → Bool → Bool → List (S48) → Int → Int → Int → Int → Option (Bool)
  | 0, _, _, _, _, _, _, _, _, _ => none
  | k + 1, x1, x2, x7, x34, x301000, x301001, x301002, x301003, x301004 => if x34 = true then (some x7) else ((schema_Encode.f k x301000 x301001 x301002 x301003 x301004 x1).bind fun bt304 => ((winnowerref07_Encode.f k x301000 x301001 x301002 x301003 x301004 x1).bind fun bt308 => ((winnowerref01_Same.f bt304.1 bt308.1).bind fun t312 => (if t312 = true then (if bt304.2 = bt308.2 then ((schema_May.f x301000 x301001 x301002 x301003 x301004).bind fun t313 => ((winnowerref07_May.f k x301000 x301001 x301002 x301003 x301004).bind fun t314 => (if (t313 == t314) = true then ((schema_Find.f x301000 x301001 x301002 x301003 x301004 x2).bind fun t315 => ((winnowerref07_Find.f k x301000 x301001 x301002 x301003 x301004 x2).bind fun t316 => (if t315 = t316 then ((schema_Fits.f k x301000 x301001 x301002 x301003 x301004 x1).bind fun t317 => ((winnowerref07_Fits.f k x301000 x301001 x301002 x301003 x301004 x1).bind fun t318 => (some (t317 == t318)))) else (some false)))) else (some false)))) else (some false)) else (some false)))))
def winnowerlaw07_SchemaTells.f (k : Nat) (l0_0 : List (S48)) (a0_1 : Int) (a0_2 : Int) (a0_3 : Int) (a0_4 : Int) (l1 : List (S46)) (a2 : ByteArray) : Option (Bool) := (winnowerlaw07_awake.f).bind fun t301 => ((winnowerref07_Few.f k l0_0 a0_1 a0_2 a0_3 a0_4).bind fun t302 => ((winnowerref07_Light.f k l1).bind fun t303 => (if t301 = true then (if t302 = true then (if t303 = true then (winnowerlaw07_SchemaTells.j0 k l1 a2 t301 (decide ((a2.size : Int) > 100)) l0_0 a0_1 a0_2 a0_3 a0_4) else (winnowerlaw07_SchemaTells.j0 k l1 a2 t301 true l0_0 a0_1 a0_2 a0_3 a0_4)) else (winnowerlaw07_SchemaTells.j0 k l1 a2 t301 true l0_0 a0_1 a0_2 a0_3 a0_4)) else (winnowerlaw07_SchemaTells.j0 k l1 a2 t301 true l0_0 a0_1 a0_2 a0_3 a0_4))))
def winnowerlaw07_SchemaTells.T9 : Bool × List (List Nat × List Nat) := (true, [([], []), ([0], [0]), ([1], [1]), ([1], [1]), ([2, 3, 1], [1, 2, 3]), ([1, 4], [1, 4]), ([5, 1], [5]), ([6], [6]), ([7, 6, 6], [6, 7]), ([6], [6]), ([9, 8, 6], [6, 9]), ([8, 10, 6], [6, 8, 10]), ([6, 11], [6, 11]), ([12, 10], [12]), ([13], [13]), ([13], [13]), ([14, 15, 13, 13], [13, 14, 15]), ([13], [13]), ([13], [13]), ([17, 18, 16, 13], [13, 17, 18]), ([16, 19, 13], [13, 16, 19]), ([13, 20], [13, 20]), ([21, 19], [21]), ([22], [22]), ([22], [22]), ([23, 24, 22, 22], [22, 23, 24]), ([22], [22]), ([22], [22]), ([26, 27, 25, 22], [22, 26, 27]), ([25, 28, 22], [22, 25, 28]), ([22, 29], [22, 29]), ([30, 28, 0, 1, 2, 3, 4, 5, 6, 7, 8, 9, 10, 11, 12, 13, 14, 15, 16, 17, 18, 19, 20, 21, 22, 23, 24, 25, 26, 27, 28, 29, 30], [30])])
def winnowerlaw07_SchemaTells.B9 : List Nat := [0, 1, 3, 3, 15, 31, 63, 127, 255, 127, 1023, 2047, 4095, 8191, 16383, 16383, 65535, 16383, 16383, 524287, 1048575, 2097151, 4194303, 8388607, 8388607, 33554431, 8388607, 8388607, 268435455, 536870911, 1073741823, 2147483647]
theorem winnowerlaw07_SchemaTells.tab9 : rtab .any (opsOf Tryd.f3 9) = winnowerlaw07_SchemaTells.T9 := by kernel_rfl
theorem winnowerlaw07_SchemaTells.bits9 : waitsOk winnowerlaw07_SchemaTells.T9.2 winnowerlaw07_SchemaTells.B9 = true := by kernel_rfl
set_option maxHeartbeats 8000000 in
set_option maxRecDepth 100000 in
theorem winnowerlaw07_SchemaTells.calls (k : Nat) (A0_0 : Option Addr) (c0_0 : Nat) (l0_0 : List (S48)) (a0_1 : Int) (a0_2 : Int) (a0_3 : Int) (a0_4 : Int) (A1 : Option Addr) (c1 : Nat) (l1 : List (S46)) (a2 : ByteArray) (r : Bool) (w : World) (hr0_0 : Kd.C k48 w A0_0 l0_0.length l0_0) (hc0_0 : l0_0.length ≤ c0_0) (hr1 : Kd.C k46 w A1 l1.length l1) (hc1 : l1.length ≤ c1) (hG : Globs w) (hT_ : r = true) (h : winnowerlaw07_SchemaTells.f k l0_0 a0_1 a0_2 a0_3 a0_4 l1 a2 = some r) :
    Calls Tryd.prog 3 #[.agg #[.slice A0_0 l0_0.length c0_0, .int .i64 a0_1, .int .i64 a0_2, .int .i64 a0_3, .int .i64 a0_4], .slice A1 l1.length c1, .string a2] w fun e w' => e = .returned (.bool r) ∧ Below w.heap.size w w' := by
  have hu24 := Tryd.underlying24
  have HR0_0 := z05.mk hr0_0
  have HC0_0 := z05.mk hc0_0
  clear hr0_0 hc0_0
  have HR1 := z05.mk hr1
  have HC1 := z05.mk hc1
  clear hr1 hc1
  have HGL := z05.mk hG
  clear hG
  have HTRUE := z05.mk hT_
  clear hT_
  have HB := z05.mk (Below.refl w.heap.size w)
  have H : ((winnowerlaw07_awake.f).bind fun t301 => ((winnowerref07_Few.f k l0_0 a0_1 a0_2 a0_3 a0_4).bind fun t302 => ((winnowerref07_Light.f k l1).bind fun t303 => (if t301 = true then (if t302 = true then (if t303 = true then (winnowerlaw07_SchemaTells.j0 k l1 a2 t301 (decide ((a2.size : Int) > 100)) l0_0 a0_1 a0_2 a0_3 a0_4) else (winnowerlaw07_SchemaTells.j0 k l1 a2 t301 true l0_0 a0_1 a0_2 a0_3 a0_4)) else (winnowerlaw07_SchemaTells.j0 k l1 a2 t301 true l0_0 a0_1 a0_2 a0_3 a0_4)) else (winnowerlaw07_SchemaTells.j0 k l1 a2 t301 true l0_0 a0_1 a0_2 a0_3 a0_4))))) = some r := h
  clear h
  replace H := Option.bind_eq_some_iff.mp H
  obtain ⟨t301, A40, H⟩ := H
  replace H : ((winnowerref07_Few.f k l0_0 a0_1 a0_2 a0_3 a0_4).bind fun t302 => ((winnowerref07_Light.f k l1).bind fun t303 => (if t301 = true then (if t302 = true then (if t303 = true then (winnowerlaw07_SchemaTells.j0 k l1 a2 t301 (decide ((a2.size : Int) > 100)) l0_0 a0_1 a0_2 a0_3 a0_4) else (winnowerlaw07_SchemaTells.j0 k l1 a2 t301 true l0_0 a0_1 a0_2 a0_3 a0_4)) else (winnowerlaw07_SchemaTells.j0 k l1 a2 t301 true l0_0 a0_1 a0_2 a0_3 a0_4)) else (winnowerlaw07_SchemaTells.j0 k l1 a2 t301 true l0_0 a0_1 a0_2 a0_3 a0_4)))) = some r := H
  have A4 := z05.mk A40
  clear A40
  replace H := Option.bind_eq_some_iff.mp H
  obtain ⟨t302, A50, H⟩ := H
  replace H : ((winnowerref07_Light.f k l1).bind fun t303 => (if t301 = true then (if t302 = true then (if t303 = true then (winnowerlaw07_SchemaTells.j0 k l1 a2 t301 (decide ((a2.size : Int) > 100)) l0_0 a0_1 a0_2 a0_3 a0_4) else (winnowerlaw07_SchemaTells.j0 k l1 a2 t301 true l0_0 a0_1 a0_2 a0_3 a0_4)) else (winnowerlaw07_SchemaTells.j0 k l1 a2 t301 true l0_0 a0_1 a0_2 a0_3 a0_4)) else (winnowerlaw07_SchemaTells.j0 k l1 a2 t301 true l0_0 a0_1 a0_2 a0_3 a0_4))) = some r := H
  have A5 := z05.mk A50
  clear A50
  replace H := Option.bind_eq_some_iff.mp H
  obtain ⟨t303, A60, H⟩ := H
  replace H : (if t301 = true then (if t302 = true then (if t303 = true then (winnowerlaw07_SchemaTells.j0 k l1 a2 t301 (decide ((a2.size : Int) > 100)) l0_0 a0_1 a0_2 a0_3 a0_4) else (winnowerlaw07_SchemaTells.j0 k l1 a2 t301 true l0_0 a0_1 a0_2 a0_3 a0_4)) else (winnowerlaw07_SchemaTells.j0 k l1 a2 t301 true l0_0 a0_1 a0_2 a0_3 a0_4)) else (winnowerlaw07_SchemaTells.j0 k l1 a2 t301 true l0_0 a0_1 a0_2 a0_3 a0_4)) = some r := H
  have A6 := z05.mk A60
  clear A60
  have HC7 := z05.mk H
  clear H
  go_enter Tryd.func3, Tryd.ntmps3
  go_upto_region 4 with (first | ((with_reducible refine gate_dst (N := 3) rfl ?_); (try (refine gate_guard (by rfl) ?_; dsimp only)); refine box_event ?hg (N := 3) ?hd (cs := #[.slice A0_0 l0_0.length c0_0, .int .i64 a0_1, .int .i64 a0_2, .int .i64 a0_3, .int .i64 a0_4]) (t := 24) ?hr ?_; (case hd => rfl); (case hg => rfl); (case hr => first | (go_simp; done) | (go_simp; rfl)); intro gb300 hg w8 hbox hb; have n0_ := z05.mk (z0a (by repeat (first | (with_reducible first | exact HB.out | apply z03 | apply z00 | apply z04) | exact HB.out)) hb); have n1_ := z05.mk (hbox); have n2_ := z05.mk ((by rw [hg]; exact (z0b (by repeat (first | (with_reducible first | exact HB.out | apply z03 | apply z00 | apply z04) | exact HB.out))) : w.heap.size ≤ gb300)); have n3_ := z05.mk ((by rw [hg]; exact (z0b (by repeat (first | (with_reducible first | exact HB.out | apply z03 | apply z00 | apply z04) | exact HB.out))) : w.heap.size ≤ gb300)); clear HB; have HB := n0_; have BK300 := n1_; have GW300 := n2_; have GE300 := n3_; clear n0_ n1_ n2_ n3_; clear hb hbox hg) | ((with_reducible refine gate_callee (f := 8) rfl ?_); refine goesL_ (some 15) rfl rfl Tryd.func8 (by kernel_rfl) rfl #[] rfl (by (try simp only [List.map_toArray, List.map_cons, List.map_nil]); first | done | rfl | (simp only [List.length_drop, List.length_take]; rfl)) ?_; (with_reducible refine (winnowerlaw07_awake.calls  t301 _ ?side1 A4.out).mono ?_); (case side1 => exact globs_below HGL.out (by repeat (first | (with_reducible first | exact HB.out | apply z03 | apply z00 | apply z04 | refine z08 ?_ GE300.out) | exact HB.out))); rintro e w9 ⟨rfl, hb⟩; refine ⟨_, rfl, ?_⟩; have n0_ := z05.mk (blk_below (g := gb300) (o := .cells #[.slice A0_0 l0_0.length c0_0, .int .i64 a0_1, .int .i64 a0_2, .int .i64 a0_3, .int .i64 a0_4] 24 (0, 0)) (by (with_reducible repeat (first | refine z07 ?_ _ | refine z09 ?_ | refine z06 ?_ _)); exact BK300.out) hb); have n1_ := z05.mk (z0a (by repeat (first | (with_reducible first | exact HB.out | apply z03 | apply z00 | apply z04 | refine z08 ?_ GE300.out) | exact HB.out)) hb); clear BK300; clear HB; have BK300 := n0_; have HB := n1_; clear n0_ n1_; (try clear hb); (try clear hb2); (try clear hk); (try clear hi); have hcz10_0 : w9.cell? ⟨gb300, 0, none⟩ = some (.slice A0_0 l0_0.length c0_0) := (z02 BK300.out 0).trans rfl; have hcz10_1 : w9.cell? ⟨gb300, 1, none⟩ = some (.int .i64 a0_1) := (z02 BK300.out 1).trans rfl; have hcz10_2 : w9.cell? ⟨gb300, 2, none⟩ = some (.int .i64 a0_2) := (z02 BK300.out 2).trans rfl; have hcz10_3 : w9.cell? ⟨gb300, 3, none⟩ = some (.int .i64 a0_3) := (z02 BK300.out 3).trans rfl; have hcz10_4 : w9.cell? ⟨gb300, 4, none⟩ = some (.int .i64 a0_4) := (z02 BK300.out 4).trans rfl; have hfz10_0 := z01 BK300.out 0; have hfz10_1 := z01 BK300.out 1; have hfz10_2 := z01 BK300.out 2; have hfz10_3 := z01 BK300.out 3; have hfz10_4 := z01 BK300.out 4) | ((with_reducible refine gate_callee (f := 9) rfl ?_); refine goesL_ (some 17) rfl rfl Tryd.func9 (by kernel_rfl) rfl #[.agg #[.slice A0_0 l0_0.length c0_0, .int .i64 a0_1, .int .i64 a0_2, .int .i64 a0_3, .int .i64 a0_4]] rfl (by (try simp only [List.map_toArray, List.map_cons, List.map_nil]); first | done | rfl | (simp only [List.length_drop, List.length_take]; rfl)) ?_; (with_reducible refine (winnowerref07_Few.calls k _ _ l0_0 a0_1 a0_2 a0_3 a0_4 t302 _ ?side1 ?side2 A5.out).mono ?_); (case side1 => repeat (first | exact (Kd.C_below HR0_0.out HB.out) | (with_reducible refine Kd.C_alloc ?_ _) | (with_reducible refine Kd.C_drewN ?_ _) | (with_reducible refine Kd.C_drew ?_))); (case side2 => exact HC0_0.out); rintro e w11 ⟨rfl, hb⟩; refine ⟨_, rfl, ?_⟩; have n0_ := z05.mk (blk_below (g := gb300) (o := .cells #[.slice A0_0 l0_0.length c0_0, .int .i64 a0_1, .int .i64 a0_2, .int .i64 a0_3, .int .i64 a0_4] 24 (0, 0)) (by (with_reducible repeat (first | refine z07 ?_ _ | refine z09 ?_ | refine z06 ?_ _)); exact BK300.out) hb); have n1_ := z05.mk (z0a (by repeat (first | (with_reducible first | exact HB.out | apply z03 | apply z00 | apply z04 | refine z08 ?_ GE300.out) | exact HB.out)) hb); clear BK300; clear HB; have BK300 := n0_; have HB := n1_; clear n0_ n1_; (try clear hb); (try clear hb2); (try clear hk); (try clear hi)) | ((with_reducible refine gate_callee (f := 10) rfl ?_); refine goesL_ (some 19) rfl rfl Tryd.func10 (by kernel_rfl) rfl #[.slice A1 l1.length c1] rfl (by (try simp only [List.map_toArray, List.map_cons, List.map_nil]); first | done | rfl | (simp only [List.length_drop, List.length_take]; rfl)) ?_; (with_reducible refine (winnowerref07_Light.calls k _ _ l1 t303 _ ?side1 ?side2 A6.out).mono ?_); (case side1 => repeat (first | exact (Kd.C_below HR1.out HB.out) | (with_reducible refine Kd.C_alloc ?_ _) | (with_reducible refine Kd.C_drewN ?_ _) | (with_reducible refine Kd.C_drew ?_))); (case side2 => exact HC1.out); rintro e w' ⟨rfl, ⟨nd, rfl⟩⟩; refine ⟨_, rfl, ?_⟩))
  (try simp only [Act.put, List.setIfInBounds_toArray, List.set_cons_zero, List.set_cons_succ])
  go_cut [34] (fun v34 wc => ∃ (kq : Nat) (x34_6 : Bool), v34 = .bool x34_6 ∧ z05 (winnowerlaw07_SchemaTells.j0 kq l1 a2 t301 x34_6 l0_0 a0_1 a0_2 a0_3 a0_4 = some r) ∧ z05 (kq ≤ k) ∧ z05 (wc.heap[gb300]? = some (.cells #[(.slice A0_0 l0_0.length c0_0), .int .i64 a0_1, .int .i64 a0_2, .int .i64 a0_3, .int .i64 a0_4] 24 (0, 0))) ∧ z05 (Below w.heap.size w wc))
  case first =>
    have H := HC7.out
    clear HC7
    by_cases c12 : t301 = true
    · subst c12
      have H1 : (if t302 = true then (if t303 = true then (winnowerlaw07_SchemaTells.j0 k l1 a2 true (decide ((a2.size : Int) > 100)) l0_0 a0_1 a0_2 a0_3 a0_4) else (winnowerlaw07_SchemaTells.j0 k l1 a2 true true l0_0 a0_1 a0_2 a0_3 a0_4)) else (winnowerlaw07_SchemaTells.j0 k l1 a2 true true l0_0 a0_1 a0_2 a0_3 a0_4)) = some r := by rw [if_pos rfl] at H; exact H
      clear H
      have H := H1
      clear H1
      by_cases c13 : t302 = true
      · subst c13
        have H1 : (if t303 = true then (winnowerlaw07_SchemaTells.j0 k l1 a2 true (decide ((a2.size : Int) > 100)) l0_0 a0_1 a0_2 a0_3 a0_4) else (winnowerlaw07_SchemaTells.j0 k l1 a2 true true l0_0 a0_1 a0_2 a0_3 a0_4)) = some r := by rw [if_pos rfl] at H; exact H
        clear H
        have H := H1
        clear H1
        by_cases c14 : t303 = true
        · subst c14
          have H1 : (winnowerlaw07_SchemaTells.j0 k l1 a2 true (decide ((a2.size : Int) > 100)) l0_0 a0_1 a0_2 a0_3 a0_4) = some r := by rw [if_pos rfl] at H; exact H
          clear H
          have H := H1
          clear H1
          have H' := z05.mk H
          clear H
          go_wp2
          go_meet
          case rel => exact ⟨_, (decide ((a2.size : Int) > 100)), (by first | rfl | (simp; done) | (simp [*]; done)), H', ⟨by first | omega | exact Nat.le_refl _⟩, ⟨by (with_reducible repeat (first | refine z07 ?_ _ | refine z09 ?_ | refine z06 ?_ _)); exact BK300.out⟩, ⟨by repeat (first | (with_reducible first | exact HB.out | apply z03 | apply z00 | apply z04 | refine z08 ?_ GE300.out) | exact HB.out)⟩⟩
        · replace c14 := Bool.eq_false_iff.mpr c14
          subst c14
          have H1 : (winnowerlaw07_SchemaTells.j0 k l1 a2 true true l0_0 a0_1 a0_2 a0_3 a0_4) = some r := by rw [if_neg (show ¬ (false = true) by decide)] at H; exact H
          clear H
          have H := H1
          clear H1
          have H' := z05.mk H
          clear H
          go_wp2
          go_meet
          case rel => exact ⟨_, (true), (by first | rfl | (simp; done) | (simp [*]; done)), H', ⟨by first | omega | exact Nat.le_refl _⟩, ⟨by (with_reducible repeat (first | refine z07 ?_ _ | refine z09 ?_ | refine z06 ?_ _)); exact BK300.out⟩, ⟨by repeat (first | (with_reducible first | exact HB.out | apply z03 | apply z00 | apply z04 | refine z08 ?_ GE300.out) | exact HB.out)⟩⟩
      · replace c13 := Bool.eq_false_iff.mpr c13
        subst c13
        have H1 : (winnowerlaw07_SchemaTells.j0 k l1 a2 true true l0_0 a0_1 a0_2 a0_3 a0_4) = some r := by rw [if_neg (show ¬ (false = true) by decide)] at H; exact H
        clear H
        have H := H1
        clear H1
        have H' := z05.mk H
        clear H
        go_wp2
        go_meet
        case rel => exact ⟨_, (true), (by first | rfl | (simp; done) | (simp [*]; done)), H', ⟨by first | omega | exact Nat.le_refl _⟩, ⟨by (with_reducible repeat (first | refine z07 ?_ _ | refine z09 ?_ | refine z06 ?_ _)); exact BK300.out⟩, ⟨by repeat (first | (with_reducible first | exact HB.out | apply z03 | apply z00 | apply z04 | refine z08 ?_ GE300.out) | exact HB.out)⟩⟩
    · replace c12 := Bool.eq_false_iff.mpr c12
      subst c12
      have H1 : (winnowerlaw07_SchemaTells.j0 k l1 a2 false true l0_0 a0_1 a0_2 a0_3 a0_4) = some r := by rw [if_neg (show ¬ (false = true) by decide)] at H; exact H
      clear H
      have H := H1
      clear H1
      have H' := z05.mk H
      clear H
      go_wp2
      go_meet
      case rel => exact ⟨_, (true), (by first | rfl | (simp; done) | (simp [*]; done)), H', ⟨by first | omega | exact Nat.le_refl _⟩, ⟨by (with_reducible repeat (first | refine z07 ?_ _ | refine z09 ?_ | refine z06 ?_ _)); exact BK300.out⟩, ⟨by repeat (first | (with_reducible first | exact HB.out | apply z03 | apply z00 | apply z04 | refine z08 ?_ GE300.out) | exact HB.out)⟩⟩
  case rest =>
    clear HC7
    try clear c1
    try clear p2
    try clear c3
    try clear c8
    try clear c9
    try clear c10
    try clear c12
    try clear c13
    try clear c14
    try clear hcz10_0
    try clear hcz10_1
    try clear hcz10_2
    try clear hcz10_3
    try clear hcz10_4
    try clear hfz10_0
    try clear hfz10_1
    try clear hfz10_2
    try clear hfz10_3
    try clear hfz10_4
    obtain ⟨kq, x34_6, rfl, HA, HJ6, BK300, HB⟩ := hcut
    cases kq with
    | zero => exact absurd HA.out (by simp [winnowerlaw07_SchemaTells.j0])
    | succ kj6 =>
      have H := HA.out
      clear HA
      simp only [winnowerlaw07_SchemaTells.j0] at H
      by_cases c15 : x34_6 = true
      · subst c15
        have H1 : (some t301) = some r := by rw [if_pos rfl] at H; exact H
        clear H
        have H := H1
        clear H1
        obtain rfl := Option.some.inj H
        go_wp2
        go_ret
        exact ⟨by first | rfl | (simp [z0e, z0d] <;> rfl) | (refine congrArg (fun b_ : Bool => Ending.returned (Value.bool b_)) ?_; simp; done) | (simp [*, z0e, z0d] <;> rfl), by repeat (first | (with_reducible first | exact HB.out | apply z03 | apply z00 | apply z04 | refine z08 ?_ GE300.out) | exact HB.out)⟩
      · replace c15 := Bool.eq_false_iff.mpr c15
        subst c15
        have H1 : ((schema_Encode.f kj6 l0_0 a0_1 a0_2 a0_3 a0_4 l1).bind fun bt304 => ((winnowerref07_Encode.f kj6 l0_0 a0_1 a0_2 a0_3 a0_4 l1).bind fun bt308 => ((winnowerref01_Same.f bt304.1 bt308.1).bind fun t312 => (if t312 = true then (if bt304.2 = bt308.2 then ((schema_May.f l0_0 a0_1 a0_2 a0_3 a0_4).bind fun t313 => ((winnowerref07_May.f kj6 l0_0 a0_1 a0_2 a0_3 a0_4).bind fun t314 => (if (t313 == t314) = true then ((schema_Find.f l0_0 a0_1 a0_2 a0_3 a0_4 a2).bind fun t315 => ((winnowerref07_Find.f kj6 l0_0 a0_1 a0_2 a0_3 a0_4 a2).bind fun t316 => (if t315 = t316 then ((schema_Fits.f kj6 l0_0 a0_1 a0_2 a0_3 a0_4 l1).bind fun t317 => ((winnowerref07_Fits.f kj6 l0_0 a0_1 a0_2 a0_3 a0_4 l1).bind fun t318 => (some (t317 == t318)))) else (some false)))) else (some false)))) else (some false)) else (some false))))) = some r := by rw [if_neg (show ¬ (false = true) by decide)] at H; exact H
        clear H
        have H := H1
        clear H1
        replace H := Option.bind_eq_some_iff.mp H
        obtain ⟨⟨t304, t307⟩, A160, H⟩ := H
        replace H : ((winnowerref07_Encode.f kj6 l0_0 a0_1 a0_2 a0_3 a0_4 l1).bind fun bt308 => ((winnowerref01_Same.f t304 bt308.1).bind fun t312 => (if t312 = true then (if t307 = bt308.2 then ((schema_May.f l0_0 a0_1 a0_2 a0_3 a0_4).bind fun t313 => ((winnowerref07_May.f kj6 l0_0 a0_1 a0_2 a0_3 a0_4).bind fun t314 => (if (t313 == t314) = true then ((schema_Find.f l0_0 a0_1 a0_2 a0_3 a0_4 a2).bind fun t315 => ((winnowerref07_Find.f kj6 l0_0 a0_1 a0_2 a0_3 a0_4 a2).bind fun t316 => (if t315 = t316 then ((schema_Fits.f kj6 l0_0 a0_1 a0_2 a0_3 a0_4 l1).bind fun t317 => ((winnowerref07_Fits.f kj6 l0_0 a0_1 a0_2 a0_3 a0_4 l1).bind fun t318 => (some (t317 == t318)))) else (some false)))) else (some false)))) else (some false)) else (some false)))) = some r := H
        have A16 := z05.mk A160
        clear A160
        replace H := Option.bind_eq_some_iff.mp H
        obtain ⟨⟨t308, t311⟩, A170, H⟩ := H
        replace H : ((winnowerref01_Same.f t304 t308).bind fun t312 => (if t312 = true then (if t307 = t311 then ((schema_May.f l0_0 a0_1 a0_2 a0_3 a0_4).bind fun t313 => ((winnowerref07_May.f kj6 l0_0 a0_1 a0_2 a0_3 a0_4).bind fun t314 => (if (t313 == t314) = true then ((schema_Find.f l0_0 a0_1 a0_2 a0_3 a0_4 a2).bind fun t315 => ((winnowerref07_Find.f kj6 l0_0 a0_1 a0_2 a0_3 a0_4 a2).bind fun t316 => (if t315 = t316 then ((schema_Fits.f kj6 l0_0 a0_1 a0_2 a0_3 a0_4 l1).bind fun t317 => ((winnowerref07_Fits.f kj6 l0_0 a0_1 a0_2 a0_3 a0_4 l1).bind fun t318 => (some (t317 == t318)))) else (some false)))) else (some false)))) else (some false)) else (some false))) = some r := H
        have A17 := z05.mk A170
        clear A170
        replace H := Option.bind_eq_some_iff.mp H
        obtain ⟨t312, A180, H⟩ := H
        replace H : (if t312 = true then (if t307 = t311 then ((schema_May.f l0_0 a0_1 a0_2 a0_3 a0_4).bind fun t313 => ((winnowerref07_May.f kj6 l0_0 a0_1 a0_2 a0_3 a0_4).bind fun t314 => (if (t313 == t314) = true then ((schema_Find.f l0_0 a0_1 a0_2 a0_3 a0_4 a2).bind fun t315 => ((winnowerref07_Find.f kj6 l0_0 a0_1 a0_2 a0_3 a0_4 a2).bind fun t316 => (if t315 = t316 then ((schema_Fits.f kj6 l0_0 a0_1 a0_2 a0_3 a0_4 l1).bind fun t317 => ((winnowerref07_Fits.f kj6 l0_0 a0_1 a0_2 a0_3 a0_4 l1).bind fun t318 => (some (t317 == t318)))) else (some false)))) else (some false)))) else (some false)) else (some false)) = some r := H
        have A18 := z05.mk A180
        clear A180
        by_cases c19 : t312 = true
        · subst c19
          have H1 : (if t307 = t311 then ((schema_May.f l0_0 a0_1 a0_2 a0_3 a0_4).bind fun t313 => ((winnowerref07_May.f kj6 l0_0 a0_1 a0_2 a0_3 a0_4).bind fun t314 => (if (t313 == t314) = true then ((schema_Find.f l0_0 a0_1 a0_2 a0_3 a0_4 a2).bind fun t315 => ((winnowerref07_Find.f kj6 l0_0 a0_1 a0_2 a0_3 a0_4 a2).bind fun t316 => (if t315 = t316 then ((schema_Fits.f kj6 l0_0 a0_1 a0_2 a0_3 a0_4 l1).bind fun t317 => ((winnowerref07_Fits.f kj6 l0_0 a0_1 a0_2 a0_3 a0_4 l1).bind fun t318 => (some (t317 == t318)))) else (some false)))) else (some false)))) else (some false)) = some r := by rw [if_pos rfl] at H; exact H
          clear H
          have H := H1
          clear H1
          by_cases c20 : t307 = t311
          · rw [if_pos c20] at H
            have c20b0 : (t307 == t311) = true := beq_iff_eq.mpr c20
            have c20b1 : (t307 != t311) = false := bne_eq_false_iff_eq.mpr c20
            clear c20
            replace H := Option.bind_eq_some_iff.mp H
            obtain ⟨t313, A210, H⟩ := H
            replace H : ((winnowerref07_May.f kj6 l0_0 a0_1 a0_2 a0_3 a0_4).bind fun t314 => (if (t313 == t314) = true then ((schema_Find.f l0_0 a0_1 a0_2 a0_3 a0_4 a2).bind fun t315 => ((winnowerref07_Find.f kj6 l0_0 a0_1 a0_2 a0_3 a0_4 a2).bind fun t316 => (if t315 = t316 then ((schema_Fits.f kj6 l0_0 a0_1 a0_2 a0_3 a0_4 l1).bind fun t317 => ((winnowerref07_Fits.f kj6 l0_0 a0_1 a0_2 a0_3 a0_4 l1).bind fun t318 => (some (t317 == t318)))) else (some false)))) else (some false))) = some r := H
            have A21 := z05.mk A210
            clear A210
            replace H := Option.bind_eq_some_iff.mp H
            obtain ⟨t314, A220, H⟩ := H
            replace H : (if (t313 == t314) = true then ((schema_Find.f l0_0 a0_1 a0_2 a0_3 a0_4 a2).bind fun t315 => ((winnowerref07_Find.f kj6 l0_0 a0_1 a0_2 a0_3 a0_4 a2).bind fun t316 => (if t315 = t316 then ((schema_Fits.f kj6 l0_0 a0_1 a0_2 a0_3 a0_4 l1).bind fun t317 => ((winnowerref07_Fits.f kj6 l0_0 a0_1 a0_2 a0_3 a0_4 l1).bind fun t318 => (some (t317 == t318)))) else (some false)))) else (some false)) = some r := H
            have A22 := z05.mk A220
            clear A220
            by_cases c23 : (t313 == t314) = true
            · rw [if_pos c23] at H
              have c23b0 : (t313 == t314) = true := c23
              (try (have c23b1 : decide (t313 = t314) = true := by simpa using c23))
              (try (have c23b2 : (t313 == t314) = true := by simpa using c23))
              clear c23
              replace H := Option.bind_eq_some_iff.mp H
              obtain ⟨t315, A240, H⟩ := H
              replace H : ((winnowerref07_Find.f kj6 l0_0 a0_1 a0_2 a0_3 a0_4 a2).bind fun t316 => (if t315 = t316 then ((schema_Fits.f kj6 l0_0 a0_1 a0_2 a0_3 a0_4 l1).bind fun t317 => ((winnowerref07_Fits.f kj6 l0_0 a0_1 a0_2 a0_3 a0_4 l1).bind fun t318 => (some (t317 == t318)))) else (some false))) = some r := H
              have A24 := z05.mk A240
              clear A240
              replace H := Option.bind_eq_some_iff.mp H
              obtain ⟨t316, A250, H⟩ := H
              replace H : (if t315 = t316 then ((schema_Fits.f kj6 l0_0 a0_1 a0_2 a0_3 a0_4 l1).bind fun t317 => ((winnowerref07_Fits.f kj6 l0_0 a0_1 a0_2 a0_3 a0_4 l1).bind fun t318 => (some (t317 == t318)))) else (some false)) = some r := H
              have A25 := z05.mk A250
              clear A250
              by_cases c26 : t315 = t316
              · rw [if_pos c26] at H
                have c26b0 : (t315 == t316) = true := beq_iff_eq.mpr c26
                have c26b1 : (t315 != t316) = false := bne_eq_false_iff_eq.mpr c26
                clear c26
                replace H := Option.bind_eq_some_iff.mp H
                obtain ⟨t317, A270, H⟩ := H
                replace H : ((winnowerref07_Fits.f kj6 l0_0 a0_1 a0_2 a0_3 a0_4 l1).bind fun t318 => (some (t317 == t318))) = some r := H
                have A27 := z05.mk A270
                clear A270
                replace H := Option.bind_eq_some_iff.mp H
                obtain ⟨t318, A280, H⟩ := H
                replace H : (some (t317 == t318)) = some r := H
                have A28 := z05.mk A280
                clear A280
                obtain rfl := Option.some.inj H
                have hcz29_0 : wc.cell? ⟨gb300, 0, none⟩ = some (.slice A0_0 l0_0.length c0_0) := (z02 BK300.out 0).trans rfl
                have hcz29_1 : wc.cell? ⟨gb300, 1, none⟩ = some (.int .i64 a0_1) := (z02 BK300.out 1).trans rfl
                have hcz29_2 : wc.cell? ⟨gb300, 2, none⟩ = some (.int .i64 a0_2) := (z02 BK300.out 2).trans rfl
                have hcz29_3 : wc.cell? ⟨gb300, 3, none⟩ = some (.int .i64 a0_3) := (z02 BK300.out 3).trans rfl
                have hcz29_4 : wc.cell? ⟨gb300, 4, none⟩ = some (.int .i64 a0_4) := (z02 BK300.out 4).trans rfl
                have hfz29_0 := z01 BK300.out 0
                have hfz29_1 := z01 BK300.out 1
                have hfz29_2 := z01 BK300.out 2
                have hfz29_3 := z01 BK300.out 3
                have hfz29_4 := z01 BK300.out 4
                try go_wp2_with (first | ((with_reducible refine gate_callee (f := 11) rfl ?_); refine goesL_ (some 39) rfl rfl Tryd.func11 (by kernel_rfl) rfl #[.agg #[.slice A0_0 l0_0.length c0_0, .int .i64 a0_1, .int .i64 a0_2, .int .i64 a0_3, .int .i64 a0_4], .slice A1 l1.length c1] rfl (by (try simp only [List.map_toArray, List.map_cons, List.map_nil]); first | done | rfl | (simp only [List.length_drop, List.length_take]; rfl)) ?_; (with_reducible refine (schema_Encode.calls kj6 _ _ l0_0 a0_1 a0_2 a0_3 a0_4 _ _ l1 t304 t307 _ ?side1 ?side2 ?side3 ?side4 A16.out).mono ?_); (case side1 => repeat (first | exact (Kd.C_below HR0_0.out HB.out) | (with_reducible refine Kd.C_alloc ?_ _) | (with_reducible refine Kd.C_drewN ?_ _) | (with_reducible refine Kd.C_drew ?_))); (case side2 => exact HC0_0.out); (case side3 => repeat (first | exact (Kd.C_below HR1.out HB.out) | (with_reducible refine Kd.C_alloc ?_ _) | (with_reducible refine Kd.C_drewN ?_ _) | (with_reducible refine Kd.C_drew ?_))); (case side4 => exact HC1.out); rintro e w30 ⟨v305, rfl, ho0, hb⟩; refine ⟨_, rfl, ?_⟩; have n0_ := z05.mk (Kd.R_lower ho0 (z0b (by repeat (first | (with_reducible first | exact HB.out | apply z03 | apply z00 | apply z04 | refine z08 ?_ GE300.out) | exact HB.out)))); have n1_ := z05.mk (blk_below (g := gb300) (o := .cells #[.slice A0_0 l0_0.length c0_0, .int .i64 a0_1, .int .i64 a0_2, .int .i64 a0_3, .int .i64 a0_4] 24 (0, 0)) (by (with_reducible repeat (first | refine z07 ?_ _ | refine z09 ?_ | refine z06 ?_ _)); exact BK300.out) hb); have n2_ := z05.mk (z0a (by repeat (first | (with_reducible first | exact HB.out | apply z03 | apply z00 | apply z04 | refine z08 ?_ GE300.out) | exact HB.out)) hb); clear BK300; clear HB; have HO306 := n0_; have BK300 := n1_; have HB := n2_; clear n0_ n1_ n2_; (try clear hb); (try clear hb2); (try clear hk); (try clear hi); (try clear ho0); have hcz31_0 : w30.cell? ⟨gb300, 0, none⟩ = some (.slice A0_0 l0_0.length c0_0) := (z02 BK300.out 0).trans rfl; have hcz31_1 : w30.cell? ⟨gb300, 1, none⟩ = some (.int .i64 a0_1) := (z02 BK300.out 1).trans rfl; have hcz31_2 : w30.cell? ⟨gb300, 2, none⟩ = some (.int .i64 a0_2) := (z02 BK300.out 2).trans rfl; have hcz31_3 : w30.cell? ⟨gb300, 3, none⟩ = some (.int .i64 a0_3) := (z02 BK300.out 3).trans rfl; have hcz31_4 : w30.cell? ⟨gb300, 4, none⟩ = some (.int .i64 a0_4) := (z02 BK300.out 4).trans rfl; have hfz31_0 := z01 BK300.out 0; have hfz31_1 := z01 BK300.out 1; have hfz31_2 := z01 BK300.out 2; have hfz31_3 := z01 BK300.out 3; have hfz31_4 := z01 BK300.out 4) | ((with_reducible refine gate_callee (f := 12) rfl ?_); refine goesL_ (some 45) rfl rfl Tryd.func12 (by kernel_rfl) rfl #[.agg #[.slice A0_0 l0_0.length c0_0, .int .i64 a0_1, .int .i64 a0_2, .int .i64 a0_3, .int .i64 a0_4], .slice A1 l1.length c1] rfl (by (try simp only [List.map_toArray, List.map_cons, List.map_nil]); first | done | rfl | (simp only [List.length_drop, List.length_take]; rfl)) ?_; (with_reducible refine (winnowerref07_Encode.calls kj6 _ _ l0_0 a0_1 a0_2 a0_3 a0_4 _ _ l1 t308 t311 _ ?side1 ?side2 ?side3 ?side4 A17.out).mono ?_); (case side1 => repeat (first | exact (Kd.C_below HR0_0.out HB.out) | (with_reducible refine Kd.C_alloc ?_ _) | (with_reducible refine Kd.C_drewN ?_ _) | (with_reducible refine Kd.C_drew ?_))); (case side2 => exact HC0_0.out); (case side3 => repeat (first | exact (Kd.C_below HR1.out HB.out) | (with_reducible refine Kd.C_alloc ?_ _) | (with_reducible refine Kd.C_drewN ?_ _) | (with_reducible refine Kd.C_drew ?_))); (case side4 => exact HC1.out); rintro e w32 ⟨v309, rfl, ho0, hb⟩; refine ⟨_, rfl, ?_⟩; have n0_ := z05.mk (Kd.R_elder' (by (with_reducible repeat (first | apply Kd.R_alloc | apply Kd.R_drewN | apply Kd.R_drew)); exact HO306.out) (Kd.R_base ho0) hb); have n1_ := z05.mk (Kd.R_lower (Kd.R_new' ho0 (Kd.R_lt (by (with_reducible repeat (first | apply Kd.R_alloc | apply Kd.R_drewN | apply Kd.R_drew)); exact HO306.out))) (z0b (by repeat (first | (with_reducible first | exact HB.out | apply z03 | apply z00 | apply z04 | refine z08 ?_ GE300.out) | exact HB.out)))); have n2_ := z05.mk (blk_below (g := gb300) (o := .cells #[.slice A0_0 l0_0.length c0_0, .int .i64 a0_1, .int .i64 a0_2, .int .i64 a0_3, .int .i64 a0_4] 24 (0, 0)) (by (with_reducible repeat (first | refine z07 ?_ _ | refine z09 ?_ | refine z06 ?_ _)); exact BK300.out) hb); have n3_ := z05.mk (z0a (by repeat (first | (with_reducible first | exact HB.out | apply z03 | apply z00 | apply z04 | refine z08 ?_ GE300.out) | exact HB.out)) hb); clear HO306; clear BK300; clear HB; have HO306 := n0_; have HO310 := n1_; have BK300 := n2_; have HB := n3_; clear n0_ n1_ n2_ n3_; (try clear hb); (try clear hb2); (try clear hk); (try clear hi); (try clear ho0); obtain ⟨Ao33, co33, eo33⟩ := Kd.R_slice HO306.out; subst eo33; obtain ⟨Ao34, co34, eo34⟩ := Kd.R_slice HO310.out; subst eo34) | ((with_reducible refine gate_callee (f := 13) rfl ?_); refine goesL_ (some 50) rfl rfl Tryd.func13 (by kernel_rfl) rfl #[.slice Ao33 t304.length co33, .slice Ao34 t308.length co34] rfl (by (try simp only [List.map_toArray, List.map_cons, List.map_nil]); first | done | rfl | (simp only [List.length_drop, List.length_take]; rfl)) ?_; (with_reducible refine (winnowerref01_Same.calls _ _ t304 _ _ t308 true _ ?side1 ?side2 ?side3 ?side4 A18.out).mono ?_); (case side1 => repeat (first | exact (Kd.R_reads' HO306.out).2.2 | (with_reducible refine Kd.C_alloc ?_ _) | (with_reducible refine Kd.C_drewN ?_ _) | (with_reducible refine Kd.C_drew ?_))); (case side2 => exact (Kd.R_reads' HO306.out).2.1); (case side3 => repeat (first | exact (Kd.R_reads' HO310.out).2.2 | (with_reducible refine Kd.C_alloc ?_ _) | (with_reducible refine Kd.C_drewN ?_ _) | (with_reducible refine Kd.C_drew ?_))); (case side4 => exact (Kd.R_reads' HO310.out).2.1); rintro e w' ⟨rfl, ⟨nd, rfl⟩⟩; refine ⟨_, rfl, ?_⟩))
                (try (rw [drewN_self w32]; generalize hq_ : World.drewN w32 _ = w32; have n0_ : z05 (Kd.R (Kd.int .u8) 5 w32 w.heap.size (fun k_ => some k_ ≠ (.slice Ao34 t308.length co34 : Value).ownBlock) (.slice Ao33 t304.length co33) t304) := ⟨by rw [← hq_]; exact (by (with_reducible repeat (first | apply Kd.R_alloc | apply Kd.R_drewN | apply Kd.R_drew)); exact Kd.R_mono HO306.out (fun _ hk => hk.2))⟩; have n1_ : z05 (Kd.R (Kd.int .u8) 5 w32 w.heap.size (fun k_ => some k_ ≠ (.slice Ao33 t304.length co33 : Value).ownBlock) (.slice Ao34 t308.length co34) t308) := ⟨by rw [← hq_]; exact (by (with_reducible repeat (first | apply Kd.R_alloc | apply Kd.R_drewN | apply Kd.R_drew)); exact Kd.R_mono HO310.out (fun _ hk => hk.2))⟩; have n2_ : z05 (w32.heap[gb300]? = some (.cells #[.slice A0_0 l0_0.length c0_0, .int .i64 a0_1, .int .i64 a0_2, .int .i64 a0_3, .int .i64 a0_4] 24 (0, 0))) := ⟨by rw [← hq_]; exact (by (with_reducible repeat (first | refine z07 ?_ _ | refine z09 ?_ | refine z06 ?_ _)); exact BK300.out)⟩; have n3_ : z05 (Below w.heap.size w w32) := ⟨by rw [← hq_]; exact (by repeat (first | (with_reducible first | exact HB.out | apply z03 | apply z00 | apply z04 | refine z08 ?_ GE300.out) | exact HB.out))⟩; clear HO306 HO310 BK300 HB hq_; have HO306 := n0_; have HO310 := n1_; have BK300 := n2_; have HB := n3_; clear n0_ n1_ n2_ n3_))
                have n2_ := z05.mk (z09 BK300.out); have n3_ := z05.mk (z04 HB.out); clear HO306; clear HO310; clear BK300; clear HB; have BK300 := n2_; have HB := n3_; clear n2_ n3_
                refine start_ (n := 32) (S := fun w' => w'.cell? ⟨gb300, 0, none⟩ = some (.slice A0_0 l0_0.length c0_0) ∧ w'.cell? ⟨gb300, 1, none⟩ = some (.int .i64 a0_1) ∧ w'.cell? ⟨gb300, 2, none⟩ = some (.int .i64 a0_2) ∧ w'.cell? ⟨gb300, 3, none⟩ = some (.int .i64 a0_3) ∧ w'.cell? ⟨gb300, 4, none⟩ = some (.int .i64 a0_4)) (ds := []) #[false, false, false, false, false, false, false, false, false, false, false, false, false, false, false, false, false, false, false, false, false, false, false, false, false, false, false, false, false, false, false, false] (by kernel_rfl) rfl rfl ⟨(z02 BK300.out 0).trans rfl, (z02 BK300.out 1).trans rfl, (z02 BK300.out 2).trans rfl, (z02 BK300.out 3).trans rfl, (z02 BK300.out 4).trans rfl⟩ (fun hHeld => ?_); refine with_tabW winnowerlaw07_SchemaTells.tab9 winnowerlaw07_SchemaTells.bits9 (fun HT_ HW_ => ?_)
                generalize w32.drew = w35 at BK300 HB hHeld ⊢
                refine pure_ (i := 0) (N := some 51) (v := ?_) (a' := ?_) #[true, false, false, false, false, false, false, false, false, false, false, false, false, false, false, false, false, false, false, false, false, false, false, false, false, false, false, false, false, false, false, false] rfl rfl (any_of HT_.out (by kernel_rfl)) (fun _ _ _ h => h) (Or.inl ⟨by rfl, ?_⟩) ?_ ?_
                rotate_left
                · intro w'
                  go_simp
                  with_reducible rfl
                rotate_left
                · simp only [Act.put, List.setIfInBounds_toArray, List.set_cons_zero, List.set_cons_succ, i64_w, i32_w]
                  rfl
                refine pure_ (i := 1) (N := some 52) (v := ?_) (a' := ?_) #[true, true, false, false, false, false, false, false, false, false, false, false, false, false, false, false, false, false, false, false, false, false, false, false, false, false, false, false, false, false, false, false] rfl rfl (any_of HT_.out (by kernel_rfl)) (fun _ _ _ h => h) (Or.inl ⟨by rfl, ?_⟩) ?_ ?_
                rotate_left
                · intro w'
                  go_simp
                  with_reducible rfl
                rotate_left
                · simp only [Act.put, List.setIfInBounds_toArray, List.set_cons_zero, List.set_cons_succ, i64_w, i32_w]
                  rfl
                refine pure_ (i := 2) (N := some 53) (v := ?_) (a' := ?_) #[true, true, true, false, false, false, false, false, false, false, false, false, false, false, false, false, false, false, false, false, false, false, false, false, false, false, false, false, false, false, false, false] rfl rfl (any_of HT_.out (by kernel_rfl)) (fun _ _ _ h => h) (Or.inl ⟨by rfl, ?_⟩) ?_ ?_
                rotate_left
                · intro w'
                  go_simp
                  with_reducible rfl
                rotate_left
                · simp only [Act.put, List.setIfInBounds_toArray, List.set_cons_zero, List.set_cons_succ, i64_w, i32_w]
                  rfl
                refine pure_ (i := 3) (N := some 54) (v := ?_) (a' := ?_) #[true, true, true, true, false, false, false, false, false, false, false, false, false, false, false, false, false, false, false, false, false, false, false, false, false, false, false, false, false, false, false, false] rfl rfl (any_of HT_.out (by kernel_rfl)) (fun _ _ _ h => h) (Or.inl ⟨by rfl, ?_⟩) ?_ ?_
                rotate_left
                · intro w'
                  go_simp
                  with_reducible rfl
                rotate_left
                · simp only [Act.put, List.setIfInBounds_toArray, List.set_cons_zero, List.set_cons_succ, i64_w, i32_w]
                  rfl
                refine pure_ (i := 4) (N := some 55) (v := ?_) (a' := ?_) #[true, true, true, true, true, false, false, false, false, false, false, false, false, false, false, false, false, false, false, false, false, false, false, false, false, false, false, false, false, false, false, false] rfl rfl (any_of HT_.out (by kernel_rfl)) (fun _ _ _ h => h) (Or.inl ⟨by rfl, ?_⟩) ?_ ?_
                rotate_left
                · intro w'
                  go_simp
                  with_reducible rfl
                rotate_left
                · simp only [Act.put, List.setIfInBounds_toArray, List.set_cons_zero, List.set_cons_succ, i64_w, i32_w]
                  rfl
                refine pure_ (i := 5) (N := some 56) (v := ?_) (a' := ?_) #[true, true, true, true, true, true, false, false, false, false, false, false, false, false, false, false, false, false, false, false, false, false, false, false, false, false, false, false, false, false, false, false] rfl rfl (any_of HT_.out (by kernel_rfl)) (fun _ _ _ h => h) (Or.inl ⟨by rfl, ?_⟩) ?_ ?_
                rotate_left
                · intro w'
                  go_simp
                  with_reducible rfl
                rotate_left
                · simp only [Act.put, List.setIfInBounds_toArray, List.set_cons_zero, List.set_cons_succ, i64_w, i32_w]
                  rfl
                refine pure_ (i := 6) (N := some 57) (v := ?_) (a' := ?_) #[true, true, true, true, true, true, true, false, false, false, false, false, false, false, false, false, false, false, false, false, false, false, false, false, false, false, false, false, false, false, false, false] rfl rfl (any_of HT_.out (by kernel_rfl)) (fun _ _ _ h => h) (Or.inl ⟨by rfl, ?_⟩) ?_ ?_
                rotate_left
                · intro w'
                  go_simp
                  with_reducible rfl
                rotate_left
                · simp only [Act.put, List.setIfInBounds_toArray, List.set_cons_zero, List.set_cons_succ, i64_w, i32_w]
                  rfl
                refine take_ (i := 7) (N := some 58) (v := ?_) (a' := ?_) #[true, true, true, true, true, true, true, true, false, false, false, false, false, false, false, false, false, false, false, false, false, false, false, false, false, false, false, false, false, false, false, false] rfl rfl (take_ofW HT_.out HW_.out (by kernel_rfl)) (fun _ _ _ h => h) (Or.inl ⟨by rfl, ?_⟩) hHeld ?_ ?_
                rotate_left
                · rintro w' ⟨s0, s1, s2, s3, s4⟩
                  go_simp
                  with_reducible rfl
                rotate_left
                · simp only [Act.put, List.setIfInBounds_toArray, List.set_cons_zero, List.set_cons_succ, i64_w, i32_w]
                  rfl
                refine take_ (i := 9) (N := some 60) (v := ?_) (a' := ?_) #[true, true, true, true, true, true, true, true, false, true, false, false, false, false, false, false, false, false, false, false, false, false, false, false, false, false, false, false, false, false, false, false] rfl rfl (take_ofW HT_.out HW_.out (by kernel_rfl)) (fun _ _ _ h => h) (Or.inl ⟨by rfl, ?_⟩) hHeld ?_ ?_
                rotate_left
                · rintro w' ⟨s0, s1, s2, s3, s4⟩
                  go_simp
                  with_reducible rfl
                rotate_left
                · simp only [Act.put, List.setIfInBounds_toArray, List.set_cons_zero, List.set_cons_succ, i64_w, i32_w]
                  rfl
                refine one_ (i := 8) (N := some 59) #[true, true, true, true, true, true, true, true, true, true, false, false, false, false, false, false, false, false, false, false, false, false, false, false, false, false, false, false, false, false, false, false] rfl rfl (one_of HT_.out (by kernel_rfl)) (by decide) (fun K hK => ?_)
                refine goes_ Tryd.func14 (by kernel_rfl) rfl #[.agg #[.slice A0_0 l0_0.length c0_0, .int .i64 a0_1, .int .i64 a0_2, .int .i64 a0_3, .int .i64 a0_4]] (by rfl) rfl rfl (by (try simp only [List.map_toArray, List.map_cons, List.map_nil]); first | done | rfl | (simp only [List.length_drop, List.length_take]; rfl)) ?_
                with_reducible refine (schema_May.calls _ _ l0_0 a0_1 a0_2 a0_3 a0_4 t313 _ ?side1 ?side2 A21.out).mono ?_
                (case side1 => repeat (first | exact (Kd.C_below HR0_0.out HB.out) | (with_reducible refine Kd.C_alloc ?_ _) | (with_reducible refine Kd.C_drewN ?_ _) | (with_reducible refine Kd.C_drew ?_)))
                (case side2 => exact HC0_0.out)
                rintro e w36 ⟨rfl, hb⟩
                refine ⟨_, rfl, ?_⟩
                have n2_ := z05.mk (blk_below (g := gb300) (o := .cells #[.slice A0_0 l0_0.length c0_0, .int .i64 a0_1, .int .i64 a0_2, .int .i64 a0_3, .int .i64 a0_4] 24 (0, 0)) (by (with_reducible repeat (first | refine z07 ?_ _ | refine z09 ?_ | refine z06 ?_ _)); exact BK300.out) hb); have n3_ := z05.mk (z0a (by repeat (first | (with_reducible first | exact HB.out | apply z03 | apply z00 | apply z04 | refine z08 ?_ GE300.out) | exact HB.out)) hb); clear BK300; clear HB; have BK300 := n2_; have HB := n3_; clear n2_ n3_; (try clear hb); (try clear hb2); (try clear hk); (try clear hi)
                refine hK.out _ _ ⟨(z02 BK300.out 0).trans rfl, (z02 BK300.out 1).trans rfl, (z02 BK300.out 2).trans rfl, (z02 BK300.out 3).trans rfl, (z02 BK300.out 4).trans rfl⟩ (fun hHeld => ?_)
                clear hK K
                refine norm_ (a' := ?_) ?_ ?_
                rotate_left
                · show Act.put _ (some 59) _ = _
                  simp only [Act.put, List.setIfInBounds_toArray, List.set_cons_zero, List.set_cons_succ, i64_w, i32_w]
                  rfl
                refine one_ (i := 10) (N := some 61) #[true, true, true, true, true, true, true, true, true, true, true, false, false, false, false, false, false, false, false, false, false, false, false, false, false, false, false, false, false, false, false, false] rfl rfl (one_of HT_.out (by kernel_rfl)) (by decide) (fun K hK => ?_)
                refine goes_ Tryd.func15 (by kernel_rfl) rfl #[.agg #[.slice A0_0 l0_0.length c0_0, .int .i64 a0_1, .int .i64 a0_2, .int .i64 a0_3, .int .i64 a0_4]] (by rfl) rfl rfl (by (try simp only [List.map_toArray, List.map_cons, List.map_nil]); first | done | rfl | (simp only [List.length_drop, List.length_take]; rfl)) ?_
                with_reducible refine (winnowerref07_May.calls kj6 _ _ l0_0 a0_1 a0_2 a0_3 a0_4 t314 _ ?side1 ?side2 A22.out).mono ?_
                (case side1 => repeat (first | exact (Kd.C_below HR0_0.out HB.out) | (with_reducible refine Kd.C_alloc ?_ _) | (with_reducible refine Kd.C_drewN ?_ _) | (with_reducible refine Kd.C_drew ?_)))
                (case side2 => exact HC0_0.out)
                rintro e w37 ⟨rfl, hb⟩
                refine ⟨_, rfl, ?_⟩
                have n2_ := z05.mk (blk_below (g := gb300) (o := .cells #[.slice A0_0 l0_0.length c0_0, .int .i64 a0_1, .int .i64 a0_2, .int .i64 a0_3, .int .i64 a0_4] 24 (0, 0)) (by (with_reducible repeat (first | refine z07 ?_ _ | refine z09 ?_ | refine z06 ?_ _)); exact BK300.out) hb); have n3_ := z05.mk (z0a (by repeat (first | (with_reducible first | exact HB.out | apply z03 | apply z00 | apply z04 | refine z08 ?_ GE300.out) | exact HB.out)) hb); clear BK300; clear HB; have BK300 := n2_; have HB := n3_; clear n2_ n3_; (try clear hb); (try clear hb2); (try clear hk); (try clear hi)
                refine hK.out _ _ ⟨(z02 BK300.out 0).trans rfl, (z02 BK300.out 1).trans rfl, (z02 BK300.out 2).trans rfl, (z02 BK300.out 3).trans rfl, (z02 BK300.out 4).trans rfl⟩ (fun hHeld => ?_)
                clear hK K
                refine norm_ (a' := ?_) ?_ ?_
                rotate_left
                · show Act.put _ (some 61) _ = _
                  simp only [Act.put, List.setIfInBounds_toArray, List.set_cons_zero, List.set_cons_succ, i64_w, i32_w]
                  rfl
                refine pure_ (i := 11) (N := some 62) (v := ?_) (a' := ?_) #[true, true, true, true, true, true, true, true, true, true, true, true, false, false, false, false, false, false, false, false, false, false, false, false, false, false, false, false, false, false, false, false] rfl rfl (any_of HT_.out (by kernel_rfl)) (fun _ _ _ h => h) (Or.inl ⟨by rfl, ?_⟩) ?_ ?_
                rotate_left
                · intro w'
                  go_simp
                  with_reducible rfl
                rotate_left
                · simp only [Act.put, List.setIfInBounds_toArray, List.set_cons_zero, List.set_cons_succ, i64_w, i32_w]
                  rfl
                refine pure_ (i := 12) (N := some 63) (v := ?_) (a' := ?_) #[true, true, true, true, true, true, true, true, true, true, true, true, true, false, false, false, false, false, false, false, false, false, false, false, false, false, false, false, false, false, false, false] rfl rfl (any_of HT_.out (by kernel_rfl)) (fun _ _ _ h => h) (Or.inl ⟨by rfl, ?_⟩) ?_ ?_
                rotate_left
                · intro w'
                  go_simp
                  with_reducible rfl
                rotate_left
                · simp only [Act.put, List.setIfInBounds_toArray, List.set_cons_zero, List.set_cons_succ, i64_w, i32_w]
                  rfl
                refine pure_ (i := 13) (N := some 64) (v := ?_) (a' := ?_) #[true, true, true, true, true, true, true, true, true, true, true, true, true, true, false, false, false, false, false, false, false, false, false, false, false, false, false, false, false, false, false, false] rfl rfl (any_of HT_.out (by kernel_rfl)) (fun _ _ _ h => h) (Or.inl ⟨by rfl, ?_⟩) ?_ ?_
                rotate_left
                · intro w'
                  go_simp
                  with_reducible rfl
                rotate_left
                · simp only [Act.put, List.setIfInBounds_toArray, List.set_cons_zero, List.set_cons_succ, i64_w, i32_w]
                  rfl
                refine pure_ (i := 15) (N := some 66) (v := ?_) (a' := ?_) #[true, true, true, true, true, true, true, true, true, true, true, true, true, true, false, true, false, false, false, false, false, false, false, false, false, false, false, false, false, false, false, false] rfl rfl (any_of HT_.out (by kernel_rfl)) (fun _ _ _ h => h) (Or.inl ⟨by rfl, ?_⟩) ?_ ?_
                rotate_left
                · intro w'
                  go_simp
                  with_reducible rfl
                rotate_left
                · simp only [Act.put, List.setIfInBounds_toArray, List.set_cons_zero, List.set_cons_succ, i64_w, i32_w]
                  rfl
                refine pure_ (i := 18) (N := some 69) (v := ?_) (a' := ?_) #[true, true, true, true, true, true, true, true, true, true, true, true, true, true, false, true, false, false, true, false, false, false, false, false, false, false, false, false, false, false, false, false] rfl rfl (any_of HT_.out (by kernel_rfl)) (fun _ _ _ h => h) (Or.inl ⟨by rfl, ?_⟩) ?_ ?_
                rotate_left
                · intro w'
                  go_simp
                  with_reducible rfl
                rotate_left
                · simp only [Act.put, List.setIfInBounds_toArray, List.set_cons_zero, List.set_cons_succ, i64_w, i32_w]
                  rfl
                refine take_ (i := 14) (N := some 65) (v := ?_) (a' := ?_) #[true, true, true, true, true, true, true, true, true, true, true, true, true, true, true, true, false, false, true, false, false, false, false, false, false, false, false, false, false, false, false, false] rfl rfl (take_ofW HT_.out HW_.out (by kernel_rfl)) (fun _ _ _ h => h) (Or.inl ⟨by rfl, ?_⟩) hHeld ?_ ?_
                rotate_left
                · rintro w' ⟨s0, s1, s2, s3, s4⟩
                  go_simp
                  with_reducible rfl
                rotate_left
                · simp only [Act.put, List.setIfInBounds_toArray, List.set_cons_zero, List.set_cons_succ, i64_w, i32_w]
                  rfl
                refine take_ (i := 17) (N := some 68) (v := ?_) (a' := ?_) #[true, true, true, true, true, true, true, true, true, true, true, true, true, true, true, true, false, true, true, false, false, false, false, false, false, false, false, false, false, false, false, false] rfl rfl (take_ofW HT_.out HW_.out (by kernel_rfl)) (fun _ _ _ h => h) (Or.inl ⟨by rfl, ?_⟩) hHeld ?_ ?_
                rotate_left
                · rintro w' ⟨s0, s1, s2, s3, s4⟩
                  go_simp
                  with_reducible rfl
                rotate_left
                · simp only [Act.put, List.setIfInBounds_toArray, List.set_cons_zero, List.set_cons_succ, i64_w, i32_w]
                  rfl
                refine one_ (i := 16) (N := some 67) #[true, true, true, true, true, true, true, true, true, true, true, true, true, true, true, true, true, true, true, false, false, false, false, false, false, false, false, false, false, false, false, false] rfl rfl (one_of HT_.out (by kernel_rfl)) (by decide) (fun K hK => ?_)
                refine goes_ Tryd.func16 (by kernel_rfl) rfl #[.agg #[.slice A0_0 l0_0.length c0_0, .int .i64 a0_1, .int .i64 a0_2, .int .i64 a0_3, .int .i64 a0_4], .string a2] (by rfl) rfl rfl (by (try simp only [List.map_toArray, List.map_cons, List.map_nil]); first | done | rfl | (simp only [List.length_drop, List.length_take]; rfl)) ?_
                with_reducible refine (schema_Find.calls _ _ l0_0 a0_1 a0_2 a0_3 a0_4 a2 t315 _ ?side1 ?side2 A24.out).mono ?_
                (case side1 => repeat (first | exact (Kd.C_below HR0_0.out HB.out) | (with_reducible refine Kd.C_alloc ?_ _) | (with_reducible refine Kd.C_drewN ?_ _) | (with_reducible refine Kd.C_drew ?_)))
                (case side2 => exact HC0_0.out)
                rintro e w38 ⟨rfl, hb⟩
                refine ⟨_, rfl, ?_⟩
                have n2_ := z05.mk (blk_below (g := gb300) (o := .cells #[.slice A0_0 l0_0.length c0_0, .int .i64 a0_1, .int .i64 a0_2, .int .i64 a0_3, .int .i64 a0_4] 24 (0, 0)) (by (with_reducible repeat (first | refine z07 ?_ _ | refine z09 ?_ | refine z06 ?_ _)); exact BK300.out) hb); have n3_ := z05.mk (z0a (by repeat (first | (with_reducible first | exact HB.out | apply z03 | apply z00 | apply z04 | refine z08 ?_ GE300.out) | exact HB.out)) hb); clear BK300; clear HB; have BK300 := n2_; have HB := n3_; clear n2_ n3_; (try clear hb); (try clear hb2); (try clear hk); (try clear hi)
                refine hK.out _ _ ⟨(z02 BK300.out 0).trans rfl, (z02 BK300.out 1).trans rfl, (z02 BK300.out 2).trans rfl, (z02 BK300.out 3).trans rfl, (z02 BK300.out 4).trans rfl⟩ (fun hHeld => ?_)
                clear hK K
                refine norm_ (a' := ?_) ?_ ?_
                rotate_left
                · show Act.put _ (some 67) _ = _
                  simp only [Act.put, List.setIfInBounds_toArray, List.set_cons_zero, List.set_cons_succ, i64_w, i32_w]
                  rfl
                refine one_ (i := 19) (N := some 70) #[true, true, true, true, true, true, true, true, true, true, true, true, true, true, true, true, true, true, true, true, false, false, false, false, false, false, false, false, false, false, false, false] rfl rfl (one_of HT_.out (by kernel_rfl)) (by decide) (fun K hK => ?_)
                refine goes_ Tryd.func17 (by kernel_rfl) rfl #[.agg #[.slice A0_0 l0_0.length c0_0, .int .i64 a0_1, .int .i64 a0_2, .int .i64 a0_3, .int .i64 a0_4], .string a2] (by rfl) rfl rfl (by (try simp only [List.map_toArray, List.map_cons, List.map_nil]); first | done | rfl | (simp only [List.length_drop, List.length_take]; rfl)) ?_
                with_reducible refine (winnowerref07_Find.calls kj6 _ _ l0_0 a0_1 a0_2 a0_3 a0_4 a2 t316 _ ?side1 ?side2 A25.out).mono ?_
                (case side1 => repeat (first | exact (Kd.C_below HR0_0.out HB.out) | (with_reducible refine Kd.C_alloc ?_ _) | (with_reducible refine Kd.C_drewN ?_ _) | (with_reducible refine Kd.C_drew ?_)))
                (case side2 => exact HC0_0.out)
                rintro e w39 ⟨rfl, hb⟩
                refine ⟨_, rfl, ?_⟩
                have n2_ := z05.mk (blk_below (g := gb300) (o := .cells #[.slice A0_0 l0_0.length c0_0, .int .i64 a0_1, .int .i64 a0_2, .int .i64 a0_3, .int .i64 a0_4] 24 (0, 0)) (by (with_reducible repeat (first | refine z07 ?_ _ | refine z09 ?_ | refine z06 ?_ _)); exact BK300.out) hb); have n3_ := z05.mk (z0a (by repeat (first | (with_reducible first | exact HB.out | apply z03 | apply z00 | apply z04 | refine z08 ?_ GE300.out) | exact HB.out)) hb); clear BK300; clear HB; have BK300 := n2_; have HB := n3_; clear n2_ n3_; (try clear hb); (try clear hb2); (try clear hk); (try clear hi)
                refine hK.out _ _ ⟨(z02 BK300.out 0).trans rfl, (z02 BK300.out 1).trans rfl, (z02 BK300.out 2).trans rfl, (z02 BK300.out 3).trans rfl, (z02 BK300.out 4).trans rfl⟩ (fun hHeld => ?_)
                clear hK K
                refine norm_ (a' := ?_) ?_ ?_
                rotate_left
                · show Act.put _ (some 70) _ = _
                  simp only [Act.put, List.setIfInBounds_toArray, List.set_cons_zero, List.set_cons_succ, i64_w, i32_w]
                  rfl
                refine pure_ (i := 20) (N := some 71) (v := ?_) (a' := ?_) #[true, true, true, true, true, true, true, true, true, true, true, true, true, true, true, true, true, true, true, true, true, false, false, false, false, false, false, false, false, false, false, false] rfl rfl (any_of HT_.out (by kernel_rfl)) (fun _ _ _ h => h) (Or.inl ⟨by rfl, ?_⟩) ?_ ?_
                rotate_left
                · intro w'
                  go_simp
                  with_reducible rfl
                rotate_left
                · simp only [Act.put, List.setIfInBounds_toArray, List.set_cons_zero, List.set_cons_succ, i64_w, i32_w]
                  rfl
                refine pure_ (i := 21) (N := some 72) (v := ?_) (a' := ?_) #[true, true, true, true, true, true, true, true, true, true, true, true, true, true, true, true, true, true, true, true, true, true, false, false, false, false, false, false, false, false, false, false] rfl rfl (any_of HT_.out (by kernel_rfl)) (fun _ _ _ h => h) (Or.inl ⟨by rfl, ?_⟩) ?_ ?_
                rotate_left
                · intro w'
                  go_simp
                  with_reducible rfl
                rotate_left
                · simp only [Act.put, List.setIfInBounds_toArray, List.set_cons_zero, List.set_cons_succ, i64_w, i32_w]
                  rfl
                refine pure_ (i := 22) (N := some 73) (v := ?_) (a' := ?_) #[true, true, true, true, true, true, true, true, true, true, true, true, true, true, true, true, true, true, true, true, true, true, true, false, false, false, false, false, false, false, false, false] rfl rfl (any_of HT_.out (by kernel_rfl)) (fun _ _ _ h => h) (Or.inl ⟨by rfl, ?_⟩) ?_ ?_
                rotate_left
                · intro w'
                  go_simp
                  with_reducible rfl
                rotate_left
                · simp only [Act.put, List.setIfInBounds_toArray, List.set_cons_zero, List.set_cons_succ, i64_w, i32_w]
                  rfl
                refine pure_ (i := 24) (N := some 75) (v := ?_) (a' := ?_) #[true, true, true, true, true, true, true, true, true, true, true, true, true, true, true, true, true, true, true, true, true, true, true, false, true, false, false, false, false, false, false, false] rfl rfl (any_of HT_.out (by kernel_rfl)) (fun _ _ _ h => h) (Or.inl ⟨by rfl, ?_⟩) ?_ ?_
                rotate_left
                · intro w'
                  go_simp
                  with_reducible rfl
                rotate_left
                · simp only [Act.put, List.setIfInBounds_toArray, List.set_cons_zero, List.set_cons_succ, i64_w, i32_w]
                  rfl
                refine pure_ (i := 27) (N := some 78) (v := ?_) (a' := ?_) #[true, true, true, true, true, true, true, true, true, true, true, true, true, true, true, true, true, true, true, true, true, true, true, false, true, false, false, true, false, false, false, false] rfl rfl (any_of HT_.out (by kernel_rfl)) (fun _ _ _ h => h) (Or.inl ⟨by rfl, ?_⟩) ?_ ?_
                rotate_left
                · intro w'
                  go_simp
                  with_reducible rfl
                rotate_left
                · simp only [Act.put, List.setIfInBounds_toArray, List.set_cons_zero, List.set_cons_succ, i64_w, i32_w]
                  rfl
                refine take_ (i := 23) (N := some 74) (v := ?_) (a' := ?_) #[true, true, true, true, true, true, true, true, true, true, true, true, true, true, true, true, true, true, true, true, true, true, true, true, true, false, false, true, false, false, false, false] rfl rfl (take_ofW HT_.out HW_.out (by kernel_rfl)) (fun _ _ _ h => h) (Or.inl ⟨by rfl, ?_⟩) hHeld ?_ ?_
                rotate_left
                · rintro w' ⟨s0, s1, s2, s3, s4⟩
                  go_simp
                  with_reducible rfl
                rotate_left
                · simp only [Act.put, List.setIfInBounds_toArray, List.set_cons_zero, List.set_cons_succ, i64_w, i32_w]
                  rfl
                refine take_ (i := 26) (N := some 77) (v := ?_) (a' := ?_) #[true, true, true, true, true, true, true, true, true, true, true, true, true, true, true, true, true, true, true, true, true, true, true, true, true, false, true, true, false, false, false, false] rfl rfl (take_ofW HT_.out HW_.out (by kernel_rfl)) (fun _ _ _ h => h) (Or.inl ⟨by rfl, ?_⟩) hHeld ?_ ?_
                rotate_left
                · rintro w' ⟨s0, s1, s2, s3, s4⟩
                  go_simp
                  with_reducible rfl
                rotate_left
                · simp only [Act.put, List.setIfInBounds_toArray, List.set_cons_zero, List.set_cons_succ, i64_w, i32_w]
                  rfl
                refine one_ (i := 25) (N := some 76) #[true, true, true, true, true, true, true, true, true, true, true, true, true, true, true, true, true, true, true, true, true, true, true, true, true, true, true, true, false, false, false, false] rfl rfl (one_of HT_.out (by kernel_rfl)) (by decide) (fun K hK => ?_)
                refine goes_ Tryd.func18 (by kernel_rfl) rfl #[.agg #[.slice A0_0 l0_0.length c0_0, .int .i64 a0_1, .int .i64 a0_2, .int .i64 a0_3, .int .i64 a0_4], .slice A1 l1.length c1] (by rfl) rfl rfl (by (try simp only [List.map_toArray, List.map_cons, List.map_nil]); first | done | rfl | (simp only [List.length_drop, List.length_take]; rfl)) ?_
                with_reducible refine (schema_Fits.calls kj6 _ _ l0_0 a0_1 a0_2 a0_3 a0_4 _ _ l1 t317 _ ?side1 ?side2 ?side3 ?side4 A27.out).mono ?_
                (case side1 => repeat (first | exact (Kd.C_below HR0_0.out HB.out) | (with_reducible refine Kd.C_alloc ?_ _) | (with_reducible refine Kd.C_drewN ?_ _) | (with_reducible refine Kd.C_drew ?_)))
                (case side2 => exact HC0_0.out)
                (case side3 => repeat (first | exact (Kd.C_below HR1.out HB.out) | (with_reducible refine Kd.C_alloc ?_ _) | (with_reducible refine Kd.C_drewN ?_ _) | (with_reducible refine Kd.C_drew ?_)))
                (case side4 => exact HC1.out)
                rintro e w40 ⟨rfl, hb⟩
                refine ⟨_, rfl, ?_⟩
                have n2_ := z05.mk (blk_below (g := gb300) (o := .cells #[.slice A0_0 l0_0.length c0_0, .int .i64 a0_1, .int .i64 a0_2, .int .i64 a0_3, .int .i64 a0_4] 24 (0, 0)) (by (with_reducible repeat (first | refine z07 ?_ _ | refine z09 ?_ | refine z06 ?_ _)); exact BK300.out) hb); have n3_ := z05.mk (z0a (by repeat (first | (with_reducible first | exact HB.out | apply z03 | apply z00 | apply z04 | refine z08 ?_ GE300.out) | exact HB.out)) hb); clear BK300; clear HB; have BK300 := n2_; have HB := n3_; clear n2_ n3_; (try clear hb); (try clear hb2); (try clear hk); (try clear hi)
                refine hK.out _ _ ⟨(z02 BK300.out 0).trans rfl, (z02 BK300.out 1).trans rfl, (z02 BK300.out 2).trans rfl, (z02 BK300.out 3).trans rfl, (z02 BK300.out 4).trans rfl⟩ (fun hHeld => ?_)
                clear hK K
                refine norm_ (a' := ?_) ?_ ?_
                rotate_left
                · show Act.put _ (some 76) _ = _
                  simp only [Act.put, List.setIfInBounds_toArray, List.set_cons_zero, List.set_cons_succ, i64_w, i32_w]
                  rfl
                refine one_ (i := 28) (N := some 79) #[true, true, true, true, true, true, true, true, true, true, true, true, true, true, true, true, true, true, true, true, true, true, true, true, true, true, true, true, true, false, false, false] rfl rfl (one_of HT_.out (by kernel_rfl)) (by decide) (fun K hK => ?_)
                refine goes_ Tryd.func19 (by kernel_rfl) rfl #[.agg #[.slice A0_0 l0_0.length c0_0, .int .i64 a0_1, .int .i64 a0_2, .int .i64 a0_3, .int .i64 a0_4], .slice A1 l1.length c1] (by rfl) rfl rfl (by (try simp only [List.map_toArray, List.map_cons, List.map_nil]); first | done | rfl | (simp only [List.length_drop, List.length_take]; rfl)) ?_
                with_reducible refine (winnowerref07_Fits.calls kj6 _ _ l0_0 a0_1 a0_2 a0_3 a0_4 _ _ l1 t318 _ ?side1 ?side2 ?side3 ?side4 A28.out).mono ?_
                (case side1 => repeat (first | exact (Kd.C_below HR0_0.out HB.out) | (with_reducible refine Kd.C_alloc ?_ _) | (with_reducible refine Kd.C_drewN ?_ _) | (with_reducible refine Kd.C_drew ?_)))
                (case side2 => exact HC0_0.out)
                (case side3 => repeat (first | exact (Kd.C_below HR1.out HB.out) | (with_reducible refine Kd.C_alloc ?_ _) | (with_reducible refine Kd.C_drewN ?_ _) | (with_reducible refine Kd.C_drew ?_)))
                (case side4 => exact HC1.out)
                rintro e w41 ⟨rfl, hb⟩
                refine ⟨_, rfl, ?_⟩
                have n2_ := z05.mk (blk_below (g := gb300) (o := .cells #[.slice A0_0 l0_0.length c0_0, .int .i64 a0_1, .int .i64 a0_2, .int .i64 a0_3, .int .i64 a0_4] 24 (0, 0)) (by (with_reducible repeat (first | refine z07 ?_ _ | refine z09 ?_ | refine z06 ?_ _)); exact BK300.out) hb); have n3_ := z05.mk (z0a (by repeat (first | (with_reducible first | exact HB.out | apply z03 | apply z00 | apply z04 | refine z08 ?_ GE300.out) | exact HB.out)) hb); clear BK300; clear HB; have BK300 := n2_; have HB := n3_; clear n2_ n3_; (try clear hb); (try clear hb2); (try clear hk); (try clear hi)
                refine hK.out _ _ ⟨(z02 BK300.out 0).trans rfl, (z02 BK300.out 1).trans rfl, (z02 BK300.out 2).trans rfl, (z02 BK300.out 3).trans rfl, (z02 BK300.out 4).trans rfl⟩ (fun hHeld => ?_)
                clear hK K
                refine norm_ (a' := ?_) ?_ ?_
                rotate_left
                · show Act.put _ (some 79) _ = _
                  simp only [Act.put, List.setIfInBounds_toArray, List.set_cons_zero, List.set_cons_succ, i64_w, i32_w]
                  rfl
                refine pure_ (i := 29) (N := some 80) (v := ?_) (a' := ?_) #[true, true, true, true, true, true, true, true, true, true, true, true, true, true, true, true, true, true, true, true, true, true, true, true, true, true, true, true, true, true, false, false] rfl rfl (any_of HT_.out (by kernel_rfl)) (fun _ _ _ h => h) (Or.inl ⟨by rfl, ?_⟩) ?_ ?_
                rotate_left
                · intro w'
                  go_simp
                  with_reducible rfl
                rotate_left
                · simp only [Act.put, List.setIfInBounds_toArray, List.set_cons_zero, List.set_cons_succ, i64_w, i32_w]
                  rfl
                refine pure_ (i := 30) (N := some 81) (v := ?_) (a' := ?_) #[true, true, true, true, true, true, true, true, true, true, true, true, true, true, true, true, true, true, true, true, true, true, true, true, true, true, true, true, true, true, true, false] rfl rfl (any_of HT_.out (by kernel_rfl)) (fun _ _ _ h => h) (Or.inl ⟨by rfl, ?_⟩) ?_ ?_
                rotate_left
                · intro w'
                  go_simp
                  with_reducible rfl
                rotate_left
                · simp only [Act.put, List.setIfInBounds_toArray, List.set_cons_zero, List.set_cons_succ, i64_w, i32_w]
                  rfl
                refine pure_ (i := 31) (N := some 6) (v := ?_) (a' := ?_) #[true, true, true, true, true, true, true, true, true, true, true, true, true, true, true, true, true, true, true, true, true, true, true, true, true, true, true, true, true, true, true, true] rfl rfl (any_of HT_.out (by kernel_rfl)) (fun _ _ _ h => h) (Or.inl ⟨by rfl, ?_⟩) ?_ ?_
                rotate_left
                · intro w'
                  go_simp
                  with_reducible rfl
                rotate_left
                · simp only [Act.put, List.setIfInBounds_toArray, List.set_cons_zero, List.set_cons_succ, i64_w, i32_w]
                  rfl
                refine done_ (done_of HT_.out (by kernel_rfl)) ?_
                try go_wp2
                go_ret
                exact ⟨by first | rfl | (simp [z0e, z0d] <;> rfl) | (refine congrArg (fun b_ : Bool => Ending.returned (Value.bool b_)) ?_; simp; done) | (simp [*, z0e, z0d] <;> rfl), by repeat (first | (with_reducible first | exact HB.out | apply z03 | apply z00 | apply z04 | refine z08 ?_ GE300.out) | exact HB.out)⟩
              · rw [if_neg c26] at H
                have c26b0 : (t315 == t316) = false := beq_eq_false_iff_ne.mpr c26
                have c26b1 : (t315 != t316) = true := bne_iff_ne.mpr c26
                exact absurd (HTRUE.out.symm.trans (Option.some.inj H).symm) (by decide)
            · rw [if_neg c23] at H
              have c23b0 : (t313 == t314) = false := by simpa using c23
              (try (have c23b1 : decide (t313 = t314) = false := by simpa using c23))
              (try (have c23b2 : (t313 == t314) = false := by simpa using c23))
              (try (have c23b3 : ¬ (t313 = t314) := by simpa using c23))
              clear c23
              exact absurd (HTRUE.out.symm.trans (Option.some.inj H).symm) (by decide)
          · rw [if_neg c20] at H
            have c20b0 : (t307 == t311) = false := beq_eq_false_iff_ne.mpr c20
            have c20b1 : (t307 != t311) = true := bne_iff_ne.mpr c20
            exact absurd (HTRUE.out.symm.trans (Option.some.inj H).symm) (by decide)
        · replace c19 := Bool.eq_false_iff.mpr c19
          subst c19
          have H1 : (some false) = some r := by rw [if_neg (show ¬ (false = true) by decide)] at H; exact H
          clear H
          have H := H1
          clear H1
          exact absurd (HTRUE.out.symm.trans (Option.some.inj H).symm) (by decide)

/-! ### winnowerref01_run_p: function 67 -/

end Go.Proofs.YteefchdfdgfaaaaDoor.Q
namespace Go.Proofs.YteefchdfdgfaaaaDoor.Q
open Go.RowKit Go.Proofs.YteefchdfdgfaaaaDoorW.PrintWords Go.Proofs.YteefchdfdgfaaaaDoorW.PrintLast Go.Proofs.YteefchdfdgfaaaaDoorW.PrintMore
attribute [local go_sem] max2_int min2_int max_two min_two max_three min_three max_four min_four   -- for this text's walks alone
set_option linter.unusedVariables false
set_option linter.unusedSimpArgs false

-- BY HAND: Derived.Test.YteefchdfdgfaaaaDoorHnum
/-! ### winnowerref01_run: function 67 -/
-- HAND winnower/winnowerref01.run over
-- IMPORT Derived.Test.YteefchdfdgfaaaaDoorHnum
open Go.Proofs.YteefchdfdgfaaaaDoor.Hnum

end Go.Proofs.YteefchdfdgfaaaaDoor.Q
namespace Go.Proofs.YteefchdfdgfaaaaDoor.Q
open Go.RowKit Go.Proofs.YteefchdfdgfaaaaDoorW.PrintWords Go.Proofs.YteefchdfdgfaaaaDoorW.PrintLast Go.Proofs.YteefchdfdgfaaaaDoorW.PrintMore
attribute [local go_sem] max2_int min2_int max_two min_two max_three min_three max_four min_four   -- for this text's walks alone
set_option linter.unusedVariables false
set_option linter.unusedSimpArgs false

/-! ### winnowerref01_halves_p: function 68 -/

end Go.Proofs.YteefchdfdgfaaaaDoor.Q
namespace Go.Proofs.YteefchdfdgfaaaaDoor.Q
open Go.RowKit Go.Proofs.YteefchdfdgfaaaaDoorW.PrintWords Go.Proofs.YteefchdfdgfaaaaDoorW.PrintLast Go.Proofs.YteefchdfdgfaaaaDoorW.PrintMore
attribute [local go_sem] max2_int min2_int max_two min_two max_three min_three max_four min_four   -- for this text's walks alone
set_option linter.unusedVariables false
set_option linter.unusedSimpArgs false

-- BY HAND: Derived.Test.YteefchdfdgfaaaaDoorHnum
/-! ### winnowerref01_halves: function 68 -/
-- HAND winnower/winnowerref01.halves over
-- IMPORT Derived.Test.YteefchdfdgfaaaaDoorHnum
open Go.Proofs.YteefchdfdgfaaaaDoor.Hnum

end Go.Proofs.YteefchdfdgfaaaaDoor.Q
namespace Go.Proofs.YteefchdfdgfaaaaDoor.Q
open Go.RowKit Go.Proofs.YteefchdfdgfaaaaDoorW.PrintWords Go.Proofs.YteefchdfdgfaaaaDoorW.PrintLast Go.Proofs.YteefchdfdgfaaaaDoorW.PrintMore
attribute [local go_sem] max2_int min2_int max_two min_two max_three min_three max_four min_four   -- for this text's walks alone
set_option linter.unusedVariables false
set_option linter.unusedSimpArgs false

/-! ### winnowerref01_Get: function 48 -/

/-! ### winnowerref01_GetLen: function 49 -/

/-! ### winnowerref06_Get: function 36 -/

end Go.Proofs.YteefchdfdgfaaaaDoor.Q
namespace Go.Proofs.YteefchdfdgfaaaaDoor.Q
open Go.RowKit Go.Proofs.YteefchdfdgfaaaaDoorW.PrintWords Go.Proofs.YteefchdfdgfaaaaDoorW.PrintLast Go.Proofs.YteefchdfdgfaaaaDoorW.PrintMore
attribute [local go_sem] max2_int min2_int max_two min_two max_three min_three max_four min_four   -- for this text's walks alone
set_option linter.unusedVariables false
set_option linter.unusedSimpArgs false

attribute [local go_sem high] eqA46
/-! ### winnowerref07_Decode: function 21 -/

/-! ### winnowerref06_Same: function 22 -/

end Go.Proofs.YteefchdfdgfaaaaDoor.Q
namespace Go.Proofs.YteefchdfdgfaaaaDoor.Q
open Go.RowKit Go.Proofs.YteefchdfdgfaaaaDoorW.PrintWords Go.Proofs.YteefchdfdgfaaaaDoorW.PrintLast Go.Proofs.YteefchdfdgfaaaaDoorW.PrintMore
attribute [local go_sem] max2_int min2_int max_two min_two max_three min_three max_four min_four   -- for this text's walks alone
set_option linter.unusedVariables false
set_option linter.unusedSimpArgs false

-- SAYS Chapter 07: few columns, light rows, rows that are the same.
-- FUNCS winnower/winnowerref07.Few
-- NEEDS winnowerref07_Few.f winnowerref07_Light.f winnowerref06_Same.f
-- IMPORT Derived.Test.YteefchdfdgfaaaaDoorHnum
-- IMPORT Derived.Test.YteefchdfdgfaaaaDoorHval
-- IMPORT Derived.Test.YteefchdfdgfaaaaDoorHsch07
open Go.Proofs.YteefchdfdgfaaaaDoor.Hnum Go.Proofs.YteefchdfdgfaaaaDoor.Hval
/-- Few columns, of short names. -/
def fewC (l : List S48) : Bool := decide (l.length ≤ 12) && l.all fun x => decide (x.f0.size ≤ 100)
theorem few07_go {l : List S48} (hl : l.length ≤ 12) (a1 a2 a3 a4 : Int) (q : Nat) : ∀ (d i : Nat), i + d = l.length → winnowerref07_Few.l0 (d + q + 1) (i : Int) l a1 a2 a3 a4 = some ((l.drop i).all fun x => decide (x.f0.size ≤ 100)) := by
  intro d
  induction d with
  | zero =>
    intro i hi
    rw [Nat.zero_add]
    unfold winnowerref07_Few.l0
    rw [if_neg (by omega), List.drop_of_length_le (by omega)]
    rfl
  | succ d ih =>
    intro i hi
    have hk : i < l.length := by omega
    rw [show d + 1 + q + 1 = (d + q + 1) + 1 by omega]
    unfold winnowerref07_Few.l0
    rw [if_pos (by omega), if_pos (by omega), rd48_at hk, wr1 (by omega), ih (i + 1) (by omega), List.drop_eq_getElem_cons hk, List.all_cons]
    by_cases h : (l[i].f0.size : Int) > 100
    · rw [if_pos h, decide_eq_false (show ¬ l[i].f0.size ≤ 100 by omega)]; rfl
    · rw [if_neg h, decide_eq_true (show l[i].f0.size ≤ 100 by omega)]; rfl
theorem few07_tell (l : List S48) (a1 a2 a3 a4 : Int) {k : Nat} (hk : l.length + 1 ≤ k) : winnowerref07_Few.f k l a1 a2 a3 a4 = some (fewC l) := by
  obtain ⟨q, rfl⟩ : ∃ q, k = l.length + q + 1 := ⟨k - l.length - 1, by omega⟩
  clear hk
  unfold winnowerref07_Few.f fewC
  by_cases h : (l.length : Int) > 12
  · rw [if_pos h, decide_eq_false (show ¬ l.length ≤ 12 by omega)]; rfl
  · rw [if_neg h, decide_eq_true (show l.length ≤ 12 by omega)]
    have g := few07_go (l := l) (by omega) a1 a2 a3 a4 q l.length 0 (by omega)
    exact g
/-- A row of few values, of short texts. -/
def lightS (l : List S46) : Bool := decide (l.length ≤ 12) && l.all fun x => decide (x.f2.size ≤ 300)
theorem light07_go {l : List S46} (hl : l.length ≤ 12) (q : Nat) : ∀ (d i : Nat), i + d = l.length → winnowerref07_Light.l0 (d + q + 1) l (i : Int) = some ((l.drop i).all fun x => decide (x.f2.size ≤ 300)) := by
  intro d
  induction d with
  | zero =>
    intro i hi
    rw [Nat.zero_add]
    unfold winnowerref07_Light.l0
    rw [if_neg (by omega), List.drop_of_length_le (by omega)]
    rfl
  | succ d ih =>
    intro i hi
    have hk : i < l.length := by omega
    rw [show d + 1 + q + 1 = (d + q + 1) + 1 by omega]
    unfold winnowerref07_Light.l0
    rw [if_pos (by omega), if_pos (by omega), rd46_at hk, wr1 (by omega), ih (i + 1) (by omega), List.drop_eq_getElem_cons hk, List.all_cons]
    by_cases h : (l[i].f2.size : Int) > 300
    · rw [if_pos h, decide_eq_false (show ¬ l[i].f2.size ≤ 300 by omega)]; rfl
    · rw [if_neg h, decide_eq_true (show l[i].f2.size ≤ 300 by omega)]; rfl
theorem light07_tell (l : List S46) {k : Nat} (hk : l.length + 1 ≤ k) : winnowerref07_Light.f k l = some (lightS l) := by
  obtain ⟨q, rfl⟩ : ∃ q, k = l.length + q + 1 := ⟨k - l.length - 1, by omega⟩
  clear hk
  unfold winnowerref07_Light.f lightS
  by_cases h : (l.length : Int) > 12
  · rw [if_pos h, decide_eq_false (show ¬ l.length ≤ 12 by omega)]; rfl
  · rw [if_neg h, decide_eq_true (show l.length ≤ 12 by omega)]
    exact light07_go (l := l) (by omega) q l.length 0 (by omega)

end Go.Proofs.YteefchdfdgfaaaaDoor.Q
namespace Go.Proofs.YteefchdfdgfaaaaDoor.Q
open Go.RowKit Go.Proofs.YteefchdfdgfaaaaDoorW.PrintWords Go.Proofs.YteefchdfdgfaaaaDoorW.PrintLast Go.Proofs.YteefchdfdgfaaaaDoorW.PrintMore
attribute [local go_sem] max2_int min2_int max_two min_two max_three min_three max_four min_four   -- for this text's walks alone
set_option linter.unusedVariables false
set_option linter.unusedSimpArgs false

-- SAYS Chapter 07: what bytes are decoded to, and back, in plain words.
-- FUNCS winnower/winnowerlaw07.SchemaBack winnower/winnowerlaw07.SchemaOnly winnower/winnowerlaw07.SchemaApart
-- NEEDS schema_Encode.f schema_Fits.f schema_May.f schema_Find.f schema_fits.f value_Get.f schema_Decode.f winnowerref01_Same.f
-- IMPORT Derived.Test.YteefchdfdgfaaaaDoorHnum
-- IMPORT Derived.Test.YteefchdfdgfaaaaDoorHval
-- IMPORT Derived.Test.YteefchdfdgfaaaaDoorHsch07
-- IMPORT Derived.Test.YteefchdfdgfaaaaDoorHsch07f
open Go.Proofs.YteefchdfdgfaaaaDoor.Hnum Go.Proofs.YteefchdfdgfaaaaDoor.Hval
theorem fewC_len {l : List S48} (h : fewC l = true) : l.length ≤ 12 := by
  unfold fewC at h
  rw [Bool.and_eq_true, decide_eq_true_eq] at h
  exact h.1

end Go.Proofs.YteefchdfdgfaaaaDoor.Q
namespace Go.Proofs.YteefchdfdgfaaaaDoor.Q
open Go.RowKit Go.Proofs.YteefchdfdgfaaaaDoorW.PrintWords Go.Proofs.YteefchdfdgfaaaaDoorW.PrintLast Go.Proofs.YteefchdfdgfaaaaDoorW.PrintMore
attribute [local go_sem] max2_int min2_int max_two min_two max_three min_three max_four min_four   -- for this text's walks alone
set_option linter.unusedVariables false
set_option linter.unusedSimpArgs false

/-! ### winnowerlaw07_SchemaDecodes: function 4 -/

/-! ### winnowerlaw07_SchemaBack: function 5 -/

end Go.Proofs.YteefchdfdgfaaaaDoor.Q
namespace Go.Proofs.YteefchdfdgfaaaaDoor.Q
open Go.RowKit Go.Proofs.YteefchdfdgfaaaaDoorW.PrintWords Go.Proofs.YteefchdfdgfaaaaDoorW.PrintLast Go.Proofs.YteefchdfdgfaaaaDoorW.PrintMore
attribute [local go_sem] max2_int min2_int max_two min_two max_three min_three max_four min_four   -- for this text's walks alone
set_option linter.unusedVariables false
set_option linter.unusedSimpArgs false

/-! ### winnowerlaw07_SchemaOnly: function 6 -/

end Go.Proofs.YteefchdfdgfaaaaDoor.Q
namespace Go.Proofs.YteefchdfdgfaaaaDoor.Q
open Go.RowKit Go.Proofs.YteefchdfdgfaaaaDoorW.PrintWords Go.Proofs.YteefchdfdgfaaaaDoorW.PrintLast Go.Proofs.YteefchdfdgfaaaaDoorW.PrintMore
attribute [local go_sem] max2_int min2_int max_two min_two max_three min_three max_four min_four   -- for this text's walks alone
set_option linter.unusedVariables false
set_option linter.unusedSimpArgs false

/-! ### winnowerlaw07_SchemaApart: function 7 -/

end Go.Proofs.YteefchdfdgfaaaaDoor.Q
namespace Go.Proofs.YteefchdfdgfaaaaDoor.Q
open Go.RowKit Go.Proofs.YteefchdfdgfaaaaDoorW.PrintWords Go.Proofs.YteefchdfdgfaaaaDoorW.PrintLast Go.Proofs.YteefchdfdgfaaaaDoorW.PrintMore
attribute [local go_sem] max2_int min2_int max_two min_two max_three min_three max_four min_four   -- for this text's walks alone
set_option linter.unusedVariables false
set_option linter.unusedSimpArgs false

-- SAYS Chapter 07: SchemaBack, SchemaOnly, SchemaApart answer true.
-- FUNCS winnower/winnowerlaw07.SchemaBack winnower/winnowerlaw07.SchemaOnly winnower/winnowerlaw07.SchemaApart
-- NEEDS winnowerlaw07_SchemaBack.f winnowerlaw07_SchemaOnly.f winnowerlaw07_SchemaApart.f schema_Encode.f schema_Fits.f schema_May.f schema_Decode.f winnowerref01_Same.f
-- IMPORT Derived.Test.YteefchdfdgfaaaaDoorHnum
-- IMPORT Derived.Test.YteefchdfdgfaaaaDoorHval
-- IMPORT Derived.Test.YteefchdfdgfaaaaDoorHsch07
-- IMPORT Derived.Test.YteefchdfdgfaaaaDoorHsch07b
open Go.Proofs.YteefchdfdgfaaaaDoor.Hnum Go.Proofs.YteefchdfdgfaaaaDoor.Hval
theorem awake_200 : winnowerlaw07_awake.f = some true := rfl
theorem fits_200 {l : List S48} (hl : l.length ≤ 12) (a1 a2 a3 a4 : Int) (row : List S46) {k : Nat} (hk : 100 ≤ k) : schema_Fits.f k l a1 a2 a3 a4 row = some (fitsS l a1 a2 a3 a4 row) := fits_tell (by omega) a1 a2 a3 a4 row (by omega)
theorem enc_200 {l : List S48} (hl : l.length ≤ 12) (a1 a2 a3 a4 : Int) {row : List S46} (hi : ∀ v ∈ row, i64 v.f1) {k : Nat} (hk : 100 ≤ k) : schema_Encode.f k l a1 a2 a3 a4 row = some (if fitsS l a1 a2 a3 a4 row = true then (encS l row, 0) else ([], 1)) := enc_tell (by omega) a1 a2 a3 a4 hi (by omega)

end Go.Proofs.YteefchdfdgfaaaaDoor.Q
namespace Go.Proofs.YteefchdfdgfaaaaDoor.Q
open Go.RowKit Go.Proofs.YteefchdfdgfaaaaDoorW.PrintWords Go.Proofs.YteefchdfdgfaaaaDoorW.PrintLast Go.Proofs.YteefchdfdgfaaaaDoorW.PrintMore
attribute [local go_sem] max2_int min2_int max_two min_two max_three min_three max_four min_four   -- for this text's walks alone
set_option linter.unusedVariables false
set_option linter.unusedSimpArgs false

-- SAYS What the document's Get and GetLen of layer 1 answer, in plain words.
-- FUNCS winnower/winnowerref01.Get winnower/winnowerref01.GetLen
-- NEEDS winnowerref01_Get.f winnowerref01_GetLen.f winnowerref01_run.f winnowerref01_halves.f
-- IMPORT Derived.Test.YteefchdfdgfaaaaDoorHnum
open Go.Proofs.YteefchdfdgfaaaaDoor.Hnum

end Go.Proofs.YteefchdfdgfaaaaDoor.Q
