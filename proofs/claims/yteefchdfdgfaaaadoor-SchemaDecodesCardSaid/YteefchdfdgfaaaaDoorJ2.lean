/- The machine side of laws, written by wip/tools/myprint.py (the printer's way, with functions proved by hand put in); Lean checks it. What Get of layer 1 answer, in plain words. What GetLen of layer 1 answer, in plain words. The library's contracts at this program, laid by the kit's shelf. -/
import Derived.Test.YteefchdfdgfaaaaDoorJ1
import Derived.Test.YteefchdfdgfaaaaDoorJ0
import Derived.Shelf.Abstract
import Derived.Shelf.Strings.Trim
import Derived.Shelf.Small.Strs
import Derived.Shelf.Strings.Search1
import Derived.Shelf.Strings.Runes
import Derived.Shelf.Strings.AsciiSet
import Derived.Test.YteefchdfdgfaaaaDoorProg
import Derived.Shelf.Strings.SlTrimAscii
namespace Go.Proofs.YteefchdfdgfaaaaDoor.Q
open Go.RowKit Go.Proofs.YteefchdfdgfaaaaDoorW.PrintWords Go.Proofs.YteefchdfdgfaaaaDoorW.PrintLast Go.Proofs.YteefchdfdgfaaaaDoorW.PrintMore
attribute [local go_sem] max2_int min2_int max_two min_two max_three min_three max_four min_four   -- for this text's walks alone
set_option linter.unusedVariables false
set_option linter.unusedSimpArgs false

/-! ### num_back: function 81 -/
def num_back.f (a0 : Int) : Option (Int) := some (Go.bits .xor .i64 (wrap64 (a0 / 2)) (wrap64 (-(wrap64 (Go.bits .and .u64 a0 1)))))
set_option maxHeartbeats 8000000 in
set_option maxRecDepth 100000 in
theorem num_back.calls (a0 : Int) (r : Int) (w : World) (h : num_back.f a0 = some r) :
    Calls Tryd.prog 81 #[.int .u64 a0] w fun e w' => e = .returned (.int .i64 r) ∧ Drawn0 w w' := by
  have H : (some (Go.bits .xor .i64 (wrap64 (a0 / 2)) (wrap64 (-(wrap64 (Go.bits .and .u64 a0 1)))))) = some r := h
  clear h
  obtain rfl := Option.some.inj H
  go_enter Tryd.func81, Tryd.ntmps81
  go_wp2
  go_ret
  exact ⟨by first | rfl | (simp; done) | (simp [*]; done), by repeat (first | exact Drawn0.refl _ | apply Drawn0.step)⟩

/-! ### num_Get: function 73 -/
def num_Get.f (l0 : List Int) : Option (Int × Int × Int) := (num_get.f l0).bind fun bt167 => ((num_back.f bt167.1).bind fun t170 => (some (t170, bt167.2.1, bt167.2.2)))
set_option maxHeartbeats 8000000 in
set_option maxRecDepth 100000 in
theorem num_Get.calls (A0 : Option Addr) (c0 : Nat) (l0 : List Int) (r1 : Int) (r2 : Int) (r3 : Int) (w : World) (hr0 : Kd.C (Kd.int .u8) w A0 l0.length l0) (hc0 : l0.length ≤ c0) (h : num_Get.f l0 = some (r1, r2, r3)) :
    Calls Tryd.prog 73 #[.slice A0 l0.length c0] w fun e w' => e = .returned (.tuple #[.int .i64 r1, .int .i64 r2, .int .i64 r3]) ∧ Drawn0 w w' := by
  have HR0 := z05.mk hr0
  have HC0 := z05.mk hc0
  clear hr0 hc0
  have H : ((num_get.f l0).bind fun bt167 => ((num_back.f bt167.1).bind fun t170 => (some (t170, bt167.2.1, bt167.2.2)))) = some (r1, r2, r3) := h
  clear h
  replace H := Option.bind_eq_some_iff.mp H
  obtain ⟨⟨t167, t168, t169⟩, A20, H⟩ := H
  replace H : ((num_back.f t167).bind fun t170 => (some (t170, t168, t169))) = some (r1, r2, r3) := H
  have A2 := z05.mk A20
  clear A20
  replace H := Option.bind_eq_some_iff.mp H
  obtain ⟨t170, A30, H⟩ := H
  replace H : (some (t170, t168, t169)) = some (r1, r2, r3) := H
  have A3 := z05.mk A30
  clear A30
  simp only [Option.some.injEq, Prod.mk.injEq] at H
  obtain ⟨rfl, rfl, rfl⟩ := H
  go_enter Tryd.func73, Tryd.ntmps73
  go_wp2_with (first | ((with_reducible refine gate_callee (f := 80) rfl ?_); refine goesL_ (some 10) rfl rfl Tryd.func80 (by kernel_rfl) rfl #[.slice A0 l0.length c0] rfl (by (try simp only [List.map_toArray, List.map_cons, List.map_nil]); first | done | rfl | (simp only [List.length_drop, List.length_take]; rfl)) ?_; (with_reducible refine (num_get.calls _ _ l0 t167 t168 t169 _ ?side1 ?side2 A2.out).mono ?_); (case side1 => repeat (first | exact HR0.out | (with_reducible refine Kd.C_alloc ?_ _) | (with_reducible refine Kd.C_drewN ?_ _) | (with_reducible refine Kd.C_drew ?_))); (case side2 => exact HC0.out); rintro e w' ⟨rfl, ⟨nd, rfl⟩⟩; refine ⟨_, rfl, ?_⟩) | ((with_reducible refine gate_callee (f := 81) rfl ?_); refine goesL_ (some 15) rfl rfl Tryd.func81 (by kernel_rfl) rfl #[.int .u64 t167] rfl (by (try simp only [List.map_toArray, List.map_cons, List.map_nil]); first | done | rfl | (simp only [List.length_drop, List.length_take]; rfl)) ?_; (with_reducible refine (num_back.calls t167 t170 _ A3.out).mono ?_); rintro e w' ⟨rfl, ⟨nd, rfl⟩⟩; refine ⟨_, rfl, ?_⟩))
  go_ret3
  exact ⟨by first | rfl | (simp; done) | (simp [*]; done), by repeat (first | exact Drawn0.refl _ | apply Drawn0.step)⟩

/-! ### num_GetLen: function 82 -/
def num_GetLen.f (l0 : List Int) : Option (Int × Int × Int) := (num_get.f l0).bind fun bt171 => (if bt171.2.2 = 0 then (if bt171.1 > 9223372036854775807 then (some (0, 0, 7)) else (some (wrap64 (bt171.1), bt171.2.1, bt171.2.2))) else (some (wrap64 (bt171.1), bt171.2.1, bt171.2.2)))
set_option maxHeartbeats 8000000 in
set_option maxRecDepth 100000 in
theorem num_GetLen.calls (A0 : Option Addr) (c0 : Nat) (l0 : List Int) (r1 : Int) (r2 : Int) (r3 : Int) (w : World) (hr0 : Kd.C (Kd.int .u8) w A0 l0.length l0) (hc0 : l0.length ≤ c0) (h : num_GetLen.f l0 = some (r1, r2, r3)) :
    Calls Tryd.prog 82 #[.slice A0 l0.length c0] w fun e w' => e = .returned (.tuple #[.int .i64 r1, .int .i64 r2, .int .i64 r3]) ∧ Drawn0 w w' := by
  have HR0 := z05.mk hr0
  have HC0 := z05.mk hc0
  clear hr0 hc0
  have H : ((num_get.f l0).bind fun bt171 => (if bt171.2.2 = 0 then (if bt171.1 > 9223372036854775807 then (some (0, 0, 7)) else (some (wrap64 (bt171.1), bt171.2.1, bt171.2.2))) else (some (wrap64 (bt171.1), bt171.2.1, bt171.2.2)))) = some (r1, r2, r3) := h
  clear h
  replace H := Option.bind_eq_some_iff.mp H
  obtain ⟨⟨t171, t172, t173⟩, A20, H⟩ := H
  replace H : (if t173 = 0 then (if t171 > 9223372036854775807 then (some (0, 0, 7)) else (some (wrap64 (t171), t172, t173))) else (some (wrap64 (t171), t172, t173))) = some (r1, r2, r3) := H
  have A2 := z05.mk A20
  clear A20
  by_cases c3 : t173 = 0
  · rw [if_pos c3] at H
    have c3b0 : (t173 == 0) = true := beq_iff_eq.mpr c3
    have c3b1 : (t173 != 0) = false := bne_eq_false_iff_eq.mpr c3
    clear c3
    by_cases c4 : t171 > 9223372036854775807
    · rw [if_pos c4] at H
      have c4b0 : decide (9223372036854775807 < t171) = true := decide_eq_true c4
      clear c4
      simp only [Option.some.injEq, Prod.mk.injEq] at H
      obtain ⟨rfl, rfl, rfl⟩ := H
      go_enter Tryd.func82, Tryd.ntmps82
      go_wp2_with (first | ((with_reducible refine gate_callee (f := 80) rfl ?_); refine goesL_ (some 10) rfl rfl Tryd.func80 (by kernel_rfl) rfl #[.slice A0 l0.length c0] rfl (by (try simp only [List.map_toArray, List.map_cons, List.map_nil]); first | done | rfl | (simp only [List.length_drop, List.length_take]; rfl)) ?_; (with_reducible refine (num_get.calls _ _ l0 t171 t172 t173 _ ?side1 ?side2 A2.out).mono ?_); (case side1 => repeat (first | exact HR0.out | (with_reducible refine Kd.C_alloc ?_ _) | (with_reducible refine Kd.C_drewN ?_ _) | (with_reducible refine Kd.C_drew ?_))); (case side2 => exact HC0.out); rintro e w' ⟨rfl, ⟨nd, rfl⟩⟩; refine ⟨_, rfl, ?_⟩))
      go_ret3
      exact ⟨by first | rfl | (simp; done) | (simp [*]; done), by repeat (first | exact Drawn0.refl _ | apply Drawn0.step)⟩
    · rw [if_neg c4] at H
      have c4b0 : decide (9223372036854775807 < t171) = false := decide_eq_false c4
      clear c4
      simp only [Option.some.injEq, Prod.mk.injEq] at H
      obtain ⟨rfl, rfl, rfl⟩ := H
      go_enter Tryd.func82, Tryd.ntmps82
      go_wp2_with (first | ((with_reducible refine gate_callee (f := 80) rfl ?_); refine goesL_ (some 10) rfl rfl Tryd.func80 (by kernel_rfl) rfl #[.slice A0 l0.length c0] rfl (by (try simp only [List.map_toArray, List.map_cons, List.map_nil]); first | done | rfl | (simp only [List.length_drop, List.length_take]; rfl)) ?_; (with_reducible refine (num_get.calls _ _ l0 t171 t172 t173 _ ?side1 ?side2 A2.out).mono ?_); (case side1 => repeat (first | exact HR0.out | (with_reducible refine Kd.C_alloc ?_ _) | (with_reducible refine Kd.C_drewN ?_ _) | (with_reducible refine Kd.C_drew ?_))); (case side2 => exact HC0.out); rintro e w' ⟨rfl, ⟨nd, rfl⟩⟩; refine ⟨_, rfl, ?_⟩))
      go_ret3
      exact ⟨by first | rfl | (simp; done) | (simp [*]; done), by repeat (first | exact Drawn0.refl _ | apply Drawn0.step)⟩
  · rw [if_neg c3] at H
    have c3b0 : (t173 == 0) = false := beq_eq_false_iff_ne.mpr c3
    have c3b1 : (t173 != 0) = true := bne_iff_ne.mpr c3
    simp only [Option.some.injEq, Prod.mk.injEq] at H
    obtain ⟨rfl, rfl, rfl⟩ := H
    go_enter Tryd.func82, Tryd.ntmps82
    go_wp2_with (first | ((with_reducible refine gate_callee (f := 80) rfl ?_); refine goesL_ (some 10) rfl rfl Tryd.func80 (by kernel_rfl) rfl #[.slice A0 l0.length c0] rfl (by (try simp only [List.map_toArray, List.map_cons, List.map_nil]); first | done | rfl | (simp only [List.length_drop, List.length_take]; rfl)) ?_; (with_reducible refine (num_get.calls _ _ l0 t171 t172 t173 _ ?side1 ?side2 A2.out).mono ?_); (case side1 => repeat (first | exact HR0.out | (with_reducible refine Kd.C_alloc ?_ _) | (with_reducible refine Kd.C_drewN ?_ _) | (with_reducible refine Kd.C_drew ?_))); (case side2 => exact HC0.out); rintro e w' ⟨rfl, ⟨nd, rfl⟩⟩; refine ⟨_, rfl, ?_⟩))
    go_ret3
    exact ⟨by first | rfl | (simp; done) | (simp [*]; done), by repeat (first | exact Drawn0.refl _ | apply Drawn0.step)⟩

/-! ### value_text: function 74 -/
def value_text.f (l0 : List Int) : Option (Int × Int × ByteArray × Bool × Int × Int) := (num_GetLen.f l0).bind fun bt175 => (if bt175.2.2 = 0 then (if bt175.1 > 64 then (some (0, 0, (⟨#[]⟩ : ByteArray), false, 0, 2)) else (if bt175.1 > (wrap64 ((l0.length : Int) - bt175.2.1)) then (some (0, 0, (⟨#[]⟩ : ByteArray), false, 0, 6)) else (if 0 ≤ bt175.2.1 then (if bt175.2.1 ≤ (wrap64 (bt175.2.1 + bt175.1)) then (if (wrap64 (bt175.2.1 + bt175.1)) ≤ (l0.length : Int) then (some (2, 0, strOfNums ((l0.take ((wrap64 (bt175.2.1 + bt175.1)) : Int).toNat).drop (bt175.2.1 : Int).toNat), false, wrap64 (bt175.2.1 + bt175.1), 0)) else (none)) else (none)) else (none)))) else (some (0, 0, (⟨#[]⟩ : ByteArray), false, 0, bt175.2.2)))
set_option maxHeartbeats 8000000 in
set_option maxRecDepth 100000 in
theorem value_text.calls (A0 : Option Addr) (c0 : Nat) (l0 : List Int) (r1 : Int) (r2 : Int) (r3 : ByteArray) (r4 : Bool) (r5 : Int) (r6 : Int) (w : World) (hr0 : Kd.C (Kd.int .u8) w A0 l0.length l0) (hc0 : l0.length ≤ c0) (h : value_text.f l0 = some (r1, r2, r3, r4, r5, r6)) :
    Calls Tryd.prog 74 #[.slice A0 l0.length c0] w fun e w' => e = .returned (.tuple #[.agg #[.int .i64 r1, .int .i64 r2, .string r3, .bool r4], .int .i64 r5, .int .i64 r6]) ∧ Below w.heap.size w w' := by
  have hu46 := Tryd.underlying46
  have HR0 := z05.mk hr0
  have HC0 := z05.mk hc0
  clear hr0 hc0
  have HB := z05.mk (Below.refl w.heap.size w)
  have H : ((num_GetLen.f l0).bind fun bt175 => (if bt175.2.2 = 0 then (if bt175.1 > 64 then (some (0, 0, (⟨#[]⟩ : ByteArray), false, 0, 2)) else (if bt175.1 > (wrap64 ((l0.length : Int) - bt175.2.1)) then (some (0, 0, (⟨#[]⟩ : ByteArray), false, 0, 6)) else (if 0 ≤ bt175.2.1 then (if bt175.2.1 ≤ (wrap64 (bt175.2.1 + bt175.1)) then (if (wrap64 (bt175.2.1 + bt175.1)) ≤ (l0.length : Int) then (some (2, 0, strOfNums ((l0.take ((wrap64 (bt175.2.1 + bt175.1)) : Int).toNat).drop (bt175.2.1 : Int).toNat), false, wrap64 (bt175.2.1 + bt175.1), 0)) else (none)) else (none)) else (none)))) else (some (0, 0, (⟨#[]⟩ : ByteArray), false, 0, bt175.2.2)))) = some (r1, r2, r3, r4, r5, r6) := h
  clear h
  replace H := Option.bind_eq_some_iff.mp H
  obtain ⟨⟨t175, t176, t177⟩, A20, H⟩ := H
  replace H : (if t177 = 0 then (if t175 > 64 then (some (0, 0, (⟨#[]⟩ : ByteArray), false, 0, 2)) else (if t175 > (wrap64 ((l0.length : Int) - t176)) then (some (0, 0, (⟨#[]⟩ : ByteArray), false, 0, 6)) else (if 0 ≤ t176 then (if t176 ≤ (wrap64 (t176 + t175)) then (if (wrap64 (t176 + t175)) ≤ (l0.length : Int) then (some (2, 0, strOfNums ((l0.take ((wrap64 (t176 + t175)) : Int).toNat).drop (t176 : Int).toNat), false, wrap64 (t176 + t175), 0)) else (none)) else (none)) else (none)))) else (some (0, 0, (⟨#[]⟩ : ByteArray), false, 0, t177))) = some (r1, r2, r3, r4, r5, r6) := H
  have A2 := z05.mk A20
  clear A20
  by_cases c3 : t177 = 0
  · rw [if_pos c3] at H
    have c3b0 : (t177 == 0) = true := beq_iff_eq.mpr c3
    have c3b1 : (t177 != 0) = false := bne_eq_false_iff_eq.mpr c3
    clear c3
    by_cases c4 : t175 > 64
    · rw [if_pos c4] at H
      have c4b0 : decide (64 < t175) = true := decide_eq_true c4
      clear c4
      simp only [Option.some.injEq, Prod.mk.injEq] at H
      obtain ⟨rfl, rfl, rfl, rfl, rfl, rfl⟩ := H
      go_enter Tryd.func74, Tryd.ntmps74
      go_wp2_with (first | ((with_reducible refine gate_dst (N := 2) rfl ?_); refine box_event ?hg (N := 2) ?hd (cs := #[.int .i64 0, .int .i64 0, .string (⟨#[]⟩ : ByteArray), .bool false]) (t := 46) ?hr ?_; (case hd => rfl); (case hg => rfl); (case hr => first | (go_simp; done) | (go_simp; rfl)); intro gb174 hg w5 hbox hb; have n0_ := z05.mk (below_step (by repeat (first | (with_reducible first | exact HB.out | apply z02 | apply z00 | apply z03) | exact HB.out)) hb); have n1_ := z05.mk (hbox); have n2_ := z05.mk ((by rw [hg]; exact (below_size (by repeat (first | (with_reducible first | exact HB.out | apply z02 | apply z00 | apply z03) | exact HB.out))) : w.heap.size ≤ gb174)); have n3_ := z05.mk ((by rw [hg]; exact (below_size (by repeat (first | (with_reducible first | exact HB.out | apply z02 | apply z00 | apply z03) | exact HB.out))) : w.heap.size ≤ gb174)); clear HB; have HB := n0_; have BK174 := n1_; have GW174 := n2_; have GE174 := n3_; clear n0_ n1_ n2_ n3_; clear hb hbox hg) | ((with_reducible refine gate_callee (f := 82) rfl ?_); refine goesL_ (some 10) rfl rfl Tryd.func82 (by kernel_rfl) rfl #[.slice A0 l0.length c0] rfl (by (try simp only [List.map_toArray, List.map_cons, List.map_nil]); first | done | rfl | (simp only [List.length_drop, List.length_take]; rfl)) ?_; (with_reducible refine (num_GetLen.calls _ _ l0 t175 t176 t177 _ ?side1 ?side2 A2.out).mono ?_); (case side1 => repeat (first | exact (Kd.C_below HR0.out HB.out) | (with_reducible refine Kd.C_alloc ?_ _) | (with_reducible refine Kd.C_drewN ?_ _) | (with_reducible refine Kd.C_drew ?_))); (case side2 => exact HC0.out); rintro e w' ⟨rfl, ⟨nd, rfl⟩⟩; refine ⟨_, rfl, ?_⟩; (try (rw [drewN_self w5]; generalize hq_ : World.drewN w5 _ = w5; have n0_ : z05 (w5.heap[gb174]? = some (.cells #[.int .i64 0, .int .i64 0, .string (⟨#[]⟩ : ByteArray), .bool false] 46 (0, 0))) := ⟨by rw [← hq_]; exact (by (with_reducible repeat (first | refine z07 ?_ _ | refine z08 ?_ | refine z06 ?_ _)); exact BK174.out)⟩; have n1_ : z05 (Below w.heap.size w w5) := ⟨by rw [← hq_]; exact (by repeat (first | (with_reducible first | exact HB.out | apply z02 | apply z00 | apply z03 | refine z09 ?_ GE174.out) | exact HB.out))⟩; clear BK174 HB hq_; have BK174 := n0_; have HB := n1_; clear n0_ n1_)); have hcz6_0 : w5.cell? ⟨gb174, 0, none⟩ = some (.int .i64 0) := (z04 BK174.out 0).trans rfl; have hcz6_1 : w5.cell? ⟨gb174, 1, none⟩ = some (.int .i64 0) := (z04 BK174.out 1).trans rfl; have hcz6_2 : w5.cell? ⟨gb174, 2, none⟩ = some (.string (⟨#[]⟩ : ByteArray)) := (z04 BK174.out 2).trans rfl; have hcz6_3 : w5.cell? ⟨gb174, 3, none⟩ = some (.bool false) := (z04 BK174.out 3).trans rfl; have hfz6_0 := z01 BK174.out 0; have hfz6_1 := z01 BK174.out 1; have hfz6_2 := z01 BK174.out 2; have hfz6_3 := z01 BK174.out 3))
      refine bodyPost_ret (results_ctt rfl _ _ gb174 46 #[.int .i64 0, .int .i64 0, .string (⟨#[]⟩ : ByteArray), .bool false] (0, 0) _ rfl (by (with_reducible repeat (first | refine z07 ?_ _ | refine z08 ?_ | refine z06 ?_ _)); refine blk_put (cs := #[.int .i64 0, .int .i64 0, .string (⟨#[]⟩ : ByteArray), .bool false]) ?_ 3 _ rfl; (with_reducible repeat (first | refine z07 ?_ _ | refine z08 ?_ | refine z06 ?_ _)); refine blk_put (cs := #[.int .i64 0, .int .i64 0, .string (⟨#[]⟩ : ByteArray), .bool false]) ?_ 2 _ rfl; (with_reducible repeat (first | refine z07 ?_ _ | refine z08 ?_ | refine z06 ?_ _)); refine blk_put (cs := #[.int .i64 0, .int .i64 0, .string (⟨#[]⟩ : ByteArray), .bool false]) ?_ 1 _ rfl; (with_reducible repeat (first | refine z07 ?_ _ | refine z08 ?_ | refine z06 ?_ _)); refine blk_put (cs := #[.int .i64 0, .int .i64 0, .string (⟨#[]⟩ : ByteArray), .bool false]) ?_ 0 _ rfl; (with_reducible repeat (first | refine z07 ?_ _ | refine z08 ?_ | refine z06 ?_ _)); exact BK174.out) Tryd.underlying46 rfl (by kernel_rfl)) rfl ?_
      exact ⟨by first | rfl | (simp [errW_none, errW_some] <;> rfl) | (refine congrArg (fun b_ : Bool => Ending.returned (Value.bool b_)) ?_; simp; done) | (simp [*, errW_none, errW_some] <;> rfl), by repeat (first | (with_reducible first | exact HB.out | apply z02 | apply z00 | apply z03 | refine z09 ?_ GE174.out) | exact HB.out)⟩
    · rw [if_neg c4] at H
      have c4b0 : decide (64 < t175) = false := decide_eq_false c4
      clear c4
      by_cases c7 : t175 > (wrap64 ((l0.length : Int) - t176))
      · rw [if_pos c7] at H
        have c7b0 : decide ((wrap64 ((l0.length : Int) - t176)) < t175) = true := decide_eq_true c7
        clear c7
        simp only [Option.some.injEq, Prod.mk.injEq] at H
        obtain ⟨rfl, rfl, rfl, rfl, rfl, rfl⟩ := H
        go_enter Tryd.func74, Tryd.ntmps74
        go_wp2_with (first | ((with_reducible refine gate_dst (N := 2) rfl ?_); refine box_event ?hg (N := 2) ?hd (cs := #[.int .i64 0, .int .i64 0, .string (⟨#[]⟩ : ByteArray), .bool false]) (t := 46) ?hr ?_; (case hd => rfl); (case hg => rfl); (case hr => first | (go_simp; done) | (go_simp; rfl)); intro gb174 hg w8 hbox hb; have n0_ := z05.mk (below_step (by repeat (first | (with_reducible first | exact HB.out | apply z02 | apply z00 | apply z03) | exact HB.out)) hb); have n1_ := z05.mk (hbox); have n2_ := z05.mk ((by rw [hg]; exact (below_size (by repeat (first | (with_reducible first | exact HB.out | apply z02 | apply z00 | apply z03) | exact HB.out))) : w.heap.size ≤ gb174)); have n3_ := z05.mk ((by rw [hg]; exact (below_size (by repeat (first | (with_reducible first | exact HB.out | apply z02 | apply z00 | apply z03) | exact HB.out))) : w.heap.size ≤ gb174)); clear HB; have HB := n0_; have BK174 := n1_; have GW174 := n2_; have GE174 := n3_; clear n0_ n1_ n2_ n3_; clear hb hbox hg) | ((with_reducible refine gate_callee (f := 82) rfl ?_); refine goesL_ (some 10) rfl rfl Tryd.func82 (by kernel_rfl) rfl #[.slice A0 l0.length c0] rfl (by (try simp only [List.map_toArray, List.map_cons, List.map_nil]); first | done | rfl | (simp only [List.length_drop, List.length_take]; rfl)) ?_; (with_reducible refine (num_GetLen.calls _ _ l0 t175 t176 t177 _ ?side1 ?side2 A2.out).mono ?_); (case side1 => repeat (first | exact (Kd.C_below HR0.out HB.out) | (with_reducible refine Kd.C_alloc ?_ _) | (with_reducible refine Kd.C_drewN ?_ _) | (with_reducible refine Kd.C_drew ?_))); (case side2 => exact HC0.out); rintro e w' ⟨rfl, ⟨nd, rfl⟩⟩; refine ⟨_, rfl, ?_⟩; (try (rw [drewN_self w8]; generalize hq_ : World.drewN w8 _ = w8; have n0_ : z05 (w8.heap[gb174]? = some (.cells #[.int .i64 0, .int .i64 0, .string (⟨#[]⟩ : ByteArray), .bool false] 46 (0, 0))) := ⟨by rw [← hq_]; exact (by (with_reducible repeat (first | refine z07 ?_ _ | refine z08 ?_ | refine z06 ?_ _)); exact BK174.out)⟩; have n1_ : z05 (Below w.heap.size w w8) := ⟨by rw [← hq_]; exact (by repeat (first | (with_reducible first | exact HB.out | apply z02 | apply z00 | apply z03 | refine z09 ?_ GE174.out) | exact HB.out))⟩; clear BK174 HB hq_; have BK174 := n0_; have HB := n1_; clear n0_ n1_)); have hcz9_0 : w8.cell? ⟨gb174, 0, none⟩ = some (.int .i64 0) := (z04 BK174.out 0).trans rfl; have hcz9_1 : w8.cell? ⟨gb174, 1, none⟩ = some (.int .i64 0) := (z04 BK174.out 1).trans rfl; have hcz9_2 : w8.cell? ⟨gb174, 2, none⟩ = some (.string (⟨#[]⟩ : ByteArray)) := (z04 BK174.out 2).trans rfl; have hcz9_3 : w8.cell? ⟨gb174, 3, none⟩ = some (.bool false) := (z04 BK174.out 3).trans rfl; have hfz9_0 := z01 BK174.out 0; have hfz9_1 := z01 BK174.out 1; have hfz9_2 := z01 BK174.out 2; have hfz9_3 := z01 BK174.out 3))
        refine bodyPost_ret (results_ctt rfl _ _ gb174 46 #[.int .i64 0, .int .i64 0, .string (⟨#[]⟩ : ByteArray), .bool false] (0, 0) _ rfl (by (with_reducible repeat (first | refine z07 ?_ _ | refine z08 ?_ | refine z06 ?_ _)); refine blk_put (cs := #[.int .i64 0, .int .i64 0, .string (⟨#[]⟩ : ByteArray), .bool false]) ?_ 3 _ rfl; (with_reducible repeat (first | refine z07 ?_ _ | refine z08 ?_ | refine z06 ?_ _)); refine blk_put (cs := #[.int .i64 0, .int .i64 0, .string (⟨#[]⟩ : ByteArray), .bool false]) ?_ 2 _ rfl; (with_reducible repeat (first | refine z07 ?_ _ | refine z08 ?_ | refine z06 ?_ _)); refine blk_put (cs := #[.int .i64 0, .int .i64 0, .string (⟨#[]⟩ : ByteArray), .bool false]) ?_ 1 _ rfl; (with_reducible repeat (first | refine z07 ?_ _ | refine z08 ?_ | refine z06 ?_ _)); refine blk_put (cs := #[.int .i64 0, .int .i64 0, .string (⟨#[]⟩ : ByteArray), .bool false]) ?_ 0 _ rfl; (with_reducible repeat (first | refine z07 ?_ _ | refine z08 ?_ | refine z06 ?_ _)); exact BK174.out) Tryd.underlying46 rfl (by kernel_rfl)) rfl ?_
        exact ⟨by first | rfl | (simp [errW_none, errW_some] <;> rfl) | (refine congrArg (fun b_ : Bool => Ending.returned (Value.bool b_)) ?_; simp; done) | (simp [*, errW_none, errW_some] <;> rfl), by repeat (first | (with_reducible first | exact HB.out | apply z02 | apply z00 | apply z03 | refine z09 ?_ GE174.out) | exact HB.out)⟩
      · rw [if_neg c7] at H
        have c7b0 : decide ((wrap64 ((l0.length : Int) - t176)) < t175) = false := decide_eq_false c7
        clear c7
        by_cases c10 : 0 ≤ t176
        · rw [if_pos c10] at H
          have c10b0 := eq_true c10
          have c10b1 : decide (0 ≤ t176) = true := decide_eq_true c10
          clear c10
          by_cases c11 : t176 ≤ (wrap64 (t176 + t175))
          · rw [if_pos c11] at H
            have c11b0 := eq_true c11
            have c11b1 : decide (t176 ≤ (wrap64 (t176 + t175))) = true := decide_eq_true c11
            by_cases c12 : (wrap64 (t176 + t175)) ≤ (l0.length : Int)
            · rw [if_pos c12] at H
              have c12b0 := eq_true c12
              have c12b1 : decide ((wrap64 (t176 + t175)) ≤ (l0.length : Int)) = true := decide_eq_true c12
              simp only [Option.some.injEq, Prod.mk.injEq] at H
              obtain ⟨rfl, rfl, rfl, rfl, rfl, rfl⟩ := H
              go_enter Tryd.func74, Tryd.ntmps74
              go_wp2_with (first | ((with_reducible refine gate_dst (N := 2) rfl ?_); refine box_event ?hg (N := 2) ?hd (cs := #[.int .i64 0, .int .i64 0, .string (⟨#[]⟩ : ByteArray), .bool false]) (t := 46) ?hr ?_; (case hd => rfl); (case hg => rfl); (case hr => first | (go_simp; done) | (go_simp; rfl)); intro gb174 hg w13 hbox hb; have n0_ := z05.mk (below_step (by repeat (first | (with_reducible first | exact HB.out | apply z02 | apply z00 | apply z03) | exact HB.out)) hb); have n1_ := z05.mk (hbox); have n2_ := z05.mk ((by rw [hg]; exact (below_size (by repeat (first | (with_reducible first | exact HB.out | apply z02 | apply z00 | apply z03) | exact HB.out))) : w.heap.size ≤ gb174)); have n3_ := z05.mk ((by rw [hg]; exact (below_size (by repeat (first | (with_reducible first | exact HB.out | apply z02 | apply z00 | apply z03) | exact HB.out))) : w.heap.size ≤ gb174)); clear HB; have HB := n0_; have BK174 := n1_; have GW174 := n2_; have GE174 := n3_; clear n0_ n1_ n2_ n3_; clear hb hbox hg) | ((with_reducible refine gate_callee (f := 82) rfl ?_); refine goesL_ (some 10) rfl rfl Tryd.func82 (by kernel_rfl) rfl #[.slice A0 l0.length c0] rfl (by (try simp only [List.map_toArray, List.map_cons, List.map_nil]); first | done | rfl | (simp only [List.length_drop, List.length_take]; rfl)) ?_; (with_reducible refine (num_GetLen.calls _ _ l0 t175 t176 t177 _ ?side1 ?side2 A2.out).mono ?_); (case side1 => repeat (first | exact (Kd.C_below HR0.out HB.out) | (with_reducible refine Kd.C_alloc ?_ _) | (with_reducible refine Kd.C_drewN ?_ _) | (with_reducible refine Kd.C_drew ?_))); (case side2 => exact HC0.out); rintro e w' ⟨rfl, ⟨nd, rfl⟩⟩; refine ⟨_, rfl, ?_⟩; (try (rw [drewN_self w13]; generalize hq_ : World.drewN w13 _ = w13; have n0_ : z05 (w13.heap[gb174]? = some (.cells #[.int .i64 0, .int .i64 0, .string (⟨#[]⟩ : ByteArray), .bool false] 46 (0, 0))) := ⟨by rw [← hq_]; exact (by (with_reducible repeat (first | refine z07 ?_ _ | refine z08 ?_ | refine z06 ?_ _)); exact BK174.out)⟩; have n1_ : z05 (Below w.heap.size w w13) := ⟨by rw [← hq_]; exact (by repeat (first | (with_reducible first | exact HB.out | apply z02 | apply z00 | apply z03 | refine z09 ?_ GE174.out) | exact HB.out))⟩; clear BK174 HB hq_; have BK174 := n0_; have HB := n1_; clear n0_ n1_)); obtain ⟨i014, hi014, _, hsz14, _⟩ := info_parts info5; obtain ⟨A14, hcut14, hA14, hC14⟩ := print_mid_of (P := Tryd.prog) (Value.int .u8) 0 29 5 .i64 .i64 Tryd.underlying29 hi014 hsz14 A0 c0 l0 t176 (wrap64 (t176 + t175)) (of_decide_eq_true (by first | (with_reducible assumption) | assumption)) (by first | omega | exact of_decide_eq_true (by first | (with_reducible assumption) | assumption)) (of_decide_eq_true (by first | (with_reducible assumption) | assumption)) HC0.out; have HR178 := z05.mk (Kd.C_of_reads (h1 := fun _ => rfl) (hA14 _ (Kd.reads_of_C HR0.out))); have HC178 := z05.mk hC14; clear hA14 hC14 hi014 hsz14) | ((with_reducible refine Go.Proofs.YteefchdfdgfaaaaDoor.Hbase.gate_convert (s := 29) (d := 9) rfl ?_); refine Go.Proofs.YteefchdfdgfaaaaDoor.Hbase.strof_event (xs := ((l0.take ((wrap64 (t176 + t175)) : Int).toNat).drop (t176 : Int).toNat)) rfl rfl rfl ?hn Tryd.underlying29 Tryd.underlying5 Tryd.underlying9 (Kd.C_below HR178.out (by repeat (first | (with_reducible first | exact HB.out | apply z02 | apply z00 | apply z03 | refine z09 ?_ GE174.out) | exact HB.out))) ?_; (case hn => first | rfl | (simp only [List.length_drop, List.length_take]; first | rfl | omega)); have hcz15_0 : w13.cell? ⟨gb174, 0, none⟩ = some (.int .i64 0) := (z04 BK174.out 0).trans rfl; have hcz15_1 : w13.cell? ⟨gb174, 1, none⟩ = some (.int .i64 0) := (z04 BK174.out 1).trans rfl; have hcz15_2 : w13.cell? ⟨gb174, 2, none⟩ = some (.string (⟨#[]⟩ : ByteArray)) := (z04 BK174.out 2).trans rfl; have hcz15_3 : w13.cell? ⟨gb174, 3, none⟩ = some (.bool false) := (z04 BK174.out 3).trans rfl; have hfz15_0 := z01 BK174.out 0; have hfz15_1 := z01 BK174.out 1; have hfz15_2 := z01 BK174.out 2; have hfz15_3 := z01 BK174.out 3))
              refine bodyPost_ret (results_ctt rfl _ _ gb174 46 #[.int .i64 2, .int .i64 0, .string (strOfNums ((l0.take ((wrap64 (t176 + t175)) : Int).toNat).drop (t176 : Int).toNat)), .bool false] (0, 0) _ rfl (by (with_reducible repeat (first | refine z07 ?_ _ | refine z08 ?_ | refine z06 ?_ _)); refine blk_put (cs := #[.int .i64 2, .int .i64 0, .string (strOfNums ((l0.take ((wrap64 (t176 + t175)) : Int).toNat).drop (t176 : Int).toNat)), .bool false]) ?_ 3 _ rfl; (with_reducible repeat (first | refine z07 ?_ _ | refine z08 ?_ | refine z06 ?_ _)); refine blk_put (cs := #[.int .i64 2, .int .i64 0, .string (⟨#[]⟩ : ByteArray), .bool false]) ?_ 2 _ rfl; (with_reducible repeat (first | refine z07 ?_ _ | refine z08 ?_ | refine z06 ?_ _)); refine blk_put (cs := #[.int .i64 2, .int .i64 0, .string (⟨#[]⟩ : ByteArray), .bool false]) ?_ 1 _ rfl; (with_reducible repeat (first | refine z07 ?_ _ | refine z08 ?_ | refine z06 ?_ _)); refine blk_put (cs := #[.int .i64 0, .int .i64 0, .string (⟨#[]⟩ : ByteArray), .bool false]) ?_ 0 _ rfl; (with_reducible repeat (first | refine z07 ?_ _ | refine z08 ?_ | refine z06 ?_ _)); exact BK174.out) Tryd.underlying46 rfl (by kernel_rfl)) rfl ?_
              exact ⟨by first | rfl | (simp [errW_none, errW_some] <;> rfl) | (refine congrArg (fun b_ : Bool => Ending.returned (Value.bool b_)) ?_; simp; done) | (simp [*, errW_none, errW_some] <;> rfl), by repeat (first | (with_reducible first | exact HB.out | apply z02 | apply z00 | apply z03 | refine z09 ?_ GE174.out) | exact HB.out)⟩
            · rw [if_neg c12] at H
              exact absurd H (by simp)
          · rw [if_neg c11] at H
            exact absurd H (by simp)
        · rw [if_neg c10] at H
          exact absurd H (by simp)
  · rw [if_neg c3] at H
    have c3b0 : (t177 == 0) = false := beq_eq_false_iff_ne.mpr c3
    have c3b1 : (t177 != 0) = true := bne_iff_ne.mpr c3
    simp only [Option.some.injEq, Prod.mk.injEq] at H
    obtain ⟨rfl, rfl, rfl, rfl, rfl, rfl⟩ := H
    go_enter Tryd.func74, Tryd.ntmps74
    go_wp2_with (first | ((with_reducible refine gate_dst (N := 2) rfl ?_); refine box_event ?hg (N := 2) ?hd (cs := #[.int .i64 0, .int .i64 0, .string (⟨#[]⟩ : ByteArray), .bool false]) (t := 46) ?hr ?_; (case hd => rfl); (case hg => rfl); (case hr => first | (go_simp; done) | (go_simp; rfl)); intro gb174 hg w16 hbox hb; have n0_ := z05.mk (below_step (by repeat (first | (with_reducible first | exact HB.out | apply z02 | apply z00 | apply z03) | exact HB.out)) hb); have n1_ := z05.mk (hbox); have n2_ := z05.mk ((by rw [hg]; exact (below_size (by repeat (first | (with_reducible first | exact HB.out | apply z02 | apply z00 | apply z03) | exact HB.out))) : w.heap.size ≤ gb174)); have n3_ := z05.mk ((by rw [hg]; exact (below_size (by repeat (first | (with_reducible first | exact HB.out | apply z02 | apply z00 | apply z03) | exact HB.out))) : w.heap.size ≤ gb174)); clear HB; have HB := n0_; have BK174 := n1_; have GW174 := n2_; have GE174 := n3_; clear n0_ n1_ n2_ n3_; clear hb hbox hg) | ((with_reducible refine gate_callee (f := 82) rfl ?_); refine goesL_ (some 10) rfl rfl Tryd.func82 (by kernel_rfl) rfl #[.slice A0 l0.length c0] rfl (by (try simp only [List.map_toArray, List.map_cons, List.map_nil]); first | done | rfl | (simp only [List.length_drop, List.length_take]; rfl)) ?_; (with_reducible refine (num_GetLen.calls _ _ l0 t175 t176 t177 _ ?side1 ?side2 A2.out).mono ?_); (case side1 => repeat (first | exact (Kd.C_below HR0.out HB.out) | (with_reducible refine Kd.C_alloc ?_ _) | (with_reducible refine Kd.C_drewN ?_ _) | (with_reducible refine Kd.C_drew ?_))); (case side2 => exact HC0.out); rintro e w' ⟨rfl, ⟨nd, rfl⟩⟩; refine ⟨_, rfl, ?_⟩; (try (rw [drewN_self w16]; generalize hq_ : World.drewN w16 _ = w16; have n0_ : z05 (w16.heap[gb174]? = some (.cells #[.int .i64 0, .int .i64 0, .string (⟨#[]⟩ : ByteArray), .bool false] 46 (0, 0))) := ⟨by rw [← hq_]; exact (by (with_reducible repeat (first | refine z07 ?_ _ | refine z08 ?_ | refine z06 ?_ _)); exact BK174.out)⟩; have n1_ : z05 (Below w.heap.size w w16) := ⟨by rw [← hq_]; exact (by repeat (first | (with_reducible first | exact HB.out | apply z02 | apply z00 | apply z03 | refine z09 ?_ GE174.out) | exact HB.out))⟩; clear BK174 HB hq_; have BK174 := n0_; have HB := n1_; clear n0_ n1_)); have hcz17_0 : w16.cell? ⟨gb174, 0, none⟩ = some (.int .i64 0) := (z04 BK174.out 0).trans rfl; have hcz17_1 : w16.cell? ⟨gb174, 1, none⟩ = some (.int .i64 0) := (z04 BK174.out 1).trans rfl; have hcz17_2 : w16.cell? ⟨gb174, 2, none⟩ = some (.string (⟨#[]⟩ : ByteArray)) := (z04 BK174.out 2).trans rfl; have hcz17_3 : w16.cell? ⟨gb174, 3, none⟩ = some (.bool false) := (z04 BK174.out 3).trans rfl; have hfz17_0 := z01 BK174.out 0; have hfz17_1 := z01 BK174.out 1; have hfz17_2 := z01 BK174.out 2; have hfz17_3 := z01 BK174.out 3))
    refine bodyPost_ret (results_ctt rfl _ _ gb174 46 #[.int .i64 0, .int .i64 0, .string (⟨#[]⟩ : ByteArray), .bool false] (0, 0) _ rfl (by (with_reducible repeat (first | refine z07 ?_ _ | refine z08 ?_ | refine z06 ?_ _)); refine blk_put (cs := #[.int .i64 0, .int .i64 0, .string (⟨#[]⟩ : ByteArray), .bool false]) ?_ 3 _ rfl; (with_reducible repeat (first | refine z07 ?_ _ | refine z08 ?_ | refine z06 ?_ _)); refine blk_put (cs := #[.int .i64 0, .int .i64 0, .string (⟨#[]⟩ : ByteArray), .bool false]) ?_ 2 _ rfl; (with_reducible repeat (first | refine z07 ?_ _ | refine z08 ?_ | refine z06 ?_ _)); refine blk_put (cs := #[.int .i64 0, .int .i64 0, .string (⟨#[]⟩ : ByteArray), .bool false]) ?_ 1 _ rfl; (with_reducible repeat (first | refine z07 ?_ _ | refine z08 ?_ | refine z06 ?_ _)); refine blk_put (cs := #[.int .i64 0, .int .i64 0, .string (⟨#[]⟩ : ByteArray), .bool false]) ?_ 0 _ rfl; (with_reducible repeat (first | refine z07 ?_ _ | refine z08 ?_ | refine z06 ?_ _)); exact BK174.out) Tryd.underlying46 rfl (by kernel_rfl)) rfl ?_
    exact ⟨by first | rfl | (simp [errW_none, errW_some] <;> rfl) | (refine congrArg (fun b_ : Bool => Ending.returned (Value.bool b_)) ?_; simp; done) | (simp [*, errW_none, errW_some] <;> rfl), by repeat (first | (with_reducible first | exact HB.out | apply z02 | apply z00 | apply z03 | refine z09 ?_ GE174.out) | exact HB.out)⟩

/-! ### value_Get: function 60 -/
def value_Get.f (l0 : List Int) (a1 : Int) : Option (Int × Int × ByteArray × Bool × Int × Int) := if a1 = 0 then (some (0, 0, (⟨#[]⟩ : ByteArray), false, 0, 0)) else (if a1 = 1 then ((num_Get.f l0).bind fun bt180 => (if bt180.2.2 = 0 then (some (1, bt180.1, (⟨#[]⟩ : ByteArray), false, bt180.2.1, 0)) else (some (0, 0, (⟨#[]⟩ : ByteArray), false, 0, bt180.2.2)))) else (if a1 = 2 then ((value_text.f l0).bind fun bt183 => (some (bt183.1, bt183.2.1, bt183.2.2.1, bt183.2.2.2.1, bt183.2.2.2.2.1, bt183.2.2.2.2.2))) else (if a1 = 3 then (if (l0.length : Int) = 0 then (some (0, 0, (⟨#[]⟩ : ByteArray), false, 0, 6)) else (if 0 < (l0.length : Int) then (if (rd l0 0) > 1 then (some (0, 0, (⟨#[]⟩ : ByteArray), false, 0, 7)) else (some (3, 0, (⟨#[]⟩ : ByteArray), ((rd l0 0) == 1), 1, 0))) else (none))) else (some (0, 0, (⟨#[]⟩ : ByteArray), false, 0, 1)))))
set_option maxHeartbeats 8000000 in
set_option maxRecDepth 100000 in
theorem value_Get.calls (A0 : Option Addr) (c0 : Nat) (l0 : List Int) (a1 : Int) (r1 : Int) (r2 : Int) (r3 : ByteArray) (r4 : Bool) (r5 : Int) (r6 : Int) (w : World) (hr0 : Kd.C (Kd.int .u8) w A0 l0.length l0) (hc0 : l0.length ≤ c0) (h : value_Get.f l0 a1 = some (r1, r2, r3, r4, r5, r6)) :
    Calls Tryd.prog 60 #[.slice A0 l0.length c0, .int .i64 a1] w fun e w' => e = .returned (.tuple #[.agg #[.int .i64 r1, .int .i64 r2, .string r3, .bool r4], .int .i64 r5, .int .i64 r6]) ∧ Below w.heap.size w w' := by
  have hu46 := Tryd.underlying46
  have HR0 := z05.mk hr0
  have HC0 := z05.mk hc0
  clear hr0 hc0
  have HB := z05.mk (Below.refl w.heap.size w)
  have H : (if a1 = 0 then (some (0, 0, (⟨#[]⟩ : ByteArray), false, 0, 0)) else (if a1 = 1 then ((num_Get.f l0).bind fun bt180 => (if bt180.2.2 = 0 then (some (1, bt180.1, (⟨#[]⟩ : ByteArray), false, bt180.2.1, 0)) else (some (0, 0, (⟨#[]⟩ : ByteArray), false, 0, bt180.2.2)))) else (if a1 = 2 then ((value_text.f l0).bind fun bt183 => (some (bt183.1, bt183.2.1, bt183.2.2.1, bt183.2.2.2.1, bt183.2.2.2.2.1, bt183.2.2.2.2.2))) else (if a1 = 3 then (if (l0.length : Int) = 0 then (some (0, 0, (⟨#[]⟩ : ByteArray), false, 0, 6)) else (if 0 < (l0.length : Int) then (if (rd l0 0) > 1 then (some (0, 0, (⟨#[]⟩ : ByteArray), false, 0, 7)) else (some (3, 0, (⟨#[]⟩ : ByteArray), ((rd l0 0) == 1), 1, 0))) else (none))) else (some (0, 0, (⟨#[]⟩ : ByteArray), false, 0, 1)))))) = some (r1, r2, r3, r4, r5, r6) := h
  clear h
  by_cases c3 : a1 = 0
  · rw [if_pos c3] at H
    have c3b0 : (a1 == 0) = true := beq_iff_eq.mpr c3
    have c3b1 : (a1 != 0) = false := bne_eq_false_iff_eq.mpr c3
    clear c3
    simp only [Option.some.injEq, Prod.mk.injEq] at H
    obtain ⟨rfl, rfl, rfl, rfl, rfl, rfl⟩ := H
    go_enter Tryd.func60, Tryd.ntmps60
    go_wp2_with (first | ((with_reducible refine gate_dst (N := 4) rfl ?_); refine box_event ?hg (N := 4) ?hd (cs := #[.int .i64 0, .int .i64 0, .string (⟨#[]⟩ : ByteArray), .bool false]) (t := 46) ?hr ?_; (case hd => rfl); (case hg => rfl); (case hr => first | (go_simp; done) | (go_simp; rfl)); intro gb179 hg w4 hbox hb; have n0_ := z05.mk (below_step (by repeat (first | (with_reducible first | exact HB.out | apply z02 | apply z00 | apply z03) | exact HB.out)) hb); have n1_ := z05.mk (hbox); have n2_ := z05.mk ((by rw [hg]; exact (below_size (by repeat (first | (with_reducible first | exact HB.out | apply z02 | apply z00 | apply z03) | exact HB.out))) : w.heap.size ≤ gb179)); have n3_ := z05.mk ((by rw [hg]; exact (below_size (by repeat (first | (with_reducible first | exact HB.out | apply z02 | apply z00 | apply z03) | exact HB.out))) : w.heap.size ≤ gb179)); clear HB; have HB := n0_; have BK179 := n1_; have GW179 := n2_; have GE179 := n3_; clear n0_ n1_ n2_ n3_; clear hb hbox hg; have hcz5_0 : w4.cell? ⟨gb179, 0, none⟩ = some (.int .i64 0) := (z04 BK179.out 0).trans rfl; have hcz5_1 : w4.cell? ⟨gb179, 1, none⟩ = some (.int .i64 0) := (z04 BK179.out 1).trans rfl; have hcz5_2 : w4.cell? ⟨gb179, 2, none⟩ = some (.string (⟨#[]⟩ : ByteArray)) := (z04 BK179.out 2).trans rfl; have hcz5_3 : w4.cell? ⟨gb179, 3, none⟩ = some (.bool false) := (z04 BK179.out 3).trans rfl; have hfz5_0 := z01 BK179.out 0; have hfz5_1 := z01 BK179.out 1; have hfz5_2 := z01 BK179.out 2; have hfz5_3 := z01 BK179.out 3))
    refine bodyPost_ret (results_ctt rfl _ _ gb179 46 #[.int .i64 0, .int .i64 0, .string (⟨#[]⟩ : ByteArray), .bool false] (0, 0) _ rfl (by (with_reducible repeat (first | refine z07 ?_ _ | refine z08 ?_ | refine z06 ?_ _)); refine blk_put (cs := #[.int .i64 0, .int .i64 0, .string (⟨#[]⟩ : ByteArray), .bool false]) ?_ 3 _ rfl; (with_reducible repeat (first | refine z07 ?_ _ | refine z08 ?_ | refine z06 ?_ _)); refine blk_put (cs := #[.int .i64 0, .int .i64 0, .string (⟨#[]⟩ : ByteArray), .bool false]) ?_ 2 _ rfl; (with_reducible repeat (first | refine z07 ?_ _ | refine z08 ?_ | refine z06 ?_ _)); refine blk_put (cs := #[.int .i64 0, .int .i64 0, .string (⟨#[]⟩ : ByteArray), .bool false]) ?_ 1 _ rfl; (with_reducible repeat (first | refine z07 ?_ _ | refine z08 ?_ | refine z06 ?_ _)); refine blk_put (cs := #[.int .i64 0, .int .i64 0, .string (⟨#[]⟩ : ByteArray), .bool false]) ?_ 0 _ rfl; (with_reducible repeat (first | refine z07 ?_ _ | refine z08 ?_ | refine z06 ?_ _)); exact BK179.out) Tryd.underlying46 rfl (by kernel_rfl)) rfl ?_
    exact ⟨by first | rfl | (simp [errW_none, errW_some] <;> rfl) | (refine congrArg (fun b_ : Bool => Ending.returned (Value.bool b_)) ?_; simp; done) | (simp [*, errW_none, errW_some] <;> rfl), by repeat (first | (with_reducible first | exact HB.out | apply z02 | apply z00 | apply z03 | refine z09 ?_ GE179.out) | exact HB.out)⟩
  · rw [if_neg c3] at H
    have c3b0 : (a1 == 0) = false := beq_eq_false_iff_ne.mpr c3
    have c3b1 : (a1 != 0) = true := bne_iff_ne.mpr c3
    by_cases c6 : a1 = 1
    · rw [if_pos c6] at H
      have c6b0 : (a1 == 1) = true := beq_iff_eq.mpr c6
      have c6b1 : (a1 != 1) = false := bne_eq_false_iff_eq.mpr c6
      clear c6
      replace H := Option.bind_eq_some_iff.mp H
      obtain ⟨⟨t180, t181, t182⟩, A70, H⟩ := H
      replace H : (if t182 = 0 then (some (1, t180, (⟨#[]⟩ : ByteArray), false, t181, 0)) else (some (0, 0, (⟨#[]⟩ : ByteArray), false, 0, t182))) = some (r1, r2, r3, r4, r5, r6) := H
      have A7 := z05.mk A70
      clear A70
      by_cases c8 : t182 = 0
      · rw [if_pos c8] at H
        have c8b0 : (t182 == 0) = true := beq_iff_eq.mpr c8
        have c8b1 : (t182 != 0) = false := bne_eq_false_iff_eq.mpr c8
        clear c8
        simp only [Option.some.injEq, Prod.mk.injEq] at H
        obtain ⟨rfl, rfl, rfl, rfl, rfl, rfl⟩ := H
        go_enter Tryd.func60, Tryd.ntmps60
        go_wp2_with (first | ((with_reducible refine gate_dst (N := 4) rfl ?_); refine box_event ?hg (N := 4) ?hd (cs := #[.int .i64 0, .int .i64 0, .string (⟨#[]⟩ : ByteArray), .bool false]) (t := 46) ?hr ?_; (case hd => rfl); (case hg => rfl); (case hr => first | (go_simp; done) | (go_simp; rfl)); intro gb179 hg w9 hbox hb; have n0_ := z05.mk (below_step (by repeat (first | (with_reducible first | exact HB.out | apply z02 | apply z00 | apply z03) | exact HB.out)) hb); have n1_ := z05.mk (hbox); have n2_ := z05.mk ((by rw [hg]; exact (below_size (by repeat (first | (with_reducible first | exact HB.out | apply z02 | apply z00 | apply z03) | exact HB.out))) : w.heap.size ≤ gb179)); have n3_ := z05.mk ((by rw [hg]; exact (below_size (by repeat (first | (with_reducible first | exact HB.out | apply z02 | apply z00 | apply z03) | exact HB.out))) : w.heap.size ≤ gb179)); clear HB; have HB := n0_; have BK179 := n1_; have GW179 := n2_; have GE179 := n3_; clear n0_ n1_ n2_ n3_; clear hb hbox hg) | ((with_reducible refine gate_callee (f := 73) rfl ?_); refine goesL_ (some 18) rfl rfl Tryd.func73 (by kernel_rfl) rfl #[.slice A0 l0.length c0] rfl (by (try simp only [List.map_toArray, List.map_cons, List.map_nil]); first | done | rfl | (simp only [List.length_drop, List.length_take]; rfl)) ?_; (with_reducible refine (num_Get.calls _ _ l0 t180 t181 t182 _ ?side1 ?side2 A7.out).mono ?_); (case side1 => repeat (first | exact (Kd.C_below HR0.out HB.out) | (with_reducible refine Kd.C_alloc ?_ _) | (with_reducible refine Kd.C_drewN ?_ _) | (with_reducible refine Kd.C_drew ?_))); (case side2 => exact HC0.out); rintro e w' ⟨rfl, ⟨nd, rfl⟩⟩; refine ⟨_, rfl, ?_⟩; (try (rw [drewN_self w9]; generalize hq_ : World.drewN w9 _ = w9; have n0_ : z05 (w9.heap[gb179]? = some (.cells #[.int .i64 0, .int .i64 0, .string (⟨#[]⟩ : ByteArray), .bool false] 46 (0, 0))) := ⟨by rw [← hq_]; exact (by (with_reducible repeat (first | refine z07 ?_ _ | refine z08 ?_ | refine z06 ?_ _)); exact BK179.out)⟩; have n1_ : z05 (Below w.heap.size w w9) := ⟨by rw [← hq_]; exact (by repeat (first | (with_reducible first | exact HB.out | apply z02 | apply z00 | apply z03 | refine z09 ?_ GE179.out) | exact HB.out))⟩; clear BK179 HB hq_; have BK179 := n0_; have HB := n1_; clear n0_ n1_)); have hcz10_0 : w9.cell? ⟨gb179, 0, none⟩ = some (.int .i64 0) := (z04 BK179.out 0).trans rfl; have hcz10_1 : w9.cell? ⟨gb179, 1, none⟩ = some (.int .i64 0) := (z04 BK179.out 1).trans rfl; have hcz10_2 : w9.cell? ⟨gb179, 2, none⟩ = some (.string (⟨#[]⟩ : ByteArray)) := (z04 BK179.out 2).trans rfl; have hcz10_3 : w9.cell? ⟨gb179, 3, none⟩ = some (.bool false) := (z04 BK179.out 3).trans rfl; have hfz10_0 := z01 BK179.out 0; have hfz10_1 := z01 BK179.out 1; have hfz10_2 := z01 BK179.out 2; have hfz10_3 := z01 BK179.out 3))
        refine bodyPost_ret (results_ctt rfl _ _ gb179 46 #[.int .i64 1, .int .i64 t180, .string (⟨#[]⟩ : ByteArray), .bool false] (0, 0) _ rfl (by (with_reducible repeat (first | refine z07 ?_ _ | refine z08 ?_ | refine z06 ?_ _)); refine blk_put (cs := #[.int .i64 1, .int .i64 t180, .string (⟨#[]⟩ : ByteArray), .bool false]) ?_ 3 _ rfl; (with_reducible repeat (first | refine z07 ?_ _ | refine z08 ?_ | refine z06 ?_ _)); refine blk_put (cs := #[.int .i64 1, .int .i64 t180, .string (⟨#[]⟩ : ByteArray), .bool false]) ?_ 2 _ rfl; (with_reducible repeat (first | refine z07 ?_ _ | refine z08 ?_ | refine z06 ?_ _)); refine blk_put (cs := #[.int .i64 1, .int .i64 0, .string (⟨#[]⟩ : ByteArray), .bool false]) ?_ 1 _ rfl; (with_reducible repeat (first | refine z07 ?_ _ | refine z08 ?_ | refine z06 ?_ _)); refine blk_put (cs := #[.int .i64 0, .int .i64 0, .string (⟨#[]⟩ : ByteArray), .bool false]) ?_ 0 _ rfl; (with_reducible repeat (first | refine z07 ?_ _ | refine z08 ?_ | refine z06 ?_ _)); exact BK179.out) Tryd.underlying46 rfl (by kernel_rfl)) rfl ?_
        exact ⟨by first | rfl | (simp [errW_none, errW_some] <;> rfl) | (refine congrArg (fun b_ : Bool => Ending.returned (Value.bool b_)) ?_; simp; done) | (simp [*, errW_none, errW_some] <;> rfl), by repeat (first | (with_reducible first | exact HB.out | apply z02 | apply z00 | apply z03 | refine z09 ?_ GE179.out) | exact HB.out)⟩
      · rw [if_neg c8] at H
        have c8b0 : (t182 == 0) = false := beq_eq_false_iff_ne.mpr c8
        have c8b1 : (t182 != 0) = true := bne_iff_ne.mpr c8
        simp only [Option.some.injEq, Prod.mk.injEq] at H
        obtain ⟨rfl, rfl, rfl, rfl, rfl, rfl⟩ := H
        go_enter Tryd.func60, Tryd.ntmps60
        go_wp2_with (first | ((with_reducible refine gate_dst (N := 4) rfl ?_); refine box_event ?hg (N := 4) ?hd (cs := #[.int .i64 0, .int .i64 0, .string (⟨#[]⟩ : ByteArray), .bool false]) (t := 46) ?hr ?_; (case hd => rfl); (case hg => rfl); (case hr => first | (go_simp; done) | (go_simp; rfl)); intro gb179 hg w11 hbox hb; have n0_ := z05.mk (below_step (by repeat (first | (with_reducible first | exact HB.out | apply z02 | apply z00 | apply z03) | exact HB.out)) hb); have n1_ := z05.mk (hbox); have n2_ := z05.mk ((by rw [hg]; exact (below_size (by repeat (first | (with_reducible first | exact HB.out | apply z02 | apply z00 | apply z03) | exact HB.out))) : w.heap.size ≤ gb179)); have n3_ := z05.mk ((by rw [hg]; exact (below_size (by repeat (first | (with_reducible first | exact HB.out | apply z02 | apply z00 | apply z03) | exact HB.out))) : w.heap.size ≤ gb179)); clear HB; have HB := n0_; have BK179 := n1_; have GW179 := n2_; have GE179 := n3_; clear n0_ n1_ n2_ n3_; clear hb hbox hg) | ((with_reducible refine gate_callee (f := 73) rfl ?_); refine goesL_ (some 18) rfl rfl Tryd.func73 (by kernel_rfl) rfl #[.slice A0 l0.length c0] rfl (by (try simp only [List.map_toArray, List.map_cons, List.map_nil]); first | done | rfl | (simp only [List.length_drop, List.length_take]; rfl)) ?_; (with_reducible refine (num_Get.calls _ _ l0 t180 t181 t182 _ ?side1 ?side2 A7.out).mono ?_); (case side1 => repeat (first | exact (Kd.C_below HR0.out HB.out) | (with_reducible refine Kd.C_alloc ?_ _) | (with_reducible refine Kd.C_drewN ?_ _) | (with_reducible refine Kd.C_drew ?_))); (case side2 => exact HC0.out); rintro e w' ⟨rfl, ⟨nd, rfl⟩⟩; refine ⟨_, rfl, ?_⟩; (try (rw [drewN_self w11]; generalize hq_ : World.drewN w11 _ = w11; have n0_ : z05 (w11.heap[gb179]? = some (.cells #[.int .i64 0, .int .i64 0, .string (⟨#[]⟩ : ByteArray), .bool false] 46 (0, 0))) := ⟨by rw [← hq_]; exact (by (with_reducible repeat (first | refine z07 ?_ _ | refine z08 ?_ | refine z06 ?_ _)); exact BK179.out)⟩; have n1_ : z05 (Below w.heap.size w w11) := ⟨by rw [← hq_]; exact (by repeat (first | (with_reducible first | exact HB.out | apply z02 | apply z00 | apply z03 | refine z09 ?_ GE179.out) | exact HB.out))⟩; clear BK179 HB hq_; have BK179 := n0_; have HB := n1_; clear n0_ n1_)); have hcz12_0 : w11.cell? ⟨gb179, 0, none⟩ = some (.int .i64 0) := (z04 BK179.out 0).trans rfl; have hcz12_1 : w11.cell? ⟨gb179, 1, none⟩ = some (.int .i64 0) := (z04 BK179.out 1).trans rfl; have hcz12_2 : w11.cell? ⟨gb179, 2, none⟩ = some (.string (⟨#[]⟩ : ByteArray)) := (z04 BK179.out 2).trans rfl; have hcz12_3 : w11.cell? ⟨gb179, 3, none⟩ = some (.bool false) := (z04 BK179.out 3).trans rfl; have hfz12_0 := z01 BK179.out 0; have hfz12_1 := z01 BK179.out 1; have hfz12_2 := z01 BK179.out 2; have hfz12_3 := z01 BK179.out 3))
        refine bodyPost_ret (results_ctt rfl _ _ gb179 46 #[.int .i64 0, .int .i64 0, .string (⟨#[]⟩ : ByteArray), .bool false] (0, 0) _ rfl (by (with_reducible repeat (first | refine z07 ?_ _ | refine z08 ?_ | refine z06 ?_ _)); refine blk_put (cs := #[.int .i64 0, .int .i64 0, .string (⟨#[]⟩ : ByteArray), .bool false]) ?_ 3 _ rfl; (with_reducible repeat (first | refine z07 ?_ _ | refine z08 ?_ | refine z06 ?_ _)); refine blk_put (cs := #[.int .i64 0, .int .i64 0, .string (⟨#[]⟩ : ByteArray), .bool false]) ?_ 2 _ rfl; (with_reducible repeat (first | refine z07 ?_ _ | refine z08 ?_ | refine z06 ?_ _)); refine blk_put (cs := #[.int .i64 0, .int .i64 0, .string (⟨#[]⟩ : ByteArray), .bool false]) ?_ 1 _ rfl; (with_reducible repeat (first | refine z07 ?_ _ | refine z08 ?_ | refine z06 ?_ _)); refine blk_put (cs := #[.int .i64 0, .int .i64 0, .string (⟨#[]⟩ : ByteArray), .bool false]) ?_ 0 _ rfl; (with_reducible repeat (first | refine z07 ?_ _ | refine z08 ?_ | refine z06 ?_ _)); exact BK179.out) Tryd.underlying46 rfl (by kernel_rfl)) rfl ?_
        exact ⟨by first | rfl | (simp [errW_none, errW_some] <;> rfl) | (refine congrArg (fun b_ : Bool => Ending.returned (Value.bool b_)) ?_; simp; done) | (simp [*, errW_none, errW_some] <;> rfl), by repeat (first | (with_reducible first | exact HB.out | apply z02 | apply z00 | apply z03 | refine z09 ?_ GE179.out) | exact HB.out)⟩
    · rw [if_neg c6] at H
      have c6b0 : (a1 == 1) = false := beq_eq_false_iff_ne.mpr c6
      have c6b1 : (a1 != 1) = true := bne_iff_ne.mpr c6
      by_cases c13 : a1 = 2
      · rw [if_pos c13] at H
        have c13b0 : (a1 == 2) = true := beq_iff_eq.mpr c13
        have c13b1 : (a1 != 2) = false := bne_eq_false_iff_eq.mpr c13
        clear c13
        replace H := Option.bind_eq_some_iff.mp H
        obtain ⟨⟨t183, t184, t185, t186, t187, t188⟩, A140, H⟩ := H
        replace H : (some (t183, t184, t185, t186, t187, t188)) = some (r1, r2, r3, r4, r5, r6) := H
        have A14 := z05.mk A140
        clear A140
        simp only [Option.some.injEq, Prod.mk.injEq] at H
        obtain ⟨rfl, rfl, rfl, rfl, rfl, rfl⟩ := H
        go_enter Tryd.func60, Tryd.ntmps60
        go_wp2_with (first | ((with_reducible refine gate_dst (N := 4) rfl ?_); refine box_event ?hg (N := 4) ?hd (cs := #[.int .i64 0, .int .i64 0, .string (⟨#[]⟩ : ByteArray), .bool false]) (t := 46) ?hr ?_; (case hd => rfl); (case hg => rfl); (case hr => first | (go_simp; done) | (go_simp; rfl)); intro gb179 hg w15 hbox hb; have n0_ := z05.mk (below_step (by repeat (first | (with_reducible first | exact HB.out | apply z02 | apply z00 | apply z03) | exact HB.out)) hb); have n1_ := z05.mk (hbox); have n2_ := z05.mk ((by rw [hg]; exact (below_size (by repeat (first | (with_reducible first | exact HB.out | apply z02 | apply z00 | apply z03) | exact HB.out))) : w.heap.size ≤ gb179)); have n3_ := z05.mk ((by rw [hg]; exact (below_size (by repeat (first | (with_reducible first | exact HB.out | apply z02 | apply z00 | apply z03) | exact HB.out))) : w.heap.size ≤ gb179)); clear HB; have HB := n0_; have BK179 := n1_; have GW179 := n2_; have GE179 := n3_; clear n0_ n1_ n2_ n3_; clear hb hbox hg) | ((with_reducible refine gate_callee (f := 74) rfl ?_); refine goesL_ (some 32) rfl rfl Tryd.func74 (by kernel_rfl) rfl #[.slice A0 l0.length c0] rfl (by (try simp only [List.map_toArray, List.map_cons, List.map_nil]); first | done | rfl | (simp only [List.length_drop, List.length_take]; rfl)) ?_; (with_reducible refine (value_text.calls _ _ l0 t183 t184 t185 t186 t187 t188 _ ?side1 ?side2 A14.out).mono ?_); (case side1 => repeat (first | exact (Kd.C_below HR0.out HB.out) | (with_reducible refine Kd.C_alloc ?_ _) | (with_reducible refine Kd.C_drewN ?_ _) | (with_reducible refine Kd.C_drew ?_))); (case side2 => exact HC0.out); rintro e w16 ⟨rfl, hb⟩; refine ⟨_, rfl, ?_⟩; have n0_ := z05.mk (blk_below (g := gb179) (o := .cells #[.int .i64 0, .int .i64 0, .string (⟨#[]⟩ : ByteArray), .bool false] 46 (0, 0)) (by (with_reducible repeat (first | refine z07 ?_ _ | refine z08 ?_ | refine z06 ?_ _)); exact BK179.out) hb); have n1_ := z05.mk (below_step (by repeat (first | (with_reducible first | exact HB.out | apply z02 | apply z00 | apply z03 | refine z09 ?_ GE179.out) | exact HB.out)) hb); clear BK179; clear HB; have BK179 := n0_; have HB := n1_; clear n0_ n1_; (try clear hb); (try clear hb2); (try clear hk); (try clear hi); have hcz17_0 : w16.cell? ⟨gb179, 0, none⟩ = some (.int .i64 0) := (z04 BK179.out 0).trans rfl; have hcz17_1 : w16.cell? ⟨gb179, 1, none⟩ = some (.int .i64 0) := (z04 BK179.out 1).trans rfl; have hcz17_2 : w16.cell? ⟨gb179, 2, none⟩ = some (.string (⟨#[]⟩ : ByteArray)) := (z04 BK179.out 2).trans rfl; have hcz17_3 : w16.cell? ⟨gb179, 3, none⟩ = some (.bool false) := (z04 BK179.out 3).trans rfl; have hfz17_0 := z01 BK179.out 0; have hfz17_1 := z01 BK179.out 1; have hfz17_2 := z01 BK179.out 2; have hfz17_3 := z01 BK179.out 3))
        refine bodyPost_ret (results_ctt rfl _ _ gb179 46 #[.int .i64 t183, .int .i64 t184, .string t185, .bool t186] (0, 0) _ rfl (by (with_reducible repeat (first | refine z07 ?_ _ | refine z08 ?_ | refine z06 ?_ _)); refine blk_put (cs := #[.int .i64 t183, .int .i64 t184, .string t185, .bool false]) ?_ 3 _ rfl; (with_reducible repeat (first | refine z07 ?_ _ | refine z08 ?_ | refine z06 ?_ _)); refine blk_put (cs := #[.int .i64 t183, .int .i64 t184, .string (⟨#[]⟩ : ByteArray), .bool false]) ?_ 2 _ rfl; (with_reducible repeat (first | refine z07 ?_ _ | refine z08 ?_ | refine z06 ?_ _)); refine blk_put (cs := #[.int .i64 t183, .int .i64 0, .string (⟨#[]⟩ : ByteArray), .bool false]) ?_ 1 _ rfl; (with_reducible repeat (first | refine z07 ?_ _ | refine z08 ?_ | refine z06 ?_ _)); refine blk_put (cs := #[.int .i64 0, .int .i64 0, .string (⟨#[]⟩ : ByteArray), .bool false]) ?_ 0 _ rfl; (with_reducible repeat (first | refine z07 ?_ _ | refine z08 ?_ | refine z06 ?_ _)); exact BK179.out) Tryd.underlying46 rfl (by kernel_rfl)) rfl ?_
        exact ⟨by first | rfl | (simp [errW_none, errW_some] <;> rfl) | (refine congrArg (fun b_ : Bool => Ending.returned (Value.bool b_)) ?_; simp; done) | (simp [*, errW_none, errW_some] <;> rfl), by repeat (first | (with_reducible first | exact HB.out | apply z02 | apply z00 | apply z03 | refine z09 ?_ GE179.out) | exact HB.out)⟩
      · rw [if_neg c13] at H
        have c13b0 : (a1 == 2) = false := beq_eq_false_iff_ne.mpr c13
        have c13b1 : (a1 != 2) = true := bne_iff_ne.mpr c13
        by_cases c18 : a1 = 3
        · rw [if_pos c18] at H
          have c18b0 : (a1 == 3) = true := beq_iff_eq.mpr c18
          have c18b1 : (a1 != 3) = false := bne_eq_false_iff_eq.mpr c18
          clear c18
          by_cases c19 : (l0.length : Int) = 0
          · rw [if_pos c19] at H
            have c19b0 : ((l0.length : Int) == 0) = true := beq_iff_eq.mpr c19
            have c19b1 : ((l0.length : Int) != 0) = false := bne_eq_false_iff_eq.mpr c19
            clear c19
            simp only [Option.some.injEq, Prod.mk.injEq] at H
            obtain ⟨rfl, rfl, rfl, rfl, rfl, rfl⟩ := H
            go_enter Tryd.func60, Tryd.ntmps60
            go_wp2_with (first | ((with_reducible refine gate_dst (N := 4) rfl ?_); refine box_event ?hg (N := 4) ?hd (cs := #[.int .i64 0, .int .i64 0, .string (⟨#[]⟩ : ByteArray), .bool false]) (t := 46) ?hr ?_; (case hd => rfl); (case hg => rfl); (case hr => first | (go_simp; done) | (go_simp; rfl)); intro gb179 hg w20 hbox hb; have n0_ := z05.mk (below_step (by repeat (first | (with_reducible first | exact HB.out | apply z02 | apply z00 | apply z03) | exact HB.out)) hb); have n1_ := z05.mk (hbox); have n2_ := z05.mk ((by rw [hg]; exact (below_size (by repeat (first | (with_reducible first | exact HB.out | apply z02 | apply z00 | apply z03) | exact HB.out))) : w.heap.size ≤ gb179)); have n3_ := z05.mk ((by rw [hg]; exact (below_size (by repeat (first | (with_reducible first | exact HB.out | apply z02 | apply z00 | apply z03) | exact HB.out))) : w.heap.size ≤ gb179)); clear HB; have HB := n0_; have BK179 := n1_; have GW179 := n2_; have GE179 := n3_; clear n0_ n1_ n2_ n3_; clear hb hbox hg; have hcz21_0 : w20.cell? ⟨gb179, 0, none⟩ = some (.int .i64 0) := (z04 BK179.out 0).trans rfl; have hcz21_1 : w20.cell? ⟨gb179, 1, none⟩ = some (.int .i64 0) := (z04 BK179.out 1).trans rfl; have hcz21_2 : w20.cell? ⟨gb179, 2, none⟩ = some (.string (⟨#[]⟩ : ByteArray)) := (z04 BK179.out 2).trans rfl; have hcz21_3 : w20.cell? ⟨gb179, 3, none⟩ = some (.bool false) := (z04 BK179.out 3).trans rfl; have hfz21_0 := z01 BK179.out 0; have hfz21_1 := z01 BK179.out 1; have hfz21_2 := z01 BK179.out 2; have hfz21_3 := z01 BK179.out 3))
            refine bodyPost_ret (results_ctt rfl _ _ gb179 46 #[.int .i64 0, .int .i64 0, .string (⟨#[]⟩ : ByteArray), .bool false] (0, 0) _ rfl (by (with_reducible repeat (first | refine z07 ?_ _ | refine z08 ?_ | refine z06 ?_ _)); refine blk_put (cs := #[.int .i64 0, .int .i64 0, .string (⟨#[]⟩ : ByteArray), .bool false]) ?_ 3 _ rfl; (with_reducible repeat (first | refine z07 ?_ _ | refine z08 ?_ | refine z06 ?_ _)); refine blk_put (cs := #[.int .i64 0, .int .i64 0, .string (⟨#[]⟩ : ByteArray), .bool false]) ?_ 2 _ rfl; (with_reducible repeat (first | refine z07 ?_ _ | refine z08 ?_ | refine z06 ?_ _)); refine blk_put (cs := #[.int .i64 0, .int .i64 0, .string (⟨#[]⟩ : ByteArray), .bool false]) ?_ 1 _ rfl; (with_reducible repeat (first | refine z07 ?_ _ | refine z08 ?_ | refine z06 ?_ _)); refine blk_put (cs := #[.int .i64 0, .int .i64 0, .string (⟨#[]⟩ : ByteArray), .bool false]) ?_ 0 _ rfl; (with_reducible repeat (first | refine z07 ?_ _ | refine z08 ?_ | refine z06 ?_ _)); exact BK179.out) Tryd.underlying46 rfl (by kernel_rfl)) rfl ?_
            exact ⟨by first | rfl | (simp [errW_none, errW_some] <;> rfl) | (refine congrArg (fun b_ : Bool => Ending.returned (Value.bool b_)) ?_; simp; done) | (simp [*, errW_none, errW_some] <;> rfl), by repeat (first | (with_reducible first | exact HB.out | apply z02 | apply z00 | apply z03 | refine z09 ?_ GE179.out) | exact HB.out)⟩
          · rw [if_neg c19] at H
            have c19b0 : ((l0.length : Int) == 0) = false := beq_eq_false_iff_ne.mpr c19
            have c19b1 : ((l0.length : Int) != 0) = true := bne_iff_ne.mpr c19
            have c19b2 : ¬ (l0 = []) := fun h_ => c19 (by rw [h_]; rfl)
            by_cases c22 : 0 < (l0.length : Int)
            · rw [if_pos c22] at H
              have c22b0 : decide (0 < (l0.length : Int)) = true := decide_eq_true c22
              have c22b1 : decide (0 < l0.length) = true := decide_eq_true (by omega)
              clear c22
              by_cases c23 : (rd l0 0) > 1
              · rw [if_pos c23] at H
                have c23b0 : decide (1 < (rd l0 0)) = true := decide_eq_true c23
                clear c23
                simp only [Option.some.injEq, Prod.mk.injEq] at H
                obtain ⟨rfl, rfl, rfl, rfl, rfl, rfl⟩ := H
                go_enter Tryd.func60, Tryd.ntmps60
                go_wp2_with (first | ((with_reducible refine gate_dst (N := 4) rfl ?_); refine box_event ?hg (N := 4) ?hd (cs := #[.int .i64 0, .int .i64 0, .string (⟨#[]⟩ : ByteArray), .bool false]) (t := 46) ?hr ?_; (case hd => rfl); (case hg => rfl); (case hr => first | (go_simp; done) | (go_simp; rfl)); intro gb179 hg w24 hbox hb; have n0_ := z05.mk (below_step (by repeat (first | (with_reducible first | exact HB.out | apply z02 | apply z00 | apply z03) | exact HB.out)) hb); have n1_ := z05.mk (hbox); have n2_ := z05.mk ((by rw [hg]; exact (below_size (by repeat (first | (with_reducible first | exact HB.out | apply z02 | apply z00 | apply z03) | exact HB.out))) : w.heap.size ≤ gb179)); have n3_ := z05.mk ((by rw [hg]; exact (below_size (by repeat (first | (with_reducible first | exact HB.out | apply z02 | apply z00 | apply z03) | exact HB.out))) : w.heap.size ≤ gb179)); clear HB; have HB := n0_; have BK179 := n1_; have GW179 := n2_; have GE179 := n3_; clear n0_ n1_ n2_ n3_; clear hb hbox hg; have p189 : 0 ≤ (0 : Int) := (by omega); have q189 : 0 < (l0.length : Int) := of_decide_eq_true (by first | (with_reducible assumption) | assumption); obtain ⟨ad189, e189, hx189_0⟩ := Kd.at_int HR0.out 0 p189 q189; cases e189; have qi189 : (0 < l0.length) = True := eq_true (by omega); (try rw [show ((0 : Int)).toNat = 0 from rfl] at hx189_0); (try rw [Addr.add_zero'] at hx189_0); replace hx189_0 := (HB.out.cell (World.block_lt_of_cell? w _ hx189_0)).trans hx189_0; replace p189 := eq_true p189; replace q189 := eq_true q189; have hcz25_0 : w24.cell? ⟨gb179, 0, none⟩ = some (.int .i64 0) := (z04 BK179.out 0).trans rfl; have hcz25_1 : w24.cell? ⟨gb179, 1, none⟩ = some (.int .i64 0) := (z04 BK179.out 1).trans rfl; have hcz25_2 : w24.cell? ⟨gb179, 2, none⟩ = some (.string (⟨#[]⟩ : ByteArray)) := (z04 BK179.out 2).trans rfl; have hcz25_3 : w24.cell? ⟨gb179, 3, none⟩ = some (.bool false) := (z04 BK179.out 3).trans rfl; have hfz25_0 := z01 BK179.out 0; have hfz25_1 := z01 BK179.out 1; have hfz25_2 := z01 BK179.out 2; have hfz25_3 := z01 BK179.out 3))
                refine bodyPost_ret (results_ctt rfl _ _ gb179 46 #[.int .i64 0, .int .i64 0, .string (⟨#[]⟩ : ByteArray), .bool false] (0, 0) _ rfl (by (with_reducible repeat (first | refine z07 ?_ _ | refine z08 ?_ | refine z06 ?_ _)); refine blk_put (cs := #[.int .i64 0, .int .i64 0, .string (⟨#[]⟩ : ByteArray), .bool false]) ?_ 3 _ rfl; (with_reducible repeat (first | refine z07 ?_ _ | refine z08 ?_ | refine z06 ?_ _)); refine blk_put (cs := #[.int .i64 0, .int .i64 0, .string (⟨#[]⟩ : ByteArray), .bool false]) ?_ 2 _ rfl; (with_reducible repeat (first | refine z07 ?_ _ | refine z08 ?_ | refine z06 ?_ _)); refine blk_put (cs := #[.int .i64 0, .int .i64 0, .string (⟨#[]⟩ : ByteArray), .bool false]) ?_ 1 _ rfl; (with_reducible repeat (first | refine z07 ?_ _ | refine z08 ?_ | refine z06 ?_ _)); refine blk_put (cs := #[.int .i64 0, .int .i64 0, .string (⟨#[]⟩ : ByteArray), .bool false]) ?_ 0 _ rfl; (with_reducible repeat (first | refine z07 ?_ _ | refine z08 ?_ | refine z06 ?_ _)); exact BK179.out) Tryd.underlying46 rfl (by kernel_rfl)) rfl ?_
                exact ⟨by first | rfl | (simp [errW_none, errW_some] <;> rfl) | (refine congrArg (fun b_ : Bool => Ending.returned (Value.bool b_)) ?_; simp; done) | (simp [*, errW_none, errW_some] <;> rfl), by repeat (first | (with_reducible first | exact HB.out | apply z02 | apply z00 | apply z03 | refine z09 ?_ GE179.out) | exact HB.out)⟩
              · rw [if_neg c23] at H
                have c23b0 : decide (1 < (rd l0 0)) = false := decide_eq_false c23
                clear c23
                simp only [Option.some.injEq, Prod.mk.injEq] at H
                obtain ⟨rfl, rfl, rfl, rfl, rfl, rfl⟩ := H
                go_enter Tryd.func60, Tryd.ntmps60
                go_wp2_with (first | ((with_reducible refine gate_dst (N := 4) rfl ?_); refine box_event ?hg (N := 4) ?hd (cs := #[.int .i64 0, .int .i64 0, .string (⟨#[]⟩ : ByteArray), .bool false]) (t := 46) ?hr ?_; (case hd => rfl); (case hg => rfl); (case hr => first | (go_simp; done) | (go_simp; rfl)); intro gb179 hg w26 hbox hb; have n0_ := z05.mk (below_step (by repeat (first | (with_reducible first | exact HB.out | apply z02 | apply z00 | apply z03) | exact HB.out)) hb); have n1_ := z05.mk (hbox); have n2_ := z05.mk ((by rw [hg]; exact (below_size (by repeat (first | (with_reducible first | exact HB.out | apply z02 | apply z00 | apply z03) | exact HB.out))) : w.heap.size ≤ gb179)); have n3_ := z05.mk ((by rw [hg]; exact (below_size (by repeat (first | (with_reducible first | exact HB.out | apply z02 | apply z00 | apply z03) | exact HB.out))) : w.heap.size ≤ gb179)); clear HB; have HB := n0_; have BK179 := n1_; have GW179 := n2_; have GE179 := n3_; clear n0_ n1_ n2_ n3_; clear hb hbox hg; have p189 : 0 ≤ (0 : Int) := (by omega); have q189 : 0 < (l0.length : Int) := of_decide_eq_true (by first | (with_reducible assumption) | assumption); obtain ⟨ad189, e189, hx189_0⟩ := Kd.at_int HR0.out 0 p189 q189; cases e189; have qi189 : (0 < l0.length) = True := eq_true (by omega); (try rw [show ((0 : Int)).toNat = 0 from rfl] at hx189_0); (try rw [Addr.add_zero'] at hx189_0); replace hx189_0 := (HB.out.cell (World.block_lt_of_cell? w _ hx189_0)).trans hx189_0; replace p189 := eq_true p189; replace q189 := eq_true q189; have p190 : 0 ≤ (0 : Int) := (by omega); have q190 : 0 < (l0.length : Int) := of_decide_eq_true (by first | (with_reducible assumption) | assumption); obtain ⟨ad190, e190, hx190_0⟩ := Kd.at_int HR0.out 0 p190 q190; obtain rfl : ad189 = ad190 := (by injection e190); have qi190 : (0 < l0.length) = True := eq_true (by omega); (try rw [show ((0 : Int)).toNat = 0 from rfl] at hx190_0); (try rw [Addr.add_zero'] at hx190_0); replace hx190_0 := (HB.out.cell (World.block_lt_of_cell? w _ hx190_0)).trans hx190_0; replace p190 := eq_true p190; replace q190 := eq_true q190; have hcz27_0 : w26.cell? ⟨gb179, 0, none⟩ = some (.int .i64 0) := (z04 BK179.out 0).trans rfl; have hcz27_1 : w26.cell? ⟨gb179, 1, none⟩ = some (.int .i64 0) := (z04 BK179.out 1).trans rfl; have hcz27_2 : w26.cell? ⟨gb179, 2, none⟩ = some (.string (⟨#[]⟩ : ByteArray)) := (z04 BK179.out 2).trans rfl; have hcz27_3 : w26.cell? ⟨gb179, 3, none⟩ = some (.bool false) := (z04 BK179.out 3).trans rfl; have hfz27_0 := z01 BK179.out 0; have hfz27_1 := z01 BK179.out 1; have hfz27_2 := z01 BK179.out 2; have hfz27_3 := z01 BK179.out 3))
                refine bodyPost_ret (results_ctt rfl _ _ gb179 46 #[.int .i64 3, .int .i64 0, .string (⟨#[]⟩ : ByteArray), .bool ((rd l0 0) == 1)] (0, 0) _ rfl (by (with_reducible repeat (first | refine z07 ?_ _ | refine z08 ?_ | refine z06 ?_ _)); refine blk_put (cs := #[.int .i64 3, .int .i64 0, .string (⟨#[]⟩ : ByteArray), .bool false]) ?_ 3 _ rfl; (with_reducible repeat (first | refine z07 ?_ _ | refine z08 ?_ | refine z06 ?_ _)); refine blk_put (cs := #[.int .i64 3, .int .i64 0, .string (⟨#[]⟩ : ByteArray), .bool false]) ?_ 2 _ rfl; (with_reducible repeat (first | refine z07 ?_ _ | refine z08 ?_ | refine z06 ?_ _)); refine blk_put (cs := #[.int .i64 3, .int .i64 0, .string (⟨#[]⟩ : ByteArray), .bool false]) ?_ 1 _ rfl; (with_reducible repeat (first | refine z07 ?_ _ | refine z08 ?_ | refine z06 ?_ _)); refine blk_put (cs := #[.int .i64 0, .int .i64 0, .string (⟨#[]⟩ : ByteArray), .bool false]) ?_ 0 _ rfl; (with_reducible repeat (first | refine z07 ?_ _ | refine z08 ?_ | refine z06 ?_ _)); exact BK179.out) Tryd.underlying46 rfl (by kernel_rfl)) rfl ?_
                exact ⟨by first | rfl | (simp [errW_none, errW_some] <;> rfl) | (refine congrArg (fun b_ : Bool => Ending.returned (Value.bool b_)) ?_; simp; done) | (simp [*, errW_none, errW_some] <;> rfl), by repeat (first | (with_reducible first | exact HB.out | apply z02 | apply z00 | apply z03 | refine z09 ?_ GE179.out) | exact HB.out)⟩
            · rw [if_neg c22] at H
              exact absurd H (by simp)
        · rw [if_neg c18] at H
          have c18b0 : (a1 == 3) = false := beq_eq_false_iff_ne.mpr c18
          have c18b1 : (a1 != 3) = true := bne_iff_ne.mpr c18
          simp only [Option.some.injEq, Prod.mk.injEq] at H
          obtain ⟨rfl, rfl, rfl, rfl, rfl, rfl⟩ := H
          go_enter Tryd.func60, Tryd.ntmps60
          go_wp2_with (first | ((with_reducible refine gate_dst (N := 4) rfl ?_); refine box_event ?hg (N := 4) ?hd (cs := #[.int .i64 0, .int .i64 0, .string (⟨#[]⟩ : ByteArray), .bool false]) (t := 46) ?hr ?_; (case hd => rfl); (case hg => rfl); (case hr => first | (go_simp; done) | (go_simp; rfl)); intro gb179 hg w28 hbox hb; have n0_ := z05.mk (below_step (by repeat (first | (with_reducible first | exact HB.out | apply z02 | apply z00 | apply z03) | exact HB.out)) hb); have n1_ := z05.mk (hbox); have n2_ := z05.mk ((by rw [hg]; exact (below_size (by repeat (first | (with_reducible first | exact HB.out | apply z02 | apply z00 | apply z03) | exact HB.out))) : w.heap.size ≤ gb179)); have n3_ := z05.mk ((by rw [hg]; exact (below_size (by repeat (first | (with_reducible first | exact HB.out | apply z02 | apply z00 | apply z03) | exact HB.out))) : w.heap.size ≤ gb179)); clear HB; have HB := n0_; have BK179 := n1_; have GW179 := n2_; have GE179 := n3_; clear n0_ n1_ n2_ n3_; clear hb hbox hg; have hcz29_0 : w28.cell? ⟨gb179, 0, none⟩ = some (.int .i64 0) := (z04 BK179.out 0).trans rfl; have hcz29_1 : w28.cell? ⟨gb179, 1, none⟩ = some (.int .i64 0) := (z04 BK179.out 1).trans rfl; have hcz29_2 : w28.cell? ⟨gb179, 2, none⟩ = some (.string (⟨#[]⟩ : ByteArray)) := (z04 BK179.out 2).trans rfl; have hcz29_3 : w28.cell? ⟨gb179, 3, none⟩ = some (.bool false) := (z04 BK179.out 3).trans rfl; have hfz29_0 := z01 BK179.out 0; have hfz29_1 := z01 BK179.out 1; have hfz29_2 := z01 BK179.out 2; have hfz29_3 := z01 BK179.out 3))
          refine bodyPost_ret (results_ctt rfl _ _ gb179 46 #[.int .i64 0, .int .i64 0, .string (⟨#[]⟩ : ByteArray), .bool false] (0, 0) _ rfl (by (with_reducible repeat (first | refine z07 ?_ _ | refine z08 ?_ | refine z06 ?_ _)); refine blk_put (cs := #[.int .i64 0, .int .i64 0, .string (⟨#[]⟩ : ByteArray), .bool false]) ?_ 3 _ rfl; (with_reducible repeat (first | refine z07 ?_ _ | refine z08 ?_ | refine z06 ?_ _)); refine blk_put (cs := #[.int .i64 0, .int .i64 0, .string (⟨#[]⟩ : ByteArray), .bool false]) ?_ 2 _ rfl; (with_reducible repeat (first | refine z07 ?_ _ | refine z08 ?_ | refine z06 ?_ _)); refine blk_put (cs := #[.int .i64 0, .int .i64 0, .string (⟨#[]⟩ : ByteArray), .bool false]) ?_ 1 _ rfl; (with_reducible repeat (first | refine z07 ?_ _ | refine z08 ?_ | refine z06 ?_ _)); refine blk_put (cs := #[.int .i64 0, .int .i64 0, .string (⟨#[]⟩ : ByteArray), .bool false]) ?_ 0 _ rfl; (with_reducible repeat (first | refine z07 ?_ _ | refine z08 ?_ | refine z06 ?_ _)); exact BK179.out) Tryd.underlying46 rfl (by kernel_rfl)) rfl ?_
          exact ⟨by first | rfl | (simp [errW_none, errW_some] <;> rfl) | (refine congrArg (fun b_ : Bool => Ending.returned (Value.bool b_)) ?_; simp; done) | (simp [*, errW_none, errW_some] <;> rfl), by repeat (first | (with_reducible first | exact HB.out | apply z02 | apply z00 | apply z03 | refine z09 ?_ GE179.out) | exact HB.out)⟩

-- NOT PRINTED: function 61 (reflectlite_TypeOf)

-- NOT PRINTED: function 63 (reflectlite_ValueOf)

-- NOT PRINTED: function 64 (reflectlite_Value_Type)

-- NOT PRINTED: function 65 (reflectlite_Value_IsNil)

-- NOT PRINTED: function 75 (reflectlite_Value_Elem)

-- NOT PRINTED: function 76 (reflectlite_Value_Set)

end Go.Proofs.YteefchdfdgfaaaaDoor.Q
namespace Go.Proofs.YteefchdfdgfaaaaDoor.Q
open Go.RowKit Go.Proofs.YteefchdfdgfaaaaDoorW.PrintWords Go.Proofs.YteefchdfdgfaaaaDoorW.PrintLast Go.Proofs.YteefchdfdgfaaaaDoorW.PrintMore
attribute [local go_sem] max2_int min2_int max_two min_two max_three min_three max_four min_four   -- for this text's walks alone
set_option linter.unusedVariables false
set_option linter.unusedSimpArgs false

-- SAYS What Get of layer 1 answer, in plain words.
-- FUNCS winnower/num.Get
-- NEEDS num_Get.f num_get.f num_back.f
-- IMPORT Derived.Test.YteefchdfdgfaaaaDoorHnum
open Go.Proofs.YteefchdfdgfaaaaDoor.Hnum
theorem num_back.tell {u : Nat} (h : u < 18446744073709551616) : num_back.f (u : Int) = some (back u) := by unfold num_back.f; rw [back_bits h]
theorem num_Get.tell {l : List Int} (h : Bytes l) : num_Get.f l = some (getn l) := by
  unfold num_Get.f num_get.f getn
  rw [if_pos h, Option.bind_some]
  cases hg : getd 0 l with
  | error e => simp only [trip]; rw [show (0 : Int) = ((0 : Nat) : Int) from rfl, num_back.tell (by omega)]; rfl
  | ok p =>
    obtain ⟨u, n⟩ := p
    have := (getd_ok (by omega) h hg).2.2.2.2.1
    simp only [trip]
    rw [num_back.tell (by omega)]; rfl

end Go.Proofs.YteefchdfdgfaaaaDoor.Q
namespace Go.Proofs.YteefchdfdgfaaaaDoor.Q
open Go.RowKit Go.Proofs.YteefchdfdgfaaaaDoorW.PrintWords Go.Proofs.YteefchdfdgfaaaaDoorW.PrintLast Go.Proofs.YteefchdfdgfaaaaDoorW.PrintMore
attribute [local go_sem] max2_int min2_int max_two min_two max_three min_three max_four min_four   -- for this text's walks alone
set_option linter.unusedVariables false
set_option linter.unusedSimpArgs false

-- SAYS What GetLen of layer 1 answer, in plain words.
-- FUNCS winnower/num.GetLen
-- NEEDS num_GetLen.f num_get.f
-- IMPORT Derived.Test.YteefchdfdgfaaaaDoorHnum
open Go.Proofs.YteefchdfdgfaaaaDoor.Hnum
theorem num_GetLen.tell {l : List Int} (h : Bytes l) : num_GetLen.f l = some (getl l) := by
  unfold num_GetLen.f num_get.f getl
  rw [if_pos h, Option.bind_some]
  cases hg : getd 0 l with
  | error e =>
    have := getd_error hg
    rw [if_neg (show ¬ ((trip (Except.error e)).2.2 = 0) from by show ¬ (e = 0); omega)]
    show some (wrap64 0, (0 : Int), e) = some (0, 0, e)
    rw [wrap_id (by omega) (by omega)]
  | ok p =>
    obtain ⟨u, n⟩ := p
    have := (getd_ok (by omega) h hg).2.2.2.2.1
    rw [if_pos (show (trip (Except.ok (u, n))).2.2 = 0 from rfl)]
    by_cases hu : u ≤ 9223372036854775807
    · rw [if_neg (show ¬ ((trip (Except.ok (u, n))).1 > 9223372036854775807) from by show ¬ ((u : Int) > 9223372036854775807); omega)]
      show some (wrap64 (u : Int), (n : Int), (0 : Int)) = some (if u ≤ 9223372036854775807 then ((u : Int), (n : Int), 0) else (0, 0, 7))
      rw [if_pos hu, wrap_id (by omega) (by omega)]
    · rw [if_pos (show (trip (Except.ok (u, n))).1 > 9223372036854775807 from by show (u : Int) > 9223372036854775807; omega)]
      show some ((0 : Int), (0 : Int), (7 : Int)) = some (if u ≤ 9223372036854775807 then ((u : Int), (n : Int), 0) else (0, 0, 7))
      rw [if_neg hu]

end Go.Proofs.YteefchdfdgfaaaaDoor.Q
namespace Go.Proofs.YteefchdfdgfaaaaDoor.Q
open Go.RowKit Go.Proofs.YteefchdfdgfaaaaDoorW.PrintWords Go.Proofs.YteefchdfdgfaaaaDoorW.PrintLast Go.Proofs.YteefchdfdgfaaaaDoorW.PrintMore
attribute [local go_sem] max2_int min2_int max_two min_two max_three min_three max_four min_four   -- for this text's walks alone
set_option linter.unusedVariables false
set_option linter.unusedSimpArgs false

-- BY HAND: Derived.Shelf.Abstract,Derived.Test.YteefchdfdgfaaaaDoorHnum
/-! ### schema_Find: function 16 -/
-- HAND winnower/schema.Find making
-- SKIP slices.IndexFunc[[]winnower/api.Col,winnower/api.Col] winnower/schema.Find$1
-- IMPORT Derived.Shelf.Abstract
-- IMPORT Derived.Test.YteefchdfdgfaaaaDoorHnum
open Go.Shelf Go.Proofs.YteefchdfdgfaaaaDoor.Hnum
def findC (a1 : ByteArray) : List S48 → Int → Int
  | [], _ => -1
  | x :: t, i => if x.f0.toList == a1.toList then i else findC a1 t (i + 1)
def schema_Find.f (l0_0 : List S48) (a0_1 a0_2 a0_3 a0_4 : Int) (a1 : ByteArray) : Option Int := some (findC a1 l0_0 0)
set_option maxHeartbeats 4000000 in
set_option maxRecDepth 100000 in
theorem schema_Find_1.calls (x : S48) (a1 : ByteArray) (gn : Nat) (W : World) (hb : W.heap[gn]? = some (.cells #[.string a1] 9 (0, 0))) :
    Calls Tryd.prog 31 #[.agg #[.string x.f0, .int .i64 x.f1, .bool x.f2], .pointer (some ⟨gn, 0, none⟩)] W fun e W' => e = .returned (.bool (x.f0.toList == a1.toList)) ∧ Below W.heap.size W W' := by
  have hu := Tryd.underlying48
  have HB := z05.mk (Below.refl W.heap.size W)
  have BN := z05.mk hb
  clear hb
  go_enter Tryd.func31, Tryd.ntmps31
  go_wp2_with (first | ((with_reducible refine gate_dst (N := 2) rfl ?_); refine box_event ?hg (N := 2) ?hd (cs := #[.string x.f0, .int .i64 x.f1, .bool x.f2]) (t := 48) ?hr ?_; (case hd => rfl); (case hg => rfl); (case hr => first | (go_simp; done) | (go_simp; rfl)); intro gb hg w2 hbox hb; have n0_ := z05.mk (below_step HB.out hb); have hx0 : w2.cell? ⟨gb, 0, none⟩ = some (.string x.f0) := (z04 hbox 0).trans rfl; have hn0 : w2.cell? ⟨gn, 0, none⟩ = some (.string a1) := (z04 (blk_below BN.out hb) 0).trans rfl; clear HB; have HB := n0_; clear n0_ hb hbox hg))
  go_ret
  exact ⟨rfl, HB.out⟩
set_option maxHeartbeats 4000000 in
set_option maxRecDepth 100000 in
theorem indexFunc.calls (l : List S48) (A : Option Addr) (c : Nat) (a1 : ByteArray) (gn : Nat) (w : World) (hr : Kd.C k48 w A l.length l) (hb : w.heap[gn]? = some (.cells #[.string a1] 9 (0, 0))) :
    Calls Tryd.prog 30 #[.slice A l.length c, .func (.func 31) #[] #[.pointer (some ⟨gn, 0, none⟩)]] w fun e w' => e = .returned (.int .i64 (findC a1 l 0)) ∧ Below w.heap.size w w' := by
  have HB := z05.mk (Below.refl w.heap.size w)
  have HR := z05.mk hr
  have BN := z05.mk hb
  have HL := z05.mk hr.2.1
  have eg := enters_of Tryd.func31 (by kernel_rfl) rfl
  clear hr hb
  go_enter Tryd.func30, Tryd.ntmps30
  go_wp2
  go_loopg [8] l.length (fun m_ v8 wr => ∃ (k : Nat), v8 = .int .i64 (k : Int) ∧ z05 (k + m_ = l.length) ∧ z05 (findC a1 (l.drop k) (k : Int) = findC a1 l 0) ∧ z05 (Below w.heap.size w wr))
  case atStart => exact ⟨0, rfl, ⟨by omega⟩, ⟨by simp⟩, ⟨HB.out⟩⟩
  case round =>
    clear HB
    obtain ⟨k, rfl, HK, HF, HB⟩ := hrel
    cases gk with
    | zero =>
      have hk : k = l.length := by have := HK.out; omega
      have r1 : decide ((k : Int) < (l.length : Int)) = false := decide_eq_false (by omega)
      have r2 : decide (k < l.length) = false := decide_eq_false (by omega)
      have HE := z05.mk (show (-1 : Int) = findC a1 l 0 by have h := HF.out; rw [hk, List.drop_length] at h; exact h)
      clear hk
      go_wp2
      go_ret
      exact ⟨congrArg (fun z => Ending.returned (Value.int .i64 z)) HE.out, HB.out⟩
    | succ m_ =>
      have hk : k < l.length := by have := HK.out; omega
      have hkI : (k : Int) < (l.length : Int) := by omega
      have r1 : decide ((k : Int) < (l.length : Int)) = true := decide_eq_true hkI
      have r2 : decide (k < l.length) = true := decide_eq_true hk
      have r3 : (0 : Int) ≤ (k : Int) := by omega
      obtain ⟨ad, e1, x0, x1, x2⟩ := at_T48 (Kd.C_below HR.out HB.out) (k : Int) r3 hkI
      cases e1
      rw [Int.toNat_natCast] at x0 x1 x2
      have hd : l.drop k = rd_T48 l (k : Int) :: l.drop (k + 1) := by
        unfold rd_T48
        rw [List.drop_eq_getElem_cons hk, Int.toNat_natCast, List.getD_eq_getElem?_getD, List.getElem?_eq_getElem hk]
        rfl
      have HD := z05.mk (show (if (rd_T48 l (k : Int)).f0.toList == a1.toList then (k : Int) else findC a1 (l.drop (k + 1)) ((k : Int) + 1)) = findC a1 l 0 by rw [← HF.out, hd]; rfl)
      clear hd
      generalize rd_T48 l (k : Int) = x at x0 x1 x2 HD
      cases hq : (x.f0.toList == a1.toList) with
      | true =>
        have HD2 := z05.mk (show (k : Int) = findC a1 l 0 by have h := HD.out; rw [hq] at h; exact h)
        go_wp2_with (go_at_call 31; refine (schema_Find_1.calls x a1 gn _ (blk_below BN.out HB.out)).mono ?_; rintro e W ⟨rfl, hb⟩; rw [hq]; have HBn := z05.mk (below_step HB.out hb); clear HB hb; have HB := HBn; clear HBn)
        go_ret
        exact ⟨congrArg (fun z => Ending.returned (Value.int .i64 z)) HD2.out, HB.out⟩
      | false =>
        have HD2 := z05.mk (show findC a1 (l.drop (k + 1)) ((k : Int) + 1) = findC a1 l 0 by have h := HD.out; rw [hq] at h; exact h)
        go_wp2_with (go_at_call 31; refine (schema_Find_1.calls x a1 gn _ (blk_below BN.out HB.out)).mono ?_; rintro e W ⟨rfl, hb⟩; rw [hq]; have HBn := z05.mk (below_step HB.out hb); clear HB hb; have HB := HBn; clear HBn)
        go_roundg m_
        case measure => omega
        case rel => exact ⟨k + 1, by rw [show ((k + 1 : Nat) : Int) = (k : Int) + 1 from by omega, wrap_id (by omega) (by have := HL.out; omega)], ⟨by have := HK.out; omega⟩, ⟨HD2.out⟩, ⟨HB.out⟩⟩
set_option maxHeartbeats 4000000 in
set_option maxRecDepth 100000 in
theorem schema_Find.calls (A0_0 : Option Addr) (c0_0 : Nat) (l0_0 : List (S48)) (a0_1 : Int) (a0_2 : Int) (a0_3 : Int) (a0_4 : Int) (a1 : ByteArray) (r : Int) (w : World) (hr0_0 : Kd.C k48 w A0_0 l0_0.length l0_0) (hc0_0 : l0_0.length ≤ c0_0) (h : schema_Find.f l0_0 a0_1 a0_2 a0_3 a0_4 a1 = some r) :
    Calls Tryd.prog 16 #[.agg #[.slice A0_0 l0_0.length c0_0, .int .i64 a0_1, .int .i64 a0_2, .int .i64 a0_3, .int .i64 a0_4], .string a1] w fun e w' => e = .returned (.int .i64 r) ∧ Below w.heap.size w w' := by
  obtain rfl := Option.some.inj h
  have hu := Tryd.underlying24
  have HB := z05.mk (Below.refl w.heap.size w)
  have HR := z05.mk hr0_0
  clear hr0_0 hc0_0 h
  go_enter Tryd.func16, Tryd.ntmps16
  go_wp2_with (first
    | ((with_reducible refine gate_dst (N := 2) rfl ?_); refine box_event ?hg (N := 2) ?hd (cs := #[.slice A0_0 l0_0.length c0_0, .int .i64 a0_1, .int .i64 a0_2, .int .i64 a0_3, .int .i64 a0_4]) (t := 24) ?hr ?_; (case hd => rfl); (case hg => rfl); (case hr => first | (go_simp; done) | (go_simp; rfl)); intro gb hg w2 hbox hb; have BS := z05.mk hbox; have n0_ := z05.mk (below_step HB.out hb); clear HB; have HB := n0_; clear n0_ hb hbox hg)
    | ((with_reducible refine gate_dst (N := 3) rfl ?_); refine box_event ?hg (N := 3) ?hd (cs := #[.string a1]) (t := 9) ?hr ?_; (case hd => rfl); (case hg => rfl); (case hr => first | (go_simp; done) | (go_simp; rfl)); intro gn hg w3 hbox hb; have BN := z05.mk hbox; have n0_ := z05.mk (below_step HB.out hb); have hs0 : w3.cell? ⟨gb, 0, none⟩ = some (.slice A0_0 l0_0.length c0_0) := (z04 (blk_below BS.out hb) 0).trans rfl; clear HB BS; have HB := n0_; clear n0_ hb hbox hg)
    | (go_at_call 30; refine (indexFunc.calls l0_0 A0_0 c0_0 a1 gn _ (Kd.C_below HR.out HB.out) BN.out).mono ?_; rintro e w4 ⟨rfl, hb⟩; have n0_ := z05.mk (below_step HB.out hb); clear HB hb; have HB := n0_; clear n0_))
  go_ret
  exact ⟨rfl, HB.out⟩

end Go.Proofs.YteefchdfdgfaaaaDoor.Q
/-
  DERIVED: THE SHELF's CONTRACTS AT THIS DUMP, IN PLAIN WORDS (tools/lay-plain.mjs out of 'YteefchdfdgfaaaaDoorShelf0.lean', which tools/lay-shelf.mjs wrote): THE SAME DECLARATIONS UNDER THE SAME NAMES: 'import', 'namespace', 'open', 'def', 'theorem' AND NOTHING ELSE: no command of the shelf's: FOR A HAND-IN. Each laying: the table of numbers ('.._ren') and one theorem, a field a fact of the dump's own or the kernel's comparison; each contract: ONE APPLICATION.
-/
namespace Go.Proofs
open Go.Shelf
def Tryd.lays160_ren : Go.Shelf.Ren := ⟨fun | 160 => 43 | 232 => 54 | 231 => 53 | 227 => 55 | 234 => 57 | 233 => 56 | 236 => 59 | 235 => 58 | 228 => 69 | 271 => 72 | 151 => 71 | 197 => 70 | 120 => 79 | 152 => 78 | 260 => 77 | 137 => 83 | 119 => 84 | 224 => 85 | 225 => 86 | 217 => 87 | 266 => 88 | n => n, fun | 9 => 9 | 4 => 4 | 3 => 3 | 5 => 5 | 117 => 88 | 116 => 87 | 0 => 0 | 124 => 91 | 21 => 21 | 105 => 112 | 46 => 110 | 119 => 136 | 139 => 139 | 138 => 138 | n => n, fun | 3 => 1 | 4 => 2 | n => n⟩
theorem Tryd.lays160 : Go.Proofs.Lays.n160 Tryd.prog Tryd.lays160_ren := {
  mixed := by kernel_rfl
  f119 := Tryd.func84.trans (congrArg some (by kernel_rfl))
  f120 := Tryd.func79.trans (congrArg some (by kernel_rfl))
  f137 := Tryd.func83.trans (congrArg some (by kernel_rfl))
  f151 := Tryd.func71.trans (congrArg some (by kernel_rfl))
  f152 := Tryd.func78.trans (congrArg some (by kernel_rfl))
  f160 := Tryd.func43.trans (congrArg some (by kernel_rfl))
  f197 := Tryd.func70.trans (congrArg some (by kernel_rfl))
  f217 := Tryd.func87.trans (congrArg some (by kernel_rfl))
  f224 := Tryd.func85.trans (congrArg some (by kernel_rfl))
  f225 := Tryd.func86.trans (congrArg some (by kernel_rfl))
  f227 := Tryd.func55.trans (congrArg some (by kernel_rfl))
  f228 := Tryd.func69.trans (congrArg some (by kernel_rfl))
  f231 := Tryd.func53.trans (congrArg some (by kernel_rfl))
  f232 := Tryd.func54.trans (congrArg some (by kernel_rfl))
  f233 := Tryd.func56.trans (congrArg some (by kernel_rfl))
  f234 := Tryd.func57.trans (congrArg some (by kernel_rfl))
  f235 := Tryd.func58.trans (congrArg some (by kernel_rfl))
  f236 := Tryd.func59.trans (congrArg some (by kernel_rfl))
  f260 := Tryd.func77.trans (congrArg some (by kernel_rfl))
  f266 := Tryd.func88.trans (congrArg some (by kernel_rfl))
  f271 := Tryd.func72.trans (congrArg some (by kernel_rfl))
  t0 := Tryd.underlying0
  a0 := Tryd.isAgg0
  z0 := Tryd.sizeOf0
  v0 := Tryd.zeroValue0
  t3 := Tryd.underlying3
  a3 := Tryd.isAgg3
  z3 := Tryd.sizeOf3
  v3 := Tryd.zeroValue3
  t4 := Tryd.underlying4
  a4 := Tryd.isAgg4
  z4 := Tryd.sizeOf4
  v4 := Tryd.zeroValue4
  t5 := Tryd.underlying5
  a5 := Tryd.isAgg5
  z5 := Tryd.sizeOf5
  v5 := Tryd.zeroValue5
  t9 := Tryd.underlying9
  a9 := Tryd.isAgg9
  z9 := Tryd.sizeOf9
  v9 := Tryd.zeroValue9
  t21 := Tryd.underlying21
  a21 := Tryd.isAgg21
  z21 := Tryd.sizeOf21
  v21 := Tryd.zeroValue21
  t46 := Tryd.underlying110
  a46 := Tryd.isAgg110
  z46 := Tryd.sizeOf110
  v46 := Tryd.zeroValue110
  t105 := Tryd.underlying112
  a105 := Tryd.isAgg112
  z105 := Tryd.sizeOf112
  v105 := Tryd.zeroValue112
  t116 := Tryd.underlying87
  a116 := Tryd.isAgg87
  z116 := Tryd.sizeOf87
  t117 := Tryd.underlying88
  a117 := Tryd.isAgg88
  z117 := Tryd.sizeOf88
  v117 := Tryd.zeroValue88
  t119 := Tryd.underlying136
  a119 := Tryd.isAgg136
  z119 := Tryd.sizeOf136
  t124 := Tryd.underlying91
  a124 := Tryd.isAgg91
  z124 := Tryd.sizeOf91
  v124 := Tryd.zeroValue91
  t138 := Tryd.underlying138
  a138 := Tryd.isAgg138
  z138 := Tryd.sizeOf138
  v138 := Tryd.zeroValue138
  t139 := Tryd.underlying139
  a139 := Tryd.isAgg139
  z139 := Tryd.sizeOf139
  v139 := Tryd.zeroValue139
  g3 := by kernel_rfl
  g4 := by kernel_rfl }
end Go.Proofs
namespace Go.Proofs.YteefchdfdgfaaaaDoor.Q
open Go.RowKit Go.Proofs.YteefchdfdgfaaaaDoorW.PrintWords Go.Proofs.YteefchdfdgfaaaaDoorW.PrintLast Go.Proofs.YteefchdfdgfaaaaDoorW.PrintMore
attribute [local go_sem] max2_int min2_int max_two min_two max_three min_three max_four min_four   -- for this text's walks alone
set_option linter.unusedVariables false
set_option linter.unusedSimpArgs false

-- BY HAND: Derived.Test.YteefchdfdgfaaaaDoorShelf,Derived.Shelf.Strings.SlTrimAscii
/-! ### strings_Trim: function 43 -/
-- HAND strings.Trim making
-- IMPORT Derived.Test.YteefchdfdgfaaaaDoorShelf
-- IMPORT Derived.Shelf.Strings.SlTrimAscii
/-- A text without the letters of a set at its ends (letters of one byte): the library's function, by the kit's contract. -/
def strings_Trim.f (a0 a1 : ByteArray) : Option ByteArray := if a0.size ≤ 9223372036854775807 ∧ a1.size < 4294967281 ∧ a1.data.toList.all (fun b => decide (b.toNat < 128)) = true then some ⟨(Lib.trimS a0.data.toList a1.data.toList).toArray⟩ else none
theorem strings_Trim.calls (a0 a1 : ByteArray) (r : ByteArray) (w : World) (h : strings_Trim.f a0 a1 = some r) : Calls Tryd.prog 43 #[.string a0, .string a1] w fun e w' => e = .returned (.string r) ∧ Below w.heap.size w w' := by
  unfold strings_Trim.f at h
  by_cases h0 : a0.size ≤ 9223372036854775807 ∧ a1.size < 4294967281 ∧ a1.data.toList.all (fun b => decide (b.toNat < 128)) = true
  · rw [if_pos h0, Option.some.injEq] at h
    refine (Go.Proofs.Any.strings_Trim_laid Tryd.lays160 (by kernel_rfl) a0 a1 w h0.1 h0.2.1 (fun j b hj => ?_)).mono ?_
    · have h2 := List.all_eq_true.1 h0.2.2 b (List.mem_of_getElem? hj)
      exact of_decide_eq_true h2
    · rintro e w' ⟨rfl, hb⟩
      exact ⟨by rw [h], hb⟩
  · rw [if_neg h0] at h; cases h

end Go.Proofs.YteefchdfdgfaaaaDoor.Q
