/- The machine side of laws, written by wip/tools/myprint.py (the printer's way, with functions proved by hand put in); Lean checks it. What Get of layer 1 answer, in plain words. What GetLen of layer 1 answer, in plain words. -/
import Derived.Test.YtimomihjghefdaaDoorJ1
import Derived.Test.YtimomihjghefdaaDoorJ0
namespace Go.Proofs.YtimomihjghefdaaDoor.Q
open Go.RowKit Go.Proofs.YtimomihjghefdaaDoorW.PrintWords Go.Proofs.YtimomihjghefdaaDoorW.PrintLast Go.Proofs.YtimomihjghefdaaDoorW.PrintMore
attribute [local go_sem] z0y z0v z0z z10 z0s z0t z0w z0x   -- for this text's walks alone
set_option linter.unusedVariables false
set_option linter.unusedSimpArgs false

/-! ### num_back: function 69 -/
def num_back.f (a0 : Int) : Option (Int) := some (Go.bits .xor .i64 (wrap64 (a0 / 2)) (wrap64 (-(wrap64 (Go.bits .and .u64 a0 1)))))
set_option maxHeartbeats 8000000 in
set_option maxRecDepth 100000 in
theorem num_back.calls (a0 : Int) (r : Int) (w : World) (h : num_back.f a0 = some r) :
    Calls Tryd.prog 69 #[.int .u64 a0] w fun e w' => e = .returned (.int .i64 r) ∧ z0k w w' := by
  have H : (some (Go.bits .xor .i64 (wrap64 (a0 / 2)) (wrap64 (-(wrap64 (Go.bits .and .u64 a0 1)))))) = some r := h
  clear h
  obtain rfl := Option.some.inj H
  go_enter Tryd.func69, Tryd.ntmps69
  go_wp2
  go_ret
  exact ⟨by first | rfl | (simp; done) | (simp [*]; done), by repeat (first | exact z0k.refl _ | apply z0k.step)⟩

/-! ### num_Get: function 61 -/
def num_Get.f (l0 : List Int) : Option (Int × Int × Int) := (num_get.f l0).bind fun bt121 => ((num_back.f bt121.1).bind fun t124 => (some (t124, bt121.2.1, bt121.2.2)))
set_option maxHeartbeats 8000000 in
set_option maxRecDepth 100000 in
theorem num_Get.calls (A0 : Option Addr) (c0 : Nat) (l0 : List Int) (r1 : Int) (r2 : Int) (r3 : Int) (w : World) (hr0 : Kd.C (Kd.int .u8) w A0 l0.length l0) (hc0 : l0.length ≤ c0) (h : num_Get.f l0 = some (r1, r2, r3)) :
    Calls Tryd.prog 61 #[.slice A0 l0.length c0] w fun e w' => e = .returned (.tuple #[.int .i64 r1, .int .i64 r2, .int .i64 r3]) ∧ z0k w w' := by
  have HR0 := z05.mk hr0
  have HC0 := z05.mk hc0
  clear hr0 hc0
  have H : ((num_get.f l0).bind fun bt121 => ((num_back.f bt121.1).bind fun t124 => (some (t124, bt121.2.1, bt121.2.2)))) = some (r1, r2, r3) := h
  clear h
  replace H := Option.bind_eq_some_iff.mp H
  obtain ⟨⟨t121, t122, t123⟩, A20, H⟩ := H
  replace H : ((num_back.f t121).bind fun t124 => (some (t124, t122, t123))) = some (r1, r2, r3) := H
  have A2 := z05.mk A20
  clear A20
  replace H := Option.bind_eq_some_iff.mp H
  obtain ⟨t124, A30, H⟩ := H
  replace H : (some (t124, t122, t123)) = some (r1, r2, r3) := H
  have A3 := z05.mk A30
  clear A30
  simp only [Option.some.injEq, Prod.mk.injEq] at H
  obtain ⟨rfl, rfl, rfl⟩ := H
  go_enter Tryd.func61, Tryd.ntmps61
  go_wp2_with (first | ((with_reducible refine z0j (f := 68) rfl ?_); refine z0u (some 10) rfl rfl Tryd.func68 (by kernel_rfl) rfl #[.slice A0 l0.length c0] rfl (by (try simp only [List.map_toArray, List.map_cons, List.map_nil]); first | done | rfl | (simp only [List.length_drop, List.length_take]; rfl)) ?_; (with_reducible refine (num_get.calls _ _ l0 t121 t122 t123 _ ?side1 ?side2 A2.out).mono ?_); (case side1 => repeat (first | exact HR0.out | (with_reducible refine Kd.C_alloc ?_ _) | (with_reducible refine Kd.C_drewN ?_ _) | (with_reducible refine Kd.C_drew ?_))); (case side2 => exact HC0.out); rintro e w' ⟨rfl, ⟨nd, rfl⟩⟩; refine ⟨_, rfl, ?_⟩) | ((with_reducible refine z0j (f := 69) rfl ?_); refine z0u (some 15) rfl rfl Tryd.func69 (by kernel_rfl) rfl #[.int .u64 t121] rfl (by (try simp only [List.map_toArray, List.map_cons, List.map_nil]); first | done | rfl | (simp only [List.length_drop, List.length_take]; rfl)) ?_; (with_reducible refine (num_back.calls t121 t124 _ A3.out).mono ?_); rintro e w' ⟨rfl, ⟨nd, rfl⟩⟩; refine ⟨_, rfl, ?_⟩))
  go_ret3
  exact ⟨by first | rfl | (simp; done) | (simp [*]; done), by repeat (first | exact z0k.refl _ | apply z0k.step)⟩

/-! ### num_GetLen: function 70 -/
def num_GetLen.f (l0 : List Int) : Option (Int × Int × Int) := (num_get.f l0).bind fun bt125 => (if bt125.2.2 = 0 then (if bt125.1 > 9223372036854775807 then (some (0, 0, 7)) else (some (wrap64 (bt125.1), bt125.2.1, bt125.2.2))) else (some (wrap64 (bt125.1), bt125.2.1, bt125.2.2)))
set_option maxHeartbeats 8000000 in
set_option maxRecDepth 100000 in
theorem num_GetLen.calls (A0 : Option Addr) (c0 : Nat) (l0 : List Int) (r1 : Int) (r2 : Int) (r3 : Int) (w : World) (hr0 : Kd.C (Kd.int .u8) w A0 l0.length l0) (hc0 : l0.length ≤ c0) (h : num_GetLen.f l0 = some (r1, r2, r3)) :
    Calls Tryd.prog 70 #[.slice A0 l0.length c0] w fun e w' => e = .returned (.tuple #[.int .i64 r1, .int .i64 r2, .int .i64 r3]) ∧ z0k w w' := by
  have HR0 := z05.mk hr0
  have HC0 := z05.mk hc0
  clear hr0 hc0
  have H : ((num_get.f l0).bind fun bt125 => (if bt125.2.2 = 0 then (if bt125.1 > 9223372036854775807 then (some (0, 0, 7)) else (some (wrap64 (bt125.1), bt125.2.1, bt125.2.2))) else (some (wrap64 (bt125.1), bt125.2.1, bt125.2.2)))) = some (r1, r2, r3) := h
  clear h
  replace H := Option.bind_eq_some_iff.mp H
  obtain ⟨⟨t125, t126, t127⟩, A20, H⟩ := H
  replace H : (if t127 = 0 then (if t125 > 9223372036854775807 then (some (0, 0, 7)) else (some (wrap64 (t125), t126, t127))) else (some (wrap64 (t125), t126, t127))) = some (r1, r2, r3) := H
  have A2 := z05.mk A20
  clear A20
  by_cases c3 : t127 = 0
  · rw [if_pos c3] at H
    have c3b0 : (t127 == 0) = true := beq_iff_eq.mpr c3
    have c3b1 : (t127 != 0) = false := bne_eq_false_iff_eq.mpr c3
    clear c3
    by_cases c4 : t125 > 9223372036854775807
    · rw [if_pos c4] at H
      have c4b0 : decide (9223372036854775807 < t125) = true := decide_eq_true c4
      clear c4
      simp only [Option.some.injEq, Prod.mk.injEq] at H
      obtain ⟨rfl, rfl, rfl⟩ := H
      go_enter Tryd.func70, Tryd.ntmps70
      go_wp2_with (first | ((with_reducible refine z0j (f := 68) rfl ?_); refine z0u (some 10) rfl rfl Tryd.func68 (by kernel_rfl) rfl #[.slice A0 l0.length c0] rfl (by (try simp only [List.map_toArray, List.map_cons, List.map_nil]); first | done | rfl | (simp only [List.length_drop, List.length_take]; rfl)) ?_; (with_reducible refine (num_get.calls _ _ l0 t125 t126 t127 _ ?side1 ?side2 A2.out).mono ?_); (case side1 => repeat (first | exact HR0.out | (with_reducible refine Kd.C_alloc ?_ _) | (with_reducible refine Kd.C_drewN ?_ _) | (with_reducible refine Kd.C_drew ?_))); (case side2 => exact HC0.out); rintro e w' ⟨rfl, ⟨nd, rfl⟩⟩; refine ⟨_, rfl, ?_⟩))
      go_ret3
      exact ⟨by first | rfl | (simp; done) | (simp [*]; done), by repeat (first | exact z0k.refl _ | apply z0k.step)⟩
    · rw [if_neg c4] at H
      have c4b0 : decide (9223372036854775807 < t125) = false := decide_eq_false c4
      clear c4
      simp only [Option.some.injEq, Prod.mk.injEq] at H
      obtain ⟨rfl, rfl, rfl⟩ := H
      go_enter Tryd.func70, Tryd.ntmps70
      go_wp2_with (first | ((with_reducible refine z0j (f := 68) rfl ?_); refine z0u (some 10) rfl rfl Tryd.func68 (by kernel_rfl) rfl #[.slice A0 l0.length c0] rfl (by (try simp only [List.map_toArray, List.map_cons, List.map_nil]); first | done | rfl | (simp only [List.length_drop, List.length_take]; rfl)) ?_; (with_reducible refine (num_get.calls _ _ l0 t125 t126 t127 _ ?side1 ?side2 A2.out).mono ?_); (case side1 => repeat (first | exact HR0.out | (with_reducible refine Kd.C_alloc ?_ _) | (with_reducible refine Kd.C_drewN ?_ _) | (with_reducible refine Kd.C_drew ?_))); (case side2 => exact HC0.out); rintro e w' ⟨rfl, ⟨nd, rfl⟩⟩; refine ⟨_, rfl, ?_⟩))
      go_ret3
      exact ⟨by first | rfl | (simp; done) | (simp [*]; done), by repeat (first | exact z0k.refl _ | apply z0k.step)⟩
  · rw [if_neg c3] at H
    have c3b0 : (t127 == 0) = false := beq_eq_false_iff_ne.mpr c3
    have c3b1 : (t127 != 0) = true := bne_iff_ne.mpr c3
    simp only [Option.some.injEq, Prod.mk.injEq] at H
    obtain ⟨rfl, rfl, rfl⟩ := H
    go_enter Tryd.func70, Tryd.ntmps70
    go_wp2_with (first | ((with_reducible refine z0j (f := 68) rfl ?_); refine z0u (some 10) rfl rfl Tryd.func68 (by kernel_rfl) rfl #[.slice A0 l0.length c0] rfl (by (try simp only [List.map_toArray, List.map_cons, List.map_nil]); first | done | rfl | (simp only [List.length_drop, List.length_take]; rfl)) ?_; (with_reducible refine (num_get.calls _ _ l0 t125 t126 t127 _ ?side1 ?side2 A2.out).mono ?_); (case side1 => repeat (first | exact HR0.out | (with_reducible refine Kd.C_alloc ?_ _) | (with_reducible refine Kd.C_drewN ?_ _) | (with_reducible refine Kd.C_drew ?_))); (case side2 => exact HC0.out); rintro e w' ⟨rfl, ⟨nd, rfl⟩⟩; refine ⟨_, rfl, ?_⟩))
    go_ret3
    exact ⟨by first | rfl | (simp; done) | (simp [*]; done), by repeat (first | exact z0k.refl _ | apply z0k.step)⟩

/-! ### value_text: function 62 -/
def value_text.f (l0 : List Int) : Option (Int × Int × ByteArray × Bool × Int × Int) := (num_GetLen.f l0).bind fun bt129 => (if bt129.2.2 = 0 then (if bt129.1 > 64 then (some (0, 0, (⟨#[]⟩ : ByteArray), false, 0, 2)) else (if bt129.1 > (wrap64 ((l0.length : Int) - bt129.2.1)) then (some (0, 0, (⟨#[]⟩ : ByteArray), false, 0, 6)) else (if 0 ≤ bt129.2.1 then (if bt129.2.1 ≤ (wrap64 (bt129.2.1 + bt129.1)) then (if (wrap64 (bt129.2.1 + bt129.1)) ≤ (l0.length : Int) then (some (2, 0, strOfNums ((l0.take ((wrap64 (bt129.2.1 + bt129.1)) : Int).toNat).drop (bt129.2.1 : Int).toNat), false, wrap64 (bt129.2.1 + bt129.1), 0)) else (none)) else (none)) else (none)))) else (some (0, 0, (⟨#[]⟩ : ByteArray), false, 0, bt129.2.2)))
set_option maxHeartbeats 8000000 in
set_option maxRecDepth 100000 in
theorem value_text.calls (A0 : Option Addr) (c0 : Nat) (l0 : List Int) (r1 : Int) (r2 : Int) (r3 : ByteArray) (r4 : Bool) (r5 : Int) (r6 : Int) (w : World) (hr0 : Kd.C (Kd.int .u8) w A0 l0.length l0) (hc0 : l0.length ≤ c0) (h : value_text.f l0 = some (r1, r2, r3, r4, r5, r6)) :
    Calls Tryd.prog 62 #[.slice A0 l0.length c0] w fun e w' => e = .returned (.tuple #[.agg #[.int .i64 r1, .int .i64 r2, .string r3, .bool r4], .int .i64 r5, .int .i64 r6]) ∧ Below w.heap.size w w' := by
  have hu63 := Tryd.underlying63
  have HR0 := z05.mk hr0
  have HC0 := z05.mk hc0
  clear hr0 hc0
  have HB := z05.mk (Below.refl w.heap.size w)
  have H : ((num_GetLen.f l0).bind fun bt129 => (if bt129.2.2 = 0 then (if bt129.1 > 64 then (some (0, 0, (⟨#[]⟩ : ByteArray), false, 0, 2)) else (if bt129.1 > (wrap64 ((l0.length : Int) - bt129.2.1)) then (some (0, 0, (⟨#[]⟩ : ByteArray), false, 0, 6)) else (if 0 ≤ bt129.2.1 then (if bt129.2.1 ≤ (wrap64 (bt129.2.1 + bt129.1)) then (if (wrap64 (bt129.2.1 + bt129.1)) ≤ (l0.length : Int) then (some (2, 0, strOfNums ((l0.take ((wrap64 (bt129.2.1 + bt129.1)) : Int).toNat).drop (bt129.2.1 : Int).toNat), false, wrap64 (bt129.2.1 + bt129.1), 0)) else (none)) else (none)) else (none)))) else (some (0, 0, (⟨#[]⟩ : ByteArray), false, 0, bt129.2.2)))) = some (r1, r2, r3, r4, r5, r6) := h
  clear h
  replace H := Option.bind_eq_some_iff.mp H
  obtain ⟨⟨t129, t130, t131⟩, A20, H⟩ := H
  replace H : (if t131 = 0 then (if t129 > 64 then (some (0, 0, (⟨#[]⟩ : ByteArray), false, 0, 2)) else (if t129 > (wrap64 ((l0.length : Int) - t130)) then (some (0, 0, (⟨#[]⟩ : ByteArray), false, 0, 6)) else (if 0 ≤ t130 then (if t130 ≤ (wrap64 (t130 + t129)) then (if (wrap64 (t130 + t129)) ≤ (l0.length : Int) then (some (2, 0, strOfNums ((l0.take ((wrap64 (t130 + t129)) : Int).toNat).drop (t130 : Int).toNat), false, wrap64 (t130 + t129), 0)) else (none)) else (none)) else (none)))) else (some (0, 0, (⟨#[]⟩ : ByteArray), false, 0, t131))) = some (r1, r2, r3, r4, r5, r6) := H
  have A2 := z05.mk A20
  clear A20
  by_cases c3 : t131 = 0
  · rw [if_pos c3] at H
    have c3b0 : (t131 == 0) = true := beq_iff_eq.mpr c3
    have c3b1 : (t131 != 0) = false := bne_eq_false_iff_eq.mpr c3
    clear c3
    by_cases c4 : t129 > 64
    · rw [if_pos c4] at H
      have c4b0 : decide (64 < t129) = true := decide_eq_true c4
      clear c4
      simp only [Option.some.injEq, Prod.mk.injEq] at H
      obtain ⟨rfl, rfl, rfl, rfl, rfl, rfl⟩ := H
      go_enter Tryd.func62, Tryd.ntmps62
      go_wp2_with (first | ((with_reducible refine z0h (N := 2) rfl ?_); refine z0g ?hg (N := 2) ?hd (cs := #[.int .i64 0, .int .i64 0, .string (⟨#[]⟩ : ByteArray), .bool false]) (t := 63) ?hr ?_; (case hd => rfl); (case hg => rfl); (case hr => first | (go_simp; done) | (go_simp; rfl)); intro gb128 hg w5 hbox hb; have n0_ := z05.mk (z0a (by repeat (first | (with_reducible first | exact HB.out | apply z02 | apply z00 | apply z03) | exact HB.out)) hb); have n1_ := z05.mk (hbox); have n2_ := z05.mk ((by rw [hg]; exact (z0b (by repeat (first | (with_reducible first | exact HB.out | apply z02 | apply z00 | apply z03) | exact HB.out))) : w.heap.size ≤ gb128)); have n3_ := z05.mk ((by rw [hg]; exact (z0b (by repeat (first | (with_reducible first | exact HB.out | apply z02 | apply z00 | apply z03) | exact HB.out))) : w.heap.size ≤ gb128)); clear HB; have HB := n0_; have BK128 := n1_; have GW128 := n2_; have GE128 := n3_; clear n0_ n1_ n2_ n3_; clear hb hbox hg) | ((with_reducible refine z0j (f := 70) rfl ?_); refine z0u (some 10) rfl rfl Tryd.func70 (by kernel_rfl) rfl #[.slice A0 l0.length c0] rfl (by (try simp only [List.map_toArray, List.map_cons, List.map_nil]); first | done | rfl | (simp only [List.length_drop, List.length_take]; rfl)) ?_; (with_reducible refine (num_GetLen.calls _ _ l0 t129 t130 t131 _ ?side1 ?side2 A2.out).mono ?_); (case side1 => repeat (first | exact (Kd.C_below HR0.out HB.out) | (with_reducible refine Kd.C_alloc ?_ _) | (with_reducible refine Kd.C_drewN ?_ _) | (with_reducible refine Kd.C_drew ?_))); (case side2 => exact HC0.out); rintro e w' ⟨rfl, ⟨nd, rfl⟩⟩; refine ⟨_, rfl, ?_⟩; (try (rw [z1h w5]; generalize hq_ : World.drewN w5 _ = w5; have n0_ : z05 (w5.heap[gb128]? = some (.cells #[.int .i64 0, .int .i64 0, .string (⟨#[]⟩ : ByteArray), .bool false] 63 (0, 0))) := ⟨by rw [← hq_]; exact (by (with_reducible repeat (first | refine z07 ?_ _ | refine z08 ?_ | refine z06 ?_ _)); exact BK128.out)⟩; have n1_ : z05 (Below w.heap.size w w5) := ⟨by rw [← hq_]; exact (by repeat (first | (with_reducible first | exact HB.out | apply z02 | apply z00 | apply z03 | refine z09 ?_ GE128.out) | exact HB.out))⟩; clear BK128 HB hq_; have BK128 := n0_; have HB := n1_; clear n0_ n1_)); have hcz6_0 : w5.cell? ⟨gb128, 0, none⟩ = some (.int .i64 0) := (z04 BK128.out 0).trans rfl; have hcz6_1 : w5.cell? ⟨gb128, 1, none⟩ = some (.int .i64 0) := (z04 BK128.out 1).trans rfl; have hcz6_2 : w5.cell? ⟨gb128, 2, none⟩ = some (.string (⟨#[]⟩ : ByteArray)) := (z04 BK128.out 2).trans rfl; have hcz6_3 : w5.cell? ⟨gb128, 3, none⟩ = some (.bool false) := (z04 BK128.out 3).trans rfl; have hfz6_0 := z01 BK128.out 0; have hfz6_1 := z01 BK128.out 1; have hfz6_2 := z01 BK128.out 2; have hfz6_3 := z01 BK128.out 3))
      refine bodyPost_ret (z0n rfl _ _ gb128 63 #[.int .i64 0, .int .i64 0, .string (⟨#[]⟩ : ByteArray), .bool false] (0, 0) _ rfl (by (with_reducible repeat (first | refine z07 ?_ _ | refine z08 ?_ | refine z06 ?_ _)); refine z0i (cs := #[.int .i64 0, .int .i64 0, .string (⟨#[]⟩ : ByteArray), .bool false]) ?_ 3 _ rfl; (with_reducible repeat (first | refine z07 ?_ _ | refine z08 ?_ | refine z06 ?_ _)); refine z0i (cs := #[.int .i64 0, .int .i64 0, .string (⟨#[]⟩ : ByteArray), .bool false]) ?_ 2 _ rfl; (with_reducible repeat (first | refine z07 ?_ _ | refine z08 ?_ | refine z06 ?_ _)); refine z0i (cs := #[.int .i64 0, .int .i64 0, .string (⟨#[]⟩ : ByteArray), .bool false]) ?_ 1 _ rfl; (with_reducible repeat (first | refine z07 ?_ _ | refine z08 ?_ | refine z06 ?_ _)); refine z0i (cs := #[.int .i64 0, .int .i64 0, .string (⟨#[]⟩ : ByteArray), .bool false]) ?_ 0 _ rfl; (with_reducible repeat (first | refine z07 ?_ _ | refine z08 ?_ | refine z06 ?_ _)); exact BK128.out) Tryd.underlying63 rfl (by kernel_rfl)) rfl ?_
      exact ⟨by first | rfl | (simp [z0d, z0c] <;> rfl) | (refine congrArg (fun b_ : Bool => Ending.returned (Value.bool b_)) ?_; simp; done) | (simp [*, z0d, z0c] <;> rfl), by repeat (first | (with_reducible first | exact HB.out | apply z02 | apply z00 | apply z03 | refine z09 ?_ GE128.out) | exact HB.out)⟩
    · rw [if_neg c4] at H
      have c4b0 : decide (64 < t129) = false := decide_eq_false c4
      clear c4
      by_cases c7 : t129 > (wrap64 ((l0.length : Int) - t130))
      · rw [if_pos c7] at H
        have c7b0 : decide ((wrap64 ((l0.length : Int) - t130)) < t129) = true := decide_eq_true c7
        clear c7
        simp only [Option.some.injEq, Prod.mk.injEq] at H
        obtain ⟨rfl, rfl, rfl, rfl, rfl, rfl⟩ := H
        go_enter Tryd.func62, Tryd.ntmps62
        go_wp2_with (first | ((with_reducible refine z0h (N := 2) rfl ?_); refine z0g ?hg (N := 2) ?hd (cs := #[.int .i64 0, .int .i64 0, .string (⟨#[]⟩ : ByteArray), .bool false]) (t := 63) ?hr ?_; (case hd => rfl); (case hg => rfl); (case hr => first | (go_simp; done) | (go_simp; rfl)); intro gb128 hg w8 hbox hb; have n0_ := z05.mk (z0a (by repeat (first | (with_reducible first | exact HB.out | apply z02 | apply z00 | apply z03) | exact HB.out)) hb); have n1_ := z05.mk (hbox); have n2_ := z05.mk ((by rw [hg]; exact (z0b (by repeat (first | (with_reducible first | exact HB.out | apply z02 | apply z00 | apply z03) | exact HB.out))) : w.heap.size ≤ gb128)); have n3_ := z05.mk ((by rw [hg]; exact (z0b (by repeat (first | (with_reducible first | exact HB.out | apply z02 | apply z00 | apply z03) | exact HB.out))) : w.heap.size ≤ gb128)); clear HB; have HB := n0_; have BK128 := n1_; have GW128 := n2_; have GE128 := n3_; clear n0_ n1_ n2_ n3_; clear hb hbox hg) | ((with_reducible refine z0j (f := 70) rfl ?_); refine z0u (some 10) rfl rfl Tryd.func70 (by kernel_rfl) rfl #[.slice A0 l0.length c0] rfl (by (try simp only [List.map_toArray, List.map_cons, List.map_nil]); first | done | rfl | (simp only [List.length_drop, List.length_take]; rfl)) ?_; (with_reducible refine (num_GetLen.calls _ _ l0 t129 t130 t131 _ ?side1 ?side2 A2.out).mono ?_); (case side1 => repeat (first | exact (Kd.C_below HR0.out HB.out) | (with_reducible refine Kd.C_alloc ?_ _) | (with_reducible refine Kd.C_drewN ?_ _) | (with_reducible refine Kd.C_drew ?_))); (case side2 => exact HC0.out); rintro e w' ⟨rfl, ⟨nd, rfl⟩⟩; refine ⟨_, rfl, ?_⟩; (try (rw [z1h w8]; generalize hq_ : World.drewN w8 _ = w8; have n0_ : z05 (w8.heap[gb128]? = some (.cells #[.int .i64 0, .int .i64 0, .string (⟨#[]⟩ : ByteArray), .bool false] 63 (0, 0))) := ⟨by rw [← hq_]; exact (by (with_reducible repeat (first | refine z07 ?_ _ | refine z08 ?_ | refine z06 ?_ _)); exact BK128.out)⟩; have n1_ : z05 (Below w.heap.size w w8) := ⟨by rw [← hq_]; exact (by repeat (first | (with_reducible first | exact HB.out | apply z02 | apply z00 | apply z03 | refine z09 ?_ GE128.out) | exact HB.out))⟩; clear BK128 HB hq_; have BK128 := n0_; have HB := n1_; clear n0_ n1_)); have hcz9_0 : w8.cell? ⟨gb128, 0, none⟩ = some (.int .i64 0) := (z04 BK128.out 0).trans rfl; have hcz9_1 : w8.cell? ⟨gb128, 1, none⟩ = some (.int .i64 0) := (z04 BK128.out 1).trans rfl; have hcz9_2 : w8.cell? ⟨gb128, 2, none⟩ = some (.string (⟨#[]⟩ : ByteArray)) := (z04 BK128.out 2).trans rfl; have hcz9_3 : w8.cell? ⟨gb128, 3, none⟩ = some (.bool false) := (z04 BK128.out 3).trans rfl; have hfz9_0 := z01 BK128.out 0; have hfz9_1 := z01 BK128.out 1; have hfz9_2 := z01 BK128.out 2; have hfz9_3 := z01 BK128.out 3))
        refine bodyPost_ret (z0n rfl _ _ gb128 63 #[.int .i64 0, .int .i64 0, .string (⟨#[]⟩ : ByteArray), .bool false] (0, 0) _ rfl (by (with_reducible repeat (first | refine z07 ?_ _ | refine z08 ?_ | refine z06 ?_ _)); refine z0i (cs := #[.int .i64 0, .int .i64 0, .string (⟨#[]⟩ : ByteArray), .bool false]) ?_ 3 _ rfl; (with_reducible repeat (first | refine z07 ?_ _ | refine z08 ?_ | refine z06 ?_ _)); refine z0i (cs := #[.int .i64 0, .int .i64 0, .string (⟨#[]⟩ : ByteArray), .bool false]) ?_ 2 _ rfl; (with_reducible repeat (first | refine z07 ?_ _ | refine z08 ?_ | refine z06 ?_ _)); refine z0i (cs := #[.int .i64 0, .int .i64 0, .string (⟨#[]⟩ : ByteArray), .bool false]) ?_ 1 _ rfl; (with_reducible repeat (first | refine z07 ?_ _ | refine z08 ?_ | refine z06 ?_ _)); refine z0i (cs := #[.int .i64 0, .int .i64 0, .string (⟨#[]⟩ : ByteArray), .bool false]) ?_ 0 _ rfl; (with_reducible repeat (first | refine z07 ?_ _ | refine z08 ?_ | refine z06 ?_ _)); exact BK128.out) Tryd.underlying63 rfl (by kernel_rfl)) rfl ?_
        exact ⟨by first | rfl | (simp [z0d, z0c] <;> rfl) | (refine congrArg (fun b_ : Bool => Ending.returned (Value.bool b_)) ?_; simp; done) | (simp [*, z0d, z0c] <;> rfl), by repeat (first | (with_reducible first | exact HB.out | apply z02 | apply z00 | apply z03 | refine z09 ?_ GE128.out) | exact HB.out)⟩
      · rw [if_neg c7] at H
        have c7b0 : decide ((wrap64 ((l0.length : Int) - t130)) < t129) = false := decide_eq_false c7
        clear c7
        by_cases c10 : 0 ≤ t130
        · rw [if_pos c10] at H
          have c10b0 := eq_true c10
          have c10b1 : decide (0 ≤ t130) = true := decide_eq_true c10
          clear c10
          by_cases c11 : t130 ≤ (wrap64 (t130 + t129))
          · rw [if_pos c11] at H
            have c11b0 := eq_true c11
            have c11b1 : decide (t130 ≤ (wrap64 (t130 + t129))) = true := decide_eq_true c11
            by_cases c12 : (wrap64 (t130 + t129)) ≤ (l0.length : Int)
            · rw [if_pos c12] at H
              have c12b0 := eq_true c12
              have c12b1 : decide ((wrap64 (t130 + t129)) ≤ (l0.length : Int)) = true := decide_eq_true c12
              simp only [Option.some.injEq, Prod.mk.injEq] at H
              obtain ⟨rfl, rfl, rfl, rfl, rfl, rfl⟩ := H
              go_enter Tryd.func62, Tryd.ntmps62
              go_wp2_with (first | ((with_reducible refine z0h (N := 2) rfl ?_); refine z0g ?hg (N := 2) ?hd (cs := #[.int .i64 0, .int .i64 0, .string (⟨#[]⟩ : ByteArray), .bool false]) (t := 63) ?hr ?_; (case hd => rfl); (case hg => rfl); (case hr => first | (go_simp; done) | (go_simp; rfl)); intro gb128 hg w13 hbox hb; have n0_ := z05.mk (z0a (by repeat (first | (with_reducible first | exact HB.out | apply z02 | apply z00 | apply z03) | exact HB.out)) hb); have n1_ := z05.mk (hbox); have n2_ := z05.mk ((by rw [hg]; exact (z0b (by repeat (first | (with_reducible first | exact HB.out | apply z02 | apply z00 | apply z03) | exact HB.out))) : w.heap.size ≤ gb128)); have n3_ := z05.mk ((by rw [hg]; exact (z0b (by repeat (first | (with_reducible first | exact HB.out | apply z02 | apply z00 | apply z03) | exact HB.out))) : w.heap.size ≤ gb128)); clear HB; have HB := n0_; have BK128 := n1_; have GW128 := n2_; have GE128 := n3_; clear n0_ n1_ n2_ n3_; clear hb hbox hg) | ((with_reducible refine z0j (f := 70) rfl ?_); refine z0u (some 10) rfl rfl Tryd.func70 (by kernel_rfl) rfl #[.slice A0 l0.length c0] rfl (by (try simp only [List.map_toArray, List.map_cons, List.map_nil]); first | done | rfl | (simp only [List.length_drop, List.length_take]; rfl)) ?_; (with_reducible refine (num_GetLen.calls _ _ l0 t129 t130 t131 _ ?side1 ?side2 A2.out).mono ?_); (case side1 => repeat (first | exact (Kd.C_below HR0.out HB.out) | (with_reducible refine Kd.C_alloc ?_ _) | (with_reducible refine Kd.C_drewN ?_ _) | (with_reducible refine Kd.C_drew ?_))); (case side2 => exact HC0.out); rintro e w' ⟨rfl, ⟨nd, rfl⟩⟩; refine ⟨_, rfl, ?_⟩; (try (rw [z1h w13]; generalize hq_ : World.drewN w13 _ = w13; have n0_ : z05 (w13.heap[gb128]? = some (.cells #[.int .i64 0, .int .i64 0, .string (⟨#[]⟩ : ByteArray), .bool false] 63 (0, 0))) := ⟨by rw [← hq_]; exact (by (with_reducible repeat (first | refine z07 ?_ _ | refine z08 ?_ | refine z06 ?_ _)); exact BK128.out)⟩; have n1_ : z05 (Below w.heap.size w w13) := ⟨by rw [← hq_]; exact (by repeat (first | (with_reducible first | exact HB.out | apply z02 | apply z00 | apply z03 | refine z09 ?_ GE128.out) | exact HB.out))⟩; clear BK128 HB hq_; have BK128 := n0_; have HB := n1_; clear n0_ n1_)); obtain ⟨i014, hi014, _, hsz14, _⟩ := info_parts info5; obtain ⟨A14, hcut14, hA14, hC14⟩ := z2p (P := Tryd.prog) (Value.int .u8) 0 42 5 .i64 .i64 Tryd.underlying42 hi014 hsz14 A0 c0 l0 t130 (wrap64 (t130 + t129)) (of_decide_eq_true (by first | (with_reducible assumption) | assumption)) (by first | omega | exact of_decide_eq_true (by first | (with_reducible assumption) | assumption)) (of_decide_eq_true (by first | (with_reducible assumption) | assumption)) HC0.out; have HR132 := z05.mk (Kd.C_of_reads (h1 := fun _ => rfl) (hA14 _ (Kd.reads_of_C HR0.out))); have HC132 := z05.mk hC14; clear hA14 hC14 hi014 hsz14) | ((with_reducible refine Go.Proofs.YtimomihjghefdaaDoor.Hbase.gate_convert (s := 42) (d := 9) rfl ?_); refine Go.Proofs.YtimomihjghefdaaDoor.Hbase.strof_event (xs := ((l0.take ((wrap64 (t130 + t129)) : Int).toNat).drop (t130 : Int).toNat)) rfl rfl rfl ?hn Tryd.underlying42 Tryd.underlying5 Tryd.underlying9 (Kd.C_below HR132.out (by repeat (first | (with_reducible first | exact HB.out | apply z02 | apply z00 | apply z03 | refine z09 ?_ GE128.out) | exact HB.out))) ?_; (case hn => first | rfl | (simp only [List.length_drop, List.length_take]; first | rfl | omega)); have hcz15_0 : w13.cell? ⟨gb128, 0, none⟩ = some (.int .i64 0) := (z04 BK128.out 0).trans rfl; have hcz15_1 : w13.cell? ⟨gb128, 1, none⟩ = some (.int .i64 0) := (z04 BK128.out 1).trans rfl; have hcz15_2 : w13.cell? ⟨gb128, 2, none⟩ = some (.string (⟨#[]⟩ : ByteArray)) := (z04 BK128.out 2).trans rfl; have hcz15_3 : w13.cell? ⟨gb128, 3, none⟩ = some (.bool false) := (z04 BK128.out 3).trans rfl; have hfz15_0 := z01 BK128.out 0; have hfz15_1 := z01 BK128.out 1; have hfz15_2 := z01 BK128.out 2; have hfz15_3 := z01 BK128.out 3))
              refine bodyPost_ret (z0n rfl _ _ gb128 63 #[.int .i64 2, .int .i64 0, .string (strOfNums ((l0.take ((wrap64 (t130 + t129)) : Int).toNat).drop (t130 : Int).toNat)), .bool false] (0, 0) _ rfl (by (with_reducible repeat (first | refine z07 ?_ _ | refine z08 ?_ | refine z06 ?_ _)); refine z0i (cs := #[.int .i64 2, .int .i64 0, .string (strOfNums ((l0.take ((wrap64 (t130 + t129)) : Int).toNat).drop (t130 : Int).toNat)), .bool false]) ?_ 3 _ rfl; (with_reducible repeat (first | refine z07 ?_ _ | refine z08 ?_ | refine z06 ?_ _)); refine z0i (cs := #[.int .i64 2, .int .i64 0, .string (⟨#[]⟩ : ByteArray), .bool false]) ?_ 2 _ rfl; (with_reducible repeat (first | refine z07 ?_ _ | refine z08 ?_ | refine z06 ?_ _)); refine z0i (cs := #[.int .i64 2, .int .i64 0, .string (⟨#[]⟩ : ByteArray), .bool false]) ?_ 1 _ rfl; (with_reducible repeat (first | refine z07 ?_ _ | refine z08 ?_ | refine z06 ?_ _)); refine z0i (cs := #[.int .i64 0, .int .i64 0, .string (⟨#[]⟩ : ByteArray), .bool false]) ?_ 0 _ rfl; (with_reducible repeat (first | refine z07 ?_ _ | refine z08 ?_ | refine z06 ?_ _)); exact BK128.out) Tryd.underlying63 rfl (by kernel_rfl)) rfl ?_
              exact ⟨by first | rfl | (simp [z0d, z0c] <;> rfl) | (refine congrArg (fun b_ : Bool => Ending.returned (Value.bool b_)) ?_; simp; done) | (simp [*, z0d, z0c] <;> rfl), by repeat (first | (with_reducible first | exact HB.out | apply z02 | apply z00 | apply z03 | refine z09 ?_ GE128.out) | exact HB.out)⟩
            · rw [if_neg c12] at H
              exact absurd H (by simp)
          · rw [if_neg c11] at H
            exact absurd H (by simp)
        · rw [if_neg c10] at H
          exact absurd H (by simp)
  · rw [if_neg c3] at H
    have c3b0 : (t131 == 0) = false := beq_eq_false_iff_ne.mpr c3
    have c3b1 : (t131 != 0) = true := bne_iff_ne.mpr c3
    simp only [Option.some.injEq, Prod.mk.injEq] at H
    obtain ⟨rfl, rfl, rfl, rfl, rfl, rfl⟩ := H
    go_enter Tryd.func62, Tryd.ntmps62
    go_wp2_with (first | ((with_reducible refine z0h (N := 2) rfl ?_); refine z0g ?hg (N := 2) ?hd (cs := #[.int .i64 0, .int .i64 0, .string (⟨#[]⟩ : ByteArray), .bool false]) (t := 63) ?hr ?_; (case hd => rfl); (case hg => rfl); (case hr => first | (go_simp; done) | (go_simp; rfl)); intro gb128 hg w16 hbox hb; have n0_ := z05.mk (z0a (by repeat (first | (with_reducible first | exact HB.out | apply z02 | apply z00 | apply z03) | exact HB.out)) hb); have n1_ := z05.mk (hbox); have n2_ := z05.mk ((by rw [hg]; exact (z0b (by repeat (first | (with_reducible first | exact HB.out | apply z02 | apply z00 | apply z03) | exact HB.out))) : w.heap.size ≤ gb128)); have n3_ := z05.mk ((by rw [hg]; exact (z0b (by repeat (first | (with_reducible first | exact HB.out | apply z02 | apply z00 | apply z03) | exact HB.out))) : w.heap.size ≤ gb128)); clear HB; have HB := n0_; have BK128 := n1_; have GW128 := n2_; have GE128 := n3_; clear n0_ n1_ n2_ n3_; clear hb hbox hg) | ((with_reducible refine z0j (f := 70) rfl ?_); refine z0u (some 10) rfl rfl Tryd.func70 (by kernel_rfl) rfl #[.slice A0 l0.length c0] rfl (by (try simp only [List.map_toArray, List.map_cons, List.map_nil]); first | done | rfl | (simp only [List.length_drop, List.length_take]; rfl)) ?_; (with_reducible refine (num_GetLen.calls _ _ l0 t129 t130 t131 _ ?side1 ?side2 A2.out).mono ?_); (case side1 => repeat (first | exact (Kd.C_below HR0.out HB.out) | (with_reducible refine Kd.C_alloc ?_ _) | (with_reducible refine Kd.C_drewN ?_ _) | (with_reducible refine Kd.C_drew ?_))); (case side2 => exact HC0.out); rintro e w' ⟨rfl, ⟨nd, rfl⟩⟩; refine ⟨_, rfl, ?_⟩; (try (rw [z1h w16]; generalize hq_ : World.drewN w16 _ = w16; have n0_ : z05 (w16.heap[gb128]? = some (.cells #[.int .i64 0, .int .i64 0, .string (⟨#[]⟩ : ByteArray), .bool false] 63 (0, 0))) := ⟨by rw [← hq_]; exact (by (with_reducible repeat (first | refine z07 ?_ _ | refine z08 ?_ | refine z06 ?_ _)); exact BK128.out)⟩; have n1_ : z05 (Below w.heap.size w w16) := ⟨by rw [← hq_]; exact (by repeat (first | (with_reducible first | exact HB.out | apply z02 | apply z00 | apply z03 | refine z09 ?_ GE128.out) | exact HB.out))⟩; clear BK128 HB hq_; have BK128 := n0_; have HB := n1_; clear n0_ n1_)); have hcz17_0 : w16.cell? ⟨gb128, 0, none⟩ = some (.int .i64 0) := (z04 BK128.out 0).trans rfl; have hcz17_1 : w16.cell? ⟨gb128, 1, none⟩ = some (.int .i64 0) := (z04 BK128.out 1).trans rfl; have hcz17_2 : w16.cell? ⟨gb128, 2, none⟩ = some (.string (⟨#[]⟩ : ByteArray)) := (z04 BK128.out 2).trans rfl; have hcz17_3 : w16.cell? ⟨gb128, 3, none⟩ = some (.bool false) := (z04 BK128.out 3).trans rfl; have hfz17_0 := z01 BK128.out 0; have hfz17_1 := z01 BK128.out 1; have hfz17_2 := z01 BK128.out 2; have hfz17_3 := z01 BK128.out 3))
    refine bodyPost_ret (z0n rfl _ _ gb128 63 #[.int .i64 0, .int .i64 0, .string (⟨#[]⟩ : ByteArray), .bool false] (0, 0) _ rfl (by (with_reducible repeat (first | refine z07 ?_ _ | refine z08 ?_ | refine z06 ?_ _)); refine z0i (cs := #[.int .i64 0, .int .i64 0, .string (⟨#[]⟩ : ByteArray), .bool false]) ?_ 3 _ rfl; (with_reducible repeat (first | refine z07 ?_ _ | refine z08 ?_ | refine z06 ?_ _)); refine z0i (cs := #[.int .i64 0, .int .i64 0, .string (⟨#[]⟩ : ByteArray), .bool false]) ?_ 2 _ rfl; (with_reducible repeat (first | refine z07 ?_ _ | refine z08 ?_ | refine z06 ?_ _)); refine z0i (cs := #[.int .i64 0, .int .i64 0, .string (⟨#[]⟩ : ByteArray), .bool false]) ?_ 1 _ rfl; (with_reducible repeat (first | refine z07 ?_ _ | refine z08 ?_ | refine z06 ?_ _)); refine z0i (cs := #[.int .i64 0, .int .i64 0, .string (⟨#[]⟩ : ByteArray), .bool false]) ?_ 0 _ rfl; (with_reducible repeat (first | refine z07 ?_ _ | refine z08 ?_ | refine z06 ?_ _)); exact BK128.out) Tryd.underlying63 rfl (by kernel_rfl)) rfl ?_
    exact ⟨by first | rfl | (simp [z0d, z0c] <;> rfl) | (refine congrArg (fun b_ : Bool => Ending.returned (Value.bool b_)) ?_; simp; done) | (simp [*, z0d, z0c] <;> rfl), by repeat (first | (with_reducible first | exact HB.out | apply z02 | apply z00 | apply z03 | refine z09 ?_ GE128.out) | exact HB.out)⟩

/-! ### value_Get: function 48 -/
def value_Get.f (l0 : List Int) (a1 : Int) : Option (Int × Int × ByteArray × Bool × Int × Int) := if a1 = 0 then (some (0, 0, (⟨#[]⟩ : ByteArray), false, 0, 0)) else (if a1 = 1 then ((num_Get.f l0).bind fun bt134 => (if bt134.2.2 = 0 then (some (1, bt134.1, (⟨#[]⟩ : ByteArray), false, bt134.2.1, 0)) else (some (0, 0, (⟨#[]⟩ : ByteArray), false, 0, bt134.2.2)))) else (if a1 = 2 then ((value_text.f l0).bind fun bt137 => (some (bt137.1, bt137.2.1, bt137.2.2.1, bt137.2.2.2.1, bt137.2.2.2.2.1, bt137.2.2.2.2.2))) else (if a1 = 3 then (if (l0.length : Int) = 0 then (some (0, 0, (⟨#[]⟩ : ByteArray), false, 0, 6)) else (if 0 < (l0.length : Int) then (if (rd l0 0) > 1 then (some (0, 0, (⟨#[]⟩ : ByteArray), false, 0, 7)) else (some (3, 0, (⟨#[]⟩ : ByteArray), ((rd l0 0) == 1), 1, 0))) else (none))) else (some (0, 0, (⟨#[]⟩ : ByteArray), false, 0, 1)))))
set_option maxHeartbeats 8000000 in
set_option maxRecDepth 100000 in
theorem value_Get.calls (A0 : Option Addr) (c0 : Nat) (l0 : List Int) (a1 : Int) (r1 : Int) (r2 : Int) (r3 : ByteArray) (r4 : Bool) (r5 : Int) (r6 : Int) (w : World) (hr0 : Kd.C (Kd.int .u8) w A0 l0.length l0) (hc0 : l0.length ≤ c0) (h : value_Get.f l0 a1 = some (r1, r2, r3, r4, r5, r6)) :
    Calls Tryd.prog 48 #[.slice A0 l0.length c0, .int .i64 a1] w fun e w' => e = .returned (.tuple #[.agg #[.int .i64 r1, .int .i64 r2, .string r3, .bool r4], .int .i64 r5, .int .i64 r6]) ∧ Below w.heap.size w w' := by
  have hu63 := Tryd.underlying63
  have HR0 := z05.mk hr0
  have HC0 := z05.mk hc0
  clear hr0 hc0
  have HB := z05.mk (Below.refl w.heap.size w)
  have H : (if a1 = 0 then (some (0, 0, (⟨#[]⟩ : ByteArray), false, 0, 0)) else (if a1 = 1 then ((num_Get.f l0).bind fun bt134 => (if bt134.2.2 = 0 then (some (1, bt134.1, (⟨#[]⟩ : ByteArray), false, bt134.2.1, 0)) else (some (0, 0, (⟨#[]⟩ : ByteArray), false, 0, bt134.2.2)))) else (if a1 = 2 then ((value_text.f l0).bind fun bt137 => (some (bt137.1, bt137.2.1, bt137.2.2.1, bt137.2.2.2.1, bt137.2.2.2.2.1, bt137.2.2.2.2.2))) else (if a1 = 3 then (if (l0.length : Int) = 0 then (some (0, 0, (⟨#[]⟩ : ByteArray), false, 0, 6)) else (if 0 < (l0.length : Int) then (if (rd l0 0) > 1 then (some (0, 0, (⟨#[]⟩ : ByteArray), false, 0, 7)) else (some (3, 0, (⟨#[]⟩ : ByteArray), ((rd l0 0) == 1), 1, 0))) else (none))) else (some (0, 0, (⟨#[]⟩ : ByteArray), false, 0, 1)))))) = some (r1, r2, r3, r4, r5, r6) := h
  clear h
  by_cases c3 : a1 = 0
  · rw [if_pos c3] at H
    have c3b0 : (a1 == 0) = true := beq_iff_eq.mpr c3
    have c3b1 : (a1 != 0) = false := bne_eq_false_iff_eq.mpr c3
    clear c3
    simp only [Option.some.injEq, Prod.mk.injEq] at H
    obtain ⟨rfl, rfl, rfl, rfl, rfl, rfl⟩ := H
    go_enter Tryd.func48, Tryd.ntmps48
    go_wp2_with (first | ((with_reducible refine z0h (N := 4) rfl ?_); refine z0g ?hg (N := 4) ?hd (cs := #[.int .i64 0, .int .i64 0, .string (⟨#[]⟩ : ByteArray), .bool false]) (t := 63) ?hr ?_; (case hd => rfl); (case hg => rfl); (case hr => first | (go_simp; done) | (go_simp; rfl)); intro gb133 hg w4 hbox hb; have n0_ := z05.mk (z0a (by repeat (first | (with_reducible first | exact HB.out | apply z02 | apply z00 | apply z03) | exact HB.out)) hb); have n1_ := z05.mk (hbox); have n2_ := z05.mk ((by rw [hg]; exact (z0b (by repeat (first | (with_reducible first | exact HB.out | apply z02 | apply z00 | apply z03) | exact HB.out))) : w.heap.size ≤ gb133)); have n3_ := z05.mk ((by rw [hg]; exact (z0b (by repeat (first | (with_reducible first | exact HB.out | apply z02 | apply z00 | apply z03) | exact HB.out))) : w.heap.size ≤ gb133)); clear HB; have HB := n0_; have BK133 := n1_; have GW133 := n2_; have GE133 := n3_; clear n0_ n1_ n2_ n3_; clear hb hbox hg; have hcz5_0 : w4.cell? ⟨gb133, 0, none⟩ = some (.int .i64 0) := (z04 BK133.out 0).trans rfl; have hcz5_1 : w4.cell? ⟨gb133, 1, none⟩ = some (.int .i64 0) := (z04 BK133.out 1).trans rfl; have hcz5_2 : w4.cell? ⟨gb133, 2, none⟩ = some (.string (⟨#[]⟩ : ByteArray)) := (z04 BK133.out 2).trans rfl; have hcz5_3 : w4.cell? ⟨gb133, 3, none⟩ = some (.bool false) := (z04 BK133.out 3).trans rfl; have hfz5_0 := z01 BK133.out 0; have hfz5_1 := z01 BK133.out 1; have hfz5_2 := z01 BK133.out 2; have hfz5_3 := z01 BK133.out 3))
    refine bodyPost_ret (z0n rfl _ _ gb133 63 #[.int .i64 0, .int .i64 0, .string (⟨#[]⟩ : ByteArray), .bool false] (0, 0) _ rfl (by (with_reducible repeat (first | refine z07 ?_ _ | refine z08 ?_ | refine z06 ?_ _)); refine z0i (cs := #[.int .i64 0, .int .i64 0, .string (⟨#[]⟩ : ByteArray), .bool false]) ?_ 3 _ rfl; (with_reducible repeat (first | refine z07 ?_ _ | refine z08 ?_ | refine z06 ?_ _)); refine z0i (cs := #[.int .i64 0, .int .i64 0, .string (⟨#[]⟩ : ByteArray), .bool false]) ?_ 2 _ rfl; (with_reducible repeat (first | refine z07 ?_ _ | refine z08 ?_ | refine z06 ?_ _)); refine z0i (cs := #[.int .i64 0, .int .i64 0, .string (⟨#[]⟩ : ByteArray), .bool false]) ?_ 1 _ rfl; (with_reducible repeat (first | refine z07 ?_ _ | refine z08 ?_ | refine z06 ?_ _)); refine z0i (cs := #[.int .i64 0, .int .i64 0, .string (⟨#[]⟩ : ByteArray), .bool false]) ?_ 0 _ rfl; (with_reducible repeat (first | refine z07 ?_ _ | refine z08 ?_ | refine z06 ?_ _)); exact BK133.out) Tryd.underlying63 rfl (by kernel_rfl)) rfl ?_
    exact ⟨by first | rfl | (simp [z0d, z0c] <;> rfl) | (refine congrArg (fun b_ : Bool => Ending.returned (Value.bool b_)) ?_; simp; done) | (simp [*, z0d, z0c] <;> rfl), by repeat (first | (with_reducible first | exact HB.out | apply z02 | apply z00 | apply z03 | refine z09 ?_ GE133.out) | exact HB.out)⟩
  · rw [if_neg c3] at H
    have c3b0 : (a1 == 0) = false := beq_eq_false_iff_ne.mpr c3
    have c3b1 : (a1 != 0) = true := bne_iff_ne.mpr c3
    by_cases c6 : a1 = 1
    · rw [if_pos c6] at H
      have c6b0 : (a1 == 1) = true := beq_iff_eq.mpr c6
      have c6b1 : (a1 != 1) = false := bne_eq_false_iff_eq.mpr c6
      clear c6
      replace H := Option.bind_eq_some_iff.mp H
      obtain ⟨⟨t134, t135, t136⟩, A70, H⟩ := H
      replace H : (if t136 = 0 then (some (1, t134, (⟨#[]⟩ : ByteArray), false, t135, 0)) else (some (0, 0, (⟨#[]⟩ : ByteArray), false, 0, t136))) = some (r1, r2, r3, r4, r5, r6) := H
      have A7 := z05.mk A70
      clear A70
      by_cases c8 : t136 = 0
      · rw [if_pos c8] at H
        have c8b0 : (t136 == 0) = true := beq_iff_eq.mpr c8
        have c8b1 : (t136 != 0) = false := bne_eq_false_iff_eq.mpr c8
        clear c8
        simp only [Option.some.injEq, Prod.mk.injEq] at H
        obtain ⟨rfl, rfl, rfl, rfl, rfl, rfl⟩ := H
        go_enter Tryd.func48, Tryd.ntmps48
        go_wp2_with (first | ((with_reducible refine z0h (N := 4) rfl ?_); refine z0g ?hg (N := 4) ?hd (cs := #[.int .i64 0, .int .i64 0, .string (⟨#[]⟩ : ByteArray), .bool false]) (t := 63) ?hr ?_; (case hd => rfl); (case hg => rfl); (case hr => first | (go_simp; done) | (go_simp; rfl)); intro gb133 hg w9 hbox hb; have n0_ := z05.mk (z0a (by repeat (first | (with_reducible first | exact HB.out | apply z02 | apply z00 | apply z03) | exact HB.out)) hb); have n1_ := z05.mk (hbox); have n2_ := z05.mk ((by rw [hg]; exact (z0b (by repeat (first | (with_reducible first | exact HB.out | apply z02 | apply z00 | apply z03) | exact HB.out))) : w.heap.size ≤ gb133)); have n3_ := z05.mk ((by rw [hg]; exact (z0b (by repeat (first | (with_reducible first | exact HB.out | apply z02 | apply z00 | apply z03) | exact HB.out))) : w.heap.size ≤ gb133)); clear HB; have HB := n0_; have BK133 := n1_; have GW133 := n2_; have GE133 := n3_; clear n0_ n1_ n2_ n3_; clear hb hbox hg) | ((with_reducible refine z0j (f := 61) rfl ?_); refine z0u (some 18) rfl rfl Tryd.func61 (by kernel_rfl) rfl #[.slice A0 l0.length c0] rfl (by (try simp only [List.map_toArray, List.map_cons, List.map_nil]); first | done | rfl | (simp only [List.length_drop, List.length_take]; rfl)) ?_; (with_reducible refine (num_Get.calls _ _ l0 t134 t135 t136 _ ?side1 ?side2 A7.out).mono ?_); (case side1 => repeat (first | exact (Kd.C_below HR0.out HB.out) | (with_reducible refine Kd.C_alloc ?_ _) | (with_reducible refine Kd.C_drewN ?_ _) | (with_reducible refine Kd.C_drew ?_))); (case side2 => exact HC0.out); rintro e w' ⟨rfl, ⟨nd, rfl⟩⟩; refine ⟨_, rfl, ?_⟩; (try (rw [z1h w9]; generalize hq_ : World.drewN w9 _ = w9; have n0_ : z05 (w9.heap[gb133]? = some (.cells #[.int .i64 0, .int .i64 0, .string (⟨#[]⟩ : ByteArray), .bool false] 63 (0, 0))) := ⟨by rw [← hq_]; exact (by (with_reducible repeat (first | refine z07 ?_ _ | refine z08 ?_ | refine z06 ?_ _)); exact BK133.out)⟩; have n1_ : z05 (Below w.heap.size w w9) := ⟨by rw [← hq_]; exact (by repeat (first | (with_reducible first | exact HB.out | apply z02 | apply z00 | apply z03 | refine z09 ?_ GE133.out) | exact HB.out))⟩; clear BK133 HB hq_; have BK133 := n0_; have HB := n1_; clear n0_ n1_)); have hcz10_0 : w9.cell? ⟨gb133, 0, none⟩ = some (.int .i64 0) := (z04 BK133.out 0).trans rfl; have hcz10_1 : w9.cell? ⟨gb133, 1, none⟩ = some (.int .i64 0) := (z04 BK133.out 1).trans rfl; have hcz10_2 : w9.cell? ⟨gb133, 2, none⟩ = some (.string (⟨#[]⟩ : ByteArray)) := (z04 BK133.out 2).trans rfl; have hcz10_3 : w9.cell? ⟨gb133, 3, none⟩ = some (.bool false) := (z04 BK133.out 3).trans rfl; have hfz10_0 := z01 BK133.out 0; have hfz10_1 := z01 BK133.out 1; have hfz10_2 := z01 BK133.out 2; have hfz10_3 := z01 BK133.out 3))
        refine bodyPost_ret (z0n rfl _ _ gb133 63 #[.int .i64 1, .int .i64 t134, .string (⟨#[]⟩ : ByteArray), .bool false] (0, 0) _ rfl (by (with_reducible repeat (first | refine z07 ?_ _ | refine z08 ?_ | refine z06 ?_ _)); refine z0i (cs := #[.int .i64 1, .int .i64 t134, .string (⟨#[]⟩ : ByteArray), .bool false]) ?_ 3 _ rfl; (with_reducible repeat (first | refine z07 ?_ _ | refine z08 ?_ | refine z06 ?_ _)); refine z0i (cs := #[.int .i64 1, .int .i64 t134, .string (⟨#[]⟩ : ByteArray), .bool false]) ?_ 2 _ rfl; (with_reducible repeat (first | refine z07 ?_ _ | refine z08 ?_ | refine z06 ?_ _)); refine z0i (cs := #[.int .i64 1, .int .i64 0, .string (⟨#[]⟩ : ByteArray), .bool false]) ?_ 1 _ rfl; (with_reducible repeat (first | refine z07 ?_ _ | refine z08 ?_ | refine z06 ?_ _)); refine z0i (cs := #[.int .i64 0, .int .i64 0, .string (⟨#[]⟩ : ByteArray), .bool false]) ?_ 0 _ rfl; (with_reducible repeat (first | refine z07 ?_ _ | refine z08 ?_ | refine z06 ?_ _)); exact BK133.out) Tryd.underlying63 rfl (by kernel_rfl)) rfl ?_
        exact ⟨by first | rfl | (simp [z0d, z0c] <;> rfl) | (refine congrArg (fun b_ : Bool => Ending.returned (Value.bool b_)) ?_; simp; done) | (simp [*, z0d, z0c] <;> rfl), by repeat (first | (with_reducible first | exact HB.out | apply z02 | apply z00 | apply z03 | refine z09 ?_ GE133.out) | exact HB.out)⟩
      · rw [if_neg c8] at H
        have c8b0 : (t136 == 0) = false := beq_eq_false_iff_ne.mpr c8
        have c8b1 : (t136 != 0) = true := bne_iff_ne.mpr c8
        simp only [Option.some.injEq, Prod.mk.injEq] at H
        obtain ⟨rfl, rfl, rfl, rfl, rfl, rfl⟩ := H
        go_enter Tryd.func48, Tryd.ntmps48
        go_wp2_with (first | ((with_reducible refine z0h (N := 4) rfl ?_); refine z0g ?hg (N := 4) ?hd (cs := #[.int .i64 0, .int .i64 0, .string (⟨#[]⟩ : ByteArray), .bool false]) (t := 63) ?hr ?_; (case hd => rfl); (case hg => rfl); (case hr => first | (go_simp; done) | (go_simp; rfl)); intro gb133 hg w11 hbox hb; have n0_ := z05.mk (z0a (by repeat (first | (with_reducible first | exact HB.out | apply z02 | apply z00 | apply z03) | exact HB.out)) hb); have n1_ := z05.mk (hbox); have n2_ := z05.mk ((by rw [hg]; exact (z0b (by repeat (first | (with_reducible first | exact HB.out | apply z02 | apply z00 | apply z03) | exact HB.out))) : w.heap.size ≤ gb133)); have n3_ := z05.mk ((by rw [hg]; exact (z0b (by repeat (first | (with_reducible first | exact HB.out | apply z02 | apply z00 | apply z03) | exact HB.out))) : w.heap.size ≤ gb133)); clear HB; have HB := n0_; have BK133 := n1_; have GW133 := n2_; have GE133 := n3_; clear n0_ n1_ n2_ n3_; clear hb hbox hg) | ((with_reducible refine z0j (f := 61) rfl ?_); refine z0u (some 18) rfl rfl Tryd.func61 (by kernel_rfl) rfl #[.slice A0 l0.length c0] rfl (by (try simp only [List.map_toArray, List.map_cons, List.map_nil]); first | done | rfl | (simp only [List.length_drop, List.length_take]; rfl)) ?_; (with_reducible refine (num_Get.calls _ _ l0 t134 t135 t136 _ ?side1 ?side2 A7.out).mono ?_); (case side1 => repeat (first | exact (Kd.C_below HR0.out HB.out) | (with_reducible refine Kd.C_alloc ?_ _) | (with_reducible refine Kd.C_drewN ?_ _) | (with_reducible refine Kd.C_drew ?_))); (case side2 => exact HC0.out); rintro e w' ⟨rfl, ⟨nd, rfl⟩⟩; refine ⟨_, rfl, ?_⟩; (try (rw [z1h w11]; generalize hq_ : World.drewN w11 _ = w11; have n0_ : z05 (w11.heap[gb133]? = some (.cells #[.int .i64 0, .int .i64 0, .string (⟨#[]⟩ : ByteArray), .bool false] 63 (0, 0))) := ⟨by rw [← hq_]; exact (by (with_reducible repeat (first | refine z07 ?_ _ | refine z08 ?_ | refine z06 ?_ _)); exact BK133.out)⟩; have n1_ : z05 (Below w.heap.size w w11) := ⟨by rw [← hq_]; exact (by repeat (first | (with_reducible first | exact HB.out | apply z02 | apply z00 | apply z03 | refine z09 ?_ GE133.out) | exact HB.out))⟩; clear BK133 HB hq_; have BK133 := n0_; have HB := n1_; clear n0_ n1_)); have hcz12_0 : w11.cell? ⟨gb133, 0, none⟩ = some (.int .i64 0) := (z04 BK133.out 0).trans rfl; have hcz12_1 : w11.cell? ⟨gb133, 1, none⟩ = some (.int .i64 0) := (z04 BK133.out 1).trans rfl; have hcz12_2 : w11.cell? ⟨gb133, 2, none⟩ = some (.string (⟨#[]⟩ : ByteArray)) := (z04 BK133.out 2).trans rfl; have hcz12_3 : w11.cell? ⟨gb133, 3, none⟩ = some (.bool false) := (z04 BK133.out 3).trans rfl; have hfz12_0 := z01 BK133.out 0; have hfz12_1 := z01 BK133.out 1; have hfz12_2 := z01 BK133.out 2; have hfz12_3 := z01 BK133.out 3))
        refine bodyPost_ret (z0n rfl _ _ gb133 63 #[.int .i64 0, .int .i64 0, .string (⟨#[]⟩ : ByteArray), .bool false] (0, 0) _ rfl (by (with_reducible repeat (first | refine z07 ?_ _ | refine z08 ?_ | refine z06 ?_ _)); refine z0i (cs := #[.int .i64 0, .int .i64 0, .string (⟨#[]⟩ : ByteArray), .bool false]) ?_ 3 _ rfl; (with_reducible repeat (first | refine z07 ?_ _ | refine z08 ?_ | refine z06 ?_ _)); refine z0i (cs := #[.int .i64 0, .int .i64 0, .string (⟨#[]⟩ : ByteArray), .bool false]) ?_ 2 _ rfl; (with_reducible repeat (first | refine z07 ?_ _ | refine z08 ?_ | refine z06 ?_ _)); refine z0i (cs := #[.int .i64 0, .int .i64 0, .string (⟨#[]⟩ : ByteArray), .bool false]) ?_ 1 _ rfl; (with_reducible repeat (first | refine z07 ?_ _ | refine z08 ?_ | refine z06 ?_ _)); refine z0i (cs := #[.int .i64 0, .int .i64 0, .string (⟨#[]⟩ : ByteArray), .bool false]) ?_ 0 _ rfl; (with_reducible repeat (first | refine z07 ?_ _ | refine z08 ?_ | refine z06 ?_ _)); exact BK133.out) Tryd.underlying63 rfl (by kernel_rfl)) rfl ?_
        exact ⟨by first | rfl | (simp [z0d, z0c] <;> rfl) | (refine congrArg (fun b_ : Bool => Ending.returned (Value.bool b_)) ?_; simp; done) | (simp [*, z0d, z0c] <;> rfl), by repeat (first | (with_reducible first | exact HB.out | apply z02 | apply z00 | apply z03 | refine z09 ?_ GE133.out) | exact HB.out)⟩
    · rw [if_neg c6] at H
      have c6b0 : (a1 == 1) = false := beq_eq_false_iff_ne.mpr c6
      have c6b1 : (a1 != 1) = true := bne_iff_ne.mpr c6
      by_cases c13 : a1 = 2
      · rw [if_pos c13] at H
        have c13b0 : (a1 == 2) = true := beq_iff_eq.mpr c13
        have c13b1 : (a1 != 2) = false := bne_eq_false_iff_eq.mpr c13
        clear c13
        replace H := Option.bind_eq_some_iff.mp H
        obtain ⟨⟨t137, t138, t139, t140, t141, t142⟩, A140, H⟩ := H
        replace H : (some (t137, t138, t139, t140, t141, t142)) = some (r1, r2, r3, r4, r5, r6) := H
        have A14 := z05.mk A140
        clear A140
        simp only [Option.some.injEq, Prod.mk.injEq] at H
        obtain ⟨rfl, rfl, rfl, rfl, rfl, rfl⟩ := H
        go_enter Tryd.func48, Tryd.ntmps48
        go_wp2_with (first | ((with_reducible refine z0h (N := 4) rfl ?_); refine z0g ?hg (N := 4) ?hd (cs := #[.int .i64 0, .int .i64 0, .string (⟨#[]⟩ : ByteArray), .bool false]) (t := 63) ?hr ?_; (case hd => rfl); (case hg => rfl); (case hr => first | (go_simp; done) | (go_simp; rfl)); intro gb133 hg w15 hbox hb; have n0_ := z05.mk (z0a (by repeat (first | (with_reducible first | exact HB.out | apply z02 | apply z00 | apply z03) | exact HB.out)) hb); have n1_ := z05.mk (hbox); have n2_ := z05.mk ((by rw [hg]; exact (z0b (by repeat (first | (with_reducible first | exact HB.out | apply z02 | apply z00 | apply z03) | exact HB.out))) : w.heap.size ≤ gb133)); have n3_ := z05.mk ((by rw [hg]; exact (z0b (by repeat (first | (with_reducible first | exact HB.out | apply z02 | apply z00 | apply z03) | exact HB.out))) : w.heap.size ≤ gb133)); clear HB; have HB := n0_; have BK133 := n1_; have GW133 := n2_; have GE133 := n3_; clear n0_ n1_ n2_ n3_; clear hb hbox hg) | ((with_reducible refine z0j (f := 62) rfl ?_); refine z0u (some 32) rfl rfl Tryd.func62 (by kernel_rfl) rfl #[.slice A0 l0.length c0] rfl (by (try simp only [List.map_toArray, List.map_cons, List.map_nil]); first | done | rfl | (simp only [List.length_drop, List.length_take]; rfl)) ?_; (with_reducible refine (value_text.calls _ _ l0 t137 t138 t139 t140 t141 t142 _ ?side1 ?side2 A14.out).mono ?_); (case side1 => repeat (first | exact (Kd.C_below HR0.out HB.out) | (with_reducible refine Kd.C_alloc ?_ _) | (with_reducible refine Kd.C_drewN ?_ _) | (with_reducible refine Kd.C_drew ?_))); (case side2 => exact HC0.out); rintro e w16 ⟨rfl, hb⟩; refine ⟨_, rfl, ?_⟩; have n0_ := z05.mk (z0e (g := gb133) (o := .cells #[.int .i64 0, .int .i64 0, .string (⟨#[]⟩ : ByteArray), .bool false] 63 (0, 0)) (by (with_reducible repeat (first | refine z07 ?_ _ | refine z08 ?_ | refine z06 ?_ _)); exact BK133.out) hb); have n1_ := z05.mk (z0a (by repeat (first | (with_reducible first | exact HB.out | apply z02 | apply z00 | apply z03 | refine z09 ?_ GE133.out) | exact HB.out)) hb); clear BK133; clear HB; have BK133 := n0_; have HB := n1_; clear n0_ n1_; (try clear hb); (try clear hb2); (try clear hk); (try clear hi); have hcz17_0 : w16.cell? ⟨gb133, 0, none⟩ = some (.int .i64 0) := (z04 BK133.out 0).trans rfl; have hcz17_1 : w16.cell? ⟨gb133, 1, none⟩ = some (.int .i64 0) := (z04 BK133.out 1).trans rfl; have hcz17_2 : w16.cell? ⟨gb133, 2, none⟩ = some (.string (⟨#[]⟩ : ByteArray)) := (z04 BK133.out 2).trans rfl; have hcz17_3 : w16.cell? ⟨gb133, 3, none⟩ = some (.bool false) := (z04 BK133.out 3).trans rfl; have hfz17_0 := z01 BK133.out 0; have hfz17_1 := z01 BK133.out 1; have hfz17_2 := z01 BK133.out 2; have hfz17_3 := z01 BK133.out 3))
        refine bodyPost_ret (z0n rfl _ _ gb133 63 #[.int .i64 t137, .int .i64 t138, .string t139, .bool t140] (0, 0) _ rfl (by (with_reducible repeat (first | refine z07 ?_ _ | refine z08 ?_ | refine z06 ?_ _)); refine z0i (cs := #[.int .i64 t137, .int .i64 t138, .string t139, .bool false]) ?_ 3 _ rfl; (with_reducible repeat (first | refine z07 ?_ _ | refine z08 ?_ | refine z06 ?_ _)); refine z0i (cs := #[.int .i64 t137, .int .i64 t138, .string (⟨#[]⟩ : ByteArray), .bool false]) ?_ 2 _ rfl; (with_reducible repeat (first | refine z07 ?_ _ | refine z08 ?_ | refine z06 ?_ _)); refine z0i (cs := #[.int .i64 t137, .int .i64 0, .string (⟨#[]⟩ : ByteArray), .bool false]) ?_ 1 _ rfl; (with_reducible repeat (first | refine z07 ?_ _ | refine z08 ?_ | refine z06 ?_ _)); refine z0i (cs := #[.int .i64 0, .int .i64 0, .string (⟨#[]⟩ : ByteArray), .bool false]) ?_ 0 _ rfl; (with_reducible repeat (first | refine z07 ?_ _ | refine z08 ?_ | refine z06 ?_ _)); exact BK133.out) Tryd.underlying63 rfl (by kernel_rfl)) rfl ?_
        exact ⟨by first | rfl | (simp [z0d, z0c] <;> rfl) | (refine congrArg (fun b_ : Bool => Ending.returned (Value.bool b_)) ?_; simp; done) | (simp [*, z0d, z0c] <;> rfl), by repeat (first | (with_reducible first | exact HB.out | apply z02 | apply z00 | apply z03 | refine z09 ?_ GE133.out) | exact HB.out)⟩
      · rw [if_neg c13] at H
        have c13b0 : (a1 == 2) = false := beq_eq_false_iff_ne.mpr c13
        have c13b1 : (a1 != 2) = true := bne_iff_ne.mpr c13
        by_cases c18 : a1 = 3
        · rw [if_pos c18] at H
          have c18b0 : (a1 == 3) = true := beq_iff_eq.mpr c18
          have c18b1 : (a1 != 3) = false := bne_eq_false_iff_eq.mpr c18
          clear c18
          by_cases c19 : (l0.length : Int) = 0
          · rw [if_pos c19] at H
            have c19b0 : ((l0.length : Int) == 0) = true := beq_iff_eq.mpr c19
            have c19b1 : ((l0.length : Int) != 0) = false := bne_eq_false_iff_eq.mpr c19
            clear c19
            simp only [Option.some.injEq, Prod.mk.injEq] at H
            obtain ⟨rfl, rfl, rfl, rfl, rfl, rfl⟩ := H
            go_enter Tryd.func48, Tryd.ntmps48
            go_wp2_with (first | ((with_reducible refine z0h (N := 4) rfl ?_); refine z0g ?hg (N := 4) ?hd (cs := #[.int .i64 0, .int .i64 0, .string (⟨#[]⟩ : ByteArray), .bool false]) (t := 63) ?hr ?_; (case hd => rfl); (case hg => rfl); (case hr => first | (go_simp; done) | (go_simp; rfl)); intro gb133 hg w20 hbox hb; have n0_ := z05.mk (z0a (by repeat (first | (with_reducible first | exact HB.out | apply z02 | apply z00 | apply z03) | exact HB.out)) hb); have n1_ := z05.mk (hbox); have n2_ := z05.mk ((by rw [hg]; exact (z0b (by repeat (first | (with_reducible first | exact HB.out | apply z02 | apply z00 | apply z03) | exact HB.out))) : w.heap.size ≤ gb133)); have n3_ := z05.mk ((by rw [hg]; exact (z0b (by repeat (first | (with_reducible first | exact HB.out | apply z02 | apply z00 | apply z03) | exact HB.out))) : w.heap.size ≤ gb133)); clear HB; have HB := n0_; have BK133 := n1_; have GW133 := n2_; have GE133 := n3_; clear n0_ n1_ n2_ n3_; clear hb hbox hg; have hcz21_0 : w20.cell? ⟨gb133, 0, none⟩ = some (.int .i64 0) := (z04 BK133.out 0).trans rfl; have hcz21_1 : w20.cell? ⟨gb133, 1, none⟩ = some (.int .i64 0) := (z04 BK133.out 1).trans rfl; have hcz21_2 : w20.cell? ⟨gb133, 2, none⟩ = some (.string (⟨#[]⟩ : ByteArray)) := (z04 BK133.out 2).trans rfl; have hcz21_3 : w20.cell? ⟨gb133, 3, none⟩ = some (.bool false) := (z04 BK133.out 3).trans rfl; have hfz21_0 := z01 BK133.out 0; have hfz21_1 := z01 BK133.out 1; have hfz21_2 := z01 BK133.out 2; have hfz21_3 := z01 BK133.out 3))
            refine bodyPost_ret (z0n rfl _ _ gb133 63 #[.int .i64 0, .int .i64 0, .string (⟨#[]⟩ : ByteArray), .bool false] (0, 0) _ rfl (by (with_reducible repeat (first | refine z07 ?_ _ | refine z08 ?_ | refine z06 ?_ _)); refine z0i (cs := #[.int .i64 0, .int .i64 0, .string (⟨#[]⟩ : ByteArray), .bool false]) ?_ 3 _ rfl; (with_reducible repeat (first | refine z07 ?_ _ | refine z08 ?_ | refine z06 ?_ _)); refine z0i (cs := #[.int .i64 0, .int .i64 0, .string (⟨#[]⟩ : ByteArray), .bool false]) ?_ 2 _ rfl; (with_reducible repeat (first | refine z07 ?_ _ | refine z08 ?_ | refine z06 ?_ _)); refine z0i (cs := #[.int .i64 0, .int .i64 0, .string (⟨#[]⟩ : ByteArray), .bool false]) ?_ 1 _ rfl; (with_reducible repeat (first | refine z07 ?_ _ | refine z08 ?_ | refine z06 ?_ _)); refine z0i (cs := #[.int .i64 0, .int .i64 0, .string (⟨#[]⟩ : ByteArray), .bool false]) ?_ 0 _ rfl; (with_reducible repeat (first | refine z07 ?_ _ | refine z08 ?_ | refine z06 ?_ _)); exact BK133.out) Tryd.underlying63 rfl (by kernel_rfl)) rfl ?_
            exact ⟨by first | rfl | (simp [z0d, z0c] <;> rfl) | (refine congrArg (fun b_ : Bool => Ending.returned (Value.bool b_)) ?_; simp; done) | (simp [*, z0d, z0c] <;> rfl), by repeat (first | (with_reducible first | exact HB.out | apply z02 | apply z00 | apply z03 | refine z09 ?_ GE133.out) | exact HB.out)⟩
          · rw [if_neg c19] at H
            have c19b0 : ((l0.length : Int) == 0) = false := beq_eq_false_iff_ne.mpr c19
            have c19b1 : ((l0.length : Int) != 0) = true := bne_iff_ne.mpr c19
            have c19b2 : ¬ (l0 = []) := fun h_ => c19 (by rw [h_]; rfl)
            by_cases c22 : 0 < (l0.length : Int)
            · rw [if_pos c22] at H
              have c22b0 : decide (0 < (l0.length : Int)) = true := decide_eq_true c22
              have c22b1 : decide (0 < l0.length) = true := decide_eq_true (by omega)
              clear c22
              by_cases c23 : (rd l0 0) > 1
              · rw [if_pos c23] at H
                have c23b0 : decide (1 < (rd l0 0)) = true := decide_eq_true c23
                clear c23
                simp only [Option.some.injEq, Prod.mk.injEq] at H
                obtain ⟨rfl, rfl, rfl, rfl, rfl, rfl⟩ := H
                go_enter Tryd.func48, Tryd.ntmps48
                go_wp2_with (first | ((with_reducible refine z0h (N := 4) rfl ?_); refine z0g ?hg (N := 4) ?hd (cs := #[.int .i64 0, .int .i64 0, .string (⟨#[]⟩ : ByteArray), .bool false]) (t := 63) ?hr ?_; (case hd => rfl); (case hg => rfl); (case hr => first | (go_simp; done) | (go_simp; rfl)); intro gb133 hg w24 hbox hb; have n0_ := z05.mk (z0a (by repeat (first | (with_reducible first | exact HB.out | apply z02 | apply z00 | apply z03) | exact HB.out)) hb); have n1_ := z05.mk (hbox); have n2_ := z05.mk ((by rw [hg]; exact (z0b (by repeat (first | (with_reducible first | exact HB.out | apply z02 | apply z00 | apply z03) | exact HB.out))) : w.heap.size ≤ gb133)); have n3_ := z05.mk ((by rw [hg]; exact (z0b (by repeat (first | (with_reducible first | exact HB.out | apply z02 | apply z00 | apply z03) | exact HB.out))) : w.heap.size ≤ gb133)); clear HB; have HB := n0_; have BK133 := n1_; have GW133 := n2_; have GE133 := n3_; clear n0_ n1_ n2_ n3_; clear hb hbox hg; have p143 : 0 ≤ (0 : Int) := (by omega); have q143 : 0 < (l0.length : Int) := of_decide_eq_true (by first | (with_reducible assumption) | assumption); obtain ⟨ad143, e143, hx143_0⟩ := Kd.at_int HR0.out 0 p143 q143; cases e143; have qi143 : (0 < l0.length) = True := eq_true (by omega); (try rw [show ((0 : Int)).toNat = 0 from rfl] at hx143_0); (try rw [Addr.add_zero'] at hx143_0); replace hx143_0 := (HB.out.cell (World.block_lt_of_cell? w _ hx143_0)).trans hx143_0; replace p143 := eq_true p143; replace q143 := eq_true q143; have hcz25_0 : w24.cell? ⟨gb133, 0, none⟩ = some (.int .i64 0) := (z04 BK133.out 0).trans rfl; have hcz25_1 : w24.cell? ⟨gb133, 1, none⟩ = some (.int .i64 0) := (z04 BK133.out 1).trans rfl; have hcz25_2 : w24.cell? ⟨gb133, 2, none⟩ = some (.string (⟨#[]⟩ : ByteArray)) := (z04 BK133.out 2).trans rfl; have hcz25_3 : w24.cell? ⟨gb133, 3, none⟩ = some (.bool false) := (z04 BK133.out 3).trans rfl; have hfz25_0 := z01 BK133.out 0; have hfz25_1 := z01 BK133.out 1; have hfz25_2 := z01 BK133.out 2; have hfz25_3 := z01 BK133.out 3))
                refine bodyPost_ret (z0n rfl _ _ gb133 63 #[.int .i64 0, .int .i64 0, .string (⟨#[]⟩ : ByteArray), .bool false] (0, 0) _ rfl (by (with_reducible repeat (first | refine z07 ?_ _ | refine z08 ?_ | refine z06 ?_ _)); refine z0i (cs := #[.int .i64 0, .int .i64 0, .string (⟨#[]⟩ : ByteArray), .bool false]) ?_ 3 _ rfl; (with_reducible repeat (first | refine z07 ?_ _ | refine z08 ?_ | refine z06 ?_ _)); refine z0i (cs := #[.int .i64 0, .int .i64 0, .string (⟨#[]⟩ : ByteArray), .bool false]) ?_ 2 _ rfl; (with_reducible repeat (first | refine z07 ?_ _ | refine z08 ?_ | refine z06 ?_ _)); refine z0i (cs := #[.int .i64 0, .int .i64 0, .string (⟨#[]⟩ : ByteArray), .bool false]) ?_ 1 _ rfl; (with_reducible repeat (first | refine z07 ?_ _ | refine z08 ?_ | refine z06 ?_ _)); refine z0i (cs := #[.int .i64 0, .int .i64 0, .string (⟨#[]⟩ : ByteArray), .bool false]) ?_ 0 _ rfl; (with_reducible repeat (first | refine z07 ?_ _ | refine z08 ?_ | refine z06 ?_ _)); exact BK133.out) Tryd.underlying63 rfl (by kernel_rfl)) rfl ?_
                exact ⟨by first | rfl | (simp [z0d, z0c] <;> rfl) | (refine congrArg (fun b_ : Bool => Ending.returned (Value.bool b_)) ?_; simp; done) | (simp [*, z0d, z0c] <;> rfl), by repeat (first | (with_reducible first | exact HB.out | apply z02 | apply z00 | apply z03 | refine z09 ?_ GE133.out) | exact HB.out)⟩
              · rw [if_neg c23] at H
                have c23b0 : decide (1 < (rd l0 0)) = false := decide_eq_false c23
                clear c23
                simp only [Option.some.injEq, Prod.mk.injEq] at H
                obtain ⟨rfl, rfl, rfl, rfl, rfl, rfl⟩ := H
                go_enter Tryd.func48, Tryd.ntmps48
                go_wp2_with (first | ((with_reducible refine z0h (N := 4) rfl ?_); refine z0g ?hg (N := 4) ?hd (cs := #[.int .i64 0, .int .i64 0, .string (⟨#[]⟩ : ByteArray), .bool false]) (t := 63) ?hr ?_; (case hd => rfl); (case hg => rfl); (case hr => first | (go_simp; done) | (go_simp; rfl)); intro gb133 hg w26 hbox hb; have n0_ := z05.mk (z0a (by repeat (first | (with_reducible first | exact HB.out | apply z02 | apply z00 | apply z03) | exact HB.out)) hb); have n1_ := z05.mk (hbox); have n2_ := z05.mk ((by rw [hg]; exact (z0b (by repeat (first | (with_reducible first | exact HB.out | apply z02 | apply z00 | apply z03) | exact HB.out))) : w.heap.size ≤ gb133)); have n3_ := z05.mk ((by rw [hg]; exact (z0b (by repeat (first | (with_reducible first | exact HB.out | apply z02 | apply z00 | apply z03) | exact HB.out))) : w.heap.size ≤ gb133)); clear HB; have HB := n0_; have BK133 := n1_; have GW133 := n2_; have GE133 := n3_; clear n0_ n1_ n2_ n3_; clear hb hbox hg; have p143 : 0 ≤ (0 : Int) := (by omega); have q143 : 0 < (l0.length : Int) := of_decide_eq_true (by first | (with_reducible assumption) | assumption); obtain ⟨ad143, e143, hx143_0⟩ := Kd.at_int HR0.out 0 p143 q143; cases e143; have qi143 : (0 < l0.length) = True := eq_true (by omega); (try rw [show ((0 : Int)).toNat = 0 from rfl] at hx143_0); (try rw [Addr.add_zero'] at hx143_0); replace hx143_0 := (HB.out.cell (World.block_lt_of_cell? w _ hx143_0)).trans hx143_0; replace p143 := eq_true p143; replace q143 := eq_true q143; have p144 : 0 ≤ (0 : Int) := (by omega); have q144 : 0 < (l0.length : Int) := of_decide_eq_true (by first | (with_reducible assumption) | assumption); obtain ⟨ad144, e144, hx144_0⟩ := Kd.at_int HR0.out 0 p144 q144; obtain rfl : ad143 = ad144 := (by injection e144); have qi144 : (0 < l0.length) = True := eq_true (by omega); (try rw [show ((0 : Int)).toNat = 0 from rfl] at hx144_0); (try rw [Addr.add_zero'] at hx144_0); replace hx144_0 := (HB.out.cell (World.block_lt_of_cell? w _ hx144_0)).trans hx144_0; replace p144 := eq_true p144; replace q144 := eq_true q144; have hcz27_0 : w26.cell? ⟨gb133, 0, none⟩ = some (.int .i64 0) := (z04 BK133.out 0).trans rfl; have hcz27_1 : w26.cell? ⟨gb133, 1, none⟩ = some (.int .i64 0) := (z04 BK133.out 1).trans rfl; have hcz27_2 : w26.cell? ⟨gb133, 2, none⟩ = some (.string (⟨#[]⟩ : ByteArray)) := (z04 BK133.out 2).trans rfl; have hcz27_3 : w26.cell? ⟨gb133, 3, none⟩ = some (.bool false) := (z04 BK133.out 3).trans rfl; have hfz27_0 := z01 BK133.out 0; have hfz27_1 := z01 BK133.out 1; have hfz27_2 := z01 BK133.out 2; have hfz27_3 := z01 BK133.out 3))
                refine bodyPost_ret (z0n rfl _ _ gb133 63 #[.int .i64 3, .int .i64 0, .string (⟨#[]⟩ : ByteArray), .bool ((rd l0 0) == 1)] (0, 0) _ rfl (by (with_reducible repeat (first | refine z07 ?_ _ | refine z08 ?_ | refine z06 ?_ _)); refine z0i (cs := #[.int .i64 3, .int .i64 0, .string (⟨#[]⟩ : ByteArray), .bool false]) ?_ 3 _ rfl; (with_reducible repeat (first | refine z07 ?_ _ | refine z08 ?_ | refine z06 ?_ _)); refine z0i (cs := #[.int .i64 3, .int .i64 0, .string (⟨#[]⟩ : ByteArray), .bool false]) ?_ 2 _ rfl; (with_reducible repeat (first | refine z07 ?_ _ | refine z08 ?_ | refine z06 ?_ _)); refine z0i (cs := #[.int .i64 3, .int .i64 0, .string (⟨#[]⟩ : ByteArray), .bool false]) ?_ 1 _ rfl; (with_reducible repeat (first | refine z07 ?_ _ | refine z08 ?_ | refine z06 ?_ _)); refine z0i (cs := #[.int .i64 0, .int .i64 0, .string (⟨#[]⟩ : ByteArray), .bool false]) ?_ 0 _ rfl; (with_reducible repeat (first | refine z07 ?_ _ | refine z08 ?_ | refine z06 ?_ _)); exact BK133.out) Tryd.underlying63 rfl (by kernel_rfl)) rfl ?_
                exact ⟨by first | rfl | (simp [z0d, z0c] <;> rfl) | (refine congrArg (fun b_ : Bool => Ending.returned (Value.bool b_)) ?_; simp; done) | (simp [*, z0d, z0c] <;> rfl), by repeat (first | (with_reducible first | exact HB.out | apply z02 | apply z00 | apply z03 | refine z09 ?_ GE133.out) | exact HB.out)⟩
            · rw [if_neg c22] at H
              exact absurd H (by simp)
        · rw [if_neg c18] at H
          have c18b0 : (a1 == 3) = false := beq_eq_false_iff_ne.mpr c18
          have c18b1 : (a1 != 3) = true := bne_iff_ne.mpr c18
          simp only [Option.some.injEq, Prod.mk.injEq] at H
          obtain ⟨rfl, rfl, rfl, rfl, rfl, rfl⟩ := H
          go_enter Tryd.func48, Tryd.ntmps48
          go_wp2_with (first | ((with_reducible refine z0h (N := 4) rfl ?_); refine z0g ?hg (N := 4) ?hd (cs := #[.int .i64 0, .int .i64 0, .string (⟨#[]⟩ : ByteArray), .bool false]) (t := 63) ?hr ?_; (case hd => rfl); (case hg => rfl); (case hr => first | (go_simp; done) | (go_simp; rfl)); intro gb133 hg w28 hbox hb; have n0_ := z05.mk (z0a (by repeat (first | (with_reducible first | exact HB.out | apply z02 | apply z00 | apply z03) | exact HB.out)) hb); have n1_ := z05.mk (hbox); have n2_ := z05.mk ((by rw [hg]; exact (z0b (by repeat (first | (with_reducible first | exact HB.out | apply z02 | apply z00 | apply z03) | exact HB.out))) : w.heap.size ≤ gb133)); have n3_ := z05.mk ((by rw [hg]; exact (z0b (by repeat (first | (with_reducible first | exact HB.out | apply z02 | apply z00 | apply z03) | exact HB.out))) : w.heap.size ≤ gb133)); clear HB; have HB := n0_; have BK133 := n1_; have GW133 := n2_; have GE133 := n3_; clear n0_ n1_ n2_ n3_; clear hb hbox hg; have hcz29_0 : w28.cell? ⟨gb133, 0, none⟩ = some (.int .i64 0) := (z04 BK133.out 0).trans rfl; have hcz29_1 : w28.cell? ⟨gb133, 1, none⟩ = some (.int .i64 0) := (z04 BK133.out 1).trans rfl; have hcz29_2 : w28.cell? ⟨gb133, 2, none⟩ = some (.string (⟨#[]⟩ : ByteArray)) := (z04 BK133.out 2).trans rfl; have hcz29_3 : w28.cell? ⟨gb133, 3, none⟩ = some (.bool false) := (z04 BK133.out 3).trans rfl; have hfz29_0 := z01 BK133.out 0; have hfz29_1 := z01 BK133.out 1; have hfz29_2 := z01 BK133.out 2; have hfz29_3 := z01 BK133.out 3))
          refine bodyPost_ret (z0n rfl _ _ gb133 63 #[.int .i64 0, .int .i64 0, .string (⟨#[]⟩ : ByteArray), .bool false] (0, 0) _ rfl (by (with_reducible repeat (first | refine z07 ?_ _ | refine z08 ?_ | refine z06 ?_ _)); refine z0i (cs := #[.int .i64 0, .int .i64 0, .string (⟨#[]⟩ : ByteArray), .bool false]) ?_ 3 _ rfl; (with_reducible repeat (first | refine z07 ?_ _ | refine z08 ?_ | refine z06 ?_ _)); refine z0i (cs := #[.int .i64 0, .int .i64 0, .string (⟨#[]⟩ : ByteArray), .bool false]) ?_ 2 _ rfl; (with_reducible repeat (first | refine z07 ?_ _ | refine z08 ?_ | refine z06 ?_ _)); refine z0i (cs := #[.int .i64 0, .int .i64 0, .string (⟨#[]⟩ : ByteArray), .bool false]) ?_ 1 _ rfl; (with_reducible repeat (first | refine z07 ?_ _ | refine z08 ?_ | refine z06 ?_ _)); refine z0i (cs := #[.int .i64 0, .int .i64 0, .string (⟨#[]⟩ : ByteArray), .bool false]) ?_ 0 _ rfl; (with_reducible repeat (first | refine z07 ?_ _ | refine z08 ?_ | refine z06 ?_ _)); exact BK133.out) Tryd.underlying63 rfl (by kernel_rfl)) rfl ?_
          exact ⟨by first | rfl | (simp [z0d, z0c] <;> rfl) | (refine congrArg (fun b_ : Bool => Ending.returned (Value.bool b_)) ?_; simp; done) | (simp [*, z0d, z0c] <;> rfl), by repeat (first | (with_reducible first | exact HB.out | apply z02 | apply z00 | apply z03 | refine z09 ?_ GE133.out) | exact HB.out)⟩

-- NOT PRINTED: function 49 (reflectlite_TypeOf)

-- NOT PRINTED: function 51 (reflectlite_ValueOf)

-- NOT PRINTED: function 52 (reflectlite_Value_Type)

-- NOT PRINTED: function 53 (reflectlite_Value_IsNil)

-- NOT PRINTED: function 63 (reflectlite_Value_Elem)

-- NOT PRINTED: function 64 (reflectlite_Value_Set)

end Go.Proofs.YtimomihjghefdaaDoor.Q
namespace Go.Proofs.YtimomihjghefdaaDoor.Q
open Go.RowKit Go.Proofs.YtimomihjghefdaaDoorW.PrintWords Go.Proofs.YtimomihjghefdaaDoorW.PrintLast Go.Proofs.YtimomihjghefdaaDoorW.PrintMore
attribute [local go_sem] z0y z0v z0z z10 z0s z0t z0w z0x   -- for this text's walks alone
set_option linter.unusedVariables false
set_option linter.unusedSimpArgs false

-- SAYS What Get of layer 1 answer, in plain words.
-- FUNCS winnower/num.Get
-- NEEDS num_Get.f num_get.f num_back.f
-- IMPORT Derived.Test.YtimomihjghefdaaDoorHnum
open Go.Proofs.YtimomihjghefdaaDoor.Hnum
theorem num_back.tell {u : Nat} (h : u < 18446744073709551616) : num_back.f (u : Int) = some (back u) := by unfold num_back.f; rw [z7e h]
theorem num_Get.tell {l : List Int} (h : Bytes l) : num_Get.f l = some (getn l) := by
  unfold num_Get.f num_get.f getn
  rw [if_pos h, Option.bind_some]
  cases hg : getd 0 l with
  | error e => simp only [trip]; rw [show (0 : Int) = ((0 : Nat) : Int) from rfl, num_back.tell (by omega)]; rfl
  | ok p =>
    obtain ⟨u, n⟩ := p
    have := (z20 (by omega) h hg).2.2.2.2.1
    simp only [trip]
    rw [num_back.tell (by omega)]; rfl

end Go.Proofs.YtimomihjghefdaaDoor.Q
namespace Go.Proofs.YtimomihjghefdaaDoor.Q
open Go.RowKit Go.Proofs.YtimomihjghefdaaDoorW.PrintWords Go.Proofs.YtimomihjghefdaaDoorW.PrintLast Go.Proofs.YtimomihjghefdaaDoorW.PrintMore
attribute [local go_sem] z0y z0v z0z z10 z0s z0t z0w z0x   -- for this text's walks alone
set_option linter.unusedVariables false
set_option linter.unusedSimpArgs false

-- SAYS What GetLen of layer 1 answer, in plain words.
-- FUNCS winnower/num.GetLen
-- NEEDS num_GetLen.f num_get.f
-- IMPORT Derived.Test.YtimomihjghefdaaDoorHnum
open Go.Proofs.YtimomihjghefdaaDoor.Hnum
theorem num_GetLen.tell {l : List Int} (h : Bytes l) : num_GetLen.f l = some (getl l) := by
  unfold num_GetLen.f num_get.f getl
  rw [if_pos h, Option.bind_some]
  cases hg : getd 0 l with
  | error e =>
    have := z1v hg
    rw [if_neg (show ¬ ((trip (Except.error e)).2.2 = 0) from by show ¬ (e = 0); omega)]
    show some (wrap64 0, (0 : Int), e) = some (0, 0, e)
    rw [z1c (by omega) (by omega)]
  | ok p =>
    obtain ⟨u, n⟩ := p
    have := (z20 (by omega) h hg).2.2.2.2.1
    rw [if_pos (show (trip (Except.ok (u, n))).2.2 = 0 from rfl)]
    by_cases hu : u ≤ 9223372036854775807
    · rw [if_neg (show ¬ ((trip (Except.ok (u, n))).1 > 9223372036854775807) from by show ¬ ((u : Int) > 9223372036854775807); omega)]
      show some (wrap64 (u : Int), (n : Int), (0 : Int)) = some (if u ≤ 9223372036854775807 then ((u : Int), (n : Int), 0) else (0, 0, 7))
      rw [if_pos hu, z1c (by omega) (by omega)]
    · rw [if_pos (show (trip (Except.ok (u, n))).1 > 9223372036854775807 from by show (u : Int) > 9223372036854775807; omega)]
      show some ((0 : Int), (0 : Int), (7 : Int)) = some (if u ≤ 9223372036854775807 then ((u : Int), (n : Int), 0) else (0, 0, 7))
      rw [if_neg hu]

end Go.Proofs.YtimomihjghefdaaDoor.Q
namespace Go.Proofs.YtimomihjghefdaaDoor.Q
open Go.RowKit Go.Proofs.YtimomihjghefdaaDoorW.PrintWords Go.Proofs.YtimomihjghefdaaDoorW.PrintLast Go.Proofs.YtimomihjghefdaaDoorW.PrintMore
attribute [local go_sem] z0y z0v z0z z10 z0s z0t z0w z0x   -- for this text's walks alone
set_option linter.unusedVariables false
set_option linter.unusedSimpArgs false

/-! ### winnowerref01_run_p: function 55 -/
mutual
def winnowerref01_run_p.l0 : Nat → List Int → Int → Option (Int × Int)
  | 0, _, _ => none
  | k + 1, x0, x4 => if x4 < (x0.length : Int) then (if x4 = 9 then (if 0 ≤ x4 then (winnowerref01_run_p.j1 k x0 x4 (decide ((rd x0 x4) > 1))) else (none)) else (winnowerref01_run_p.j1 k x0 x4 false)) else (some (0, 6))
def winnowerref01_run_p.j1 : Nat → List Int → Int → Bool → Option (Int × Int)
  | 0, _, _, _ => none
  | k + 1, x0, x4, x19 => if x19 = true then (some (0, 7)) else (if 0 ≤ x4 then (if x4 < (x0.length : Int) then (if (rd x0 x4) < 128 then (if (rd x0 x4) = 0 then (if x4 > 0 then (some (0, 7)) else (some (wrap64 (x4 + 1), 0))) else (some (wrap64 (x4 + 1), 0))) else (winnowerref01_run_p.l0 k x0 (wrap64 (x4 + 1)))) else (none)) else (none))
end
def winnowerref01_run_p.f (k : Nat) (l0 : List Int) : Option (Int × Int) := winnowerref01_run_p.l0 k l0 0
set_option maxHeartbeats 8000000 in
set_option maxRecDepth 100000 in
theorem winnowerref01_run_p.calls (k : Nat) (A0 : Option Addr) (c0 : Nat) (l0 : List Int) (r1 : Int) (r2 : Int) (w : World) (hr0 : Kd.C (Kd.int .u8) w A0 l0.length l0) (hc0 : l0.length ≤ c0) (h : winnowerref01_run_p.f k l0 = some (r1, r2)) :
    Calls Tryd.prog 55 #[.slice A0 l0.length c0] w fun e w' => e = .returned (.tuple #[.int .i64 r1, .int .i64 r2]) ∧ z0k w w' := by
  have HR0 := z05.mk hr0
  have HC0 := z05.mk hc0
  clear hr0 hc0
  have H : (winnowerref01_run_p.l0 k l0 0) = some (r1, r2) := h
  clear h
  have H' := z05.mk H
  clear H
  go_enter Tryd.func55, Tryd.ntmps55
  go_wp2
  go_loopg [4] k (fun kq v4 w' => ∃ (x4_1 : Int), v4 = .int .i64 x4_1 ∧ z05 (winnowerref01_run_p.l0 kq l0 x4_1 = some (r1, r2)) ∧ z05 (kq ≤ k) ∧ z0k w w')
  case atStart => exact ⟨(0), (by first | rfl | (simp; done) | (simp [*]; done)), H', ⟨Nat.le_refl _⟩, by repeat (first | exact z0k.refl _ | apply z0k.step)⟩
  case round =>
    clear H'
    obtain ⟨x4_1, rfl, HA, HK1, ⟨m1, rfl⟩⟩ := hrel
    cases gk with
    | zero => exact absurd HA.out (by simp [winnowerref01_run_p.l0])
    | succ k1 =>
      have H := HA.out
      clear HA
      simp only [winnowerref01_run_p.l0] at H
      by_cases c2 : x4_1 < (l0.length : Int)
      · rw [if_pos c2] at H
        have c2b0 : decide (x4_1 < (l0.length : Int)) = true := decide_eq_true c2
        clear c2
        have HC3 := z05.mk H
        clear H
        go_upto_region 4 with (fail)
        go_cut [19] (fun v19 wc => ∃ (kq : Nat) (x19_2 : Bool), v19 = .bool x19_2 ∧ z05 (winnowerref01_run_p.j1 kq l0 x4_1 x19_2 = some (r1, r2)) ∧ z05 (kq ≤ k1) ∧ z0k w wc)
        case first =>
          have H := HC3.out
          clear HC3
          by_cases c4 : x4_1 = 9
          · rw [if_pos c4] at H
            have c4b0 : (x4_1 == 9) = true := beq_iff_eq.mpr c4
            have c4b1 : (x4_1 != 9) = false := bne_eq_false_iff_eq.mpr c4
            clear c4
            (first | rw [c4b0] | (simp only [i64_w, i32_w]; rw [c4b0]) | skip)
            by_cases c5 : 0 ≤ x4_1
            · rw [if_pos c5] at H
              have c5b0 : decide (0 ≤ x4_1) = true := decide_eq_true c5
              clear c5
              have H' := z05.mk H
              clear H
              have p200 : 0 ≤ (x4_1 : Int) := of_decide_eq_true (by first | (with_reducible assumption) | assumption)
              have q200 : x4_1 < (l0.length : Int) := of_decide_eq_true (by first | (with_reducible assumption) | assumption)
              obtain ⟨ad200, e200, hx200_0⟩ := Kd.at_int HR0.out x4_1 p200 q200
              cases e200
              replace p200 := eq_true p200
              replace q200 := eq_true q200
              go_wp2
              go_meet
              case rel => exact ⟨_, (decide ((rd l0 x4_1) > 1)), (by first | rfl | (simp; done) | (simp [*]; done)), H', ⟨by have := HK1.out; first | omega | exact Nat.le_refl _⟩, by repeat (first | exact z0k.refl _ | apply z0k.step)⟩
            · rw [if_neg c5] at H
              exact absurd H (by simp)
          · rw [if_neg c4] at H
            have c4b0 : (x4_1 == 9) = false := beq_eq_false_iff_ne.mpr c4
            have c4b1 : (x4_1 != 9) = true := bne_iff_ne.mpr c4
            (first | rw [c4b0] | (simp only [i64_w, i32_w]; rw [c4b0]) | skip)
            have H' := z05.mk H
            clear H
            go_wp2
            go_meet
            case rel => exact ⟨_, (false), (by first | rfl | (simp; done) | (simp [*]; done)), H', ⟨by have := HK1.out; first | omega | exact Nat.le_refl _⟩, by repeat (first | exact z0k.refl _ | apply z0k.step)⟩
        case rest =>
          clear HC3
          try clear c2
          try clear c2b0
          try clear p2
          try clear q2
          try clear hx2
          try clear c4
          try clear c4b0
          try clear c4b1
          try clear c5
          try clear c5b0
          try clear hx200_0
          try clear p200
          try clear q200
          obtain ⟨kq, x19_2, rfl, HA, HJ2, ⟨mc2, rfl⟩⟩ := hcut
          cases kq with
          | zero => exact absurd HA.out (by simp [winnowerref01_run_p.j1])
          | succ kj2 =>
            have H := HA.out
            clear HA
            simp only [winnowerref01_run_p.j1] at H
            by_cases c6 : x19_2 = true
            · subst c6
              have H1 : (some (0, 7)) = some (r1, r2) := by rw [if_pos rfl] at H; exact H
              clear H
              have H := H1
              clear H1
              simp only [Option.some.injEq, Prod.mk.injEq] at H
              obtain ⟨rfl, rfl⟩ := H
              go_wp2
              go_ret2
              exact ⟨by first | rfl | (simp; done) | (simp [*]; done), by repeat (first | exact z0k.refl _ | apply z0k.step)⟩
            · replace c6 := Bool.eq_false_iff.mpr c6
              subst c6
              have H1 : (if 0 ≤ x4_1 then (if x4_1 < (l0.length : Int) then (if (rd l0 x4_1) < 128 then (if (rd l0 x4_1) = 0 then (if x4_1 > 0 then (some (0, 7)) else (some (wrap64 (x4_1 + 1), 0))) else (some (wrap64 (x4_1 + 1), 0))) else (winnowerref01_run_p.l0 kj2 l0 (wrap64 (x4_1 + 1)))) else (none)) else (none)) = some (r1, r2) := by rw [if_neg (show ¬ (false = true) by decide)] at H; exact H
              clear H
              have H := H1
              clear H1
              by_cases c7 : 0 ≤ x4_1
              · rw [if_pos c7] at H
                have c7b0 : decide (0 ≤ x4_1) = true := decide_eq_true c7
                clear c7
                by_cases c8 : x4_1 < (l0.length : Int)
                · rw [if_pos c8] at H
                  have c8b0 : decide (x4_1 < (l0.length : Int)) = true := decide_eq_true c8
                  clear c8
                  by_cases c9 : (rd l0 x4_1) < 128
                  · rw [if_pos c9] at H
                    have c9b0 : decide ((rd l0 x4_1) < 128) = true := decide_eq_true c9
                    clear c9
                    by_cases c10 : (rd l0 x4_1) = 0
                    · rw [if_pos c10] at H
                      have c10b0 : ((rd l0 x4_1) == 0) = true := beq_iff_eq.mpr c10
                      have c10b1 : ((rd l0 x4_1) != 0) = false := bne_eq_false_iff_eq.mpr c10
                      clear c10
                      by_cases c11 : x4_1 > 0
                      · rw [if_pos c11] at H
                        have c11b0 : decide (0 < x4_1) = true := decide_eq_true c11
                        clear c11
                        simp only [Option.some.injEq, Prod.mk.injEq] at H
                        obtain ⟨rfl, rfl⟩ := H
                        have p201 : 0 ≤ (x4_1 : Int) := of_decide_eq_true (by first | (with_reducible assumption) | assumption)
                        have q201 : x4_1 < (l0.length : Int) := of_decide_eq_true (by first | (with_reducible assumption) | assumption)
                        obtain ⟨ad201, e201, hx201_0⟩ := Kd.at_int HR0.out x4_1 p201 q201
                        cases e201
                        replace p201 := eq_true p201
                        replace q201 := eq_true q201
                        have p202 : 0 ≤ (x4_1 : Int) := of_decide_eq_true (by first | (with_reducible assumption) | assumption)
                        have q202 : x4_1 < (l0.length : Int) := of_decide_eq_true (by first | (with_reducible assumption) | assumption)
                        obtain ⟨ad202, e202, hx202_0⟩ := Kd.at_int HR0.out x4_1 p202 q202
                        obtain rfl : ad201 = ad202 := (by injection e202)
                        replace p202 := eq_true p202
                        replace q202 := eq_true q202
                        go_wp2
                        go_ret2
                        exact ⟨by first | rfl | (simp; done) | (simp [*]; done), by repeat (first | exact z0k.refl _ | apply z0k.step)⟩
                      · rw [if_neg c11] at H
                        have c11b0 : decide (0 < x4_1) = false := decide_eq_false c11
                        clear c11
                        simp only [Option.some.injEq, Prod.mk.injEq] at H
                        obtain ⟨rfl, rfl⟩ := H
                        have p201 : 0 ≤ (x4_1 : Int) := of_decide_eq_true (by first | (with_reducible assumption) | assumption)
                        have q201 : x4_1 < (l0.length : Int) := of_decide_eq_true (by first | (with_reducible assumption) | assumption)
                        obtain ⟨ad201, e201, hx201_0⟩ := Kd.at_int HR0.out x4_1 p201 q201
                        cases e201
                        replace p201 := eq_true p201
                        replace q201 := eq_true q201
                        have p202 : 0 ≤ (x4_1 : Int) := of_decide_eq_true (by first | (with_reducible assumption) | assumption)
                        have q202 : x4_1 < (l0.length : Int) := of_decide_eq_true (by first | (with_reducible assumption) | assumption)
                        obtain ⟨ad202, e202, hx202_0⟩ := Kd.at_int HR0.out x4_1 p202 q202
                        obtain rfl : ad201 = ad202 := (by injection e202)
                        replace p202 := eq_true p202
                        replace q202 := eq_true q202
                        go_wp2
                        go_ret2
                        exact ⟨by first | rfl | (simp; done) | (simp [*]; done), by repeat (first | exact z0k.refl _ | apply z0k.step)⟩
                    · rw [if_neg c10] at H
                      have c10b0 : ((rd l0 x4_1) == 0) = false := beq_eq_false_iff_ne.mpr c10
                      have c10b1 : ((rd l0 x4_1) != 0) = true := bne_iff_ne.mpr c10
                      simp only [Option.some.injEq, Prod.mk.injEq] at H
                      obtain ⟨rfl, rfl⟩ := H
                      have p201 : 0 ≤ (x4_1 : Int) := of_decide_eq_true (by first | (with_reducible assumption) | assumption)
                      have q201 : x4_1 < (l0.length : Int) := of_decide_eq_true (by first | (with_reducible assumption) | assumption)
                      obtain ⟨ad201, e201, hx201_0⟩ := Kd.at_int HR0.out x4_1 p201 q201
                      cases e201
                      replace p201 := eq_true p201
                      replace q201 := eq_true q201
                      have p202 : 0 ≤ (x4_1 : Int) := of_decide_eq_true (by first | (with_reducible assumption) | assumption)
                      have q202 : x4_1 < (l0.length : Int) := of_decide_eq_true (by first | (with_reducible assumption) | assumption)
                      obtain ⟨ad202, e202, hx202_0⟩ := Kd.at_int HR0.out x4_1 p202 q202
                      obtain rfl : ad201 = ad202 := (by injection e202)
                      replace p202 := eq_true p202
                      replace q202 := eq_true q202
                      go_wp2
                      go_ret2
                      exact ⟨by first | rfl | (simp; done) | (simp [*]; done), by repeat (first | exact z0k.refl _ | apply z0k.step)⟩
                  · rw [if_neg c9] at H
                    have c9b0 : decide ((rd l0 x4_1) < 128) = false := decide_eq_false c9
                    clear c9
                    have H' := z05.mk H
                    clear H
                    have p201 : 0 ≤ (x4_1 : Int) := of_decide_eq_true (by first | (with_reducible assumption) | assumption)
                    have q201 : x4_1 < (l0.length : Int) := of_decide_eq_true (by first | (with_reducible assumption) | assumption)
                    obtain ⟨ad201, e201, hx201_0⟩ := Kd.at_int HR0.out x4_1 p201 q201
                    cases e201
                    replace p201 := eq_true p201
                    replace q201 := eq_true q201
                    go_wp2
                    go_roundg kj2
                    case measure => have := HK1.out; have := HJ2.out; omega
                    case rel => exact ⟨(wrap64 (x4_1 + 1)), (by first | rfl | (simp; done) | (simp [*]; done)), H', ⟨by have := HK1.out; have := HJ2.out; omega⟩, by repeat (first | exact z0k.refl _ | apply z0k.step)⟩
                · rw [if_neg c8] at H
                  exact absurd H (by simp)
              · rw [if_neg c7] at H
                exact absurd H (by simp)
      · rw [if_neg c2] at H
        have c2b0 : decide (x4_1 < (l0.length : Int)) = false := decide_eq_false c2
        clear c2
        simp only [Option.some.injEq, Prod.mk.injEq] at H
        obtain ⟨rfl, rfl⟩ := H
        go_wp2
        go_ret2
        exact ⟨by first | rfl | (simp; done) | (simp [*]; done), by repeat (first | exact z0k.refl _ | apply z0k.step)⟩

end Go.Proofs.YtimomihjghefdaaDoor.Q
namespace Go.Proofs.YtimomihjghefdaaDoor.Q
open Go.RowKit Go.Proofs.YtimomihjghefdaaDoorW.PrintWords Go.Proofs.YtimomihjghefdaaDoorW.PrintLast Go.Proofs.YtimomihjghefdaaDoorW.PrintMore
attribute [local go_sem] z0y z0v z0z z10 z0s z0t z0w z0x   -- for this text's walks alone
set_option linter.unusedVariables false
set_option linter.unusedSimpArgs false

-- BY HAND: Derived.Test.YtimomihjghefdaaDoorHnum
/-! ### winnowerref01_run: function 55 -/
-- HAND winnower/winnowerref01.run over
-- IMPORT Derived.Test.YtimomihjghefdaaDoorHnum
open Go.Proofs.YtimomihjghefdaaDoor.Hnum
theorem winnowerref01_run.step {l : List Int} (hb : Bytes l) (hl : l.length ≤ 9223372036854775807) {i : Nat} (hlt : i < l.length) (q : Nat) : winnowerref01_run_p.l0 (q + 2) l (i : Int) = (if i = 9 ∧ 1 < l[i] then some (0, 7) else if 128 ≤ l[i] then winnowerref01_run_p.l0 q l ((i + 1 : Nat) : Int) else if l[i] = 0 ∧ 0 < i then some (0, 7) else some (((i + 1 : Nat) : Int), 0)) := by
  have hrd : rd l (i : Int) = l[i] := by rw [rd, Int.toNat_natCast, List.getD_eq_getElem?_getD, List.getElem?_eq_getElem hlt]; rfl
  have hx := hb l[i] (List.getElem_mem hlt)
  have e1 : winnowerref01_run_p.l0 (q + 2) l (i : Int) = winnowerref01_run_p.j1 (q + 1) l (i : Int) (decide (i = 9 ∧ 1 < l[i])) := by
    rw [winnowerref01_run_p.l0, if_pos (by omega)]
    by_cases h9 : (i : Int) = 9
    · rw [if_pos h9, if_pos (by omega), hrd]
      congr 1
      by_cases h1 : 1 < l[i]
      · rw [decide_eq_true (show l[i] > 1 from h1), decide_eq_true ⟨by omega, h1⟩]
      · rw [decide_eq_false (show ¬ l[i] > 1 from h1), decide_eq_false (fun h => h1 h.2)]
    · rw [if_neg h9]
      congr 1
      rw [decide_eq_false (fun h => h9 (by omega))]
  rw [e1, winnowerref01_run_p.j1]
  by_cases h1 : i = 9 ∧ 1 < l[i]
  · rw [if_pos (decide_eq_true h1), if_pos h1]
  · rw [if_neg (by simpa using h1), if_neg h1, if_pos (by omega), if_pos (by omega), hrd]
    have e2 : wrap64 ((i : Int) + 1) = ((i + 1 : Nat) : Int) := by rw [z1c (by omega) (by omega)]; omega
    rw [e2]
    by_cases h2 : 128 ≤ l[i]
    · rw [if_neg (by omega), if_pos h2]
    · rw [if_pos (by omega), if_neg h2]
      by_cases h3 : l[i] = 0
      · rw [if_pos h3]
        by_cases h4 : 0 < i
        · rw [if_pos (by omega), if_pos ⟨h3, h4⟩]
        · rw [if_neg (by omega), if_neg (fun h => h4 h.2)]
      · rw [if_neg h3, if_neg (fun h => h3 h.1)]
def winnowerref01_run.at (i : Nat) : Except Int (Nat × Nat) → Int × Int
  | .ok (_, n) => (((i + n : Nat) : Int), 0)
  | .error e => (0, e)
theorem winnowerref01_run.tells {l : List Int} (hb : Bytes l) (hl : l.length ≤ 9223372036854775807) (d : Nat) : ∀ (i k : Nat), l.length - i = d → i ≤ 9 → 2 * d + 2 ≤ k → winnowerref01_run_p.l0 k l (i : Int) = some (winnowerref01_run.at i (getd i (l.drop i))) := by
  induction d with
  | zero =>
    intro i k hd hi hk
    obtain ⟨q, rfl⟩ : ∃ m, k = m + 1 := ⟨k - 1, by omega⟩
    rw [winnowerref01_run_p.l0, if_neg (by omega), List.drop_of_length_le (by omega)]
    rfl
  | succ d ih =>
    intro i k hd hi hk
    have hlt : i < l.length := by omega
    have hx := hb l[i] (List.getElem_mem hlt)
    obtain ⟨q, rfl⟩ : ∃ m, k = m + 2 := ⟨k - 2, by omega⟩
    rw [winnowerref01_run.step hb hl hlt, List.drop_eq_getElem_cons hlt, getd]
    by_cases h1 : i = 9 ∧ 1 < l[i]
    · rw [if_pos h1, if_pos h1]; rfl
    · rw [if_neg h1, if_neg h1]
      by_cases h2 : 128 ≤ l[i]
      · rw [if_pos h2, if_pos h2, ih (i + 1) q (by omega) (by omega) (by omega)]
        cases getd (i + 1) (l.drop (i + 1)) with
        | error e => rfl
        | ok p => obtain ⟨u, n⟩ := p; simp only [winnowerref01_run.at]; rw [show i + (n + 1) = i + 1 + n from by omega]
      · rw [if_neg h2, if_neg h2]
        by_cases h3 : l[i] = 0 ∧ 0 < i
        · rw [if_pos h3, if_pos h3]; rfl
        · rw [if_neg h3, if_neg h3]; rfl
def winnowerref01_run.f (l0 : List Int) : Option (Int × Int) := if Bytes l0 then some (winnowerref01_run.at 0 (getd 0 l0)) else none
theorem winnowerref01_run.fits {l0 : List Int} {r1 r2 : Int} (hl : l0.length ≤ 9223372036854775807) (h : winnowerref01_run.f l0 = some (r1, r2)) : ∃ k, winnowerref01_run_p.f k l0 = some (r1, r2) := by
  unfold winnowerref01_run.f at h
  by_cases hb : Bytes l0
  · rw [if_pos hb] at h
    refine ⟨2 * l0.length + 2, ?_⟩
    unfold winnowerref01_run_p.f
    have := winnowerref01_run.tells hb hl l0.length 0 (2 * l0.length + 2) (by omega) (by omega) (by omega)
    rw [List.drop_zero] at this
    rw [← h]
    exact this
  · rw [if_neg hb] at h; cases h
theorem winnowerref01_run.calls (A0 : Option Addr) (c0 : Nat) (l0 : List Int) (r1 : Int) (r2 : Int) (w : World) (hr0 : Kd.C (Kd.int .u8) w A0 l0.length l0) (hc0 : l0.length ≤ c0) (h : winnowerref01_run.f l0 = some (r1, r2)) :
    Calls Tryd.prog 55 #[.slice A0 l0.length c0] w fun e w' => e = .returned (.tuple #[.int .i64 r1, .int .i64 r2]) ∧ z0k w w' := by
  obtain ⟨k, hk⟩ := winnowerref01_run.fits hr0.2.1 h
  exact winnowerref01_run_p.calls k A0 c0 l0 r1 r2 w hr0 hc0 hk

end Go.Proofs.YtimomihjghefdaaDoor.Q
