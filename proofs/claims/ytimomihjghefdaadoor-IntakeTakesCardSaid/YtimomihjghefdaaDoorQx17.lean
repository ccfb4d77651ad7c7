/- The machine side of laws, written by wip/tools/myprint.py (the printer's way, with functions proved by hand put in); Lean checks it. -/
import Derived.Test.YtimomihjghefdaaDoorJ1
import Derived.Test.YtimomihjghefdaaDoorJ6
namespace Go.Proofs.YtimomihjghefdaaDoor.Q
open Go.RowKit Go.Proofs.YtimomihjghefdaaDoorW.PrintWords Go.Proofs.YtimomihjghefdaaDoorW.PrintLast Go.Proofs.YtimomihjghefdaaDoorW.PrintMore
attribute [local go_sem] z0y z0v z0z z10 z0s z0t z0w z0x   -- for this text's walks alone
set_option linter.unusedVariables false
set_option linter.unusedSimpArgs false

/-! ### winnowerref07_May: function 19 -/
mutual
def winnowerref07_May.j0 : Nat → Bool → List (S45) → Int → Int → Int → Int → Option (Bool)
  | 0, _, _, _, _, _, _ => none
  | k + 1, x28, x191000, x191001, x191002, x191003, x191004 => if x28 = true then (some false) else (winnowerref07_May.l0 k 0 x191000 x191001 x191002 x191003 x191004)
def winnowerref07_May.l0 : Nat → Int → List (S45) → Int → Int → Int → Int → Option (Bool)
  | 0, _, _, _, _, _, _ => none
  | k + 1, x3, x191000, x191001, x191002, x191003, x191004 => if x3 < (x191000.length : Int) then (if 0 ≤ x3 then ((winnowerref07_name.f k ((z0f x191000 x3).f0)).bind fun t193 => (if t193 = true then (if ((z0f x191000 x3).f1) < 1 then (winnowerref07_May.j2 k x3 true x191000 x191001 x191002 x191003 x191004 ((z0f x191000 x3).f0) ((z0f x191000 x3).f1) ((z0f x191000 x3).f2)) else (winnowerref07_May.j2 k x3 (decide (((z0f x191000 x3).f1) > 3)) x191000 x191001 x191002 x191003 x191004 ((z0f x191000 x3).f0) ((z0f x191000 x3).f1) ((z0f x191000 x3).f2))) else (winnowerref07_May.j2 k x3 true x191000 x191001 x191002 x191003 x191004 ((z0f x191000 x3).f0) ((z0f x191000 x3).f1) ((z0f x191000 x3).f2)))) else (none)) else (if x191001 = (-1) then (if x191002 = (-1) then (some (x191003 == (-1))) else (some false)) else ((winnowerref07_whole.f x191000 x191001 x191002 x191003 x191004 x191001).bind fun t195 => (if t195 = true then ((winnowerref07_whole.f x191000 x191001 x191002 x191003 x191004 x191002).bind fun t196 => (if t196 = true then (if 0 ≤ x191002 then (if x191002 < (x191000.length : Int) then (if ((z0f x191000 x191002).f1) = 1 then (if x191003 = (-1) then (some true) else ((winnowerref07_whole.f x191000 x191001 x191002 x191003 x191004 x191003).bind fun t198 => (if t198 = true then (if 0 ≤ x191003 then (if x191003 < (x191000.length : Int) then (some (((z0f x191000 x191003).f1) == 3)) else (none)) else (none)) else (some false)))) else (some false)) else (none)) else (none)) else (some false))) else (some false))))
def winnowerref07_May.j2 : Nat → Int → Bool → List (S45) → Int → Int → Int → Int → ByteArray → Int → Bool → Option (Bool)
  | 0, _, _, _, _, _, _, _, _, _, _ => none
  | k + 1, x3, x54, x191000, x191001, x191002, x191003, x191004, x193000, x193001, x193002 => if x54 = true then (some false) else (winnowerref07_May.l1 k x3 0 x191000 x191001 x191002 x191003 x191004 x193000 x193001 x193002)
def winnowerref07_May.l1 : Nat → Int → Int → List (S45) → Int → Int → Int → Int → ByteArray → Int → Bool → Option (Bool)
  | 0, _, _, _, _, _, _, _, _, _, _ => none
  | k + 1, x3, x5, x191000, x191001, x191002, x191003, x191004, x193000, x193001, x193002 => if x5 < x3 then (if 0 ≤ x5 then (if x5 < (x191000.length : Int) then (if ((z0f x191000 x5).f0).toList = x193000.toList then (some false) else (winnowerref07_May.l1 k x3 (wrap64 (x5 + 1)) x191000 x191001 x191002 x191003 x191004 x193000 x193001 x193002)) else (none)) else (none)) else (winnowerref07_May.l0 k (wrap64 (x3 + 1)) x191000 x191001 x191002 x191003 x191004)
end
def winnowerref07_May.f (k : Nat) (l0_0 : List (S45)) (a0_1 : Int) (a0_2 : Int) (a0_3 : Int) (a0_4 : Int) : Option (Bool) := if (l0_0.length : Int) < 1 then (winnowerref07_May.j0 k true l0_0 a0_1 a0_2 a0_3 a0_4) else (if (l0_0.length : Int) > 8 then (winnowerref07_May.j0 k true l0_0 a0_1 a0_2 a0_3 a0_4) else (if a0_4 < (-1) then (winnowerref07_May.j0 k true l0_0 a0_1 a0_2 a0_3 a0_4) else (winnowerref07_May.j0 k (decide (a0_4 ≥ (l0_0.length : Int))) l0_0 a0_1 a0_2 a0_3 a0_4)))
set_option maxHeartbeats 8000000 in
set_option maxRecDepth 100000 in
theorem winnowerref07_May.calls (k : Nat) (A0_0 : Option Addr) (c0_0 : Nat) (l0_0 : List (S45)) (a0_1 : Int) (a0_2 : Int) (a0_3 : Int) (a0_4 : Int) (r : Bool) (w : World) (hr0_0 : Kd.C k45 w A0_0 l0_0.length l0_0) (hc0_0 : l0_0.length ≤ c0_0) (h : winnowerref07_May.f k l0_0 a0_1 a0_2 a0_3 a0_4 = some r) :
    Calls Tryd.prog 19 #[.agg #[.slice A0_0 l0_0.length c0_0, .int .i64 a0_1, .int .i64 a0_2, .int .i64 a0_3, .int .i64 a0_4]] w fun e w' => e = .returned (.bool r) ∧ Below w.heap.size w w' := by
  have hu24 := Tryd.underlying24
  have hu45 := Tryd.underlying45
  have HR0_0 := z05.mk hr0_0
  have HC0_0 := z05.mk hc0_0
  clear hr0_0 hc0_0
  have HB := z05.mk (Below.refl w.heap.size w)
  have H : (if (l0_0.length : Int) < 1 then (winnowerref07_May.j0 k true l0_0 a0_1 a0_2 a0_3 a0_4) else (if (l0_0.length : Int) > 8 then (winnowerref07_May.j0 k true l0_0 a0_1 a0_2 a0_3 a0_4) else (if a0_4 < (-1) then (winnowerref07_May.j0 k true l0_0 a0_1 a0_2 a0_3 a0_4) else (winnowerref07_May.j0 k (decide (a0_4 ≥ (l0_0.length : Int))) l0_0 a0_1 a0_2 a0_3 a0_4)))) = some r := h
  clear h
  have HC2 := z05.mk H
  clear H
  go_enter Tryd.func19, Tryd.ntmps19
  go_upto_region 1 with (first | ((with_reducible refine z0h (N := 1) rfl ?_); (try (refine z0r (by rfl) ?_; dsimp only)); refine z0g ?hg (N := 1) ?hd (cs := #[.slice A0_0 l0_0.length c0_0, .int .i64 a0_1, .int .i64 a0_2, .int .i64 a0_3, .int .i64 a0_4]) (t := 24) ?hr ?_; (case hd => rfl); (case hg => rfl); (case hr => first | (go_simp; done) | (go_simp; rfl)); intro gb190 hg w3 hbox hb; have n0_ := z05.mk (z0a (by repeat (first | (with_reducible first | exact HB.out | apply z02 | apply z00 | apply z03) | exact HB.out)) hb); have n1_ := z05.mk (hbox); have n2_ := z05.mk ((by rw [hg]; exact (z0b (by repeat (first | (with_reducible first | exact HB.out | apply z02 | apply z00 | apply z03) | exact HB.out))) : w.heap.size ≤ gb190)); have n3_ := z05.mk ((by rw [hg]; exact (z0b (by repeat (first | (with_reducible first | exact HB.out | apply z02 | apply z00 | apply z03) | exact HB.out))) : w.heap.size ≤ gb190)); clear HB; have HB := n0_; have BK190 := n1_; have GW190 := n2_; have GE190 := n3_; clear n0_ n1_ n2_ n3_; clear hb hbox hg))
  repeat (go_quiet (first | ((with_reducible refine z0h (N := 1) rfl ?_); (try (refine z0r (by rfl) ?_; dsimp only)); refine z0g ?hg (N := 1) ?hd (cs := #[.slice A0_0 l0_0.length c0_0, .int .i64 a0_1, .int .i64 a0_2, .int .i64 a0_3, .int .i64 a0_4]) (t := 24) ?hr ?_; (case hd => rfl); (case hg => rfl); (case hr => first | (go_simp; done) | (go_simp; rfl)); intro gb190 hg w3 hbox hb; have n0_ := z05.mk (z0a (by repeat (first | (with_reducible first | exact HB.out | apply z02 | apply z00 | apply z03) | exact HB.out)) hb); have n1_ := z05.mk (hbox); have n2_ := z05.mk ((by rw [hg]; exact (z0b (by repeat (first | (with_reducible first | exact HB.out | apply z02 | apply z00 | apply z03) | exact HB.out))) : w.heap.size ≤ gb190)); have n3_ := z05.mk ((by rw [hg]; exact (z0b (by repeat (first | (with_reducible first | exact HB.out | apply z02 | apply z00 | apply z03) | exact HB.out))) : w.heap.size ≤ gb190)); clear HB; have HB := n0_; have BK190 := n1_; have GW190 := n2_; have GE190 := n3_; clear n0_ n1_ n2_ n3_; clear hb hbox hg)); go_upto_region 1 with (first | ((with_reducible refine z0h (N := 1) rfl ?_); (try (refine z0r (by rfl) ?_; dsimp only)); refine z0g ?hg (N := 1) ?hd (cs := #[.slice A0_0 l0_0.length c0_0, .int .i64 a0_1, .int .i64 a0_2, .int .i64 a0_3, .int .i64 a0_4]) (t := 24) ?hr ?_; (case hd => rfl); (case hg => rfl); (case hr => first | (go_simp; done) | (go_simp; rfl)); intro gb190 hg w3 hbox hb; have n0_ := z05.mk (z0a (by repeat (first | (with_reducible first | exact HB.out | apply z02 | apply z00 | apply z03) | exact HB.out)) hb); have n1_ := z05.mk (hbox); have n2_ := z05.mk ((by rw [hg]; exact (z0b (by repeat (first | (with_reducible first | exact HB.out | apply z02 | apply z00 | apply z03) | exact HB.out))) : w.heap.size ≤ gb190)); have n3_ := z05.mk ((by rw [hg]; exact (z0b (by repeat (first | (with_reducible first | exact HB.out | apply z02 | apply z00 | apply z03) | exact HB.out))) : w.heap.size ≤ gb190)); clear HB; have HB := n0_; have BK190 := n1_; have GW190 := n2_; have GE190 := n3_; clear n0_ n1_ n2_ n3_; clear hb hbox hg)))
  (try simp only [Act.put, List.setIfInBounds_toArray, List.set_cons_zero, List.set_cons_succ])
  go_cut [28] (fun v28 wc => ∃ (kq : Nat) (x28_1 : Bool), v28 = .bool x28_1 ∧ z05 (winnowerref07_May.j0 kq x28_1 l0_0 a0_1 a0_2 a0_3 a0_4 = some r) ∧ z05 (kq ≤ k) ∧ z05 (wc.heap[gb190]? = some (.cells #[(.slice A0_0 l0_0.length c0_0), .int .i64 a0_1, .int .i64 a0_2, .int .i64 a0_3, .int .i64 a0_4] 24 (0, 0))) ∧ z05 (Below w.heap.size w wc))
  case first =>
    have H := HC2.out
    clear HC2
    by_cases c4 : (l0_0.length : Int) < 1
    · rw [if_pos c4] at H
      have c4b0 : decide ((l0_0.length : Int) < 1) = true := decide_eq_true c4
      have c4b1 : decide (l0_0.length < 1) = true := decide_eq_true (by omega)
      clear c4
      (first | rw [c4b0] | (simp only [i64_w, i32_w]; rw [c4b0]) | skip)
      have H' := z05.mk H
      clear H
      have hcz5_0 : w3.cell? ⟨gb190, 0, none⟩ = some (.slice A0_0 l0_0.length c0_0) := (z04 BK190.out 0).trans rfl
      have hcz5_1 : w3.cell? ⟨gb190, 1, none⟩ = some (.int .i64 a0_1) := (z04 BK190.out 1).trans rfl
      have hcz5_2 : w3.cell? ⟨gb190, 2, none⟩ = some (.int .i64 a0_2) := (z04 BK190.out 2).trans rfl
      have hcz5_3 : w3.cell? ⟨gb190, 3, none⟩ = some (.int .i64 a0_3) := (z04 BK190.out 3).trans rfl
      have hcz5_4 : w3.cell? ⟨gb190, 4, none⟩ = some (.int .i64 a0_4) := (z04 BK190.out 4).trans rfl
      have hfz5_0 := z01 BK190.out 0
      have hfz5_1 := z01 BK190.out 1
      have hfz5_2 := z01 BK190.out 2
      have hfz5_3 := z01 BK190.out 3
      have hfz5_4 := z01 BK190.out 4
      go_wp2
      repeat (go_quiet (fail); try go_wp2)
      go_meet
      case rel => exact ⟨_, (true), (by first | rfl | (simp; done) | (simp [*]; done)), H', ⟨by first | omega | exact Nat.le_refl _⟩, ⟨by (with_reducible repeat (first | refine z07 ?_ _ | refine z08 ?_ | refine z06 ?_ _)); exact BK190.out⟩, ⟨by repeat (first | (with_reducible first | exact HB.out | apply z02 | apply z00 | apply z03 | refine z09 ?_ GE190.out) | exact HB.out)⟩⟩
    · rw [if_neg c4] at H
      have c4b0 : decide ((l0_0.length : Int) < 1) = false := decide_eq_false c4
      have c4b1 : decide (l0_0.length < 1) = false := decide_eq_false (by omega)
      clear c4
      (first | rw [c4b0] | (simp only [i64_w, i32_w]; rw [c4b0]) | skip)
      by_cases c6 : (l0_0.length : Int) > 8
      · rw [if_pos c6] at H
        have c6b0 : decide (8 < (l0_0.length : Int)) = true := decide_eq_true c6
        have c6b1 : decide (8 < l0_0.length) = true := decide_eq_true (by omega)
        clear c6
        have H' := z05.mk H
        clear H
        have hcz7_0 : w3.cell? ⟨gb190, 0, none⟩ = some (.slice A0_0 l0_0.length c0_0) := (z04 BK190.out 0).trans rfl
        have hcz7_1 : w3.cell? ⟨gb190, 1, none⟩ = some (.int .i64 a0_1) := (z04 BK190.out 1).trans rfl
        have hcz7_2 : w3.cell? ⟨gb190, 2, none⟩ = some (.int .i64 a0_2) := (z04 BK190.out 2).trans rfl
        have hcz7_3 : w3.cell? ⟨gb190, 3, none⟩ = some (.int .i64 a0_3) := (z04 BK190.out 3).trans rfl
        have hcz7_4 : w3.cell? ⟨gb190, 4, none⟩ = some (.int .i64 a0_4) := (z04 BK190.out 4).trans rfl
        have hfz7_0 := z01 BK190.out 0
        have hfz7_1 := z01 BK190.out 1
        have hfz7_2 := z01 BK190.out 2
        have hfz7_3 := z01 BK190.out 3
        have hfz7_4 := z01 BK190.out 4
        go_wp2
        repeat (go_quiet (fail); try go_wp2)
        go_meet
        case rel => exact ⟨_, (true), (by first | rfl | (simp; done) | (simp [*]; done)), H', ⟨by first | omega | exact Nat.le_refl _⟩, ⟨by (with_reducible repeat (first | refine z07 ?_ _ | refine z08 ?_ | refine z06 ?_ _)); exact BK190.out⟩, ⟨by repeat (first | (with_reducible first | exact HB.out | apply z02 | apply z00 | apply z03 | refine z09 ?_ GE190.out) | exact HB.out)⟩⟩
      · rw [if_neg c6] at H
        have c6b0 : decide (8 < (l0_0.length : Int)) = false := decide_eq_false c6
        have c6b1 : decide (8 < l0_0.length) = false := decide_eq_false (by omega)
        clear c6
        by_cases c8 : a0_4 < (-1)
        · rw [if_pos c8] at H
          have c8b0 : decide (a0_4 < (-1)) = true := decide_eq_true c8
          clear c8
          have H' := z05.mk H
          clear H
          have hcz9_0 : w3.cell? ⟨gb190, 0, none⟩ = some (.slice A0_0 l0_0.length c0_0) := (z04 BK190.out 0).trans rfl
          have hcz9_1 : w3.cell? ⟨gb190, 1, none⟩ = some (.int .i64 a0_1) := (z04 BK190.out 1).trans rfl
          have hcz9_2 : w3.cell? ⟨gb190, 2, none⟩ = some (.int .i64 a0_2) := (z04 BK190.out 2).trans rfl
          have hcz9_3 : w3.cell? ⟨gb190, 3, none⟩ = some (.int .i64 a0_3) := (z04 BK190.out 3).trans rfl
          have hcz9_4 : w3.cell? ⟨gb190, 4, none⟩ = some (.int .i64 a0_4) := (z04 BK190.out 4).trans rfl
          have hfz9_0 := z01 BK190.out 0
          have hfz9_1 := z01 BK190.out 1
          have hfz9_2 := z01 BK190.out 2
          have hfz9_3 := z01 BK190.out 3
          have hfz9_4 := z01 BK190.out 4
          go_wp2
          repeat (go_quiet (fail); try go_wp2)
          go_meet
          case rel => exact ⟨_, (true), (by first | rfl | (simp; done) | (simp [*]; done)), H', ⟨by first | omega | exact Nat.le_refl _⟩, ⟨by (with_reducible repeat (first | refine z07 ?_ _ | refine z08 ?_ | refine z06 ?_ _)); exact BK190.out⟩, ⟨by repeat (first | (with_reducible first | exact HB.out | apply z02 | apply z00 | apply z03 | refine z09 ?_ GE190.out) | exact HB.out)⟩⟩
        · rw [if_neg c8] at H
          have c8b0 : decide (a0_4 < (-1)) = false := decide_eq_false c8
          clear c8
          have H' := z05.mk H
          clear H
          have hcz10_0 : w3.cell? ⟨gb190, 0, none⟩ = some (.slice A0_0 l0_0.length c0_0) := (z04 BK190.out 0).trans rfl
          have hcz10_1 : w3.cell? ⟨gb190, 1, none⟩ = some (.int .i64 a0_1) := (z04 BK190.out 1).trans rfl
          have hcz10_2 : w3.cell? ⟨gb190, 2, none⟩ = some (.int .i64 a0_2) := (z04 BK190.out 2).trans rfl
          have hcz10_3 : w3.cell? ⟨gb190, 3, none⟩ = some (.int .i64 a0_3) := (z04 BK190.out 3).trans rfl
          have hcz10_4 : w3.cell? ⟨gb190, 4, none⟩ = some (.int .i64 a0_4) := (z04 BK190.out 4).trans rfl
          have hfz10_0 := z01 BK190.out 0
          have hfz10_1 := z01 BK190.out 1
          have hfz10_2 := z01 BK190.out 2
          have hfz10_3 := z01 BK190.out 3
          have hfz10_4 := z01 BK190.out 4
          go_wp2
          repeat (go_quiet (fail); try go_wp2)
          go_meet
          case rel => exact ⟨_, (decide (a0_4 ≥ (l0_0.length : Int))), (by first | rfl | (simp; done) | (simp [*]; done)), H', ⟨by first | omega | exact Nat.le_refl _⟩, ⟨by (with_reducible repeat (first | refine z07 ?_ _ | refine z08 ?_ | refine z06 ?_ _)); exact BK190.out⟩, ⟨by repeat (first | (with_reducible first | exact HB.out | apply z02 | apply z00 | apply z03 | refine z09 ?_ GE190.out) | exact HB.out)⟩⟩
  case rest =>
    clear HC2
    try clear c1
    try clear p2
    try clear c4
    try clear c4b0
    try clear c4b1
    try clear c6
    try clear c6b0
    try clear c6b1
    try clear c8
    try clear c8b0
    try clear hcz10_0
    try clear hcz10_1
    try clear hcz10_2
    try clear hcz10_3
    try clear hcz10_4
    try clear hcz5_0
    try clear hcz5_1
    try clear hcz5_2
    try clear hcz5_3
    try clear hcz5_4
    try clear hcz7_0
    try clear hcz7_1
    try clear hcz7_2
    try clear hcz7_3
    try clear hcz7_4
    try clear hcz9_0
    try clear hcz9_1
    try clear hcz9_2
    try clear hcz9_3
    try clear hcz9_4
    try clear hfz10_0
    try clear hfz10_1
    try clear hfz10_2
    try clear hfz10_3
    try clear hfz10_4
    try clear hfz5_0
    try clear hfz5_1
    try clear hfz5_2
    try clear hfz5_3
    try clear hfz5_4
    try clear hfz7_0
    try clear hfz7_1
    try clear hfz7_2
    try clear hfz7_3
    try clear hfz7_4
    try clear hfz9_0
    try clear hfz9_1
    try clear hfz9_2
    try clear hfz9_3
    try clear hfz9_4
    obtain ⟨kq, x28_1, rfl, HA, HJ1, BK190, HB⟩ := hcut
    cases kq with
    | zero => exact absurd HA.out (by simp [winnowerref07_May.j0])
    | succ kj1 =>
      have H := HA.out
      clear HA
      simp only [winnowerref07_May.j0] at H
      by_cases c11 : x28_1 = true
      · subst c11
        have H1 : (some false) = some r := by rw [if_pos rfl] at H; exact H
        clear H
        have H := H1
        clear H1
        obtain rfl := Option.some.inj H
        go_wp2
        repeat (go_quiet (fail); try go_wp2)
        go_ret
        exact ⟨by first | rfl | (simp [z0d, z0c] <;> rfl) | (refine congrArg (fun b_ : Bool => Ending.returned (Value.bool b_)) ?_; simp; done) | (simp [*, z0d, z0c] <;> rfl), by repeat (first | (with_reducible first | exact HB.out | apply z02 | apply z00 | apply z03 | refine z09 ?_ GE190.out) | exact HB.out)⟩
      · replace c11 := Bool.eq_false_iff.mpr c11
        subst c11
        have H1 : (winnowerref07_May.l0 kj1 0 l0_0 a0_1 a0_2 a0_3 a0_4) = some r := by rw [if_neg (show ¬ (false = true) by decide)] at H; exact H
        clear H
        have H := H1
        clear H1
        have H' := z05.mk H
        clear H
        go_wp2
        repeat (go_quiet (fail); try go_wp2)
        go_loopg [3] kj1 (fun kq v3 w' => ∃ (x3_2 : Int), v3 = .int .i64 x3_2 ∧ z05 (winnowerref07_May.l0 kq x3_2 l0_0 a0_1 a0_2 a0_3 a0_4 = some r) ∧ z05 (kq ≤ kj1) ∧ z05 (w'.heap[gb190]? = some (.cells #[(.slice A0_0 l0_0.length c0_0), .int .i64 a0_1, .int .i64 a0_2, .int .i64 a0_3, .int .i64 a0_4] 24 (0, 0))) ∧ z05 (Below w.heap.size w w'))
        case atStart => exact ⟨(0), (by first | rfl | (simp; done) | (simp [*]; done)), H', ⟨Nat.le_refl _⟩, ⟨by (with_reducible repeat (first | refine z07 ?_ _ | refine z08 ?_ | refine z06 ?_ _)); exact BK190.out⟩, ⟨by repeat (first | (with_reducible first | exact HB.out | apply z02 | apply z00 | apply z03 | refine z09 ?_ GE190.out) | exact HB.out)⟩⟩
        case round =>
          clear H'
          try clear c1
          try clear p2
          try clear c4
          try clear c4b0
          try clear c4b1
          try clear c6
          try clear c6b0
          try clear c6b1
          try clear c8
          try clear c8b0
          try clear c11
          try clear hcz10_0
          try clear hcz10_1
          try clear hcz10_2
          try clear hcz10_3
          try clear hcz10_4
          try clear hcz5_0
          try clear hcz5_1
          try clear hcz5_2
          try clear hcz5_3
          try clear hcz5_4
          try clear hcz7_0
          try clear hcz7_1
          try clear hcz7_2
          try clear hcz7_3
          try clear hcz7_4
          try clear hcz9_0
          try clear hcz9_1
          try clear hcz9_2
          try clear hcz9_3
          try clear hcz9_4
          try clear hfz10_0
          try clear hfz10_1
          try clear hfz10_2
          try clear hfz10_3
          try clear hfz10_4
          try clear hfz5_0
          try clear hfz5_1
          try clear hfz5_2
          try clear hfz5_3
          try clear hfz5_4
          try clear hfz7_0
          try clear hfz7_1
          try clear hfz7_2
          try clear hfz7_3
          try clear hfz7_4
          try clear hfz9_0
          try clear hfz9_1
          try clear hfz9_2
          try clear hfz9_3
          try clear hfz9_4
          try clear p2
          obtain ⟨x3_2, rfl, HA, HK2, BK190, HB⟩ := hrel
          cases gk with
          | zero => exact absurd HA.out (by simp [winnowerref07_May.l0])
          | succ k2 =>
            have H := HA.out
            clear HA
            simp only [winnowerref07_May.l0] at H
            by_cases c12 : x3_2 < (l0_0.length : Int)
            · rw [if_pos c12] at H
              have c12b0 : decide (x3_2 < (l0_0.length : Int)) = true := decide_eq_true c12
              clear c12
              by_cases c13 : 0 ≤ x3_2
              · rw [if_pos c13] at H
                have c13b0 : decide (0 ≤ x3_2) = true := decide_eq_true c13
                clear c13
                have HC14 := z05.mk H
                clear H
                have hcz15_0 : wr.cell? ⟨gb190, 0, none⟩ = some (.slice A0_0 l0_0.length c0_0) := (z04 BK190.out 0).trans rfl
                have hcz15_1 : wr.cell? ⟨gb190, 1, none⟩ = some (.int .i64 a0_1) := (z04 BK190.out 1).trans rfl
                have hcz15_2 : wr.cell? ⟨gb190, 2, none⟩ = some (.int .i64 a0_2) := (z04 BK190.out 2).trans rfl
                have hcz15_3 : wr.cell? ⟨gb190, 3, none⟩ = some (.int .i64 a0_3) := (z04 BK190.out 3).trans rfl
                have hcz15_4 : wr.cell? ⟨gb190, 4, none⟩ = some (.int .i64 a0_4) := (z04 BK190.out 4).trans rfl
                have hfz15_0 := z01 BK190.out 0
                have hfz15_1 := z01 BK190.out 1
                have hfz15_2 := z01 BK190.out 2
                have hfz15_3 := z01 BK190.out 3
                have hfz15_4 := z01 BK190.out 4
                have p191 : 0 ≤ (x3_2 : Int) := of_decide_eq_true (by first | (with_reducible assumption) | assumption)
                have q191 : x3_2 < (l0_0.length : Int) := of_decide_eq_true (by first | (with_reducible assumption) | assumption)
                obtain ⟨ad191, e191, hx191_0, hx191_1, hx191_2⟩ := z11 HR0_0.out x3_2 p191 q191
                cases e191
                replace hx191_0 := (HB.out.cell (World.block_lt_of_cell? w _ hx191_0)).trans hx191_0
                replace hx191_1 := (HB.out.cell (World.block_lt_of_cell? w _ hx191_1)).trans hx191_1
                replace hx191_2 := (HB.out.cell (World.block_lt_of_cell? w _ hx191_2)).trans hx191_2
                replace p191 := eq_true p191
                replace q191 := eq_true q191
                go_upto_region 7 with (first | ((with_reducible refine z0h (N := 4) rfl ?_); (try (refine z0r (by rfl) ?_; dsimp only)); refine z0g ?hg (N := 4) ?hd (cs := #[.string (⟨#[]⟩ : ByteArray), .int .i64 0, .bool false]) (t := 45) ?hr ?_; (case hd => rfl); (case hg => rfl); (case hr => first | (go_simp; done) | (go_simp; rfl)); intro gb192 hg w16 hbox hb; have n0_ := z05.mk (z0e (g := gb190) (o := .cells #[.slice (some ad191) l0_0.length c0_0, .int .i64 a0_1, .int .i64 a0_2, .int .i64 a0_3, .int .i64 a0_4] 24 (0, 0)) (by (with_reducible repeat (first | refine z07 ?_ _ | refine z08 ?_ | refine z06 ?_ _)); exact BK190.out) hb); have n1_ := z05.mk (z0a (by repeat (first | (with_reducible first | exact HB.out | apply z02 | apply z00 | apply z03 | refine z09 ?_ GE190.out) | exact HB.out)) hb); have n2_ := z05.mk (hbox); have n3_ := z05.mk ((by rw [hg]; exact (z0b (by repeat (first | (with_reducible first | exact HB.out | apply z02 | apply z00 | apply z03 | refine z09 ?_ GE190.out) | exact HB.out))) : w.heap.size ≤ gb192)); have n4_ := z05.mk ((by rw [hg]; exact (z0b (by repeat (first | (with_reducible first | exact HB.out | apply z02 | apply z00 | apply z03 | refine z09 ?_ GE190.out) | exact HB.out))) : w.heap.size ≤ gb192)); have n5_ := z05.mk ((by rw [hg]; exact Nat.ne_of_lt (z0q (g := gb190) (o := .cells #[.slice (some ad191) l0_0.length c0_0, .int .i64 a0_1, .int .i64 a0_2, .int .i64 a0_3, .int .i64 a0_4] 24 (0, 0)) (by (with_reducible repeat (first | refine z07 ?_ _ | refine z08 ?_ | refine z06 ?_ _)); exact BK190.out)) : gb190 ≠ gb192)); have n6_ := z05.mk ((by rw [hg]; exact Nat.ne_of_gt (z0q (g := gb190) (o := .cells #[.slice (some ad191) l0_0.length c0_0, .int .i64 a0_1, .int .i64 a0_2, .int .i64 a0_3, .int .i64 a0_4] 24 (0, 0)) (by (with_reducible repeat (first | refine z07 ?_ _ | refine z08 ?_ | refine z06 ?_ _)); exact BK190.out)) : gb192 ≠ gb190)); clear BK190; clear HB; have BK190 := n0_; have HB := n1_; have BK192 := n2_; have GW192 := n3_; have GE192 := n4_; have NB190_192 := n5_; have NB192_190 := n6_; clear n0_ n1_ n2_ n3_ n4_ n5_ n6_; clear hb hbox hg; have hnb17 := NB192_190.out; have hnc17 := NB190_192.out; have hcz18_0 : w16.cell? ⟨gb192, 0, none⟩ = some (.string (⟨#[]⟩ : ByteArray)) := (z04 BK192.out 0).trans rfl; have hcz18_1 : w16.cell? ⟨gb192, 1, none⟩ = some (.int .i64 0) := (z04 BK192.out 1).trans rfl; have hcz18_2 : w16.cell? ⟨gb192, 2, none⟩ = some (.bool false) := (z04 BK192.out 2).trans rfl; have hfz18_0 := z01 BK192.out 0; have hfz18_1 := z01 BK192.out 1; have hfz18_2 := z01 BK192.out 2))
                repeat (go_quiet (first | ((with_reducible refine z0h (N := 4) rfl ?_); (try (refine z0r (by rfl) ?_; dsimp only)); refine z0g ?hg (N := 4) ?hd (cs := #[.string (⟨#[]⟩ : ByteArray), .int .i64 0, .bool false]) (t := 45) ?hr ?_; (case hd => rfl); (case hg => rfl); (case hr => first | (go_simp; done) | (go_simp; rfl)); intro gb192 hg w16 hbox hb; have n0_ := z05.mk (z0e (g := gb190) (o := .cells #[.slice (some ad191) l0_0.length c0_0, .int .i64 a0_1, .int .i64 a0_2, .int .i64 a0_3, .int .i64 a0_4] 24 (0, 0)) (by (with_reducible repeat (first | refine z07 ?_ _ | refine z08 ?_ | refine z06 ?_ _)); exact BK190.out) hb); have n1_ := z05.mk (z0a (by repeat (first | (with_reducible first | exact HB.out | apply z02 | apply z00 | apply z03 | refine z09 ?_ GE190.out) | exact HB.out)) hb); have n2_ := z05.mk (hbox); have n3_ := z05.mk ((by rw [hg]; exact (z0b (by repeat (first | (with_reducible first | exact HB.out | apply z02 | apply z00 | apply z03 | refine z09 ?_ GE190.out) | exact HB.out))) : w.heap.size ≤ gb192)); have n4_ := z05.mk ((by rw [hg]; exact (z0b (by repeat (first | (with_reducible first | exact HB.out | apply z02 | apply z00 | apply z03 | refine z09 ?_ GE190.out) | exact HB.out))) : w.heap.size ≤ gb192)); have n5_ := z05.mk ((by rw [hg]; exact Nat.ne_of_lt (z0q (g := gb190) (o := .cells #[.slice (some ad191) l0_0.length c0_0, .int .i64 a0_1, .int .i64 a0_2, .int .i64 a0_3, .int .i64 a0_4] 24 (0, 0)) (by (with_reducible repeat (first | refine z07 ?_ _ | refine z08 ?_ | refine z06 ?_ _)); exact BK190.out)) : gb190 ≠ gb192)); have n6_ := z05.mk ((by rw [hg]; exact Nat.ne_of_gt (z0q (g := gb190) (o := .cells #[.slice (some ad191) l0_0.length c0_0, .int .i64 a0_1, .int .i64 a0_2, .int .i64 a0_3, .int .i64 a0_4] 24 (0, 0)) (by (with_reducible repeat (first | refine z07 ?_ _ | refine z08 ?_ | refine z06 ?_ _)); exact BK190.out)) : gb192 ≠ gb190)); clear BK190; clear HB; have BK190 := n0_; have HB := n1_; have BK192 := n2_; have GW192 := n3_; have GE192 := n4_; have NB190_192 := n5_; have NB192_190 := n6_; clear n0_ n1_ n2_ n3_ n4_ n5_ n6_; clear hb hbox hg; have hnb17 := NB192_190.out; have hnc17 := NB190_192.out; have hcz18_0 : w16.cell? ⟨gb192, 0, none⟩ = some (.string (⟨#[]⟩ : ByteArray)) := (z04 BK192.out 0).trans rfl; have hcz18_1 : w16.cell? ⟨gb192, 1, none⟩ = some (.int .i64 0) := (z04 BK192.out 1).trans rfl; have hcz18_2 : w16.cell? ⟨gb192, 2, none⟩ = some (.bool false) := (z04 BK192.out 2).trans rfl; have hfz18_0 := z01 BK192.out 0; have hfz18_1 := z01 BK192.out 1; have hfz18_2 := z01 BK192.out 2)); go_upto_region 7 with (first | ((with_reducible refine z0h (N := 4) rfl ?_); (try (refine z0r (by rfl) ?_; dsimp only)); refine z0g ?hg (N := 4) ?hd (cs := #[.string (⟨#[]⟩ : ByteArray), .int .i64 0, .bool false]) (t := 45) ?hr ?_; (case hd => rfl); (case hg => rfl); (case hr => first | (go_simp; done) | (go_simp; rfl)); intro gb192 hg w16 hbox hb; have n0_ := z05.mk (z0e (g := gb190) (o := .cells #[.slice (some ad191) l0_0.length c0_0, .int .i64 a0_1, .int .i64 a0_2, .int .i64 a0_3, .int .i64 a0_4] 24 (0, 0)) (by (with_reducible repeat (first | refine z07 ?_ _ | refine z08 ?_ | refine z06 ?_ _)); exact BK190.out) hb); have n1_ := z05.mk (z0a (by repeat (first | (with_reducible first | exact HB.out | apply z02 | apply z00 | apply z03 | refine z09 ?_ GE190.out) | exact HB.out)) hb); have n2_ := z05.mk (hbox); have n3_ := z05.mk ((by rw [hg]; exact (z0b (by repeat (first | (with_reducible first | exact HB.out | apply z02 | apply z00 | apply z03 | refine z09 ?_ GE190.out) | exact HB.out))) : w.heap.size ≤ gb192)); have n4_ := z05.mk ((by rw [hg]; exact (z0b (by repeat (first | (with_reducible first | exact HB.out | apply z02 | apply z00 | apply z03 | refine z09 ?_ GE190.out) | exact HB.out))) : w.heap.size ≤ gb192)); have n5_ := z05.mk ((by rw [hg]; exact Nat.ne_of_lt (z0q (g := gb190) (o := .cells #[.slice (some ad191) l0_0.length c0_0, .int .i64 a0_1, .int .i64 a0_2, .int .i64 a0_3, .int .i64 a0_4] 24 (0, 0)) (by (with_reducible repeat (first | refine z07 ?_ _ | refine z08 ?_ | refine z06 ?_ _)); exact BK190.out)) : gb190 ≠ gb192)); have n6_ := z05.mk ((by rw [hg]; exact Nat.ne_of_gt (z0q (g := gb190) (o := .cells #[.slice (some ad191) l0_0.length c0_0, .int .i64 a0_1, .int .i64 a0_2, .int .i64 a0_3, .int .i64 a0_4] 24 (0, 0)) (by (with_reducible repeat (first | refine z07 ?_ _ | refine z08 ?_ | refine z06 ?_ _)); exact BK190.out)) : gb192 ≠ gb190)); clear BK190; clear HB; have BK190 := n0_; have HB := n1_; have BK192 := n2_; have GW192 := n3_; have GE192 := n4_; have NB190_192 := n5_; have NB192_190 := n6_; clear n0_ n1_ n2_ n3_ n4_ n5_ n6_; clear hb hbox hg; have hnb17 := NB192_190.out; have hnc17 := NB190_192.out; have hcz18_0 : w16.cell? ⟨gb192, 0, none⟩ = some (.string (⟨#[]⟩ : ByteArray)) := (z04 BK192.out 0).trans rfl; have hcz18_1 : w16.cell? ⟨gb192, 1, none⟩ = some (.int .i64 0) := (z04 BK192.out 1).trans rfl; have hcz18_2 : w16.cell? ⟨gb192, 2, none⟩ = some (.bool false) := (z04 BK192.out 2).trans rfl; have hfz18_0 := z01 BK192.out 0; have hfz18_1 := z01 BK192.out 1; have hfz18_2 := z01 BK192.out 2)))
                (try simp only [Act.put, List.setIfInBounds_toArray, List.set_cons_zero, List.set_cons_succ])
                go_cut [54] (fun v54 wc => ∃ (kq : Nat) (x54_13 : Bool), v54 = .bool x54_13 ∧ z05 (winnowerref07_May.j2 kq x3_2 x54_13 l0_0 a0_1 a0_2 a0_3 a0_4 ((z0f l0_0 x3_2).f0) ((z0f l0_0 x3_2).f1) ((z0f l0_0 x3_2).f2) = some r) ∧ z05 (kq ≤ k2) ∧ z05 (wc.heap[gb190]? = some (.cells #[(.slice (some ad191) l0_0.length c0_0), .int .i64 a0_1, .int .i64 a0_2, .int .i64 a0_3, .int .i64 a0_4] 24 (0, 0))) ∧ z05 (wc.heap[gb192]? = some (.cells #[.string ((z0f l0_0 x3_2).f0), .int .i64 ((z0f l0_0 x3_2).f1), .bool ((z0f l0_0 x3_2).f2)] 45 (0, 0))) ∧ z05 (Below w.heap.size w wc))
                case first =>
                  have H := HC14.out
                  clear HC14
                  replace H := Option.bind_eq_some_iff.mp H
                  obtain ⟨t193, A190, H⟩ := H
                  replace H : (if t193 = true then (if ((z0f l0_0 x3_2).f1) < 1 then (winnowerref07_May.j2 k2 x3_2 true l0_0 a0_1 a0_2 a0_3 a0_4 ((z0f l0_0 x3_2).f0) ((z0f l0_0 x3_2).f1) ((z0f l0_0 x3_2).f2)) else (winnowerref07_May.j2 k2 x3_2 (decide (((z0f l0_0 x3_2).f1) > 3)) l0_0 a0_1 a0_2 a0_3 a0_4 ((z0f l0_0 x3_2).f0) ((z0f l0_0 x3_2).f1) ((z0f l0_0 x3_2).f2))) else (winnowerref07_May.j2 k2 x3_2 true l0_0 a0_1 a0_2 a0_3 a0_4 ((z0f l0_0 x3_2).f0) ((z0f l0_0 x3_2).f1) ((z0f l0_0 x3_2).f2))) = some r := H
                  have A19 := z05.mk A190
                  clear A190
                  by_cases c20 : t193 = true
                  · subst c20
                    have H1 : (if ((z0f l0_0 x3_2).f1) < 1 then (winnowerref07_May.j2 k2 x3_2 true l0_0 a0_1 a0_2 a0_3 a0_4 ((z0f l0_0 x3_2).f0) ((z0f l0_0 x3_2).f1) ((z0f l0_0 x3_2).f2)) else (winnowerref07_May.j2 k2 x3_2 (decide (((z0f l0_0 x3_2).f1) > 3)) l0_0 a0_1 a0_2 a0_3 a0_4 ((z0f l0_0 x3_2).f0) ((z0f l0_0 x3_2).f1) ((z0f l0_0 x3_2).f2))) = some r := by rw [if_pos rfl] at H; exact H
                    clear H
                    have H := H1
                    clear H1
                    by_cases c21 : ((z0f l0_0 x3_2).f1) < 1
                    · rw [if_pos c21] at H
                      have c21b0 : decide (((z0f l0_0 x3_2).f1) < 1) = true := decide_eq_true c21
                      clear c21
                      (first | rw [c21b0] | (simp only [i64_w, i32_w]; rw [c21b0]) | skip)
                      have H' := z05.mk H
                      clear H
                      have hnb22 := NB192_190.out
                      have hnc22 := NB190_192.out
                      have hcz23_0 : w16.cell? ⟨gb192, 0, none⟩ = some (.string (⟨#[]⟩ : ByteArray)) := (z04 BK192.out 0).trans rfl
                      have hcz23_1 : w16.cell? ⟨gb192, 1, none⟩ = some (.int .i64 0) := (z04 BK192.out 1).trans rfl
                      have hcz23_2 : w16.cell? ⟨gb192, 2, none⟩ = some (.bool false) := (z04 BK192.out 2).trans rfl
                      have hfz23_0 := z01 BK192.out 0
                      have hfz23_1 := z01 BK192.out 1
                      have hfz23_2 := z01 BK192.out 2
                      go_wp2_with (first | (go_at_call 29; (with_reducible refine (winnowerref07_name.calls k2 ((z0f l0_0 x3_2).f0) true _ A19.out).mono ?_); rintro e w' ⟨rfl, ⟨nd, rfl⟩⟩; (try first | exact ⟨rfl, _, World.drewN_drewN _ _ _⟩ | exact ⟨rfl, _, Eq.trans (World.drewN_drewN _ _ _) (congrArg (World.drewN _) (Nat.add_assoc _ _ _))⟩)))
                      repeat (go_quiet (first | (go_at_call 29; (with_reducible refine (winnowerref07_name.calls k2 ((z0f l0_0 x3_2).f0) true _ A19.out).mono ?_); rintro e w' ⟨rfl, ⟨nd, rfl⟩⟩; (try first | exact ⟨rfl, _, World.drewN_drewN _ _ _⟩ | exact ⟨rfl, _, Eq.trans (World.drewN_drewN _ _ _) (congrArg (World.drewN _) (Nat.add_assoc _ _ _))⟩))); try go_wp2_with (first | (go_at_call 29; (with_reducible refine (winnowerref07_name.calls k2 ((z0f l0_0 x3_2).f0) true _ A19.out).mono ?_); rintro e w' ⟨rfl, ⟨nd, rfl⟩⟩; (try first | exact ⟨rfl, _, World.drewN_drewN _ _ _⟩ | exact ⟨rfl, _, Eq.trans (World.drewN_drewN _ _ _) (congrArg (World.drewN _) (Nat.add_assoc _ _ _))⟩))))
                      go_meet
                      case rel => exact ⟨_, (true), (by first | rfl | (simp; done) | (simp [*]; done)), H', ⟨by have := HJ1.out; have := HK2.out; first | omega | exact Nat.le_refl _⟩, ⟨by (with_reducible repeat (first | refine z07 ?_ _ | refine z08 ?_ | refine z06 ?_ _)); refine z0m ?_ NB190_192.out _; (with_reducible repeat (first | refine z07 ?_ _ | refine z08 ?_ | refine z06 ?_ _)); refine z0m ?_ NB190_192.out _; (with_reducible repeat (first | refine z07 ?_ _ | refine z08 ?_ | refine z06 ?_ _)); refine z0m ?_ NB190_192.out _; (with_reducible repeat (first | refine z07 ?_ _ | refine z08 ?_ | refine z06 ?_ _)); exact BK190.out⟩, ⟨by (with_reducible repeat (first | refine z07 ?_ _ | refine z08 ?_ | refine z06 ?_ _)); refine z0i (cs := #[.string ((z0f l0_0 x3_2).f0), .int .i64 ((z0f l0_0 x3_2).f1), .bool false]) ?_ 2 _ rfl; (with_reducible repeat (first | refine z07 ?_ _ | refine z08 ?_ | refine z06 ?_ _)); refine z0i (cs := #[.string ((z0f l0_0 x3_2).f0), .int .i64 0, .bool false]) ?_ 1 _ rfl; (with_reducible repeat (first | refine z07 ?_ _ | refine z08 ?_ | refine z06 ?_ _)); refine z0i (cs := #[.string (⟨#[]⟩ : ByteArray), .int .i64 0, .bool false]) ?_ 0 _ rfl; (with_reducible repeat (first | refine z07 ?_ _ | refine z08 ?_ | refine z06 ?_ _)); exact BK192.out⟩, ⟨by repeat (first | (with_reducible first | exact HB.out | apply z02 | apply z00 | apply z03 | refine z09 ?_ GE190.out | refine z09 ?_ GE192.out) | exact HB.out)⟩⟩
                    · rw [if_neg c21] at H
                      have c21b0 : decide (((z0f l0_0 x3_2).f1) < 1) = false := decide_eq_false c21
                      clear c21
                      (first | rw [c21b0] | (simp only [i64_w, i32_w]; rw [c21b0]) | skip)
                      have H' := z05.mk H
                      clear H
                      have hnb24 := NB192_190.out
                      have hnc24 := NB190_192.out
                      have hcz25_0 : w16.cell? ⟨gb192, 0, none⟩ = some (.string (⟨#[]⟩ : ByteArray)) := (z04 BK192.out 0).trans rfl
                      have hcz25_1 : w16.cell? ⟨gb192, 1, none⟩ = some (.int .i64 0) := (z04 BK192.out 1).trans rfl
                      have hcz25_2 : w16.cell? ⟨gb192, 2, none⟩ = some (.bool false) := (z04 BK192.out 2).trans rfl
                      have hfz25_0 := z01 BK192.out 0
                      have hfz25_1 := z01 BK192.out 1
                      have hfz25_2 := z01 BK192.out 2
                      go_wp2_with (first | (go_at_call 29; (with_reducible refine (winnowerref07_name.calls k2 ((z0f l0_0 x3_2).f0) true _ A19.out).mono ?_); rintro e w' ⟨rfl, ⟨nd, rfl⟩⟩; (try first | exact ⟨rfl, _, World.drewN_drewN _ _ _⟩ | exact ⟨rfl, _, Eq.trans (World.drewN_drewN _ _ _) (congrArg (World.drewN _) (Nat.add_assoc _ _ _))⟩)))
                      repeat (go_quiet (first | (go_at_call 29; (with_reducible refine (winnowerref07_name.calls k2 ((z0f l0_0 x3_2).f0) true _ A19.out).mono ?_); rintro e w' ⟨rfl, ⟨nd, rfl⟩⟩; (try first | exact ⟨rfl, _, World.drewN_drewN _ _ _⟩ | exact ⟨rfl, _, Eq.trans (World.drewN_drewN _ _ _) (congrArg (World.drewN _) (Nat.add_assoc _ _ _))⟩))); try go_wp2_with (first | (go_at_call 29; (with_reducible refine (winnowerref07_name.calls k2 ((z0f l0_0 x3_2).f0) true _ A19.out).mono ?_); rintro e w' ⟨rfl, ⟨nd, rfl⟩⟩; (try first | exact ⟨rfl, _, World.drewN_drewN _ _ _⟩ | exact ⟨rfl, _, Eq.trans (World.drewN_drewN _ _ _) (congrArg (World.drewN _) (Nat.add_assoc _ _ _))⟩))))
                      go_meet
                      case rel => exact ⟨_, (decide (((z0f l0_0 x3_2).f1) > 3)), (by first | rfl | (simp; done) | (simp [*]; done)), H', ⟨by have := HJ1.out; have := HK2.out; first | omega | exact Nat.le_refl _⟩, ⟨by (with_reducible repeat (first | refine z07 ?_ _ | refine z08 ?_ | refine z06 ?_ _)); refine z0m ?_ NB190_192.out _; (with_reducible repeat (first | refine z07 ?_ _ | refine z08 ?_ | refine z06 ?_ _)); refine z0m ?_ NB190_192.out _; (with_reducible repeat (first | refine z07 ?_ _ | refine z08 ?_ | refine z06 ?_ _)); refine z0m ?_ NB190_192.out _; (with_reducible repeat (first | refine z07 ?_ _ | refine z08 ?_ | refine z06 ?_ _)); exact BK190.out⟩, ⟨by (with_reducible repeat (first | refine z07 ?_ _ | refine z08 ?_ | refine z06 ?_ _)); refine z0i (cs := #[.string ((z0f l0_0 x3_2).f0), .int .i64 ((z0f l0_0 x3_2).f1), .bool false]) ?_ 2 _ rfl; (with_reducible repeat (first | refine z07 ?_ _ | refine z08 ?_ | refine z06 ?_ _)); refine z0i (cs := #[.string ((z0f l0_0 x3_2).f0), .int .i64 0, .bool false]) ?_ 1 _ rfl; (with_reducible repeat (first | refine z07 ?_ _ | refine z08 ?_ | refine z06 ?_ _)); refine z0i (cs := #[.string (⟨#[]⟩ : ByteArray), .int .i64 0, .bool false]) ?_ 0 _ rfl; (with_reducible repeat (first | refine z07 ?_ _ | refine z08 ?_ | refine z06 ?_ _)); exact BK192.out⟩, ⟨by repeat (first | (with_reducible first | exact HB.out | apply z02 | apply z00 | apply z03 | refine z09 ?_ GE190.out | refine z09 ?_ GE192.out) | exact HB.out)⟩⟩
                  · replace c20 := Bool.eq_false_iff.mpr c20
                    subst c20
                    have H1 : (winnowerref07_May.j2 k2 x3_2 true l0_0 a0_1 a0_2 a0_3 a0_4 ((z0f l0_0 x3_2).f0) ((z0f l0_0 x3_2).f1) ((z0f l0_0 x3_2).f2)) = some r := by rw [if_neg (show ¬ (false = true) by decide)] at H; exact H
                    clear H
                    have H := H1
                    clear H1
                    have H' := z05.mk H
                    clear H
                    have hnb26 := NB192_190.out
                    have hnc26 := NB190_192.out
                    have hcz27_0 : w16.cell? ⟨gb192, 0, none⟩ = some (.string (⟨#[]⟩ : ByteArray)) := (z04 BK192.out 0).trans rfl
                    have hcz27_1 : w16.cell? ⟨gb192, 1, none⟩ = some (.int .i64 0) := (z04 BK192.out 1).trans rfl
                    have hcz27_2 : w16.cell? ⟨gb192, 2, none⟩ = some (.bool false) := (z04 BK192.out 2).trans rfl
                    have hfz27_0 := z01 BK192.out 0
                    have hfz27_1 := z01 BK192.out 1
                    have hfz27_2 := z01 BK192.out 2
                    go_wp2_with (first | (go_at_call 29; (with_reducible refine (winnowerref07_name.calls k2 ((z0f l0_0 x3_2).f0) false _ A19.out).mono ?_); rintro e w' ⟨rfl, ⟨nd, rfl⟩⟩; (try first | exact ⟨rfl, _, World.drewN_drewN _ _ _⟩ | exact ⟨rfl, _, Eq.trans (World.drewN_drewN _ _ _) (congrArg (World.drewN _) (Nat.add_assoc _ _ _))⟩)))
                    repeat (go_quiet (first | (go_at_call 29; (with_reducible refine (winnowerref07_name.calls k2 ((z0f l0_0 x3_2).f0) false _ A19.out).mono ?_); rintro e w' ⟨rfl, ⟨nd, rfl⟩⟩; (try first | exact ⟨rfl, _, World.drewN_drewN _ _ _⟩ | exact ⟨rfl, _, Eq.trans (World.drewN_drewN _ _ _) (congrArg (World.drewN _) (Nat.add_assoc _ _ _))⟩))); try go_wp2_with (first | (go_at_call 29; (with_reducible refine (winnowerref07_name.calls k2 ((z0f l0_0 x3_2).f0) false _ A19.out).mono ?_); rintro e w' ⟨rfl, ⟨nd, rfl⟩⟩; (try first | exact ⟨rfl, _, World.drewN_drewN _ _ _⟩ | exact ⟨rfl, _, Eq.trans (World.drewN_drewN _ _ _) (congrArg (World.drewN _) (Nat.add_assoc _ _ _))⟩))))
                    go_meet
                    case rel => exact ⟨_, (true), (by first | rfl | (simp; done) | (simp [*]; done)), H', ⟨by have := HJ1.out; have := HK2.out; first | omega | exact Nat.le_refl _⟩, ⟨by (with_reducible repeat (first | refine z07 ?_ _ | refine z08 ?_ | refine z06 ?_ _)); refine z0m ?_ NB190_192.out _; (with_reducible repeat (first | refine z07 ?_ _ | refine z08 ?_ | refine z06 ?_ _)); refine z0m ?_ NB190_192.out _; (with_reducible repeat (first | refine z07 ?_ _ | refine z08 ?_ | refine z06 ?_ _)); refine z0m ?_ NB190_192.out _; (with_reducible repeat (first | refine z07 ?_ _ | refine z08 ?_ | refine z06 ?_ _)); exact BK190.out⟩, ⟨by (with_reducible repeat (first | refine z07 ?_ _ | refine z08 ?_ | refine z06 ?_ _)); refine z0i (cs := #[.string ((z0f l0_0 x3_2).f0), .int .i64 ((z0f l0_0 x3_2).f1), .bool false]) ?_ 2 _ rfl; (with_reducible repeat (first | refine z07 ?_ _ | refine z08 ?_ | refine z06 ?_ _)); refine z0i (cs := #[.string ((z0f l0_0 x3_2).f0), .int .i64 0, .bool false]) ?_ 1 _ rfl; (with_reducible repeat (first | refine z07 ?_ _ | refine z08 ?_ | refine z06 ?_ _)); refine z0i (cs := #[.string (⟨#[]⟩ : ByteArray), .int .i64 0, .bool false]) ?_ 0 _ rfl; (with_reducible repeat (first | refine z07 ?_ _ | refine z08 ?_ | refine z06 ?_ _)); exact BK192.out⟩, ⟨by repeat (first | (with_reducible first | exact HB.out | apply z02 | apply z00 | apply z03 | refine z09 ?_ GE190.out | refine z09 ?_ GE192.out) | exact HB.out)⟩⟩
                case rest =>
                  clear HC14
                  try clear c1
                  try clear p1
                  try clear q1
                  try clear hx1
                  try clear c2
                  try clear p2
                  try clear c4
                  try clear c4b0
                  try clear c4b1
                  try clear c6
                  try clear c6b0
                  try clear c6b1
                  try clear c8
                  try clear c8b0
                  try clear c11
                  try clear c12
                  try clear c12b0
                  try clear c13
                  try clear c13b0
                  try clear c17
                  try clear c19
                  try clear p19
                  try clear q19
                  try clear hx19
                  try clear c20
                  try clear c21
                  try clear c21b0
                  try clear c22
                  try clear c24
                  try clear c26
                  try clear hcz10_0
                  try clear hcz10_1
                  try clear hcz10_2
                  try clear hcz10_3
                  try clear hcz10_4
                  try clear hcz15_0
                  try clear hcz15_1
                  try clear hcz15_2
                  try clear hcz15_3
                  try clear hcz15_4
                  try clear hcz18_0
                  try clear hcz18_1
                  try clear hcz18_2
                  try clear hcz23_0
                  try clear hcz23_1
                  try clear hcz23_2
                  try clear hcz25_0
                  try clear hcz25_1
                  try clear hcz25_2
                  try clear hcz27_0
                  try clear hcz27_1
                  try clear hcz27_2
                  try clear hcz5_0
                  try clear hcz5_1
                  try clear hcz5_2
                  try clear hcz5_3
                  try clear hcz5_4
                  try clear hcz7_0
                  try clear hcz7_1
                  try clear hcz7_2
                  try clear hcz7_3
                  try clear hcz7_4
                  try clear hcz9_0
                  try clear hcz9_1
                  try clear hcz9_2
                  try clear hcz9_3
                  try clear hcz9_4
                  try clear hfz10_0
                  try clear hfz10_1
                  try clear hfz10_2
                  try clear hfz10_3
                  try clear hfz10_4
                  try clear hfz15_0
                  try clear hfz15_1
                  try clear hfz15_2
                  try clear hfz15_3
                  try clear hfz15_4
                  try clear hfz18_0
                  try clear hfz18_1
                  try clear hfz18_2
                  try clear hfz23_0
                  try clear hfz23_1
                  try clear hfz23_2
                  try clear hfz25_0
                  try clear hfz25_1
                  try clear hfz25_2
                  try clear hfz27_0
                  try clear hfz27_1
                  try clear hfz27_2
                  try clear hfz5_0
                  try clear hfz5_1
                  try clear hfz5_2
                  try clear hfz5_3
                  try clear hfz5_4
                  try clear hfz7_0
                  try clear hfz7_1
                  try clear hfz7_2
                  try clear hfz7_3
                  try clear hfz7_4
                  try clear hfz9_0
                  try clear hfz9_1
                  try clear hfz9_2
                  try clear hfz9_3
                  try clear hfz9_4
                  try clear hx191_0
                  try clear hx191_1
                  try clear hx191_2
                  try clear p191
                  try clear p2
                  try clear q191
                  obtain ⟨kq, x54_13, rfl, HA, HJ13, BK190, BK192, HB⟩ := hcut
                  cases kq with
                  | zero => exact absurd HA.out (by simp [winnowerref07_May.j2])
                  | succ kj13 =>
                    have H := HA.out
                    clear HA
                    simp only [winnowerref07_May.j2] at H
                    by_cases c28 : x54_13 = true
                    · subst c28
                      have H1 : (some false) = some r := by rw [if_pos rfl] at H; exact H
                      clear H
                      have H := H1
                      clear H1
                      obtain rfl := Option.some.inj H
                      go_wp2
                      repeat (go_quiet (fail); try go_wp2)
                      go_ret
                      exact ⟨by first | rfl | (simp [z0d, z0c] <;> rfl) | (refine congrArg (fun b_ : Bool => Ending.returned (Value.bool b_)) ?_; simp; done) | (simp [*, z0d, z0c] <;> rfl), by repeat (first | (with_reducible first | exact HB.out | apply z02 | apply z00 | apply z03 | refine z09 ?_ GE190.out | refine z09 ?_ GE192.out) | exact HB.out)⟩
                    · replace c28 := Bool.eq_false_iff.mpr c28
                      subst c28
                      have H1 : (winnowerref07_May.l1 kj13 x3_2 0 l0_0 a0_1 a0_2 a0_3 a0_4 ((z0f l0_0 x3_2).f0) ((z0f l0_0 x3_2).f1) ((z0f l0_0 x3_2).f2)) = some r := by rw [if_neg (show ¬ (false = true) by decide)] at H; exact H
                      clear H
                      have H := H1
                      clear H1
                      have H' := z05.mk H
                      clear H
                      go_wp2
                      repeat (go_quiet (fail); try go_wp2)
                      go_loopg [5] kj13 (fun kq v5 w' => ∃ (x5_4 : Int), v5 = .int .i64 x5_4 ∧ z05 (winnowerref07_May.l1 kq x3_2 x5_4 l0_0 a0_1 a0_2 a0_3 a0_4 ((z0f l0_0 x3_2).f0) ((z0f l0_0 x3_2).f1) ((z0f l0_0 x3_2).f2) = some r) ∧ z05 (kq ≤ kj13) ∧ z05 (w'.heap[gb190]? = some (.cells #[(.slice (some ad191) l0_0.length c0_0), .int .i64 a0_1, .int .i64 a0_2, .int .i64 a0_3, .int .i64 a0_4] 24 (0, 0))) ∧ z05 (w'.heap[gb192]? = some (.cells #[.string ((z0f l0_0 x3_2).f0), .int .i64 ((z0f l0_0 x3_2).f1), .bool ((z0f l0_0 x3_2).f2)] 45 (0, 0))) ∧ z05 (Below w.heap.size w w'))
                      case atStart => exact ⟨(0), (by first | rfl | (simp; done) | (simp [*]; done)), H', ⟨Nat.le_refl _⟩, ⟨by (with_reducible repeat (first | refine z07 ?_ _ | refine z08 ?_ | refine z06 ?_ _)); exact BK190.out⟩, ⟨by (with_reducible repeat (first | refine z07 ?_ _ | refine z08 ?_ | refine z06 ?_ _)); exact BK192.out⟩, ⟨by repeat (first | (with_reducible first | exact HB.out | apply z02 | apply z00 | apply z03 | refine z09 ?_ GE190.out | refine z09 ?_ GE192.out) | exact HB.out)⟩⟩
                      case round =>
                        clear H'
                        try clear c1
                        try clear p1
                        try clear q1
                        try clear hx1
                        try clear c2
                        try clear p2
                        try clear c4
                        try clear c4b0
                        try clear c4b1
                        try clear c6
                        try clear c6b0
                        try clear c6b1
                        try clear c8
                        try clear c8b0
                        try clear c11
                        try clear c12
                        try clear c12b0
                        try clear c13
                        try clear c13b0
                        try clear c17
                        try clear c19
                        try clear p19
                        try clear q19
                        try clear hx19
                        try clear c20
                        try clear c21
                        try clear c21b0
                        try clear c22
                        try clear c24
                        try clear c26
                        try clear c28
                        try clear hcz10_0
                        try clear hcz10_1
                        try clear hcz10_2
                        try clear hcz10_3
                        try clear hcz10_4
                        try clear hcz15_0
                        try clear hcz15_1
                        try clear hcz15_2
                        try clear hcz15_3
                        try clear hcz15_4
                        try clear hcz18_0
                        try clear hcz18_1
                        try clear hcz18_2
                        try clear hcz23_0
                        try clear hcz23_1
                        try clear hcz23_2
                        try clear hcz25_0
                        try clear hcz25_1
                        try clear hcz25_2
                        try clear hcz27_0
                        try clear hcz27_1
                        try clear hcz27_2
                        try clear hcz5_0
                        try clear hcz5_1
                        try clear hcz5_2
                        try clear hcz5_3
                        try clear hcz5_4
                        try clear hcz7_0
                        try clear hcz7_1
                        try clear hcz7_2
                        try clear hcz7_3
                        try clear hcz7_4
                        try clear hcz9_0
                        try clear hcz9_1
                        try clear hcz9_2
                        try clear hcz9_3
                        try clear hcz9_4
                        try clear hfz10_0
                        try clear hfz10_1
                        try clear hfz10_2
                        try clear hfz10_3
                        try clear hfz10_4
                        try clear hfz15_0
                        try clear hfz15_1
                        try clear hfz15_2
                        try clear hfz15_3
                        try clear hfz15_4
                        try clear hfz18_0
                        try clear hfz18_1
                        try clear hfz18_2
                        try clear hfz23_0
                        try clear hfz23_1
                        try clear hfz23_2
                        try clear hfz25_0
                        try clear hfz25_1
                        try clear hfz25_2
                        try clear hfz27_0
                        try clear hfz27_1
                        try clear hfz27_2
                        try clear hfz5_0
                        try clear hfz5_1
                        try clear hfz5_2
                        try clear hfz5_3
                        try clear hfz5_4
                        try clear hfz7_0
                        try clear hfz7_1
                        try clear hfz7_2
                        try clear hfz7_3
                        try clear hfz7_4
                        try clear hfz9_0
                        try clear hfz9_1
                        try clear hfz9_2
                        try clear hfz9_3
                        try clear hfz9_4
                        try clear hx191_0
                        try clear hx191_1
                        try clear hx191_2
                        try clear p1
                        try clear p19
                        try clear p191
                        try clear p2
                        try clear q1
                        try clear q19
                        try clear q191
                        obtain ⟨x5_4, rfl, HA, HK4, BK190, BK192, HB⟩ := hrel
                        cases gk with
                        | zero => exact absurd HA.out (by simp [winnowerref07_May.l1])
                        | succ k4 =>
                          have H := HA.out
                          clear HA
                          simp only [winnowerref07_May.l1] at H
                          by_cases c29 : x5_4 < x3_2
                          · rw [if_pos c29] at H
                            have c29b0 : decide (x5_4 < x3_2) = true := decide_eq_true c29
                            clear c29
                            by_cases c30 : 0 ≤ x5_4
                            · rw [if_pos c30] at H
                              have c30b0 : decide (0 ≤ x5_4) = true := decide_eq_true c30
                              clear c30
                              by_cases c31 : x5_4 < (l0_0.length : Int)
                              · rw [if_pos c31] at H
                                have c31b0 : decide (x5_4 < (l0_0.length : Int)) = true := decide_eq_true c31
                                clear c31
                                by_cases c32 : ((z0f l0_0 x5_4).f0).toList = ((z0f l0_0 x3_2).f0).toList
                                · rw [if_pos c32] at H
                                  have c32b0 : (((z0f l0_0 x5_4).f0).toList == ((z0f l0_0 x3_2).f0).toList) = true := beq_iff_eq.mpr c32
                                  have c32b1 : (((z0f l0_0 x5_4).f0).toList != ((z0f l0_0 x3_2).f0).toList) = false := bne_eq_false_iff_eq.mpr c32
                                  clear c32
                                  obtain rfl := Option.some.inj H
                                  have hnb33 := NB190_192.out
                                  have hnc33 := NB192_190.out
                                  have hcz34_0 : wr.cell? ⟨gb190, 0, none⟩ = some (.slice (some ad191) l0_0.length c0_0) := (z04 BK190.out 0).trans rfl
                                  have hcz34_1 : wr.cell? ⟨gb190, 1, none⟩ = some (.int .i64 a0_1) := (z04 BK190.out 1).trans rfl
                                  have hcz34_2 : wr.cell? ⟨gb190, 2, none⟩ = some (.int .i64 a0_2) := (z04 BK190.out 2).trans rfl
                                  have hcz34_3 : wr.cell? ⟨gb190, 3, none⟩ = some (.int .i64 a0_3) := (z04 BK190.out 3).trans rfl
                                  have hcz34_4 : wr.cell? ⟨gb190, 4, none⟩ = some (.int .i64 a0_4) := (z04 BK190.out 4).trans rfl
                                  have hfz34_0 := z01 BK190.out 0
                                  have hfz34_1 := z01 BK190.out 1
                                  have hfz34_2 := z01 BK190.out 2
                                  have hfz34_3 := z01 BK190.out 3
                                  have hfz34_4 := z01 BK190.out 4
                                  have p194 : 0 ≤ (x5_4 : Int) := of_decide_eq_true (by first | (with_reducible assumption) | assumption)
                                  have q194 : x5_4 < (l0_0.length : Int) := of_decide_eq_true (by first | (with_reducible assumption) | assumption)
                                  obtain ⟨ad194, e194, hx194_0, hx194_1, hx194_2⟩ := z11 HR0_0.out x5_4 p194 q194
                                  obtain rfl : ad191 = ad194 := (by injection e194)
                                  replace hx194_0 := (HB.out.cell (World.block_lt_of_cell? w _ hx194_0)).trans hx194_0
                                  replace hx194_1 := (HB.out.cell (World.block_lt_of_cell? w _ hx194_1)).trans hx194_1
                                  replace hx194_2 := (HB.out.cell (World.block_lt_of_cell? w _ hx194_2)).trans hx194_2
                                  replace p194 := eq_true p194
                                  replace q194 := eq_true q194
                                  have hcz35_0 : wr.cell? ⟨gb192, 0, none⟩ = some (.string ((z0f l0_0 x3_2).f0)) := (z04 BK192.out 0).trans rfl
                                  have hcz35_1 : wr.cell? ⟨gb192, 1, none⟩ = some (.int .i64 ((z0f l0_0 x3_2).f1)) := (z04 BK192.out 1).trans rfl
                                  have hcz35_2 : wr.cell? ⟨gb192, 2, none⟩ = some (.bool ((z0f l0_0 x3_2).f2)) := (z04 BK192.out 2).trans rfl
                                  have hfz35_0 := z01 BK192.out 0
                                  have hfz35_1 := z01 BK192.out 1
                                  have hfz35_2 := z01 BK192.out 2
                                  go_wp2
                                  repeat (go_quiet (fail); try go_wp2)
                                  go_ret
                                  exact ⟨by first | rfl | (simp [z0d, z0c] <;> rfl) | (refine congrArg (fun b_ : Bool => Ending.returned (Value.bool b_)) ?_; simp; done) | (simp [*, z0d, z0c] <;> rfl), by repeat (first | (with_reducible first | exact HB.out | apply z02 | apply z00 | apply z03 | refine z09 ?_ GE190.out | refine z09 ?_ GE192.out) | exact HB.out)⟩
                                · rw [if_neg c32] at H
                                  have c32b0 : (((z0f l0_0 x5_4).f0).toList == ((z0f l0_0 x3_2).f0).toList) = false := beq_eq_false_iff_ne.mpr c32
                                  have c32b1 : (((z0f l0_0 x5_4).f0).toList != ((z0f l0_0 x3_2).f0).toList) = true := bne_iff_ne.mpr c32
                                  have H' := z05.mk H
                                  clear H
                                  have hnb36 := NB190_192.out
                                  have hnc36 := NB192_190.out
                                  have hcz37_0 : wr.cell? ⟨gb190, 0, none⟩ = some (.slice (some ad191) l0_0.length c0_0) := (z04 BK190.out 0).trans rfl
                                  have hcz37_1 : wr.cell? ⟨gb190, 1, none⟩ = some (.int .i64 a0_1) := (z04 BK190.out 1).trans rfl
                                  have hcz37_2 : wr.cell? ⟨gb190, 2, none⟩ = some (.int .i64 a0_2) := (z04 BK190.out 2).trans rfl
                                  have hcz37_3 : wr.cell? ⟨gb190, 3, none⟩ = some (.int .i64 a0_3) := (z04 BK190.out 3).trans rfl
                                  have hcz37_4 : wr.cell? ⟨gb190, 4, none⟩ = some (.int .i64 a0_4) := (z04 BK190.out 4).trans rfl
                                  have hfz37_0 := z01 BK190.out 0
                                  have hfz37_1 := z01 BK190.out 1
                                  have hfz37_2 := z01 BK190.out 2
                                  have hfz37_3 := z01 BK190.out 3
                                  have hfz37_4 := z01 BK190.out 4
                                  have p194 : 0 ≤ (x5_4 : Int) := of_decide_eq_true (by first | (with_reducible assumption) | assumption)
                                  have q194 : x5_4 < (l0_0.length : Int) := of_decide_eq_true (by first | (with_reducible assumption) | assumption)
                                  obtain ⟨ad194, e194, hx194_0, hx194_1, hx194_2⟩ := z11 HR0_0.out x5_4 p194 q194
                                  obtain rfl : ad191 = ad194 := (by injection e194)
                                  replace hx194_0 := (HB.out.cell (World.block_lt_of_cell? w _ hx194_0)).trans hx194_0
                                  replace hx194_1 := (HB.out.cell (World.block_lt_of_cell? w _ hx194_1)).trans hx194_1
                                  replace hx194_2 := (HB.out.cell (World.block_lt_of_cell? w _ hx194_2)).trans hx194_2
                                  replace p194 := eq_true p194
                                  replace q194 := eq_true q194
                                  have hcz38_0 : wr.cell? ⟨gb192, 0, none⟩ = some (.string ((z0f l0_0 x3_2).f0)) := (z04 BK192.out 0).trans rfl
                                  have hcz38_1 : wr.cell? ⟨gb192, 1, none⟩ = some (.int .i64 ((z0f l0_0 x3_2).f1)) := (z04 BK192.out 1).trans rfl
                                  have hcz38_2 : wr.cell? ⟨gb192, 2, none⟩ = some (.bool ((z0f l0_0 x3_2).f2)) := (z04 BK192.out 2).trans rfl
                                  have hfz38_0 := z01 BK192.out 0
                                  have hfz38_1 := z01 BK192.out 1
                                  have hfz38_2 := z01 BK192.out 2
                                  go_wp2
                                  repeat (go_quiet (fail); try go_wp2)
                                  go_roundg k4
                                  case measure => have := HJ1.out; have := HK2.out; have := HJ13.out; have := HK4.out; omega
                                  case rel => exact ⟨(wrap64 (x5_4 + 1)), (by first | rfl | (simp; done) | (simp [*]; done)), H', ⟨by have := HJ1.out; have := HK2.out; have := HJ13.out; have := HK4.out; omega⟩, ⟨by (with_reducible repeat (first | refine z07 ?_ _ | refine z08 ?_ | refine z06 ?_ _)); exact BK190.out⟩, ⟨by (with_reducible repeat (first | refine z07 ?_ _ | refine z08 ?_ | refine z06 ?_ _)); exact BK192.out⟩, ⟨by repeat (first | (with_reducible first | exact HB.out | apply z02 | apply z00 | apply z03 | refine z09 ?_ GE190.out | refine z09 ?_ GE192.out) | exact HB.out)⟩⟩
                              · rw [if_neg c31] at H
                                exact absurd H (by simp)
                            · rw [if_neg c30] at H
                              exact absurd H (by simp)
                          · rw [if_neg c29] at H
                            have c29b0 : decide (x5_4 < x3_2) = false := decide_eq_false c29
                            clear c29
                            have H' := z05.mk H
                            clear H
                            go_wp2
                            repeat (go_quiet (fail); try go_wp2)
                            go_roundg k4
                            case measure => have := HJ1.out; have := HK2.out; have := HJ13.out; have := HK4.out; omega
                            case rel => exact ⟨(wrap64 (x3_2 + 1)), (by first | rfl | (simp; done) | (simp [*]; done)), H', ⟨by have := HJ1.out; have := HK2.out; have := HJ13.out; have := HK4.out; omega⟩, ⟨by (with_reducible repeat (first | refine z07 ?_ _ | refine z08 ?_ | refine z06 ?_ _)); exact BK190.out⟩, ⟨by repeat (first | (with_reducible first | exact HB.out | apply z02 | apply z00 | apply z03 | refine z09 ?_ GE190.out | refine z09 ?_ GE192.out) | exact HB.out)⟩⟩
              · rw [if_neg c13] at H
                exact absurd H (by simp)
            · rw [if_neg c12] at H
              have c12b0 : decide (x3_2 < (l0_0.length : Int)) = false := decide_eq_false c12
              clear c12
              by_cases c39 : a0_1 = (-1)
              · rw [if_pos c39] at H
                have c39b0 : (a0_1 == (-1)) = true := beq_iff_eq.mpr c39
                have c39b1 : (a0_1 != (-1)) = false := bne_eq_false_iff_eq.mpr c39
                clear c39
                by_cases c40 : a0_2 = (-1)
                · rw [if_pos c40] at H
                  have c40b0 : (a0_2 == (-1)) = true := beq_iff_eq.mpr c40
                  have c40b1 : (a0_2 != (-1)) = false := bne_eq_false_iff_eq.mpr c40
                  clear c40
                  obtain rfl := Option.some.inj H
                  have hcz41_0 : wr.cell? ⟨gb190, 0, none⟩ = some (.slice A0_0 l0_0.length c0_0) := (z04 BK190.out 0).trans rfl
                  have hcz41_1 : wr.cell? ⟨gb190, 1, none⟩ = some (.int .i64 a0_1) := (z04 BK190.out 1).trans rfl
                  have hcz41_2 : wr.cell? ⟨gb190, 2, none⟩ = some (.int .i64 a0_2) := (z04 BK190.out 2).trans rfl
                  have hcz41_3 : wr.cell? ⟨gb190, 3, none⟩ = some (.int .i64 a0_3) := (z04 BK190.out 3).trans rfl
                  have hcz41_4 : wr.cell? ⟨gb190, 4, none⟩ = some (.int .i64 a0_4) := (z04 BK190.out 4).trans rfl
                  have hfz41_0 := z01 BK190.out 0
                  have hfz41_1 := z01 BK190.out 1
                  have hfz41_2 := z01 BK190.out 2
                  have hfz41_3 := z01 BK190.out 3
                  have hfz41_4 := z01 BK190.out 4
                  go_wp2
                  repeat (go_quiet (fail); try go_wp2)
                  go_ret
                  exact ⟨by first | rfl | (simp [z0d, z0c] <;> rfl) | (refine congrArg (fun b_ : Bool => Ending.returned (Value.bool b_)) ?_; simp; done) | (simp [*, z0d, z0c] <;> rfl), by repeat (first | (with_reducible first | exact HB.out | apply z02 | apply z00 | apply z03 | refine z09 ?_ GE190.out) | exact HB.out)⟩
                · rw [if_neg c40] at H
                  have c40b0 : (a0_2 == (-1)) = false := beq_eq_false_iff_ne.mpr c40
                  have c40b1 : (a0_2 != (-1)) = true := bne_iff_ne.mpr c40
                  obtain rfl := Option.some.inj H
                  have hcz42_0 : wr.cell? ⟨gb190, 0, none⟩ = some (.slice A0_0 l0_0.length c0_0) := (z04 BK190.out 0).trans rfl
                  have hcz42_1 : wr.cell? ⟨gb190, 1, none⟩ = some (.int .i64 a0_1) := (z04 BK190.out 1).trans rfl
                  have hcz42_2 : wr.cell? ⟨gb190, 2, none⟩ = some (.int .i64 a0_2) := (z04 BK190.out 2).trans rfl
                  have hcz42_3 : wr.cell? ⟨gb190, 3, none⟩ = some (.int .i64 a0_3) := (z04 BK190.out 3).trans rfl
                  have hcz42_4 : wr.cell? ⟨gb190, 4, none⟩ = some (.int .i64 a0_4) := (z04 BK190.out 4).trans rfl
                  have hfz42_0 := z01 BK190.out 0
                  have hfz42_1 := z01 BK190.out 1
                  have hfz42_2 := z01 BK190.out 2
                  have hfz42_3 := z01 BK190.out 3
                  have hfz42_4 := z01 BK190.out 4
                  go_wp2
                  repeat (go_quiet (fail); try go_wp2)
                  go_ret
                  exact ⟨by first | rfl | (simp [z0d, z0c] <;> rfl) | (refine congrArg (fun b_ : Bool => Ending.returned (Value.bool b_)) ?_; simp; done) | (simp [*, z0d, z0c] <;> rfl), by repeat (first | (with_reducible first | exact HB.out | apply z02 | apply z00 | apply z03 | refine z09 ?_ GE190.out) | exact HB.out)⟩
              · rw [if_neg c39] at H
                have c39b0 : (a0_1 == (-1)) = false := beq_eq_false_iff_ne.mpr c39
                have c39b1 : (a0_1 != (-1)) = true := bne_iff_ne.mpr c39
                replace H := Option.bind_eq_some_iff.mp H
                obtain ⟨t195, A430, H⟩ := H
                replace H : (if t195 = true then ((winnowerref07_whole.f l0_0 a0_1 a0_2 a0_3 a0_4 a0_2).bind fun t196 => (if t196 = true then (if 0 ≤ a0_2 then (if a0_2 < (l0_0.length : Int) then (if ((z0f l0_0 a0_2).f1) = 1 then (if a0_3 = (-1) then (some true) else ((winnowerref07_whole.f l0_0 a0_1 a0_2 a0_3 a0_4 a0_3).bind fun t198 => (if t198 = true then (if 0 ≤ a0_3 then (if a0_3 < (l0_0.length : Int) then (some (((z0f l0_0 a0_3).f1) == 3)) else (none)) else (none)) else (some false)))) else (some false)) else (none)) else (none)) else (some false))) else (some false)) = some r := H
                have A43 := z05.mk A430
                clear A430
                by_cases c44 : t195 = true
                · subst c44
                  have H1 : ((winnowerref07_whole.f l0_0 a0_1 a0_2 a0_3 a0_4 a0_2).bind fun t196 => (if t196 = true then (if 0 ≤ a0_2 then (if a0_2 < (l0_0.length : Int) then (if ((z0f l0_0 a0_2).f1) = 1 then (if a0_3 = (-1) then (some true) else ((winnowerref07_whole.f l0_0 a0_1 a0_2 a0_3 a0_4 a0_3).bind fun t198 => (if t198 = true then (if 0 ≤ a0_3 then (if a0_3 < (l0_0.length : Int) then (some (((z0f l0_0 a0_3).f1) == 3)) else (none)) else (none)) else (some false)))) else (some false)) else (none)) else (none)) else (some false))) = some r := by rw [if_pos rfl] at H; exact H
                  clear H
                  have H := H1
                  clear H1
                  replace H := Option.bind_eq_some_iff.mp H
                  obtain ⟨t196, A450, H⟩ := H
                  replace H : (if t196 = true then (if 0 ≤ a0_2 then (if a0_2 < (l0_0.length : Int) then (if ((z0f l0_0 a0_2).f1) = 1 then (if a0_3 = (-1) then (some true) else ((winnowerref07_whole.f l0_0 a0_1 a0_2 a0_3 a0_4 a0_3).bind fun t198 => (if t198 = true then (if 0 ≤ a0_3 then (if a0_3 < (l0_0.length : Int) then (some (((z0f l0_0 a0_3).f1) == 3)) else (none)) else (none)) else (some false)))) else (some false)) else (none)) else (none)) else (some false)) = some r := H
                  have A45 := z05.mk A450
                  clear A450
                  by_cases c46 : t196 = true
                  · subst c46
                    have H1 : (if 0 ≤ a0_2 then (if a0_2 < (l0_0.length : Int) then (if ((z0f l0_0 a0_2).f1) = 1 then (if a0_3 = (-1) then (some true) else ((winnowerref07_whole.f l0_0 a0_1 a0_2 a0_3 a0_4 a0_3).bind fun t198 => (if t198 = true then (if 0 ≤ a0_3 then (if a0_3 < (l0_0.length : Int) then (some (((z0f l0_0 a0_3).f1) == 3)) else (none)) else (none)) else (some false)))) else (some false)) else (none)) else (none)) = some r := by rw [if_pos rfl] at H; exact H
                    clear H
                    have H := H1
                    clear H1
                    by_cases c47 : 0 ≤ a0_2
                    · rw [if_pos c47] at H
                      have c47b0 : decide (0 ≤ a0_2) = true := decide_eq_true c47
                      clear c47
                      by_cases c48 : a0_2 < (l0_0.length : Int)
                      · rw [if_pos c48] at H
                        have c48b0 : decide (a0_2 < (l0_0.length : Int)) = true := decide_eq_true c48
                        clear c48
                        by_cases c49 : ((z0f l0_0 a0_2).f1) = 1
                        · rw [if_pos c49] at H
                          have c49b0 : (((z0f l0_0 a0_2).f1) == 1) = true := beq_iff_eq.mpr c49
                          have c49b1 : (((z0f l0_0 a0_2).f1) != 1) = false := bne_eq_false_iff_eq.mpr c49
                          clear c49
                          by_cases c50 : a0_3 = (-1)
                          · rw [if_pos c50] at H
                            have c50b0 : (a0_3 == (-1)) = true := beq_iff_eq.mpr c50
                            have c50b1 : (a0_3 != (-1)) = false := bne_eq_false_iff_eq.mpr c50
                            clear c50
                            obtain rfl := Option.some.inj H
                            have hcz51_0 : wr.cell? ⟨gb190, 0, none⟩ = some (.slice A0_0 l0_0.length c0_0) := (z04 BK190.out 0).trans rfl
                            have hcz51_1 : wr.cell? ⟨gb190, 1, none⟩ = some (.int .i64 a0_1) := (z04 BK190.out 1).trans rfl
                            have hcz51_2 : wr.cell? ⟨gb190, 2, none⟩ = some (.int .i64 a0_2) := (z04 BK190.out 2).trans rfl
                            have hcz51_3 : wr.cell? ⟨gb190, 3, none⟩ = some (.int .i64 a0_3) := (z04 BK190.out 3).trans rfl
                            have hcz51_4 : wr.cell? ⟨gb190, 4, none⟩ = some (.int .i64 a0_4) := (z04 BK190.out 4).trans rfl
                            have hfz51_0 := z01 BK190.out 0
                            have hfz51_1 := z01 BK190.out 1
                            have hfz51_2 := z01 BK190.out 2
                            have hfz51_3 := z01 BK190.out 3
                            have hfz51_4 := z01 BK190.out 4
                            go_wp2_with (first | (go_at_call 30; (with_reducible refine (winnowerref07_whole.calls _ _ l0_0 a0_1 a0_2 a0_3 a0_4 a0_1 true _ ?side1 ?side2 A43.out).mono ?_); (case side1 => repeat (first | exact (Kd.C_below HR0_0.out HB.out) | (with_reducible refine Kd.C_alloc ?_ _) | (with_reducible refine Kd.C_drewN ?_ _) | (with_reducible refine Kd.C_drew ?_))); (case side2 => exact HC0_0.out); rintro e w52 ⟨rfl, hb⟩; have n0_ := z05.mk (z0e (g := gb190) (o := .cells #[.slice A0_0 l0_0.length c0_0, .int .i64 a0_1, .int .i64 a0_2, .int .i64 a0_3, .int .i64 a0_4] 24 (0, 0)) (by (with_reducible repeat (first | refine z07 ?_ _ | refine z08 ?_ | refine z06 ?_ _)); exact BK190.out) hb); have n1_ := z05.mk (z0a (by repeat (first | (with_reducible first | exact HB.out | apply z02 | apply z00 | apply z03 | refine z09 ?_ GE190.out) | exact HB.out)) hb); clear BK190; clear HB; have BK190 := n0_; have HB := n1_; clear n0_ n1_; (try clear hb); (try clear hb2); (try clear hk); (try clear hi); have hcz53_0 : w52.cell? ⟨gb190, 0, none⟩ = some (.slice A0_0 l0_0.length c0_0) := (z04 BK190.out 0).trans rfl; have hcz53_1 : w52.cell? ⟨gb190, 1, none⟩ = some (.int .i64 a0_1) := (z04 BK190.out 1).trans rfl; have hcz53_2 : w52.cell? ⟨gb190, 2, none⟩ = some (.int .i64 a0_2) := (z04 BK190.out 2).trans rfl; have hcz53_3 : w52.cell? ⟨gb190, 3, none⟩ = some (.int .i64 a0_3) := (z04 BK190.out 3).trans rfl; have hcz53_4 : w52.cell? ⟨gb190, 4, none⟩ = some (.int .i64 a0_4) := (z04 BK190.out 4).trans rfl; have hfz53_0 := z01 BK190.out 0; have hfz53_1 := z01 BK190.out 1; have hfz53_2 := z01 BK190.out 2; have hfz53_3 := z01 BK190.out 3; have hfz53_4 := z01 BK190.out 4) | (go_at_call 30; (with_reducible refine (winnowerref07_whole.calls _ _ l0_0 a0_1 a0_2 a0_3 a0_4 a0_2 true _ ?side1 ?side2 A45.out).mono ?_); (case side1 => repeat (first | exact (Kd.C_below HR0_0.out HB.out) | (with_reducible refine Kd.C_alloc ?_ _) | (with_reducible refine Kd.C_drewN ?_ _) | (with_reducible refine Kd.C_drew ?_))); (case side2 => exact HC0_0.out); rintro e w54 ⟨rfl, hb⟩; have n0_ := z05.mk (z0e (g := gb190) (o := .cells #[.slice A0_0 l0_0.length c0_0, .int .i64 a0_1, .int .i64 a0_2, .int .i64 a0_3, .int .i64 a0_4] 24 (0, 0)) (by (with_reducible repeat (first | refine z07 ?_ _ | refine z08 ?_ | refine z06 ?_ _)); exact BK190.out) hb); have n1_ := z05.mk (z0a (by repeat (first | (with_reducible first | exact HB.out | apply z02 | apply z00 | apply z03 | refine z09 ?_ GE190.out) | exact HB.out)) hb); clear BK190; clear HB; have BK190 := n0_; have HB := n1_; clear n0_ n1_; (try clear hb); (try clear hb2); (try clear hk); (try clear hi); have hcz55_0 : w54.cell? ⟨gb190, 0, none⟩ = some (.slice A0_0 l0_0.length c0_0) := (z04 BK190.out 0).trans rfl; have hcz55_1 : w54.cell? ⟨gb190, 1, none⟩ = some (.int .i64 a0_1) := (z04 BK190.out 1).trans rfl; have hcz55_2 : w54.cell? ⟨gb190, 2, none⟩ = some (.int .i64 a0_2) := (z04 BK190.out 2).trans rfl; have hcz55_3 : w54.cell? ⟨gb190, 3, none⟩ = some (.int .i64 a0_3) := (z04 BK190.out 3).trans rfl; have hcz55_4 : w54.cell? ⟨gb190, 4, none⟩ = some (.int .i64 a0_4) := (z04 BK190.out 4).trans rfl; have hfz55_0 := z01 BK190.out 0; have hfz55_1 := z01 BK190.out 1; have hfz55_2 := z01 BK190.out 2; have hfz55_3 := z01 BK190.out 3; have hfz55_4 := z01 BK190.out 4; have p197 : 0 ≤ (a0_2 : Int) := of_decide_eq_true (by first | (with_reducible assumption) | assumption); have q197 : a0_2 < (l0_0.length : Int) := of_decide_eq_true (by first | (with_reducible assumption) | assumption); obtain ⟨ad197, e197, hx197_0, hx197_1, hx197_2⟩ := z11 HR0_0.out a0_2 p197 q197; cases e197; replace hx197_0 := (HB.out.cell (World.block_lt_of_cell? w _ hx197_0)).trans hx197_0; replace hx197_1 := (HB.out.cell (World.block_lt_of_cell? w _ hx197_1)).trans hx197_1; replace hx197_2 := (HB.out.cell (World.block_lt_of_cell? w _ hx197_2)).trans hx197_2; replace p197 := eq_true p197; replace q197 := eq_true q197))
                            repeat (go_quiet (first | (go_at_call 30; (with_reducible refine (winnowerref07_whole.calls _ _ l0_0 a0_1 a0_2 a0_3 a0_4 a0_1 true _ ?side1 ?side2 A43.out).mono ?_); (case side1 => repeat (first | exact (Kd.C_below HR0_0.out HB.out) | (with_reducible refine Kd.C_alloc ?_ _) | (with_reducible refine Kd.C_drewN ?_ _) | (with_reducible refine Kd.C_drew ?_))); (case side2 => exact HC0_0.out); rintro e w52 ⟨rfl, hb⟩; have n0_ := z05.mk (z0e (g := gb190) (o := .cells #[.slice A0_0 l0_0.length c0_0, .int .i64 a0_1, .int .i64 a0_2, .int .i64 a0_3, .int .i64 a0_4] 24 (0, 0)) (by (with_reducible repeat (first | refine z07 ?_ _ | refine z08 ?_ | refine z06 ?_ _)); exact BK190.out) hb); have n1_ := z05.mk (z0a (by repeat (first | (with_reducible first | exact HB.out | apply z02 | apply z00 | apply z03 | refine z09 ?_ GE190.out) | exact HB.out)) hb); clear BK190; clear HB; have BK190 := n0_; have HB := n1_; clear n0_ n1_; (try clear hb); (try clear hb2); (try clear hk); (try clear hi); have hcz53_0 : w52.cell? ⟨gb190, 0, none⟩ = some (.slice A0_0 l0_0.length c0_0) := (z04 BK190.out 0).trans rfl; have hcz53_1 : w52.cell? ⟨gb190, 1, none⟩ = some (.int .i64 a0_1) := (z04 BK190.out 1).trans rfl; have hcz53_2 : w52.cell? ⟨gb190, 2, none⟩ = some (.int .i64 a0_2) := (z04 BK190.out 2).trans rfl; have hcz53_3 : w52.cell? ⟨gb190, 3, none⟩ = some (.int .i64 a0_3) := (z04 BK190.out 3).trans rfl; have hcz53_4 : w52.cell? ⟨gb190, 4, none⟩ = some (.int .i64 a0_4) := (z04 BK190.out 4).trans rfl; have hfz53_0 := z01 BK190.out 0; have hfz53_1 := z01 BK190.out 1; have hfz53_2 := z01 BK190.out 2; have hfz53_3 := z01 BK190.out 3; have hfz53_4 := z01 BK190.out 4) | (go_at_call 30; (with_reducible refine (winnowerref07_whole.calls _ _ l0_0 a0_1 a0_2 a0_3 a0_4 a0_2 true _ ?side1 ?side2 A45.out).mono ?_); (case side1 => repeat (first | exact (Kd.C_below HR0_0.out HB.out) | (with_reducible refine Kd.C_alloc ?_ _) | (with_reducible refine Kd.C_drewN ?_ _) | (with_reducible refine Kd.C_drew ?_))); (case side2 => exact HC0_0.out); rintro e w54 ⟨rfl, hb⟩; have n0_ := z05.mk (z0e (g := gb190) (o := .cells #[.slice A0_0 l0_0.length c0_0, .int .i64 a0_1, .int .i64 a0_2, .int .i64 a0_3, .int .i64 a0_4] 24 (0, 0)) (by (with_reducible repeat (first | refine z07 ?_ _ | refine z08 ?_ | refine z06 ?_ _)); exact BK190.out) hb); have n1_ := z05.mk (z0a (by repeat (first | (with_reducible first | exact HB.out | apply z02 | apply z00 | apply z03 | refine z09 ?_ GE190.out) | exact HB.out)) hb); clear BK190; clear HB; have BK190 := n0_; have HB := n1_; clear n0_ n1_; (try clear hb); (try clear hb2); (try clear hk); (try clear hi); have hcz55_0 : w54.cell? ⟨gb190, 0, none⟩ = some (.slice A0_0 l0_0.length c0_0) := (z04 BK190.out 0).trans rfl; have hcz55_1 : w54.cell? ⟨gb190, 1, none⟩ = some (.int .i64 a0_1) := (z04 BK190.out 1).trans rfl; have hcz55_2 : w54.cell? ⟨gb190, 2, none⟩ = some (.int .i64 a0_2) := (z04 BK190.out 2).trans rfl; have hcz55_3 : w54.cell? ⟨gb190, 3, none⟩ = some (.int .i64 a0_3) := (z04 BK190.out 3).trans rfl; have hcz55_4 : w54.cell? ⟨gb190, 4, none⟩ = some (.int .i64 a0_4) := (z04 BK190.out 4).trans rfl; have hfz55_0 := z01 BK190.out 0; have hfz55_1 := z01 BK190.out 1; have hfz55_2 := z01 BK190.out 2; have hfz55_3 := z01 BK190.out 3; have hfz55_4 := z01 BK190.out 4; have p197 : 0 ≤ (a0_2 : Int) := of_decide_eq_true (by first | (with_reducible assumption) | assumption); have q197 : a0_2 < (l0_0.length : Int) := of_decide_eq_true (by first | (with_reducible assumption) | assumption); obtain ⟨ad197, e197, hx197_0, hx197_1, hx197_2⟩ := z11 HR0_0.out a0_2 p197 q197; cases e197; replace hx197_0 := (HB.out.cell (World.block_lt_of_cell? w _ hx197_0)).trans hx197_0; replace hx197_1 := (HB.out.cell (World.block_lt_of_cell? w _ hx197_1)).trans hx197_1; replace hx197_2 := (HB.out.cell (World.block_lt_of_cell? w _ hx197_2)).trans hx197_2; replace p197 := eq_true p197; replace q197 := eq_true q197)); try go_wp2_with (first | (go_at_call 30; (with_reducible refine (winnowerref07_whole.calls _ _ l0_0 a0_1 a0_2 a0_3 a0_4 a0_1 true _ ?side1 ?side2 A43.out).mono ?_); (case side1 => repeat (first | exact (Kd.C_below HR0_0.out HB.out) | (with_reducible refine Kd.C_alloc ?_ _) | (with_reducible refine Kd.C_drewN ?_ _) | (with_reducible refine Kd.C_drew ?_))); (case side2 => exact HC0_0.out); rintro e w52 ⟨rfl, hb⟩; have n0_ := z05.mk (z0e (g := gb190) (o := .cells #[.slice A0_0 l0_0.length c0_0, .int .i64 a0_1, .int .i64 a0_2, .int .i64 a0_3, .int .i64 a0_4] 24 (0, 0)) (by (with_reducible repeat (first | refine z07 ?_ _ | refine z08 ?_ | refine z06 ?_ _)); exact BK190.out) hb); have n1_ := z05.mk (z0a (by repeat (first | (with_reducible first | exact HB.out | apply z02 | apply z00 | apply z03 | refine z09 ?_ GE190.out) | exact HB.out)) hb); clear BK190; clear HB; have BK190 := n0_; have HB := n1_; clear n0_ n1_; (try clear hb); (try clear hb2); (try clear hk); (try clear hi); have hcz53_0 : w52.cell? ⟨gb190, 0, none⟩ = some (.slice A0_0 l0_0.length c0_0) := (z04 BK190.out 0).trans rfl; have hcz53_1 : w52.cell? ⟨gb190, 1, none⟩ = some (.int .i64 a0_1) := (z04 BK190.out 1).trans rfl; have hcz53_2 : w52.cell? ⟨gb190, 2, none⟩ = some (.int .i64 a0_2) := (z04 BK190.out 2).trans rfl; have hcz53_3 : w52.cell? ⟨gb190, 3, none⟩ = some (.int .i64 a0_3) := (z04 BK190.out 3).trans rfl; have hcz53_4 : w52.cell? ⟨gb190, 4, none⟩ = some (.int .i64 a0_4) := (z04 BK190.out 4).trans rfl; have hfz53_0 := z01 BK190.out 0; have hfz53_1 := z01 BK190.out 1; have hfz53_2 := z01 BK190.out 2; have hfz53_3 := z01 BK190.out 3; have hfz53_4 := z01 BK190.out 4) | (go_at_call 30; (with_reducible refine (winnowerref07_whole.calls _ _ l0_0 a0_1 a0_2 a0_3 a0_4 a0_2 true _ ?side1 ?side2 A45.out).mono ?_); (case side1 => repeat (first | exact (Kd.C_below HR0_0.out HB.out) | (with_reducible refine Kd.C_alloc ?_ _) | (with_reducible refine Kd.C_drewN ?_ _) | (with_reducible refine Kd.C_drew ?_))); (case side2 => exact HC0_0.out); rintro e w54 ⟨rfl, hb⟩; have n0_ := z05.mk (z0e (g := gb190) (o := .cells #[.slice A0_0 l0_0.length c0_0, .int .i64 a0_1, .int .i64 a0_2, .int .i64 a0_3, .int .i64 a0_4] 24 (0, 0)) (by (with_reducible repeat (first | refine z07 ?_ _ | refine z08 ?_ | refine z06 ?_ _)); exact BK190.out) hb); have n1_ := z05.mk (z0a (by repeat (first | (with_reducible first | exact HB.out | apply z02 | apply z00 | apply z03 | refine z09 ?_ GE190.out) | exact HB.out)) hb); clear BK190; clear HB; have BK190 := n0_; have HB := n1_; clear n0_ n1_; (try clear hb); (try clear hb2); (try clear hk); (try clear hi); have hcz55_0 : w54.cell? ⟨gb190, 0, none⟩ = some (.slice A0_0 l0_0.length c0_0) := (z04 BK190.out 0).trans rfl; have hcz55_1 : w54.cell? ⟨gb190, 1, none⟩ = some (.int .i64 a0_1) := (z04 BK190.out 1).trans rfl; have hcz55_2 : w54.cell? ⟨gb190, 2, none⟩ = some (.int .i64 a0_2) := (z04 BK190.out 2).trans rfl; have hcz55_3 : w54.cell? ⟨gb190, 3, none⟩ = some (.int .i64 a0_3) := (z04 BK190.out 3).trans rfl; have hcz55_4 : w54.cell? ⟨gb190, 4, none⟩ = some (.int .i64 a0_4) := (z04 BK190.out 4).trans rfl; have hfz55_0 := z01 BK190.out 0; have hfz55_1 := z01 BK190.out 1; have hfz55_2 := z01 BK190.out 2; have hfz55_3 := z01 BK190.out 3; have hfz55_4 := z01 BK190.out 4; have p197 : 0 ≤ (a0_2 : Int) := of_decide_eq_true (by first | (with_reducible assumption) | assumption); have q197 : a0_2 < (l0_0.length : Int) := of_decide_eq_true (by first | (with_reducible assumption) | assumption); obtain ⟨ad197, e197, hx197_0, hx197_1, hx197_2⟩ := z11 HR0_0.out a0_2 p197 q197; cases e197; replace hx197_0 := (HB.out.cell (World.block_lt_of_cell? w _ hx197_0)).trans hx197_0; replace hx197_1 := (HB.out.cell (World.block_lt_of_cell? w _ hx197_1)).trans hx197_1; replace hx197_2 := (HB.out.cell (World.block_lt_of_cell? w _ hx197_2)).trans hx197_2; replace p197 := eq_true p197; replace q197 := eq_true q197)))
                            go_ret
                            exact ⟨by first | rfl | (simp [z0d, z0c] <;> rfl) | (refine congrArg (fun b_ : Bool => Ending.returned (Value.bool b_)) ?_; simp; done) | (simp [*, z0d, z0c] <;> rfl), by repeat (first | (with_reducible first | exact HB.out | apply z02 | apply z00 | apply z03 | refine z09 ?_ GE190.out) | exact HB.out)⟩
                          · rw [if_neg c50] at H
                            have c50b0 : (a0_3 == (-1)) = false := beq_eq_false_iff_ne.mpr c50
                            have c50b1 : (a0_3 != (-1)) = true := bne_iff_ne.mpr c50
                            replace H := Option.bind_eq_some_iff.mp H
                            obtain ⟨t198, A560, H⟩ := H
                            replace H : (if t198 = true then (if 0 ≤ a0_3 then (if a0_3 < (l0_0.length : Int) then (some (((z0f l0_0 a0_3).f1) == 3)) else (none)) else (none)) else (some false)) = some r := H
                            have A56 := z05.mk A560
                            clear A560
                            by_cases c57 : t198 = true
                            · subst c57
                              have H1 : (if 0 ≤ a0_3 then (if a0_3 < (l0_0.length : Int) then (some (((z0f l0_0 a0_3).f1) == 3)) else (none)) else (none)) = some r := by rw [if_pos rfl] at H; exact H
                              clear H
                              have H := H1
                              clear H1
                              by_cases c58 : 0 ≤ a0_3
                              · rw [if_pos c58] at H
                                have c58b0 : decide (0 ≤ a0_3) = true := decide_eq_true c58
                                clear c58
                                by_cases c59 : a0_3 < (l0_0.length : Int)
                                · rw [if_pos c59] at H
                                  have c59b0 : decide (a0_3 < (l0_0.length : Int)) = true := decide_eq_true c59
                                  clear c59
                                  obtain rfl := Option.some.inj H
                                  have hcz60_0 : wr.cell? ⟨gb190, 0, none⟩ = some (.slice A0_0 l0_0.length c0_0) := (z04 BK190.out 0).trans rfl
                                  have hcz60_1 : wr.cell? ⟨gb190, 1, none⟩ = some (.int .i64 a0_1) := (z04 BK190.out 1).trans rfl
                                  have hcz60_2 : wr.cell? ⟨gb190, 2, none⟩ = some (.int .i64 a0_2) := (z04 BK190.out 2).trans rfl
                                  have hcz60_3 : wr.cell? ⟨gb190, 3, none⟩ = some (.int .i64 a0_3) := (z04 BK190.out 3).trans rfl
                                  have hcz60_4 : wr.cell? ⟨gb190, 4, none⟩ = some (.int .i64 a0_4) := (z04 BK190.out 4).trans rfl
                                  have hfz60_0 := z01 BK190.out 0
                                  have hfz60_1 := z01 BK190.out 1
                                  have hfz60_2 := z01 BK190.out 2
                                  have hfz60_3 := z01 BK190.out 3
                                  have hfz60_4 := z01 BK190.out 4
                                  go_wp2_with (first | (go_at_call 30; (with_reducible refine (winnowerref07_whole.calls _ _ l0_0 a0_1 a0_2 a0_3 a0_4 a0_1 true _ ?side1 ?side2 A43.out).mono ?_); (case side1 => repeat (first | exact (Kd.C_below HR0_0.out HB.out) | (with_reducible refine Kd.C_alloc ?_ _) | (with_reducible refine Kd.C_drewN ?_ _) | (with_reducible refine Kd.C_drew ?_))); (case side2 => exact HC0_0.out); rintro e w61 ⟨rfl, hb⟩; have n0_ := z05.mk (z0e (g := gb190) (o := .cells #[.slice A0_0 l0_0.length c0_0, .int .i64 a0_1, .int .i64 a0_2, .int .i64 a0_3, .int .i64 a0_4] 24 (0, 0)) (by (with_reducible repeat (first | refine z07 ?_ _ | refine z08 ?_ | refine z06 ?_ _)); exact BK190.out) hb); have n1_ := z05.mk (z0a (by repeat (first | (with_reducible first | exact HB.out | apply z02 | apply z00 | apply z03 | refine z09 ?_ GE190.out) | exact HB.out)) hb); clear BK190; clear HB; have BK190 := n0_; have HB := n1_; clear n0_ n1_; (try clear hb); (try clear hb2); (try clear hk); (try clear hi); have hcz62_0 : w61.cell? ⟨gb190, 0, none⟩ = some (.slice A0_0 l0_0.length c0_0) := (z04 BK190.out 0).trans rfl; have hcz62_1 : w61.cell? ⟨gb190, 1, none⟩ = some (.int .i64 a0_1) := (z04 BK190.out 1).trans rfl; have hcz62_2 : w61.cell? ⟨gb190, 2, none⟩ = some (.int .i64 a0_2) := (z04 BK190.out 2).trans rfl; have hcz62_3 : w61.cell? ⟨gb190, 3, none⟩ = some (.int .i64 a0_3) := (z04 BK190.out 3).trans rfl; have hcz62_4 : w61.cell? ⟨gb190, 4, none⟩ = some (.int .i64 a0_4) := (z04 BK190.out 4).trans rfl; have hfz62_0 := z01 BK190.out 0; have hfz62_1 := z01 BK190.out 1; have hfz62_2 := z01 BK190.out 2; have hfz62_3 := z01 BK190.out 3; have hfz62_4 := z01 BK190.out 4) | (go_at_call 30; (with_reducible refine (winnowerref07_whole.calls _ _ l0_0 a0_1 a0_2 a0_3 a0_4 a0_2 true _ ?side1 ?side2 A45.out).mono ?_); (case side1 => repeat (first | exact (Kd.C_below HR0_0.out HB.out) | (with_reducible refine Kd.C_alloc ?_ _) | (with_reducible refine Kd.C_drewN ?_ _) | (with_reducible refine Kd.C_drew ?_))); (case side2 => exact HC0_0.out); rintro e w63 ⟨rfl, hb⟩; have n0_ := z05.mk (z0e (g := gb190) (o := .cells #[.slice A0_0 l0_0.length c0_0, .int .i64 a0_1, .int .i64 a0_2, .int .i64 a0_3, .int .i64 a0_4] 24 (0, 0)) (by (with_reducible repeat (first | refine z07 ?_ _ | refine z08 ?_ | refine z06 ?_ _)); exact BK190.out) hb); have n1_ := z05.mk (z0a (by repeat (first | (with_reducible first | exact HB.out | apply z02 | apply z00 | apply z03 | refine z09 ?_ GE190.out) | exact HB.out)) hb); clear BK190; clear HB; have BK190 := n0_; have HB := n1_; clear n0_ n1_; (try clear hb); (try clear hb2); (try clear hk); (try clear hi); have hcz64_0 : w63.cell? ⟨gb190, 0, none⟩ = some (.slice A0_0 l0_0.length c0_0) := (z04 BK190.out 0).trans rfl; have hcz64_1 : w63.cell? ⟨gb190, 1, none⟩ = some (.int .i64 a0_1) := (z04 BK190.out 1).trans rfl; have hcz64_2 : w63.cell? ⟨gb190, 2, none⟩ = some (.int .i64 a0_2) := (z04 BK190.out 2).trans rfl; have hcz64_3 : w63.cell? ⟨gb190, 3, none⟩ = some (.int .i64 a0_3) := (z04 BK190.out 3).trans rfl; have hcz64_4 : w63.cell? ⟨gb190, 4, none⟩ = some (.int .i64 a0_4) := (z04 BK190.out 4).trans rfl; have hfz64_0 := z01 BK190.out 0; have hfz64_1 := z01 BK190.out 1; have hfz64_2 := z01 BK190.out 2; have hfz64_3 := z01 BK190.out 3; have hfz64_4 := z01 BK190.out 4; have p197 : 0 ≤ (a0_2 : Int) := of_decide_eq_true (by first | (with_reducible assumption) | assumption); have q197 : a0_2 < (l0_0.length : Int) := of_decide_eq_true (by first | (with_reducible assumption) | assumption); obtain ⟨ad197, e197, hx197_0, hx197_1, hx197_2⟩ := z11 HR0_0.out a0_2 p197 q197; cases e197; replace hx197_0 := (HB.out.cell (World.block_lt_of_cell? w _ hx197_0)).trans hx197_0; replace hx197_1 := (HB.out.cell (World.block_lt_of_cell? w _ hx197_1)).trans hx197_1; replace hx197_2 := (HB.out.cell (World.block_lt_of_cell? w _ hx197_2)).trans hx197_2; replace p197 := eq_true p197; replace q197 := eq_true q197) | (go_at_call 30; (with_reducible refine (winnowerref07_whole.calls _ _ l0_0 a0_1 a0_2 a0_3 a0_4 a0_3 true _ ?side1 ?side2 A56.out).mono ?_); (case side1 => repeat (first | exact (Kd.C_below HR0_0.out HB.out) | (with_reducible refine Kd.C_alloc ?_ _) | (with_reducible refine Kd.C_drewN ?_ _) | (with_reducible refine Kd.C_drew ?_))); (case side2 => exact HC0_0.out); rintro e w65 ⟨rfl, hb⟩; have n0_ := z05.mk (z0e (g := gb190) (o := .cells #[.slice (some ad197) l0_0.length c0_0, .int .i64 a0_1, .int .i64 a0_2, .int .i64 a0_3, .int .i64 a0_4] 24 (0, 0)) (by (with_reducible repeat (first | refine z07 ?_ _ | refine z08 ?_ | refine z06 ?_ _)); exact BK190.out) hb); have n1_ := z05.mk (z0a (by repeat (first | (with_reducible first | exact HB.out | apply z02 | apply z00 | apply z03 | refine z09 ?_ GE190.out) | exact HB.out)) hb); clear BK190; clear HB; have BK190 := n0_; have HB := n1_; clear n0_ n1_; (try clear hb); (try clear hb2); (try clear hk); (try clear hi); have hcz66_0 : w65.cell? ⟨gb190, 0, none⟩ = some (.slice (some ad197) l0_0.length c0_0) := (z04 BK190.out 0).trans rfl; have hcz66_1 : w65.cell? ⟨gb190, 1, none⟩ = some (.int .i64 a0_1) := (z04 BK190.out 1).trans rfl; have hcz66_2 : w65.cell? ⟨gb190, 2, none⟩ = some (.int .i64 a0_2) := (z04 BK190.out 2).trans rfl; have hcz66_3 : w65.cell? ⟨gb190, 3, none⟩ = some (.int .i64 a0_3) := (z04 BK190.out 3).trans rfl; have hcz66_4 : w65.cell? ⟨gb190, 4, none⟩ = some (.int .i64 a0_4) := (z04 BK190.out 4).trans rfl; have hfz66_0 := z01 BK190.out 0; have hfz66_1 := z01 BK190.out 1; have hfz66_2 := z01 BK190.out 2; have hfz66_3 := z01 BK190.out 3; have hfz66_4 := z01 BK190.out 4; have p199 : 0 ≤ (a0_3 : Int) := of_decide_eq_true (by first | (with_reducible assumption) | assumption); have q199 : a0_3 < (l0_0.length : Int) := of_decide_eq_true (by first | (with_reducible assumption) | assumption); obtain ⟨ad199, e199, hx199_0, hx199_1, hx199_2⟩ := z11 HR0_0.out a0_3 p199 q199; obtain rfl : ad197 = ad199 := (by injection e199); replace hx199_0 := (HB.out.cell (World.block_lt_of_cell? w _ hx199_0)).trans hx199_0; replace hx199_1 := (HB.out.cell (World.block_lt_of_cell? w _ hx199_1)).trans hx199_1; replace hx199_2 := (HB.out.cell (World.block_lt_of_cell? w _ hx199_2)).trans hx199_2; replace p199 := eq_true p199; replace q199 := eq_true q199))
                                  repeat (go_quiet (first | (go_at_call 30; (with_reducible refine (winnowerref07_whole.calls _ _ l0_0 a0_1 a0_2 a0_3 a0_4 a0_1 true _ ?side1 ?side2 A43.out).mono ?_); (case side1 => repeat (first | exact (Kd.C_below HR0_0.out HB.out) | (with_reducible refine Kd.C_alloc ?_ _) | (with_reducible refine Kd.C_drewN ?_ _) | (with_reducible refine Kd.C_drew ?_))); (case side2 => exact HC0_0.out); rintro e w61 ⟨rfl, hb⟩; have n0_ := z05.mk (z0e (g := gb190) (o := .cells #[.slice A0_0 l0_0.length c0_0, .int .i64 a0_1, .int .i64 a0_2, .int .i64 a0_3, .int .i64 a0_4] 24 (0, 0)) (by (with_reducible repeat (first | refine z07 ?_ _ | refine z08 ?_ | refine z06 ?_ _)); exact BK190.out) hb); have n1_ := z05.mk (z0a (by repeat (first | (with_reducible first | exact HB.out | apply z02 | apply z00 | apply z03 | refine z09 ?_ GE190.out) | exact HB.out)) hb); clear BK190; clear HB; have BK190 := n0_; have HB := n1_; clear n0_ n1_; (try clear hb); (try clear hb2); (try clear hk); (try clear hi); have hcz62_0 : w61.cell? ⟨gb190, 0, none⟩ = some (.slice A0_0 l0_0.length c0_0) := (z04 BK190.out 0).trans rfl; have hcz62_1 : w61.cell? ⟨gb190, 1, none⟩ = some (.int .i64 a0_1) := (z04 BK190.out 1).trans rfl; have hcz62_2 : w61.cell? ⟨gb190, 2, none⟩ = some (.int .i64 a0_2) := (z04 BK190.out 2).trans rfl; have hcz62_3 : w61.cell? ⟨gb190, 3, none⟩ = some (.int .i64 a0_3) := (z04 BK190.out 3).trans rfl; have hcz62_4 : w61.cell? ⟨gb190, 4, none⟩ = some (.int .i64 a0_4) := (z04 BK190.out 4).trans rfl; have hfz62_0 := z01 BK190.out 0; have hfz62_1 := z01 BK190.out 1; have hfz62_2 := z01 BK190.out 2; have hfz62_3 := z01 BK190.out 3; have hfz62_4 := z01 BK190.out 4) | (go_at_call 30; (with_reducible refine (winnowerref07_whole.calls _ _ l0_0 a0_1 a0_2 a0_3 a0_4 a0_2 true _ ?side1 ?side2 A45.out).mono ?_); (case side1 => repeat (first | exact (Kd.C_below HR0_0.out HB.out) | (with_reducible refine Kd.C_alloc ?_ _) | (with_reducible refine Kd.C_drewN ?_ _) | (with_reducible refine Kd.C_drew ?_))); (case side2 => exact HC0_0.out); rintro e w63 ⟨rfl, hb⟩; have n0_ := z05.mk (z0e (g := gb190) (o := .cells #[.slice A0_0 l0_0.length c0_0, .int .i64 a0_1, .int .i64 a0_2, .int .i64 a0_3, .int .i64 a0_4] 24 (0, 0)) (by (with_reducible repeat (first | refine z07 ?_ _ | refine z08 ?_ | refine z06 ?_ _)); exact BK190.out) hb); have n1_ := z05.mk (z0a (by repeat (first | (with_reducible first | exact HB.out | apply z02 | apply z00 | apply z03 | refine z09 ?_ GE190.out) | exact HB.out)) hb); clear BK190; clear HB; have BK190 := n0_; have HB := n1_; clear n0_ n1_; (try clear hb); (try clear hb2); (try clear hk); (try clear hi); have hcz64_0 : w63.cell? ⟨gb190, 0, none⟩ = some (.slice A0_0 l0_0.length c0_0) := (z04 BK190.out 0).trans rfl; have hcz64_1 : w63.cell? ⟨gb190, 1, none⟩ = some (.int .i64 a0_1) := (z04 BK190.out 1).trans rfl; have hcz64_2 : w63.cell? ⟨gb190, 2, none⟩ = some (.int .i64 a0_2) := (z04 BK190.out 2).trans rfl; have hcz64_3 : w63.cell? ⟨gb190, 3, none⟩ = some (.int .i64 a0_3) := (z04 BK190.out 3).trans rfl; have hcz64_4 : w63.cell? ⟨gb190, 4, none⟩ = some (.int .i64 a0_4) := (z04 BK190.out 4).trans rfl; have hfz64_0 := z01 BK190.out 0; have hfz64_1 := z01 BK190.out 1; have hfz64_2 := z01 BK190.out 2; have hfz64_3 := z01 BK190.out 3; have hfz64_4 := z01 BK190.out 4; have p197 : 0 ≤ (a0_2 : Int) := of_decide_eq_true (by first | (with_reducible assumption) | assumption); have q197 : a0_2 < (l0_0.length : Int) := of_decide_eq_true (by first | (with_reducible assumption) | assumption); obtain ⟨ad197, e197, hx197_0, hx197_1, hx197_2⟩ := z11 HR0_0.out a0_2 p197 q197; cases e197; replace hx197_0 := (HB.out.cell (World.block_lt_of_cell? w _ hx197_0)).trans hx197_0; replace hx197_1 := (HB.out.cell (World.block_lt_of_cell? w _ hx197_1)).trans hx197_1; replace hx197_2 := (HB.out.cell (World.block_lt_of_cell? w _ hx197_2)).trans hx197_2; replace p197 := eq_true p197; replace q197 := eq_true q197) | (go_at_call 30; (with_reducible refine (winnowerref07_whole.calls _ _ l0_0 a0_1 a0_2 a0_3 a0_4 a0_3 true _ ?side1 ?side2 A56.out).mono ?_); (case side1 => repeat (first | exact (Kd.C_below HR0_0.out HB.out) | (with_reducible refine Kd.C_alloc ?_ _) | (with_reducible refine Kd.C_drewN ?_ _) | (with_reducible refine Kd.C_drew ?_))); (case side2 => exact HC0_0.out); rintro e w65 ⟨rfl, hb⟩; have n0_ := z05.mk (z0e (g := gb190) (o := .cells #[.slice (some ad197) l0_0.length c0_0, .int .i64 a0_1, .int .i64 a0_2, .int .i64 a0_3, .int .i64 a0_4] 24 (0, 0)) (by (with_reducible repeat (first | refine z07 ?_ _ | refine z08 ?_ | refine z06 ?_ _)); exact BK190.out) hb); have n1_ := z05.mk (z0a (by repeat (first | (with_reducible first | exact HB.out | apply z02 | apply z00 | apply z03 | refine z09 ?_ GE190.out) | exact HB.out)) hb); clear BK190; clear HB; have BK190 := n0_; have HB := n1_; clear n0_ n1_; (try clear hb); (try clear hb2); (try clear hk); (try clear hi); have hcz66_0 : w65.cell? ⟨gb190, 0, none⟩ = some (.slice (some ad197) l0_0.length c0_0) := (z04 BK190.out 0).trans rfl; have hcz66_1 : w65.cell? ⟨gb190, 1, none⟩ = some (.int .i64 a0_1) := (z04 BK190.out 1).trans rfl; have hcz66_2 : w65.cell? ⟨gb190, 2, none⟩ = some (.int .i64 a0_2) := (z04 BK190.out 2).trans rfl; have hcz66_3 : w65.cell? ⟨gb190, 3, none⟩ = some (.int .i64 a0_3) := (z04 BK190.out 3).trans rfl; have hcz66_4 : w65.cell? ⟨gb190, 4, none⟩ = some (.int .i64 a0_4) := (z04 BK190.out 4).trans rfl; have hfz66_0 := z01 BK190.out 0; have hfz66_1 := z01 BK190.out 1; have hfz66_2 := z01 BK190.out 2; have hfz66_3 := z01 BK190.out 3; have hfz66_4 := z01 BK190.out 4; have p199 : 0 ≤ (a0_3 : Int) := of_decide_eq_true (by first | (with_reducible assumption) | assumption); have q199 : a0_3 < (l0_0.length : Int) := of_decide_eq_true (by first | (with_reducible assumption) | assumption); obtain ⟨ad199, e199, hx199_0, hx199_1, hx199_2⟩ := z11 HR0_0.out a0_3 p199 q199; obtain rfl : ad197 = ad199 := (by injection e199); replace hx199_0 := (HB.out.cell (World.block_lt_of_cell? w _ hx199_0)).trans hx199_0; replace hx199_1 := (HB.out.cell (World.block_lt_of_cell? w _ hx199_1)).trans hx199_1; replace hx199_2 := (HB.out.cell (World.block_lt_of_cell? w _ hx199_2)).trans hx199_2; replace p199 := eq_true p199; replace q199 := eq_true q199)); try go_wp2_with (first | (go_at_call 30; (with_reducible refine (winnowerref07_whole.calls _ _ l0_0 a0_1 a0_2 a0_3 a0_4 a0_1 true _ ?side1 ?side2 A43.out).mono ?_); (case side1 => repeat (first | exact (Kd.C_below HR0_0.out HB.out) | (with_reducible refine Kd.C_alloc ?_ _) | (with_reducible refine Kd.C_drewN ?_ _) | (with_reducible refine Kd.C_drew ?_))); (case side2 => exact HC0_0.out); rintro e w61 ⟨rfl, hb⟩; have n0_ := z05.mk (z0e (g := gb190) (o := .cells #[.slice A0_0 l0_0.length c0_0, .int .i64 a0_1, .int .i64 a0_2, .int .i64 a0_3, .int .i64 a0_4] 24 (0, 0)) (by (with_reducible repeat (first | refine z07 ?_ _ | refine z08 ?_ | refine z06 ?_ _)); exact BK190.out) hb); have n1_ := z05.mk (z0a (by repeat (first | (with_reducible first | exact HB.out | apply z02 | apply z00 | apply z03 | refine z09 ?_ GE190.out) | exact HB.out)) hb); clear BK190; clear HB; have BK190 := n0_; have HB := n1_; clear n0_ n1_; (try clear hb); (try clear hb2); (try clear hk); (try clear hi); have hcz62_0 : w61.cell? ⟨gb190, 0, none⟩ = some (.slice A0_0 l0_0.length c0_0) := (z04 BK190.out 0).trans rfl; have hcz62_1 : w61.cell? ⟨gb190, 1, none⟩ = some (.int .i64 a0_1) := (z04 BK190.out 1).trans rfl; have hcz62_2 : w61.cell? ⟨gb190, 2, none⟩ = some (.int .i64 a0_2) := (z04 BK190.out 2).trans rfl; have hcz62_3 : w61.cell? ⟨gb190, 3, none⟩ = some (.int .i64 a0_3) := (z04 BK190.out 3).trans rfl; have hcz62_4 : w61.cell? ⟨gb190, 4, none⟩ = some (.int .i64 a0_4) := (z04 BK190.out 4).trans rfl; have hfz62_0 := z01 BK190.out 0; have hfz62_1 := z01 BK190.out 1; have hfz62_2 := z01 BK190.out 2; have hfz62_3 := z01 BK190.out 3; have hfz62_4 := z01 BK190.out 4) | (go_at_call 30; (with_reducible refine (winnowerref07_whole.calls _ _ l0_0 a0_1 a0_2 a0_3 a0_4 a0_2 true _ ?side1 ?side2 A45.out).mono ?_); (case side1 => repeat (first | exact (Kd.C_below HR0_0.out HB.out) | (with_reducible refine Kd.C_alloc ?_ _) | (with_reducible refine Kd.C_drewN ?_ _) | (with_reducible refine Kd.C_drew ?_))); (case side2 => exact HC0_0.out); rintro e w63 ⟨rfl, hb⟩; have n0_ := z05.mk (z0e (g := gb190) (o := .cells #[.slice A0_0 l0_0.length c0_0, .int .i64 a0_1, .int .i64 a0_2, .int .i64 a0_3, .int .i64 a0_4] 24 (0, 0)) (by (with_reducible repeat (first | refine z07 ?_ _ | refine z08 ?_ | refine z06 ?_ _)); exact BK190.out) hb); have n1_ := z05.mk (z0a (by repeat (first | (with_reducible first | exact HB.out | apply z02 | apply z00 | apply z03 | refine z09 ?_ GE190.out) | exact HB.out)) hb); clear BK190; clear HB; have BK190 := n0_; have HB := n1_; clear n0_ n1_; (try clear hb); (try clear hb2); (try clear hk); (try clear hi); have hcz64_0 : w63.cell? ⟨gb190, 0, none⟩ = some (.slice A0_0 l0_0.length c0_0) := (z04 BK190.out 0).trans rfl; have hcz64_1 : w63.cell? ⟨gb190, 1, none⟩ = some (.int .i64 a0_1) := (z04 BK190.out 1).trans rfl; have hcz64_2 : w63.cell? ⟨gb190, 2, none⟩ = some (.int .i64 a0_2) := (z04 BK190.out 2).trans rfl; have hcz64_3 : w63.cell? ⟨gb190, 3, none⟩ = some (.int .i64 a0_3) := (z04 BK190.out 3).trans rfl; have hcz64_4 : w63.cell? ⟨gb190, 4, none⟩ = some (.int .i64 a0_4) := (z04 BK190.out 4).trans rfl; have hfz64_0 := z01 BK190.out 0; have hfz64_1 := z01 BK190.out 1; have hfz64_2 := z01 BK190.out 2; have hfz64_3 := z01 BK190.out 3; have hfz64_4 := z01 BK190.out 4; have p197 : 0 ≤ (a0_2 : Int) := of_decide_eq_true (by first | (with_reducible assumption) | assumption); have q197 : a0_2 < (l0_0.length : Int) := of_decide_eq_true (by first | (with_reducible assumption) | assumption); obtain ⟨ad197, e197, hx197_0, hx197_1, hx197_2⟩ := z11 HR0_0.out a0_2 p197 q197; cases e197; replace hx197_0 := (HB.out.cell (World.block_lt_of_cell? w _ hx197_0)).trans hx197_0; replace hx197_1 := (HB.out.cell (World.block_lt_of_cell? w _ hx197_1)).trans hx197_1; replace hx197_2 := (HB.out.cell (World.block_lt_of_cell? w _ hx197_2)).trans hx197_2; replace p197 := eq_true p197; replace q197 := eq_true q197) | (go_at_call 30; (with_reducible refine (winnowerref07_whole.calls _ _ l0_0 a0_1 a0_2 a0_3 a0_4 a0_3 true _ ?side1 ?side2 A56.out).mono ?_); (case side1 => repeat (first | exact (Kd.C_below HR0_0.out HB.out) | (with_reducible refine Kd.C_alloc ?_ _) | (with_reducible refine Kd.C_drewN ?_ _) | (with_reducible refine Kd.C_drew ?_))); (case side2 => exact HC0_0.out); rintro e w65 ⟨rfl, hb⟩; have n0_ := z05.mk (z0e (g := gb190) (o := .cells #[.slice (some ad197) l0_0.length c0_0, .int .i64 a0_1, .int .i64 a0_2, .int .i64 a0_3, .int .i64 a0_4] 24 (0, 0)) (by (with_reducible repeat (first | refine z07 ?_ _ | refine z08 ?_ | refine z06 ?_ _)); exact BK190.out) hb); have n1_ := z05.mk (z0a (by repeat (first | (with_reducible first | exact HB.out | apply z02 | apply z00 | apply z03 | refine z09 ?_ GE190.out) | exact HB.out)) hb); clear BK190; clear HB; have BK190 := n0_; have HB := n1_; clear n0_ n1_; (try clear hb); (try clear hb2); (try clear hk); (try clear hi); have hcz66_0 : w65.cell? ⟨gb190, 0, none⟩ = some (.slice (some ad197) l0_0.length c0_0) := (z04 BK190.out 0).trans rfl; have hcz66_1 : w65.cell? ⟨gb190, 1, none⟩ = some (.int .i64 a0_1) := (z04 BK190.out 1).trans rfl; have hcz66_2 : w65.cell? ⟨gb190, 2, none⟩ = some (.int .i64 a0_2) := (z04 BK190.out 2).trans rfl; have hcz66_3 : w65.cell? ⟨gb190, 3, none⟩ = some (.int .i64 a0_3) := (z04 BK190.out 3).trans rfl; have hcz66_4 : w65.cell? ⟨gb190, 4, none⟩ = some (.int .i64 a0_4) := (z04 BK190.out 4).trans rfl; have hfz66_0 := z01 BK190.out 0; have hfz66_1 := z01 BK190.out 1; have hfz66_2 := z01 BK190.out 2; have hfz66_3 := z01 BK190.out 3; have hfz66_4 := z01 BK190.out 4; have p199 : 0 ≤ (a0_3 : Int) := of_decide_eq_true (by first | (with_reducible assumption) | assumption); have q199 : a0_3 < (l0_0.length : Int) := of_decide_eq_true (by first | (with_reducible assumption) | assumption); obtain ⟨ad199, e199, hx199_0, hx199_1, hx199_2⟩ := z11 HR0_0.out a0_3 p199 q199; obtain rfl : ad197 = ad199 := (by injection e199); replace hx199_0 := (HB.out.cell (World.block_lt_of_cell? w _ hx199_0)).trans hx199_0; replace hx199_1 := (HB.out.cell (World.block_lt_of_cell? w _ hx199_1)).trans hx199_1; replace hx199_2 := (HB.out.cell (World.block_lt_of_cell? w _ hx199_2)).trans hx199_2; replace p199 := eq_true p199; replace q199 := eq_true q199)))
                                  go_ret
                                  exact ⟨by first | rfl | (simp [z0d, z0c] <;> rfl) | (refine congrArg (fun b_ : Bool => Ending.returned (Value.bool b_)) ?_; simp; done) | (simp [*, z0d, z0c] <;> rfl), by repeat (first | (with_reducible first | exact HB.out | apply z02 | apply z00 | apply z03 | refine z09 ?_ GE190.out) | exact HB.out)⟩
                                · rw [if_neg c59] at H
                                  exact absurd H (by simp)
                              · rw [if_neg c58] at H
                                exact absurd H (by simp)
                            · replace c57 := Bool.eq_false_iff.mpr c57
                              subst c57
                              have H1 : (some false) = some r := by rw [if_neg (show ¬ (false = true) by decide)] at H; exact H
                              clear H
                              have H := H1
                              clear H1
                              obtain rfl := Option.some.inj H
                              have hcz67_0 : wr.cell? ⟨gb190, 0, none⟩ = some (.slice A0_0 l0_0.length c0_0) := (z04 BK190.out 0).trans rfl
                              have hcz67_1 : wr.cell? ⟨gb190, 1, none⟩ = some (.int .i64 a0_1) := (z04 BK190.out 1).trans rfl
                              have hcz67_2 : wr.cell? ⟨gb190, 2, none⟩ = some (.int .i64 a0_2) := (z04 BK190.out 2).trans rfl
                              have hcz67_3 : wr.cell? ⟨gb190, 3, none⟩ = some (.int .i64 a0_3) := (z04 BK190.out 3).trans rfl
                              have hcz67_4 : wr.cell? ⟨gb190, 4, none⟩ = some (.int .i64 a0_4) := (z04 BK190.out 4).trans rfl
                              have hfz67_0 := z01 BK190.out 0
                              have hfz67_1 := z01 BK190.out 1
                              have hfz67_2 := z01 BK190.out 2
                              have hfz67_3 := z01 BK190.out 3
                              have hfz67_4 := z01 BK190.out 4
                              go_wp2_with (first | (go_at_call 30; (with_reducible refine (winnowerref07_whole.calls _ _ l0_0 a0_1 a0_2 a0_3 a0_4 a0_1 true _ ?side1 ?side2 A43.out).mono ?_); (case side1 => repeat (first | exact (Kd.C_below HR0_0.out HB.out) | (with_reducible refine Kd.C_alloc ?_ _) | (with_reducible refine Kd.C_drewN ?_ _) | (with_reducible refine Kd.C_drew ?_))); (case side2 => exact HC0_0.out); rintro e w68 ⟨rfl, hb⟩; have n0_ := z05.mk (z0e (g := gb190) (o := .cells #[.slice A0_0 l0_0.length c0_0, .int .i64 a0_1, .int .i64 a0_2, .int .i64 a0_3, .int .i64 a0_4] 24 (0, 0)) (by (with_reducible repeat (first | refine z07 ?_ _ | refine z08 ?_ | refine z06 ?_ _)); exact BK190.out) hb); have n1_ := z05.mk (z0a (by repeat (first | (with_reducible first | exact HB.out | apply z02 | apply z00 | apply z03 | refine z09 ?_ GE190.out) | exact HB.out)) hb); clear BK190; clear HB; have BK190 := n0_; have HB := n1_; clear n0_ n1_; (try clear hb); (try clear hb2); (try clear hk); (try clear hi); have hcz69_0 : w68.cell? ⟨gb190, 0, none⟩ = some (.slice A0_0 l0_0.length c0_0) := (z04 BK190.out 0).trans rfl; have hcz69_1 : w68.cell? ⟨gb190, 1, none⟩ = some (.int .i64 a0_1) := (z04 BK190.out 1).trans rfl; have hcz69_2 : w68.cell? ⟨gb190, 2, none⟩ = some (.int .i64 a0_2) := (z04 BK190.out 2).trans rfl; have hcz69_3 : w68.cell? ⟨gb190, 3, none⟩ = some (.int .i64 a0_3) := (z04 BK190.out 3).trans rfl; have hcz69_4 : w68.cell? ⟨gb190, 4, none⟩ = some (.int .i64 a0_4) := (z04 BK190.out 4).trans rfl; have hfz69_0 := z01 BK190.out 0; have hfz69_1 := z01 BK190.out 1; have hfz69_2 := z01 BK190.out 2; have hfz69_3 := z01 BK190.out 3; have hfz69_4 := z01 BK190.out 4) | (go_at_call 30; (with_reducible refine (winnowerref07_whole.calls _ _ l0_0 a0_1 a0_2 a0_3 a0_4 a0_2 true _ ?side1 ?side2 A45.out).mono ?_); (case side1 => repeat (first | exact (Kd.C_below HR0_0.out HB.out) | (with_reducible refine Kd.C_alloc ?_ _) | (with_reducible refine Kd.C_drewN ?_ _) | (with_reducible refine Kd.C_drew ?_))); (case side2 => exact HC0_0.out); rintro e w70 ⟨rfl, hb⟩; have n0_ := z05.mk (z0e (g := gb190) (o := .cells #[.slice A0_0 l0_0.length c0_0, .int .i64 a0_1, .int .i64 a0_2, .int .i64 a0_3, .int .i64 a0_4] 24 (0, 0)) (by (with_reducible repeat (first | refine z07 ?_ _ | refine z08 ?_ | refine z06 ?_ _)); exact BK190.out) hb); have n1_ := z05.mk (z0a (by repeat (first | (with_reducible first | exact HB.out | apply z02 | apply z00 | apply z03 | refine z09 ?_ GE190.out) | exact HB.out)) hb); clear BK190; clear HB; have BK190 := n0_; have HB := n1_; clear n0_ n1_; (try clear hb); (try clear hb2); (try clear hk); (try clear hi); have hcz71_0 : w70.cell? ⟨gb190, 0, none⟩ = some (.slice A0_0 l0_0.length c0_0) := (z04 BK190.out 0).trans rfl; have hcz71_1 : w70.cell? ⟨gb190, 1, none⟩ = some (.int .i64 a0_1) := (z04 BK190.out 1).trans rfl; have hcz71_2 : w70.cell? ⟨gb190, 2, none⟩ = some (.int .i64 a0_2) := (z04 BK190.out 2).trans rfl; have hcz71_3 : w70.cell? ⟨gb190, 3, none⟩ = some (.int .i64 a0_3) := (z04 BK190.out 3).trans rfl; have hcz71_4 : w70.cell? ⟨gb190, 4, none⟩ = some (.int .i64 a0_4) := (z04 BK190.out 4).trans rfl; have hfz71_0 := z01 BK190.out 0; have hfz71_1 := z01 BK190.out 1; have hfz71_2 := z01 BK190.out 2; have hfz71_3 := z01 BK190.out 3; have hfz71_4 := z01 BK190.out 4; have p197 : 0 ≤ (a0_2 : Int) := of_decide_eq_true (by first | (with_reducible assumption) | assumption); have q197 : a0_2 < (l0_0.length : Int) := of_decide_eq_true (by first | (with_reducible assumption) | assumption); obtain ⟨ad197, e197, hx197_0, hx197_1, hx197_2⟩ := z11 HR0_0.out a0_2 p197 q197; cases e197; replace hx197_0 := (HB.out.cell (World.block_lt_of_cell? w _ hx197_0)).trans hx197_0; replace hx197_1 := (HB.out.cell (World.block_lt_of_cell? w _ hx197_1)).trans hx197_1; replace hx197_2 := (HB.out.cell (World.block_lt_of_cell? w _ hx197_2)).trans hx197_2; replace p197 := eq_true p197; replace q197 := eq_true q197) | (go_at_call 30; (with_reducible refine (winnowerref07_whole.calls _ _ l0_0 a0_1 a0_2 a0_3 a0_4 a0_3 false _ ?side1 ?side2 A56.out).mono ?_); (case side1 => repeat (first | exact (Kd.C_below HR0_0.out HB.out) | (with_reducible refine Kd.C_alloc ?_ _) | (with_reducible refine Kd.C_drewN ?_ _) | (with_reducible refine Kd.C_drew ?_))); (case side2 => exact HC0_0.out); rintro e w72 ⟨rfl, hb⟩; have n0_ := z05.mk (z0e (g := gb190) (o := .cells #[.slice (some ad197) l0_0.length c0_0, .int .i64 a0_1, .int .i64 a0_2, .int .i64 a0_3, .int .i64 a0_4] 24 (0, 0)) (by (with_reducible repeat (first | refine z07 ?_ _ | refine z08 ?_ | refine z06 ?_ _)); exact BK190.out) hb); have n1_ := z05.mk (z0a (by repeat (first | (with_reducible first | exact HB.out | apply z02 | apply z00 | apply z03 | refine z09 ?_ GE190.out) | exact HB.out)) hb); clear BK190; clear HB; have BK190 := n0_; have HB := n1_; clear n0_ n1_; (try clear hb); (try clear hb2); (try clear hk); (try clear hi)))
                              repeat (go_quiet (first | (go_at_call 30; (with_reducible refine (winnowerref07_whole.calls _ _ l0_0 a0_1 a0_2 a0_3 a0_4 a0_1 true _ ?side1 ?side2 A43.out).mono ?_); (case side1 => repeat (first | exact (Kd.C_below HR0_0.out HB.out) | (with_reducible refine Kd.C_alloc ?_ _) | (with_reducible refine Kd.C_drewN ?_ _) | (with_reducible refine Kd.C_drew ?_))); (case side2 => exact HC0_0.out); rintro e w68 ⟨rfl, hb⟩; have n0_ := z05.mk (z0e (g := gb190) (o := .cells #[.slice A0_0 l0_0.length c0_0, .int .i64 a0_1, .int .i64 a0_2, .int .i64 a0_3, .int .i64 a0_4] 24 (0, 0)) (by (with_reducible repeat (first | refine z07 ?_ _ | refine z08 ?_ | refine z06 ?_ _)); exact BK190.out) hb); have n1_ := z05.mk (z0a (by repeat (first | (with_reducible first | exact HB.out | apply z02 | apply z00 | apply z03 | refine z09 ?_ GE190.out) | exact HB.out)) hb); clear BK190; clear HB; have BK190 := n0_; have HB := n1_; clear n0_ n1_; (try clear hb); (try clear hb2); (try clear hk); (try clear hi); have hcz69_0 : w68.cell? ⟨gb190, 0, none⟩ = some (.slice A0_0 l0_0.length c0_0) := (z04 BK190.out 0).trans rfl; have hcz69_1 : w68.cell? ⟨gb190, 1, none⟩ = some (.int .i64 a0_1) := (z04 BK190.out 1).trans rfl; have hcz69_2 : w68.cell? ⟨gb190, 2, none⟩ = some (.int .i64 a0_2) := (z04 BK190.out 2).trans rfl; have hcz69_3 : w68.cell? ⟨gb190, 3, none⟩ = some (.int .i64 a0_3) := (z04 BK190.out 3).trans rfl; have hcz69_4 : w68.cell? ⟨gb190, 4, none⟩ = some (.int .i64 a0_4) := (z04 BK190.out 4).trans rfl; have hfz69_0 := z01 BK190.out 0; have hfz69_1 := z01 BK190.out 1; have hfz69_2 := z01 BK190.out 2; have hfz69_3 := z01 BK190.out 3; have hfz69_4 := z01 BK190.out 4) | (go_at_call 30; (with_reducible refine (winnowerref07_whole.calls _ _ l0_0 a0_1 a0_2 a0_3 a0_4 a0_2 true _ ?side1 ?side2 A45.out).mono ?_); (case side1 => repeat (first | exact (Kd.C_below HR0_0.out HB.out) | (with_reducible refine Kd.C_alloc ?_ _) | (with_reducible refine Kd.C_drewN ?_ _) | (with_reducible refine Kd.C_drew ?_))); (case side2 => exact HC0_0.out); rintro e w70 ⟨rfl, hb⟩; have n0_ := z05.mk (z0e (g := gb190) (o := .cells #[.slice A0_0 l0_0.length c0_0, .int .i64 a0_1, .int .i64 a0_2, .int .i64 a0_3, .int .i64 a0_4] 24 (0, 0)) (by (with_reducible repeat (first | refine z07 ?_ _ | refine z08 ?_ | refine z06 ?_ _)); exact BK190.out) hb); have n1_ := z05.mk (z0a (by repeat (first | (with_reducible first | exact HB.out | apply z02 | apply z00 | apply z03 | refine z09 ?_ GE190.out) | exact HB.out)) hb); clear BK190; clear HB; have BK190 := n0_; have HB := n1_; clear n0_ n1_; (try clear hb); (try clear hb2); (try clear hk); (try clear hi); have hcz71_0 : w70.cell? ⟨gb190, 0, none⟩ = some (.slice A0_0 l0_0.length c0_0) := (z04 BK190.out 0).trans rfl; have hcz71_1 : w70.cell? ⟨gb190, 1, none⟩ = some (.int .i64 a0_1) := (z04 BK190.out 1).trans rfl; have hcz71_2 : w70.cell? ⟨gb190, 2, none⟩ = some (.int .i64 a0_2) := (z04 BK190.out 2).trans rfl; have hcz71_3 : w70.cell? ⟨gb190, 3, none⟩ = some (.int .i64 a0_3) := (z04 BK190.out 3).trans rfl; have hcz71_4 : w70.cell? ⟨gb190, 4, none⟩ = some (.int .i64 a0_4) := (z04 BK190.out 4).trans rfl; have hfz71_0 := z01 BK190.out 0; have hfz71_1 := z01 BK190.out 1; have hfz71_2 := z01 BK190.out 2; have hfz71_3 := z01 BK190.out 3; have hfz71_4 := z01 BK190.out 4; have p197 : 0 ≤ (a0_2 : Int) := of_decide_eq_true (by first | (with_reducible assumption) | assumption); have q197 : a0_2 < (l0_0.length : Int) := of_decide_eq_true (by first | (with_reducible assumption) | assumption); obtain ⟨ad197, e197, hx197_0, hx197_1, hx197_2⟩ := z11 HR0_0.out a0_2 p197 q197; cases e197; replace hx197_0 := (HB.out.cell (World.block_lt_of_cell? w _ hx197_0)).trans hx197_0; replace hx197_1 := (HB.out.cell (World.block_lt_of_cell? w _ hx197_1)).trans hx197_1; replace hx197_2 := (HB.out.cell (World.block_lt_of_cell? w _ hx197_2)).trans hx197_2; replace p197 := eq_true p197; replace q197 := eq_true q197) | (go_at_call 30; (with_reducible refine (winnowerref07_whole.calls _ _ l0_0 a0_1 a0_2 a0_3 a0_4 a0_3 false _ ?side1 ?side2 A56.out).mono ?_); (case side1 => repeat (first | exact (Kd.C_below HR0_0.out HB.out) | (with_reducible refine Kd.C_alloc ?_ _) | (with_reducible refine Kd.C_drewN ?_ _) | (with_reducible refine Kd.C_drew ?_))); (case side2 => exact HC0_0.out); rintro e w72 ⟨rfl, hb⟩; have n0_ := z05.mk (z0e (g := gb190) (o := .cells #[.slice (some ad197) l0_0.length c0_0, .int .i64 a0_1, .int .i64 a0_2, .int .i64 a0_3, .int .i64 a0_4] 24 (0, 0)) (by (with_reducible repeat (first | refine z07 ?_ _ | refine z08 ?_ | refine z06 ?_ _)); exact BK190.out) hb); have n1_ := z05.mk (z0a (by repeat (first | (with_reducible first | exact HB.out | apply z02 | apply z00 | apply z03 | refine z09 ?_ GE190.out) | exact HB.out)) hb); clear BK190; clear HB; have BK190 := n0_; have HB := n1_; clear n0_ n1_; (try clear hb); (try clear hb2); (try clear hk); (try clear hi))); try go_wp2_with (first | (go_at_call 30; (with_reducible refine (winnowerref07_whole.calls _ _ l0_0 a0_1 a0_2 a0_3 a0_4 a0_1 true _ ?side1 ?side2 A43.out).mono ?_); (case side1 => repeat (first | exact (Kd.C_below HR0_0.out HB.out) | (with_reducible refine Kd.C_alloc ?_ _) | (with_reducible refine Kd.C_drewN ?_ _) | (with_reducible refine Kd.C_drew ?_))); (case side2 => exact HC0_0.out); rintro e w68 ⟨rfl, hb⟩; have n0_ := z05.mk (z0e (g := gb190) (o := .cells #[.slice A0_0 l0_0.length c0_0, .int .i64 a0_1, .int .i64 a0_2, .int .i64 a0_3, .int .i64 a0_4] 24 (0, 0)) (by (with_reducible repeat (first | refine z07 ?_ _ | refine z08 ?_ | refine z06 ?_ _)); exact BK190.out) hb); have n1_ := z05.mk (z0a (by repeat (first | (with_reducible first | exact HB.out | apply z02 | apply z00 | apply z03 | refine z09 ?_ GE190.out) | exact HB.out)) hb); clear BK190; clear HB; have BK190 := n0_; have HB := n1_; clear n0_ n1_; (try clear hb); (try clear hb2); (try clear hk); (try clear hi); have hcz69_0 : w68.cell? ⟨gb190, 0, none⟩ = some (.slice A0_0 l0_0.length c0_0) := (z04 BK190.out 0).trans rfl; have hcz69_1 : w68.cell? ⟨gb190, 1, none⟩ = some (.int .i64 a0_1) := (z04 BK190.out 1).trans rfl; have hcz69_2 : w68.cell? ⟨gb190, 2, none⟩ = some (.int .i64 a0_2) := (z04 BK190.out 2).trans rfl; have hcz69_3 : w68.cell? ⟨gb190, 3, none⟩ = some (.int .i64 a0_3) := (z04 BK190.out 3).trans rfl; have hcz69_4 : w68.cell? ⟨gb190, 4, none⟩ = some (.int .i64 a0_4) := (z04 BK190.out 4).trans rfl; have hfz69_0 := z01 BK190.out 0; have hfz69_1 := z01 BK190.out 1; have hfz69_2 := z01 BK190.out 2; have hfz69_3 := z01 BK190.out 3; have hfz69_4 := z01 BK190.out 4) | (go_at_call 30; (with_reducible refine (winnowerref07_whole.calls _ _ l0_0 a0_1 a0_2 a0_3 a0_4 a0_2 true _ ?side1 ?side2 A45.out).mono ?_); (case side1 => repeat (first | exact (Kd.C_below HR0_0.out HB.out) | (with_reducible refine Kd.C_alloc ?_ _) | (with_reducible refine Kd.C_drewN ?_ _) | (with_reducible refine Kd.C_drew ?_))); (case side2 => exact HC0_0.out); rintro e w70 ⟨rfl, hb⟩; have n0_ := z05.mk (z0e (g := gb190) (o := .cells #[.slice A0_0 l0_0.length c0_0, .int .i64 a0_1, .int .i64 a0_2, .int .i64 a0_3, .int .i64 a0_4] 24 (0, 0)) (by (with_reducible repeat (first | refine z07 ?_ _ | refine z08 ?_ | refine z06 ?_ _)); exact BK190.out) hb); have n1_ := z05.mk (z0a (by repeat (first | (with_reducible first | exact HB.out | apply z02 | apply z00 | apply z03 | refine z09 ?_ GE190.out) | exact HB.out)) hb); clear BK190; clear HB; have BK190 := n0_; have HB := n1_; clear n0_ n1_; (try clear hb); (try clear hb2); (try clear hk); (try clear hi); have hcz71_0 : w70.cell? ⟨gb190, 0, none⟩ = some (.slice A0_0 l0_0.length c0_0) := (z04 BK190.out 0).trans rfl; have hcz71_1 : w70.cell? ⟨gb190, 1, none⟩ = some (.int .i64 a0_1) := (z04 BK190.out 1).trans rfl; have hcz71_2 : w70.cell? ⟨gb190, 2, none⟩ = some (.int .i64 a0_2) := (z04 BK190.out 2).trans rfl; have hcz71_3 : w70.cell? ⟨gb190, 3, none⟩ = some (.int .i64 a0_3) := (z04 BK190.out 3).trans rfl; have hcz71_4 : w70.cell? ⟨gb190, 4, none⟩ = some (.int .i64 a0_4) := (z04 BK190.out 4).trans rfl; have hfz71_0 := z01 BK190.out 0; have hfz71_1 := z01 BK190.out 1; have hfz71_2 := z01 BK190.out 2; have hfz71_3 := z01 BK190.out 3; have hfz71_4 := z01 BK190.out 4; have p197 : 0 ≤ (a0_2 : Int) := of_decide_eq_true (by first | (with_reducible assumption) | assumption); have q197 : a0_2 < (l0_0.length : Int) := of_decide_eq_true (by first | (with_reducible assumption) | assumption); obtain ⟨ad197, e197, hx197_0, hx197_1, hx197_2⟩ := z11 HR0_0.out a0_2 p197 q197; cases e197; replace hx197_0 := (HB.out.cell (World.block_lt_of_cell? w _ hx197_0)).trans hx197_0; replace hx197_1 := (HB.out.cell (World.block_lt_of_cell? w _ hx197_1)).trans hx197_1; replace hx197_2 := (HB.out.cell (World.block_lt_of_cell? w _ hx197_2)).trans hx197_2; replace p197 := eq_true p197; replace q197 := eq_true q197) | (go_at_call 30; (with_reducible refine (winnowerref07_whole.calls _ _ l0_0 a0_1 a0_2 a0_3 a0_4 a0_3 false _ ?side1 ?side2 A56.out).mono ?_); (case side1 => repeat (first | exact (Kd.C_below HR0_0.out HB.out) | (with_reducible refine Kd.C_alloc ?_ _) | (with_reducible refine Kd.C_drewN ?_ _) | (with_reducible refine Kd.C_drew ?_))); (case side2 => exact HC0_0.out); rintro e w72 ⟨rfl, hb⟩; have n0_ := z05.mk (z0e (g := gb190) (o := .cells #[.slice (some ad197) l0_0.length c0_0, .int .i64 a0_1, .int .i64 a0_2, .int .i64 a0_3, .int .i64 a0_4] 24 (0, 0)) (by (with_reducible repeat (first | refine z07 ?_ _ | refine z08 ?_ | refine z06 ?_ _)); exact BK190.out) hb); have n1_ := z05.mk (z0a (by repeat (first | (with_reducible first | exact HB.out | apply z02 | apply z00 | apply z03 | refine z09 ?_ GE190.out) | exact HB.out)) hb); clear BK190; clear HB; have BK190 := n0_; have HB := n1_; clear n0_ n1_; (try clear hb); (try clear hb2); (try clear hk); (try clear hi))))
                              go_ret
                              exact ⟨by first | rfl | (simp [z0d, z0c] <;> rfl) | (refine congrArg (fun b_ : Bool => Ending.returned (Value.bool b_)) ?_; simp; done) | (simp [*, z0d, z0c] <;> rfl), by repeat (first | (with_reducible first | exact HB.out | apply z02 | apply z00 | apply z03 | refine z09 ?_ GE190.out) | exact HB.out)⟩
                        · rw [if_neg c49] at H
                          have c49b0 : (((z0f l0_0 a0_2).f1) == 1) = false := beq_eq_false_iff_ne.mpr c49
                          have c49b1 : (((z0f l0_0 a0_2).f1) != 1) = true := bne_iff_ne.mpr c49
                          obtain rfl := Option.some.inj H
                          have hcz73_0 : wr.cell? ⟨gb190, 0, none⟩ = some (.slice A0_0 l0_0.length c0_0) := (z04 BK190.out 0).trans rfl
                          have hcz73_1 : wr.cell? ⟨gb190, 1, none⟩ = some (.int .i64 a0_1) := (z04 BK190.out 1).trans rfl
                          have hcz73_2 : wr.cell? ⟨gb190, 2, none⟩ = some (.int .i64 a0_2) := (z04 BK190.out 2).trans rfl
                          have hcz73_3 : wr.cell? ⟨gb190, 3, none⟩ = some (.int .i64 a0_3) := (z04 BK190.out 3).trans rfl
                          have hcz73_4 : wr.cell? ⟨gb190, 4, none⟩ = some (.int .i64 a0_4) := (z04 BK190.out 4).trans rfl
                          have hfz73_0 := z01 BK190.out 0
                          have hfz73_1 := z01 BK190.out 1
                          have hfz73_2 := z01 BK190.out 2
                          have hfz73_3 := z01 BK190.out 3
                          have hfz73_4 := z01 BK190.out 4
                          go_wp2_with (first | (go_at_call 30; (with_reducible refine (winnowerref07_whole.calls _ _ l0_0 a0_1 a0_2 a0_3 a0_4 a0_1 true _ ?side1 ?side2 A43.out).mono ?_); (case side1 => repeat (first | exact (Kd.C_below HR0_0.out HB.out) | (with_reducible refine Kd.C_alloc ?_ _) | (with_reducible refine Kd.C_drewN ?_ _) | (with_reducible refine Kd.C_drew ?_))); (case side2 => exact HC0_0.out); rintro e w74 ⟨rfl, hb⟩; have n0_ := z05.mk (z0e (g := gb190) (o := .cells #[.slice A0_0 l0_0.length c0_0, .int .i64 a0_1, .int .i64 a0_2, .int .i64 a0_3, .int .i64 a0_4] 24 (0, 0)) (by (with_reducible repeat (first | refine z07 ?_ _ | refine z08 ?_ | refine z06 ?_ _)); exact BK190.out) hb); have n1_ := z05.mk (z0a (by repeat (first | (with_reducible first | exact HB.out | apply z02 | apply z00 | apply z03 | refine z09 ?_ GE190.out) | exact HB.out)) hb); clear BK190; clear HB; have BK190 := n0_; have HB := n1_; clear n0_ n1_; (try clear hb); (try clear hb2); (try clear hk); (try clear hi); have hcz75_0 : w74.cell? ⟨gb190, 0, none⟩ = some (.slice A0_0 l0_0.length c0_0) := (z04 BK190.out 0).trans rfl; have hcz75_1 : w74.cell? ⟨gb190, 1, none⟩ = some (.int .i64 a0_1) := (z04 BK190.out 1).trans rfl; have hcz75_2 : w74.cell? ⟨gb190, 2, none⟩ = some (.int .i64 a0_2) := (z04 BK190.out 2).trans rfl; have hcz75_3 : w74.cell? ⟨gb190, 3, none⟩ = some (.int .i64 a0_3) := (z04 BK190.out 3).trans rfl; have hcz75_4 : w74.cell? ⟨gb190, 4, none⟩ = some (.int .i64 a0_4) := (z04 BK190.out 4).trans rfl; have hfz75_0 := z01 BK190.out 0; have hfz75_1 := z01 BK190.out 1; have hfz75_2 := z01 BK190.out 2; have hfz75_3 := z01 BK190.out 3; have hfz75_4 := z01 BK190.out 4) | (go_at_call 30; (with_reducible refine (winnowerref07_whole.calls _ _ l0_0 a0_1 a0_2 a0_3 a0_4 a0_2 true _ ?side1 ?side2 A45.out).mono ?_); (case side1 => repeat (first | exact (Kd.C_below HR0_0.out HB.out) | (with_reducible refine Kd.C_alloc ?_ _) | (with_reducible refine Kd.C_drewN ?_ _) | (with_reducible refine Kd.C_drew ?_))); (case side2 => exact HC0_0.out); rintro e w76 ⟨rfl, hb⟩; have n0_ := z05.mk (z0e (g := gb190) (o := .cells #[.slice A0_0 l0_0.length c0_0, .int .i64 a0_1, .int .i64 a0_2, .int .i64 a0_3, .int .i64 a0_4] 24 (0, 0)) (by (with_reducible repeat (first | refine z07 ?_ _ | refine z08 ?_ | refine z06 ?_ _)); exact BK190.out) hb); have n1_ := z05.mk (z0a (by repeat (first | (with_reducible first | exact HB.out | apply z02 | apply z00 | apply z03 | refine z09 ?_ GE190.out) | exact HB.out)) hb); clear BK190; clear HB; have BK190 := n0_; have HB := n1_; clear n0_ n1_; (try clear hb); (try clear hb2); (try clear hk); (try clear hi); have hcz77_0 : w76.cell? ⟨gb190, 0, none⟩ = some (.slice A0_0 l0_0.length c0_0) := (z04 BK190.out 0).trans rfl; have hcz77_1 : w76.cell? ⟨gb190, 1, none⟩ = some (.int .i64 a0_1) := (z04 BK190.out 1).trans rfl; have hcz77_2 : w76.cell? ⟨gb190, 2, none⟩ = some (.int .i64 a0_2) := (z04 BK190.out 2).trans rfl; have hcz77_3 : w76.cell? ⟨gb190, 3, none⟩ = some (.int .i64 a0_3) := (z04 BK190.out 3).trans rfl; have hcz77_4 : w76.cell? ⟨gb190, 4, none⟩ = some (.int .i64 a0_4) := (z04 BK190.out 4).trans rfl; have hfz77_0 := z01 BK190.out 0; have hfz77_1 := z01 BK190.out 1; have hfz77_2 := z01 BK190.out 2; have hfz77_3 := z01 BK190.out 3; have hfz77_4 := z01 BK190.out 4; have p197 : 0 ≤ (a0_2 : Int) := of_decide_eq_true (by first | (with_reducible assumption) | assumption); have q197 : a0_2 < (l0_0.length : Int) := of_decide_eq_true (by first | (with_reducible assumption) | assumption); obtain ⟨ad197, e197, hx197_0, hx197_1, hx197_2⟩ := z11 HR0_0.out a0_2 p197 q197; cases e197; replace hx197_0 := (HB.out.cell (World.block_lt_of_cell? w _ hx197_0)).trans hx197_0; replace hx197_1 := (HB.out.cell (World.block_lt_of_cell? w _ hx197_1)).trans hx197_1; replace hx197_2 := (HB.out.cell (World.block_lt_of_cell? w _ hx197_2)).trans hx197_2; replace p197 := eq_true p197; replace q197 := eq_true q197))
                          repeat (go_quiet (first | (go_at_call 30; (with_reducible refine (winnowerref07_whole.calls _ _ l0_0 a0_1 a0_2 a0_3 a0_4 a0_1 true _ ?side1 ?side2 A43.out).mono ?_); (case side1 => repeat (first | exact (Kd.C_below HR0_0.out HB.out) | (with_reducible refine Kd.C_alloc ?_ _) | (with_reducible refine Kd.C_drewN ?_ _) | (with_reducible refine Kd.C_drew ?_))); (case side2 => exact HC0_0.out); rintro e w74 ⟨rfl, hb⟩; have n0_ := z05.mk (z0e (g := gb190) (o := .cells #[.slice A0_0 l0_0.length c0_0, .int .i64 a0_1, .int .i64 a0_2, .int .i64 a0_3, .int .i64 a0_4] 24 (0, 0)) (by (with_reducible repeat (first | refine z07 ?_ _ | refine z08 ?_ | refine z06 ?_ _)); exact BK190.out) hb); have n1_ := z05.mk (z0a (by repeat (first | (with_reducible first | exact HB.out | apply z02 | apply z00 | apply z03 | refine z09 ?_ GE190.out) | exact HB.out)) hb); clear BK190; clear HB; have BK190 := n0_; have HB := n1_; clear n0_ n1_; (try clear hb); (try clear hb2); (try clear hk); (try clear hi); have hcz75_0 : w74.cell? ⟨gb190, 0, none⟩ = some (.slice A0_0 l0_0.length c0_0) := (z04 BK190.out 0).trans rfl; have hcz75_1 : w74.cell? ⟨gb190, 1, none⟩ = some (.int .i64 a0_1) := (z04 BK190.out 1).trans rfl; have hcz75_2 : w74.cell? ⟨gb190, 2, none⟩ = some (.int .i64 a0_2) := (z04 BK190.out 2).trans rfl; have hcz75_3 : w74.cell? ⟨gb190, 3, none⟩ = some (.int .i64 a0_3) := (z04 BK190.out 3).trans rfl; have hcz75_4 : w74.cell? ⟨gb190, 4, none⟩ = some (.int .i64 a0_4) := (z04 BK190.out 4).trans rfl; have hfz75_0 := z01 BK190.out 0; have hfz75_1 := z01 BK190.out 1; have hfz75_2 := z01 BK190.out 2; have hfz75_3 := z01 BK190.out 3; have hfz75_4 := z01 BK190.out 4) | (go_at_call 30; (with_reducible refine (winnowerref07_whole.calls _ _ l0_0 a0_1 a0_2 a0_3 a0_4 a0_2 true _ ?side1 ?side2 A45.out).mono ?_); (case side1 => repeat (first | exact (Kd.C_below HR0_0.out HB.out) | (with_reducible refine Kd.C_alloc ?_ _) | (with_reducible refine Kd.C_drewN ?_ _) | (with_reducible refine Kd.C_drew ?_))); (case side2 => exact HC0_0.out); rintro e w76 ⟨rfl, hb⟩; have n0_ := z05.mk (z0e (g := gb190) (o := .cells #[.slice A0_0 l0_0.length c0_0, .int .i64 a0_1, .int .i64 a0_2, .int .i64 a0_3, .int .i64 a0_4] 24 (0, 0)) (by (with_reducible repeat (first | refine z07 ?_ _ | refine z08 ?_ | refine z06 ?_ _)); exact BK190.out) hb); have n1_ := z05.mk (z0a (by repeat (first | (with_reducible first | exact HB.out | apply z02 | apply z00 | apply z03 | refine z09 ?_ GE190.out) | exact HB.out)) hb); clear BK190; clear HB; have BK190 := n0_; have HB := n1_; clear n0_ n1_; (try clear hb); (try clear hb2); (try clear hk); (try clear hi); have hcz77_0 : w76.cell? ⟨gb190, 0, none⟩ = some (.slice A0_0 l0_0.length c0_0) := (z04 BK190.out 0).trans rfl; have hcz77_1 : w76.cell? ⟨gb190, 1, none⟩ = some (.int .i64 a0_1) := (z04 BK190.out 1).trans rfl; have hcz77_2 : w76.cell? ⟨gb190, 2, none⟩ = some (.int .i64 a0_2) := (z04 BK190.out 2).trans rfl; have hcz77_3 : w76.cell? ⟨gb190, 3, none⟩ = some (.int .i64 a0_3) := (z04 BK190.out 3).trans rfl; have hcz77_4 : w76.cell? ⟨gb190, 4, none⟩ = some (.int .i64 a0_4) := (z04 BK190.out 4).trans rfl; have hfz77_0 := z01 BK190.out 0; have hfz77_1 := z01 BK190.out 1; have hfz77_2 := z01 BK190.out 2; have hfz77_3 := z01 BK190.out 3; have hfz77_4 := z01 BK190.out 4; have p197 : 0 ≤ (a0_2 : Int) := of_decide_eq_true (by first | (with_reducible assumption) | assumption); have q197 : a0_2 < (l0_0.length : Int) := of_decide_eq_true (by first | (with_reducible assumption) | assumption); obtain ⟨ad197, e197, hx197_0, hx197_1, hx197_2⟩ := z11 HR0_0.out a0_2 p197 q197; cases e197; replace hx197_0 := (HB.out.cell (World.block_lt_of_cell? w _ hx197_0)).trans hx197_0; replace hx197_1 := (HB.out.cell (World.block_lt_of_cell? w _ hx197_1)).trans hx197_1; replace hx197_2 := (HB.out.cell (World.block_lt_of_cell? w _ hx197_2)).trans hx197_2; replace p197 := eq_true p197; replace q197 := eq_true q197)); try go_wp2_with (first | (go_at_call 30; (with_reducible refine (winnowerref07_whole.calls _ _ l0_0 a0_1 a0_2 a0_3 a0_4 a0_1 true _ ?side1 ?side2 A43.out).mono ?_); (case side1 => repeat (first | exact (Kd.C_below HR0_0.out HB.out) | (with_reducible refine Kd.C_alloc ?_ _) | (with_reducible refine Kd.C_drewN ?_ _) | (with_reducible refine Kd.C_drew ?_))); (case side2 => exact HC0_0.out); rintro e w74 ⟨rfl, hb⟩; have n0_ := z05.mk (z0e (g := gb190) (o := .cells #[.slice A0_0 l0_0.length c0_0, .int .i64 a0_1, .int .i64 a0_2, .int .i64 a0_3, .int .i64 a0_4] 24 (0, 0)) (by (with_reducible repeat (first | refine z07 ?_ _ | refine z08 ?_ | refine z06 ?_ _)); exact BK190.out) hb); have n1_ := z05.mk (z0a (by repeat (first | (with_reducible first | exact HB.out | apply z02 | apply z00 | apply z03 | refine z09 ?_ GE190.out) | exact HB.out)) hb); clear BK190; clear HB; have BK190 := n0_; have HB := n1_; clear n0_ n1_; (try clear hb); (try clear hb2); (try clear hk); (try clear hi); have hcz75_0 : w74.cell? ⟨gb190, 0, none⟩ = some (.slice A0_0 l0_0.length c0_0) := (z04 BK190.out 0).trans rfl; have hcz75_1 : w74.cell? ⟨gb190, 1, none⟩ = some (.int .i64 a0_1) := (z04 BK190.out 1).trans rfl; have hcz75_2 : w74.cell? ⟨gb190, 2, none⟩ = some (.int .i64 a0_2) := (z04 BK190.out 2).trans rfl; have hcz75_3 : w74.cell? ⟨gb190, 3, none⟩ = some (.int .i64 a0_3) := (z04 BK190.out 3).trans rfl; have hcz75_4 : w74.cell? ⟨gb190, 4, none⟩ = some (.int .i64 a0_4) := (z04 BK190.out 4).trans rfl; have hfz75_0 := z01 BK190.out 0; have hfz75_1 := z01 BK190.out 1; have hfz75_2 := z01 BK190.out 2; have hfz75_3 := z01 BK190.out 3; have hfz75_4 := z01 BK190.out 4) | (go_at_call 30; (with_reducible refine (winnowerref07_whole.calls _ _ l0_0 a0_1 a0_2 a0_3 a0_4 a0_2 true _ ?side1 ?side2 A45.out).mono ?_); (case side1 => repeat (first | exact (Kd.C_below HR0_0.out HB.out) | (with_reducible refine Kd.C_alloc ?_ _) | (with_reducible refine Kd.C_drewN ?_ _) | (with_reducible refine Kd.C_drew ?_))); (case side2 => exact HC0_0.out); rintro e w76 ⟨rfl, hb⟩; have n0_ := z05.mk (z0e (g := gb190) (o := .cells #[.slice A0_0 l0_0.length c0_0, .int .i64 a0_1, .int .i64 a0_2, .int .i64 a0_3, .int .i64 a0_4] 24 (0, 0)) (by (with_reducible repeat (first | refine z07 ?_ _ | refine z08 ?_ | refine z06 ?_ _)); exact BK190.out) hb); have n1_ := z05.mk (z0a (by repeat (first | (with_reducible first | exact HB.out | apply z02 | apply z00 | apply z03 | refine z09 ?_ GE190.out) | exact HB.out)) hb); clear BK190; clear HB; have BK190 := n0_; have HB := n1_; clear n0_ n1_; (try clear hb); (try clear hb2); (try clear hk); (try clear hi); have hcz77_0 : w76.cell? ⟨gb190, 0, none⟩ = some (.slice A0_0 l0_0.length c0_0) := (z04 BK190.out 0).trans rfl; have hcz77_1 : w76.cell? ⟨gb190, 1, none⟩ = some (.int .i64 a0_1) := (z04 BK190.out 1).trans rfl; have hcz77_2 : w76.cell? ⟨gb190, 2, none⟩ = some (.int .i64 a0_2) := (z04 BK190.out 2).trans rfl; have hcz77_3 : w76.cell? ⟨gb190, 3, none⟩ = some (.int .i64 a0_3) := (z04 BK190.out 3).trans rfl; have hcz77_4 : w76.cell? ⟨gb190, 4, none⟩ = some (.int .i64 a0_4) := (z04 BK190.out 4).trans rfl; have hfz77_0 := z01 BK190.out 0; have hfz77_1 := z01 BK190.out 1; have hfz77_2 := z01 BK190.out 2; have hfz77_3 := z01 BK190.out 3; have hfz77_4 := z01 BK190.out 4; have p197 : 0 ≤ (a0_2 : Int) := of_decide_eq_true (by first | (with_reducible assumption) | assumption); have q197 : a0_2 < (l0_0.length : Int) := of_decide_eq_true (by first | (with_reducible assumption) | assumption); obtain ⟨ad197, e197, hx197_0, hx197_1, hx197_2⟩ := z11 HR0_0.out a0_2 p197 q197; cases e197; replace hx197_0 := (HB.out.cell (World.block_lt_of_cell? w _ hx197_0)).trans hx197_0; replace hx197_1 := (HB.out.cell (World.block_lt_of_cell? w _ hx197_1)).trans hx197_1; replace hx197_2 := (HB.out.cell (World.block_lt_of_cell? w _ hx197_2)).trans hx197_2; replace p197 := eq_true p197; replace q197 := eq_true q197)))
                          go_ret
                          exact ⟨by first | rfl | (simp [z0d, z0c] <;> rfl) | (refine congrArg (fun b_ : Bool => Ending.returned (Value.bool b_)) ?_; simp; done) | (simp [*, z0d, z0c] <;> rfl), by repeat (first | (with_reducible first | exact HB.out | apply z02 | apply z00 | apply z03 | refine z09 ?_ GE190.out) | exact HB.out)⟩
                      · rw [if_neg c48] at H
                        exact absurd H (by simp)
                    · rw [if_neg c47] at H
                      exact absurd H (by simp)
                  · replace c46 := Bool.eq_false_iff.mpr c46
                    subst c46
                    have H1 : (some false) = some r := by rw [if_neg (show ¬ (false = true) by decide)] at H; exact H
                    clear H
                    have H := H1
                    clear H1
                    obtain rfl := Option.some.inj H
                    have hcz78_0 : wr.cell? ⟨gb190, 0, none⟩ = some (.slice A0_0 l0_0.length c0_0) := (z04 BK190.out 0).trans rfl
                    have hcz78_1 : wr.cell? ⟨gb190, 1, none⟩ = some (.int .i64 a0_1) := (z04 BK190.out 1).trans rfl
                    have hcz78_2 : wr.cell? ⟨gb190, 2, none⟩ = some (.int .i64 a0_2) := (z04 BK190.out 2).trans rfl
                    have hcz78_3 : wr.cell? ⟨gb190, 3, none⟩ = some (.int .i64 a0_3) := (z04 BK190.out 3).trans rfl
                    have hcz78_4 : wr.cell? ⟨gb190, 4, none⟩ = some (.int .i64 a0_4) := (z04 BK190.out 4).trans rfl
                    have hfz78_0 := z01 BK190.out 0
                    have hfz78_1 := z01 BK190.out 1
                    have hfz78_2 := z01 BK190.out 2
                    have hfz78_3 := z01 BK190.out 3
                    have hfz78_4 := z01 BK190.out 4
                    go_wp2_with (first | (go_at_call 30; (with_reducible refine (winnowerref07_whole.calls _ _ l0_0 a0_1 a0_2 a0_3 a0_4 a0_1 true _ ?side1 ?side2 A43.out).mono ?_); (case side1 => repeat (first | exact (Kd.C_below HR0_0.out HB.out) | (with_reducible refine Kd.C_alloc ?_ _) | (with_reducible refine Kd.C_drewN ?_ _) | (with_reducible refine Kd.C_drew ?_))); (case side2 => exact HC0_0.out); rintro e w79 ⟨rfl, hb⟩; have n0_ := z05.mk (z0e (g := gb190) (o := .cells #[.slice A0_0 l0_0.length c0_0, .int .i64 a0_1, .int .i64 a0_2, .int .i64 a0_3, .int .i64 a0_4] 24 (0, 0)) (by (with_reducible repeat (first | refine z07 ?_ _ | refine z08 ?_ | refine z06 ?_ _)); exact BK190.out) hb); have n1_ := z05.mk (z0a (by repeat (first | (with_reducible first | exact HB.out | apply z02 | apply z00 | apply z03 | refine z09 ?_ GE190.out) | exact HB.out)) hb); clear BK190; clear HB; have BK190 := n0_; have HB := n1_; clear n0_ n1_; (try clear hb); (try clear hb2); (try clear hk); (try clear hi); have hcz80_0 : w79.cell? ⟨gb190, 0, none⟩ = some (.slice A0_0 l0_0.length c0_0) := (z04 BK190.out 0).trans rfl; have hcz80_1 : w79.cell? ⟨gb190, 1, none⟩ = some (.int .i64 a0_1) := (z04 BK190.out 1).trans rfl; have hcz80_2 : w79.cell? ⟨gb190, 2, none⟩ = some (.int .i64 a0_2) := (z04 BK190.out 2).trans rfl; have hcz80_3 : w79.cell? ⟨gb190, 3, none⟩ = some (.int .i64 a0_3) := (z04 BK190.out 3).trans rfl; have hcz80_4 : w79.cell? ⟨gb190, 4, none⟩ = some (.int .i64 a0_4) := (z04 BK190.out 4).trans rfl; have hfz80_0 := z01 BK190.out 0; have hfz80_1 := z01 BK190.out 1; have hfz80_2 := z01 BK190.out 2; have hfz80_3 := z01 BK190.out 3; have hfz80_4 := z01 BK190.out 4) | (go_at_call 30; (with_reducible refine (winnowerref07_whole.calls _ _ l0_0 a0_1 a0_2 a0_3 a0_4 a0_2 false _ ?side1 ?side2 A45.out).mono ?_); (case side1 => repeat (first | exact (Kd.C_below HR0_0.out HB.out) | (with_reducible refine Kd.C_alloc ?_ _) | (with_reducible refine Kd.C_drewN ?_ _) | (with_reducible refine Kd.C_drew ?_))); (case side2 => exact HC0_0.out); rintro e w81 ⟨rfl, hb⟩; have n0_ := z05.mk (z0e (g := gb190) (o := .cells #[.slice A0_0 l0_0.length c0_0, .int .i64 a0_1, .int .i64 a0_2, .int .i64 a0_3, .int .i64 a0_4] 24 (0, 0)) (by (with_reducible repeat (first | refine z07 ?_ _ | refine z08 ?_ | refine z06 ?_ _)); exact BK190.out) hb); have n1_ := z05.mk (z0a (by repeat (first | (with_reducible first | exact HB.out | apply z02 | apply z00 | apply z03 | refine z09 ?_ GE190.out) | exact HB.out)) hb); clear BK190; clear HB; have BK190 := n0_; have HB := n1_; clear n0_ n1_; (try clear hb); (try clear hb2); (try clear hk); (try clear hi)))
                    repeat (go_quiet (first | (go_at_call 30; (with_reducible refine (winnowerref07_whole.calls _ _ l0_0 a0_1 a0_2 a0_3 a0_4 a0_1 true _ ?side1 ?side2 A43.out).mono ?_); (case side1 => repeat (first | exact (Kd.C_below HR0_0.out HB.out) | (with_reducible refine Kd.C_alloc ?_ _) | (with_reducible refine Kd.C_drewN ?_ _) | (with_reducible refine Kd.C_drew ?_))); (case side2 => exact HC0_0.out); rintro e w79 ⟨rfl, hb⟩; have n0_ := z05.mk (z0e (g := gb190) (o := .cells #[.slice A0_0 l0_0.length c0_0, .int .i64 a0_1, .int .i64 a0_2, .int .i64 a0_3, .int .i64 a0_4] 24 (0, 0)) (by (with_reducible repeat (first | refine z07 ?_ _ | refine z08 ?_ | refine z06 ?_ _)); exact BK190.out) hb); have n1_ := z05.mk (z0a (by repeat (first | (with_reducible first | exact HB.out | apply z02 | apply z00 | apply z03 | refine z09 ?_ GE190.out) | exact HB.out)) hb); clear BK190; clear HB; have BK190 := n0_; have HB := n1_; clear n0_ n1_; (try clear hb); (try clear hb2); (try clear hk); (try clear hi); have hcz80_0 : w79.cell? ⟨gb190, 0, none⟩ = some (.slice A0_0 l0_0.length c0_0) := (z04 BK190.out 0).trans rfl; have hcz80_1 : w79.cell? ⟨gb190, 1, none⟩ = some (.int .i64 a0_1) := (z04 BK190.out 1).trans rfl; have hcz80_2 : w79.cell? ⟨gb190, 2, none⟩ = some (.int .i64 a0_2) := (z04 BK190.out 2).trans rfl; have hcz80_3 : w79.cell? ⟨gb190, 3, none⟩ = some (.int .i64 a0_3) := (z04 BK190.out 3).trans rfl; have hcz80_4 : w79.cell? ⟨gb190, 4, none⟩ = some (.int .i64 a0_4) := (z04 BK190.out 4).trans rfl; have hfz80_0 := z01 BK190.out 0; have hfz80_1 := z01 BK190.out 1; have hfz80_2 := z01 BK190.out 2; have hfz80_3 := z01 BK190.out 3; have hfz80_4 := z01 BK190.out 4) | (go_at_call 30; (with_reducible refine (winnowerref07_whole.calls _ _ l0_0 a0_1 a0_2 a0_3 a0_4 a0_2 false _ ?side1 ?side2 A45.out).mono ?_); (case side1 => repeat (first | exact (Kd.C_below HR0_0.out HB.out) | (with_reducible refine Kd.C_alloc ?_ _) | (with_reducible refine Kd.C_drewN ?_ _) | (with_reducible refine Kd.C_drew ?_))); (case side2 => exact HC0_0.out); rintro e w81 ⟨rfl, hb⟩; have n0_ := z05.mk (z0e (g := gb190) (o := .cells #[.slice A0_0 l0_0.length c0_0, .int .i64 a0_1, .int .i64 a0_2, .int .i64 a0_3, .int .i64 a0_4] 24 (0, 0)) (by (with_reducible repeat (first | refine z07 ?_ _ | refine z08 ?_ | refine z06 ?_ _)); exact BK190.out) hb); have n1_ := z05.mk (z0a (by repeat (first | (with_reducible first | exact HB.out | apply z02 | apply z00 | apply z03 | refine z09 ?_ GE190.out) | exact HB.out)) hb); clear BK190; clear HB; have BK190 := n0_; have HB := n1_; clear n0_ n1_; (try clear hb); (try clear hb2); (try clear hk); (try clear hi))); try go_wp2_with (first | (go_at_call 30; (with_reducible refine (winnowerref07_whole.calls _ _ l0_0 a0_1 a0_2 a0_3 a0_4 a0_1 true _ ?side1 ?side2 A43.out).mono ?_); (case side1 => repeat (first | exact (Kd.C_below HR0_0.out HB.out) | (with_reducible refine Kd.C_alloc ?_ _) | (with_reducible refine Kd.C_drewN ?_ _) | (with_reducible refine Kd.C_drew ?_))); (case side2 => exact HC0_0.out); rintro e w79 ⟨rfl, hb⟩; have n0_ := z05.mk (z0e (g := gb190) (o := .cells #[.slice A0_0 l0_0.length c0_0, .int .i64 a0_1, .int .i64 a0_2, .int .i64 a0_3, .int .i64 a0_4] 24 (0, 0)) (by (with_reducible repeat (first | refine z07 ?_ _ | refine z08 ?_ | refine z06 ?_ _)); exact BK190.out) hb); have n1_ := z05.mk (z0a (by repeat (first | (with_reducible first | exact HB.out | apply z02 | apply z00 | apply z03 | refine z09 ?_ GE190.out) | exact HB.out)) hb); clear BK190; clear HB; have BK190 := n0_; have HB := n1_; clear n0_ n1_; (try clear hb); (try clear hb2); (try clear hk); (try clear hi); have hcz80_0 : w79.cell? ⟨gb190, 0, none⟩ = some (.slice A0_0 l0_0.length c0_0) := (z04 BK190.out 0).trans rfl; have hcz80_1 : w79.cell? ⟨gb190, 1, none⟩ = some (.int .i64 a0_1) := (z04 BK190.out 1).trans rfl; have hcz80_2 : w79.cell? ⟨gb190, 2, none⟩ = some (.int .i64 a0_2) := (z04 BK190.out 2).trans rfl; have hcz80_3 : w79.cell? ⟨gb190, 3, none⟩ = some (.int .i64 a0_3) := (z04 BK190.out 3).trans rfl; have hcz80_4 : w79.cell? ⟨gb190, 4, none⟩ = some (.int .i64 a0_4) := (z04 BK190.out 4).trans rfl; have hfz80_0 := z01 BK190.out 0; have hfz80_1 := z01 BK190.out 1; have hfz80_2 := z01 BK190.out 2; have hfz80_3 := z01 BK190.out 3; have hfz80_4 := z01 BK190.out 4) | (go_at_call 30; (with_reducible refine (winnowerref07_whole.calls _ _ l0_0 a0_1 a0_2 a0_3 a0_4 a0_2 false _ ?side1 ?side2 A45.out).mono ?_); (case side1 => repeat (first | exact (Kd.C_below HR0_0.out HB.out) | (with_reducible refine Kd.C_alloc ?_ _) | (with_reducible refine Kd.C_drewN ?_ _) | (with_reducible refine Kd.C_drew ?_))); (case side2 => exact HC0_0.out); rintro e w81 ⟨rfl, hb⟩; have n0_ := z05.mk (z0e (g := gb190) (o := .cells #[.slice A0_0 l0_0.length c0_0, .int .i64 a0_1, .int .i64 a0_2, .int .i64 a0_3, .int .i64 a0_4] 24 (0, 0)) (by (with_reducible repeat (first | refine z07 ?_ _ | refine z08 ?_ | refine z06 ?_ _)); exact BK190.out) hb); have n1_ := z05.mk (z0a (by repeat (first | (with_reducible first | exact HB.out | apply z02 | apply z00 | apply z03 | refine z09 ?_ GE190.out) | exact HB.out)) hb); clear BK190; clear HB; have BK190 := n0_; have HB := n1_; clear n0_ n1_; (try clear hb); (try clear hb2); (try clear hk); (try clear hi))))
                    go_ret
                    exact ⟨by first | rfl | (simp [z0d, z0c] <;> rfl) | (refine congrArg (fun b_ : Bool => Ending.returned (Value.bool b_)) ?_; simp; done) | (simp [*, z0d, z0c] <;> rfl), by repeat (first | (with_reducible first | exact HB.out | apply z02 | apply z00 | apply z03 | refine z09 ?_ GE190.out) | exact HB.out)⟩
                · replace c44 := Bool.eq_false_iff.mpr c44
                  subst c44
                  have H1 : (some false) = some r := by rw [if_neg (show ¬ (false = true) by decide)] at H; exact H
                  clear H
                  have H := H1
                  clear H1
                  obtain rfl := Option.some.inj H
                  have hcz82_0 : wr.cell? ⟨gb190, 0, none⟩ = some (.slice A0_0 l0_0.length c0_0) := (z04 BK190.out 0).trans rfl
                  have hcz82_1 : wr.cell? ⟨gb190, 1, none⟩ = some (.int .i64 a0_1) := (z04 BK190.out 1).trans rfl
                  have hcz82_2 : wr.cell? ⟨gb190, 2, none⟩ = some (.int .i64 a0_2) := (z04 BK190.out 2).trans rfl
                  have hcz82_3 : wr.cell? ⟨gb190, 3, none⟩ = some (.int .i64 a0_3) := (z04 BK190.out 3).trans rfl
                  have hcz82_4 : wr.cell? ⟨gb190, 4, none⟩ = some (.int .i64 a0_4) := (z04 BK190.out 4).trans rfl
                  have hfz82_0 := z01 BK190.out 0
                  have hfz82_1 := z01 BK190.out 1
                  have hfz82_2 := z01 BK190.out 2
                  have hfz82_3 := z01 BK190.out 3
                  have hfz82_4 := z01 BK190.out 4
                  go_wp2_with (first | (go_at_call 30; (with_reducible refine (winnowerref07_whole.calls _ _ l0_0 a0_1 a0_2 a0_3 a0_4 a0_1 false _ ?side1 ?side2 A43.out).mono ?_); (case side1 => repeat (first | exact (Kd.C_below HR0_0.out HB.out) | (with_reducible refine Kd.C_alloc ?_ _) | (with_reducible refine Kd.C_drewN ?_ _) | (with_reducible refine Kd.C_drew ?_))); (case side2 => exact HC0_0.out); rintro e w83 ⟨rfl, hb⟩; have n0_ := z05.mk (z0e (g := gb190) (o := .cells #[.slice A0_0 l0_0.length c0_0, .int .i64 a0_1, .int .i64 a0_2, .int .i64 a0_3, .int .i64 a0_4] 24 (0, 0)) (by (with_reducible repeat (first | refine z07 ?_ _ | refine z08 ?_ | refine z06 ?_ _)); exact BK190.out) hb); have n1_ := z05.mk (z0a (by repeat (first | (with_reducible first | exact HB.out | apply z02 | apply z00 | apply z03 | refine z09 ?_ GE190.out) | exact HB.out)) hb); clear BK190; clear HB; have BK190 := n0_; have HB := n1_; clear n0_ n1_; (try clear hb); (try clear hb2); (try clear hk); (try clear hi)))
                  repeat (go_quiet (first | (go_at_call 30; (with_reducible refine (winnowerref07_whole.calls _ _ l0_0 a0_1 a0_2 a0_3 a0_4 a0_1 false _ ?side1 ?side2 A43.out).mono ?_); (case side1 => repeat (first | exact (Kd.C_below HR0_0.out HB.out) | (with_reducible refine Kd.C_alloc ?_ _) | (with_reducible refine Kd.C_drewN ?_ _) | (with_reducible refine Kd.C_drew ?_))); (case side2 => exact HC0_0.out); rintro e w83 ⟨rfl, hb⟩; have n0_ := z05.mk (z0e (g := gb190) (o := .cells #[.slice A0_0 l0_0.length c0_0, .int .i64 a0_1, .int .i64 a0_2, .int .i64 a0_3, .int .i64 a0_4] 24 (0, 0)) (by (with_reducible repeat (first | refine z07 ?_ _ | refine z08 ?_ | refine z06 ?_ _)); exact BK190.out) hb); have n1_ := z05.mk (z0a (by repeat (first | (with_reducible first | exact HB.out | apply z02 | apply z00 | apply z03 | refine z09 ?_ GE190.out) | exact HB.out)) hb); clear BK190; clear HB; have BK190 := n0_; have HB := n1_; clear n0_ n1_; (try clear hb); (try clear hb2); (try clear hk); (try clear hi))); try go_wp2_with (first | (go_at_call 30; (with_reducible refine (winnowerref07_whole.calls _ _ l0_0 a0_1 a0_2 a0_3 a0_4 a0_1 false _ ?side1 ?side2 A43.out).mono ?_); (case side1 => repeat (first | exact (Kd.C_below HR0_0.out HB.out) | (with_reducible refine Kd.C_alloc ?_ _) | (with_reducible refine Kd.C_drewN ?_ _) | (with_reducible refine Kd.C_drew ?_))); (case side2 => exact HC0_0.out); rintro e w83 ⟨rfl, hb⟩; have n0_ := z05.mk (z0e (g := gb190) (o := .cells #[.slice A0_0 l0_0.length c0_0, .int .i64 a0_1, .int .i64 a0_2, .int .i64 a0_3, .int .i64 a0_4] 24 (0, 0)) (by (with_reducible repeat (first | refine z07 ?_ _ | refine z08 ?_ | refine z06 ?_ _)); exact BK190.out) hb); have n1_ := z05.mk (z0a (by repeat (first | (with_reducible first | exact HB.out | apply z02 | apply z00 | apply z03 | refine z09 ?_ GE190.out) | exact HB.out)) hb); clear BK190; clear HB; have BK190 := n0_; have HB := n1_; clear n0_ n1_; (try clear hb); (try clear hb2); (try clear hk); (try clear hi))))
                  go_ret
                  exact ⟨by first | rfl | (simp [z0d, z0c] <;> rfl) | (refine congrArg (fun b_ : Bool => Ending.returned (Value.bool b_)) ?_; simp; done) | (simp [*, z0d, z0c] <;> rfl), by repeat (first | (with_reducible first | exact HB.out | apply z02 | apply z00 | apply z03 | refine z09 ?_ GE190.out) | exact HB.out)⟩

end Go.Proofs.YtimomihjghefdaaDoor.Q
