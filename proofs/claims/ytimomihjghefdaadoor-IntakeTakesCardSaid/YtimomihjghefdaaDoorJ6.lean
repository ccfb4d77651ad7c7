/- The machine side of laws, written by wip/tools/myprint.py (the printer's way, with functions proved by hand put in); Lean checks it. -/
import Derived.Test.YtimomihjghefdaaDoorJ1
namespace Go.Proofs.YtimomihjghefdaaDoor.Q
open Go.RowKit Go.Proofs.YtimomihjghefdaaDoorW.PrintWords Go.Proofs.YtimomihjghefdaaDoorW.PrintLast Go.Proofs.YtimomihjghefdaaDoorW.PrintMore
attribute [local go_sem] z0y z0v z0z z10 z0s z0t z0w z0x   -- for this text's walks alone
set_option linter.unusedVariables false
set_option linter.unusedSimpArgs false

/-! ### winnowerref07_Few: function 6 -/
def winnowerref07_Few.l0 : Nat → Int → List (S45) → Int → Int → Int → Int → Option (Bool)
  | 0, _, _, _, _, _, _ => none
  | k + 1, x3, x184000, x184001, x184002, x184003, x184004 => if x3 < (x184000.length : Int) then (if 0 ≤ x3 then (if (((z0f x184000 x3).f0).size : Int) > 100 then (some false) else (winnowerref07_Few.l0 k (wrap64 (x3 + 1)) x184000 x184001 x184002 x184003 x184004)) else (none)) else (some true)
def winnowerref07_Few.f (k : Nat) (l0_0 : List (S45)) (a0_1 : Int) (a0_2 : Int) (a0_3 : Int) (a0_4 : Int) : Option (Bool) := if (l0_0.length : Int) > 12 then (some false) else (winnowerref07_Few.l0 k 0 l0_0 a0_1 a0_2 a0_3 a0_4)
set_option maxHeartbeats 8000000 in
set_option maxRecDepth 100000 in
theorem winnowerref07_Few.calls (k : Nat) (A0_0 : Option Addr) (c0_0 : Nat) (l0_0 : List (S45)) (a0_1 : Int) (a0_2 : Int) (a0_3 : Int) (a0_4 : Int) (r : Bool) (w : World) (hr0_0 : Kd.C k45 w A0_0 l0_0.length l0_0) (hc0_0 : l0_0.length ≤ c0_0) (h : winnowerref07_Few.f k l0_0 a0_1 a0_2 a0_3 a0_4 = some r) :
    Calls Tryd.prog 6 #[.agg #[.slice A0_0 l0_0.length c0_0, .int .i64 a0_1, .int .i64 a0_2, .int .i64 a0_3, .int .i64 a0_4]] w fun e w' => e = .returned (.bool r) ∧ Below w.heap.size w w' := by
  have hu24 := Tryd.underlying24
  have HR0_0 := z05.mk hr0_0
  have HC0_0 := z05.mk hc0_0
  clear hr0_0 hc0_0
  have HB := z05.mk (Below.refl w.heap.size w)
  have H : (if (l0_0.length : Int) > 12 then (some false) else (winnowerref07_Few.l0 k 0 l0_0 a0_1 a0_2 a0_3 a0_4)) = some r := h
  clear h
  by_cases c2 : (l0_0.length : Int) > 12
  · rw [if_pos c2] at H
    have c2b0 : decide (12 < (l0_0.length : Int)) = true := decide_eq_true c2
    have c2b1 : decide (12 < l0_0.length) = true := decide_eq_true (by omega)
    clear c2
    obtain rfl := Option.some.inj H
    go_enter Tryd.func6, Tryd.ntmps6
    go_wp2_with (first | ((with_reducible refine z0h (N := 1) rfl ?_); refine z0g ?hg (N := 1) ?hd (cs := #[.slice A0_0 l0_0.length c0_0, .int .i64 a0_1, .int .i64 a0_2, .int .i64 a0_3, .int .i64 a0_4]) (t := 24) ?hr ?_; (case hd => rfl); (case hg => rfl); (case hr => first | (go_simp; done) | (go_simp; rfl)); intro gb183 hg w3 hbox hb; have n0_ := z05.mk (z0a (by repeat (first | (with_reducible first | exact HB.out | apply z02 | apply z00 | apply z03) | exact HB.out)) hb); have n1_ := z05.mk (hbox); have n2_ := z05.mk ((by rw [hg]; exact (z0b (by repeat (first | (with_reducible first | exact HB.out | apply z02 | apply z00 | apply z03) | exact HB.out))) : w.heap.size ≤ gb183)); have n3_ := z05.mk ((by rw [hg]; exact (z0b (by repeat (first | (with_reducible first | exact HB.out | apply z02 | apply z00 | apply z03) | exact HB.out))) : w.heap.size ≤ gb183)); clear HB; have HB := n0_; have BK183 := n1_; have GW183 := n2_; have GE183 := n3_; clear n0_ n1_ n2_ n3_; clear hb hbox hg; have hcz4_0 : w3.cell? ⟨gb183, 0, none⟩ = some (.slice A0_0 l0_0.length c0_0) := (z04 BK183.out 0).trans rfl; have hcz4_1 : w3.cell? ⟨gb183, 1, none⟩ = some (.int .i64 a0_1) := (z04 BK183.out 1).trans rfl; have hcz4_2 : w3.cell? ⟨gb183, 2, none⟩ = some (.int .i64 a0_2) := (z04 BK183.out 2).trans rfl; have hcz4_3 : w3.cell? ⟨gb183, 3, none⟩ = some (.int .i64 a0_3) := (z04 BK183.out 3).trans rfl; have hcz4_4 : w3.cell? ⟨gb183, 4, none⟩ = some (.int .i64 a0_4) := (z04 BK183.out 4).trans rfl; have hfz4_0 := z01 BK183.out 0; have hfz4_1 := z01 BK183.out 1; have hfz4_2 := z01 BK183.out 2; have hfz4_3 := z01 BK183.out 3; have hfz4_4 := z01 BK183.out 4))
    go_ret
    exact ⟨by first | rfl | (simp [z0d, z0c] <;> rfl) | (refine congrArg (fun b_ : Bool => Ending.returned (Value.bool b_)) ?_; simp; done) | (simp [*, z0d, z0c] <;> rfl), by repeat (first | (with_reducible first | exact HB.out | apply z02 | apply z00 | apply z03 | refine z09 ?_ GE183.out) | exact HB.out)⟩
  · rw [if_neg c2] at H
    have c2b0 : decide (12 < (l0_0.length : Int)) = false := decide_eq_false c2
    have c2b1 : decide (12 < l0_0.length) = false := decide_eq_false (by omega)
    clear c2
    have H' := z05.mk H
    clear H
    go_enter Tryd.func6, Tryd.ntmps6
    go_wp2_with (first | ((with_reducible refine z0h (N := 1) rfl ?_); refine z0g ?hg (N := 1) ?hd (cs := #[.slice A0_0 l0_0.length c0_0, .int .i64 a0_1, .int .i64 a0_2, .int .i64 a0_3, .int .i64 a0_4]) (t := 24) ?hr ?_; (case hd => rfl); (case hg => rfl); (case hr => first | (go_simp; done) | (go_simp; rfl)); intro gb183 hg w5 hbox hb; have n0_ := z05.mk (z0a (by repeat (first | (with_reducible first | exact HB.out | apply z02 | apply z00 | apply z03) | exact HB.out)) hb); have n1_ := z05.mk (hbox); have n2_ := z05.mk ((by rw [hg]; exact (z0b (by repeat (first | (with_reducible first | exact HB.out | apply z02 | apply z00 | apply z03) | exact HB.out))) : w.heap.size ≤ gb183)); have n3_ := z05.mk ((by rw [hg]; exact (z0b (by repeat (first | (with_reducible first | exact HB.out | apply z02 | apply z00 | apply z03) | exact HB.out))) : w.heap.size ≤ gb183)); clear HB; have HB := n0_; have BK183 := n1_; have GW183 := n2_; have GE183 := n3_; clear n0_ n1_ n2_ n3_; clear hb hbox hg; have hcz6_0 : w5.cell? ⟨gb183, 0, none⟩ = some (.slice A0_0 l0_0.length c0_0) := (z04 BK183.out 0).trans rfl; have hcz6_1 : w5.cell? ⟨gb183, 1, none⟩ = some (.int .i64 a0_1) := (z04 BK183.out 1).trans rfl; have hcz6_2 : w5.cell? ⟨gb183, 2, none⟩ = some (.int .i64 a0_2) := (z04 BK183.out 2).trans rfl; have hcz6_3 : w5.cell? ⟨gb183, 3, none⟩ = some (.int .i64 a0_3) := (z04 BK183.out 3).trans rfl; have hcz6_4 : w5.cell? ⟨gb183, 4, none⟩ = some (.int .i64 a0_4) := (z04 BK183.out 4).trans rfl; have hfz6_0 := z01 BK183.out 0; have hfz6_1 := z01 BK183.out 1; have hfz6_2 := z01 BK183.out 2; have hfz6_3 := z01 BK183.out 3; have hfz6_4 := z01 BK183.out 4))
    go_loopg [3] k (fun kq v3 w' => ∃ (x3_1 : Int), v3 = .int .i64 x3_1 ∧ z05 (winnowerref07_Few.l0 kq x3_1 l0_0 a0_1 a0_2 a0_3 a0_4 = some r) ∧ z05 (kq ≤ k) ∧ z05 (w'.heap[gb183]? = some (.cells #[(.slice A0_0 l0_0.length c0_0), .int .i64 a0_1, .int .i64 a0_2, .int .i64 a0_3, .int .i64 a0_4] 24 (0, 0))) ∧ z05 (Below w.heap.size w w'))
    case atStart => exact ⟨(0), (by first | rfl | (simp; done) | (simp [*]; done)), H', ⟨Nat.le_refl _⟩, ⟨by (with_reducible repeat (first | refine z07 ?_ _ | refine z08 ?_ | refine z06 ?_ _)); exact BK183.out⟩, ⟨by repeat (first | (with_reducible first | exact HB.out | apply z02 | apply z00 | apply z03 | refine z09 ?_ GE183.out) | exact HB.out)⟩⟩
    case round =>
      clear H'
      try clear c2
      try clear c2b0
      try clear c2b1
      try clear p2
      try clear c6
      try clear hcz4_0
      try clear hcz4_1
      try clear hcz4_2
      try clear hcz4_3
      try clear hcz4_4
      try clear hcz6_0
      try clear hcz6_1
      try clear hcz6_2
      try clear hcz6_3
      try clear hcz6_4
      try clear hfz4_0
      try clear hfz4_1
      try clear hfz4_2
      try clear hfz4_3
      try clear hfz4_4
      try clear hfz6_0
      try clear hfz6_1
      try clear hfz6_2
      try clear hfz6_3
      try clear hfz6_4
      obtain ⟨x3_1, rfl, HA, HK1, BK183, HB⟩ := hrel
      cases gk with
      | zero => exact absurd HA.out (by simp [winnowerref07_Few.l0])
      | succ k1 =>
        have H := HA.out
        clear HA
        simp only [winnowerref07_Few.l0] at H
        by_cases c7 : x3_1 < (l0_0.length : Int)
        · rw [if_pos c7] at H
          have c7b0 : decide (x3_1 < (l0_0.length : Int)) = true := decide_eq_true c7
          clear c7
          by_cases c8 : 0 ≤ x3_1
          · rw [if_pos c8] at H
            have c8b0 : decide (0 ≤ x3_1) = true := decide_eq_true c8
            clear c8
            by_cases c9 : (((z0f l0_0 x3_1).f0).size : Int) > 100
            · rw [if_pos c9] at H
              have c9b0 : decide (100 < (((z0f l0_0 x3_1).f0).size : Int)) = true := decide_eq_true c9
              have c9b1 : decide (100 < ((z0f l0_0 x3_1).f0).size) = true := decide_eq_true (by omega)
              clear c9
              obtain rfl := Option.some.inj H
              have hcz10_0 : wr.cell? ⟨gb183, 0, none⟩ = some (.slice A0_0 l0_0.length c0_0) := (z04 BK183.out 0).trans rfl
              have hcz10_1 : wr.cell? ⟨gb183, 1, none⟩ = some (.int .i64 a0_1) := (z04 BK183.out 1).trans rfl
              have hcz10_2 : wr.cell? ⟨gb183, 2, none⟩ = some (.int .i64 a0_2) := (z04 BK183.out 2).trans rfl
              have hcz10_3 : wr.cell? ⟨gb183, 3, none⟩ = some (.int .i64 a0_3) := (z04 BK183.out 3).trans rfl
              have hcz10_4 : wr.cell? ⟨gb183, 4, none⟩ = some (.int .i64 a0_4) := (z04 BK183.out 4).trans rfl
              have hfz10_0 := z01 BK183.out 0
              have hfz10_1 := z01 BK183.out 1
              have hfz10_2 := z01 BK183.out 2
              have hfz10_3 := z01 BK183.out 3
              have hfz10_4 := z01 BK183.out 4
              have p184 : 0 ≤ (x3_1 : Int) := of_decide_eq_true (by first | (with_reducible assumption) | assumption)
              have q184 : x3_1 < (l0_0.length : Int) := of_decide_eq_true (by first | (with_reducible assumption) | assumption)
              obtain ⟨ad184, e184, hx184_0, hx184_1, hx184_2⟩ := z11 HR0_0.out x3_1 p184 q184
              cases e184
              replace hx184_0 := (HB.out.cell (World.block_lt_of_cell? w _ hx184_0)).trans hx184_0
              replace hx184_1 := (HB.out.cell (World.block_lt_of_cell? w _ hx184_1)).trans hx184_1
              replace hx184_2 := (HB.out.cell (World.block_lt_of_cell? w _ hx184_2)).trans hx184_2
              replace p184 := eq_true p184
              replace q184 := eq_true q184
              go_wp2
              go_ret
              exact ⟨by first | rfl | (simp [z0d, z0c] <;> rfl) | (refine congrArg (fun b_ : Bool => Ending.returned (Value.bool b_)) ?_; simp; done) | (simp [*, z0d, z0c] <;> rfl), by repeat (first | (with_reducible first | exact HB.out | apply z02 | apply z00 | apply z03 | refine z09 ?_ GE183.out) | exact HB.out)⟩
            · rw [if_neg c9] at H
              have c9b0 : decide (100 < (((z0f l0_0 x3_1).f0).size : Int)) = false := decide_eq_false c9
              have c9b1 : decide (100 < ((z0f l0_0 x3_1).f0).size) = false := decide_eq_false (by omega)
              clear c9
              have H' := z05.mk H
              clear H
              have hcz11_0 : wr.cell? ⟨gb183, 0, none⟩ = some (.slice A0_0 l0_0.length c0_0) := (z04 BK183.out 0).trans rfl
              have hcz11_1 : wr.cell? ⟨gb183, 1, none⟩ = some (.int .i64 a0_1) := (z04 BK183.out 1).trans rfl
              have hcz11_2 : wr.cell? ⟨gb183, 2, none⟩ = some (.int .i64 a0_2) := (z04 BK183.out 2).trans rfl
              have hcz11_3 : wr.cell? ⟨gb183, 3, none⟩ = some (.int .i64 a0_3) := (z04 BK183.out 3).trans rfl
              have hcz11_4 : wr.cell? ⟨gb183, 4, none⟩ = some (.int .i64 a0_4) := (z04 BK183.out 4).trans rfl
              have hfz11_0 := z01 BK183.out 0
              have hfz11_1 := z01 BK183.out 1
              have hfz11_2 := z01 BK183.out 2
              have hfz11_3 := z01 BK183.out 3
              have hfz11_4 := z01 BK183.out 4
              have p184 : 0 ≤ (x3_1 : Int) := of_decide_eq_true (by first | (with_reducible assumption) | assumption)
              have q184 : x3_1 < (l0_0.length : Int) := of_decide_eq_true (by first | (with_reducible assumption) | assumption)
              obtain ⟨ad184, e184, hx184_0, hx184_1, hx184_2⟩ := z11 HR0_0.out x3_1 p184 q184
              cases e184
              replace hx184_0 := (HB.out.cell (World.block_lt_of_cell? w _ hx184_0)).trans hx184_0
              replace hx184_1 := (HB.out.cell (World.block_lt_of_cell? w _ hx184_1)).trans hx184_1
              replace hx184_2 := (HB.out.cell (World.block_lt_of_cell? w _ hx184_2)).trans hx184_2
              replace p184 := eq_true p184
              replace q184 := eq_true q184
              go_wp2
              go_roundg k1
              case measure => have := HK1.out; omega
              case rel => exact ⟨(wrap64 (x3_1 + 1)), (by first | rfl | (simp; done) | (simp [*]; done)), H', ⟨by have := HK1.out; omega⟩, ⟨by (with_reducible repeat (first | refine z07 ?_ _ | refine z08 ?_ | refine z06 ?_ _)); exact BK183.out⟩, ⟨by repeat (first | (with_reducible first | exact HB.out | apply z02 | apply z00 | apply z03 | refine z09 ?_ GE183.out) | exact HB.out)⟩⟩
          · rw [if_neg c8] at H
            exact absurd H (by simp)
        · rw [if_neg c7] at H
          have c7b0 : decide (x3_1 < (l0_0.length : Int)) = false := decide_eq_false c7
          clear c7
          obtain rfl := Option.some.inj H
          have hcz12_0 : wr.cell? ⟨gb183, 0, none⟩ = some (.slice A0_0 l0_0.length c0_0) := (z04 BK183.out 0).trans rfl
          have hcz12_1 : wr.cell? ⟨gb183, 1, none⟩ = some (.int .i64 a0_1) := (z04 BK183.out 1).trans rfl
          have hcz12_2 : wr.cell? ⟨gb183, 2, none⟩ = some (.int .i64 a0_2) := (z04 BK183.out 2).trans rfl
          have hcz12_3 : wr.cell? ⟨gb183, 3, none⟩ = some (.int .i64 a0_3) := (z04 BK183.out 3).trans rfl
          have hcz12_4 : wr.cell? ⟨gb183, 4, none⟩ = some (.int .i64 a0_4) := (z04 BK183.out 4).trans rfl
          have hfz12_0 := z01 BK183.out 0
          have hfz12_1 := z01 BK183.out 1
          have hfz12_2 := z01 BK183.out 2
          have hfz12_3 := z01 BK183.out 3
          have hfz12_4 := z01 BK183.out 4
          go_wp2
          go_ret
          exact ⟨by first | rfl | (simp [z0d, z0c] <;> rfl) | (refine congrArg (fun b_ : Bool => Ending.returned (Value.bool b_)) ?_; simp; done) | (simp [*, z0d, z0c] <;> rfl), by repeat (first | (with_reducible first | exact HB.out | apply z02 | apply z00 | apply z03 | refine z09 ?_ GE183.out) | exact HB.out)⟩

/-! ### winnowerref22_Few: function 7 -/
def winnowerref22_Few.l0 : Nat → Int → Int → Int → List (List Int) → Option (Bool)
  | 0, _, _, _, _ => none
  | k + 1, x5, x186000, x186001, x186002 => if x5 < (x186002.length : Int) then (if 0 ≤ x5 then (if ((rd_L1 x186002 x5).length : Int) > 200 then (some false) else (winnowerref22_Few.l0 k (wrap64 (x5 + 1)) x186000 x186001 x186002)) else (none)) else (some true)
def winnowerref22_Few.f (k : Nat) (a0_0 : Int) (a0_1 : Int) (l0_2 : List (List Int)) (a1 : Int) : Option (Bool) := if (l0_2.length : Int) > a1 then (some false) else (winnowerref22_Few.l0 k 0 a0_0 a0_1 l0_2)
set_option maxHeartbeats 8000000 in
set_option maxRecDepth 100000 in
theorem winnowerref22_Few.calls (k : Nat) (a0_0 : Int) (a0_1 : Int) (A0_2 : Option Addr) (c0_2 : Nat) (l0_2 : List (List Int)) (a1 : Int) (r : Bool) (w : World) (hr0_2 : Kd.C (Kd.slice 5 (Kd.int .u8)) w A0_2 l0_2.length l0_2) (hc0_2 : l0_2.length ≤ c0_2) (h : winnowerref22_Few.f k a0_0 a0_1 l0_2 a1 = some r) :
    Calls Tryd.prog 7 #[.agg #[.int .i64 a0_0, .int .i64 a0_1, .slice A0_2 l0_2.length c0_2], .int .i64 a1] w fun e w' => e = .returned (.bool r) ∧ Below w.heap.size w w' := by
  have hu27 := Tryd.underlying27
  have HR0_2 := z05.mk hr0_2
  have HC0_2 := z05.mk hc0_2
  clear hr0_2 hc0_2
  have HB := z05.mk (Below.refl w.heap.size w)
  have H : (if (l0_2.length : Int) > a1 then (some false) else (winnowerref22_Few.l0 k 0 a0_0 a0_1 l0_2)) = some r := h
  clear h
  by_cases c3 : (l0_2.length : Int) > a1
  · rw [if_pos c3] at H
    have c3b0 : decide (a1 < (l0_2.length : Int)) = true := decide_eq_true c3
    have c3b0y0 := c3b0
    (try simp only [hl186_0] at c3b0y0)
    clear c3
    obtain rfl := Option.some.inj H
    go_enter Tryd.func7, Tryd.ntmps7
    go_wp2_with (first | ((with_reducible refine z0h (N := 2) rfl ?_); refine z0g ?hg (N := 2) ?hd (cs := #[.int .i64 a0_0, .int .i64 a0_1, .slice A0_2 l0_2.length c0_2]) (t := 27) ?hr ?_; (case hd => rfl); (case hg => rfl); (case hr => first | (go_simp; done) | (go_simp; rfl)); intro gb185 hg w4 hbox hb; have n0_ := z05.mk (z0a (by repeat (first | (with_reducible first | exact HB.out | apply z02 | apply z00 | apply z03) | exact HB.out)) hb); have n1_ := z05.mk (hbox); have n2_ := z05.mk ((by rw [hg]; exact (z0b (by repeat (first | (with_reducible first | exact HB.out | apply z02 | apply z00 | apply z03) | exact HB.out))) : w.heap.size ≤ gb185)); have n3_ := z05.mk ((by rw [hg]; exact (z0b (by repeat (first | (with_reducible first | exact HB.out | apply z02 | apply z00 | apply z03) | exact HB.out))) : w.heap.size ≤ gb185)); clear HB; have HB := n0_; have BK185 := n1_; have GW185 := n2_; have GE185 := n3_; clear n0_ n1_ n2_ n3_; clear hb hbox hg; have hcz5_0 : w4.cell? ⟨gb185, 0, none⟩ = some (.int .i64 a0_0) := (z04 BK185.out 0).trans rfl; have hcz5_1 : w4.cell? ⟨gb185, 1, none⟩ = some (.int .i64 a0_1) := (z04 BK185.out 1).trans rfl; have hcz5_2 : w4.cell? ⟨gb185, 2, none⟩ = some (.slice A0_2 l0_2.length c0_2) := (z04 BK185.out 2).trans rfl; have hfz5_0 := z01 BK185.out 0; have hfz5_1 := z01 BK185.out 1; have hfz5_2 := z01 BK185.out 2))
    go_ret
    exact ⟨by first | rfl | (simp [z0d, z0c] <;> rfl) | (refine congrArg (fun b_ : Bool => Ending.returned (Value.bool b_)) ?_; simp; done) | (simp [*, z0d, z0c] <;> rfl), by repeat (first | (with_reducible first | exact HB.out | apply z02 | apply z00 | apply z03 | refine z09 ?_ GE185.out) | exact HB.out)⟩
  · rw [if_neg c3] at H
    have c3b0 : decide (a1 < (l0_2.length : Int)) = false := decide_eq_false c3
    have c3b0y0 := c3b0
    (try simp only [hl186_0] at c3b0y0)
    clear c3
    have H' := z05.mk H
    clear H
    go_enter Tryd.func7, Tryd.ntmps7
    go_wp2_with (first | ((with_reducible refine z0h (N := 2) rfl ?_); refine z0g ?hg (N := 2) ?hd (cs := #[.int .i64 a0_0, .int .i64 a0_1, .slice A0_2 l0_2.length c0_2]) (t := 27) ?hr ?_; (case hd => rfl); (case hg => rfl); (case hr => first | (go_simp; done) | (go_simp; rfl)); intro gb185 hg w6 hbox hb; have n0_ := z05.mk (z0a (by repeat (first | (with_reducible first | exact HB.out | apply z02 | apply z00 | apply z03) | exact HB.out)) hb); have n1_ := z05.mk (hbox); have n2_ := z05.mk ((by rw [hg]; exact (z0b (by repeat (first | (with_reducible first | exact HB.out | apply z02 | apply z00 | apply z03) | exact HB.out))) : w.heap.size ≤ gb185)); have n3_ := z05.mk ((by rw [hg]; exact (z0b (by repeat (first | (with_reducible first | exact HB.out | apply z02 | apply z00 | apply z03) | exact HB.out))) : w.heap.size ≤ gb185)); clear HB; have HB := n0_; have BK185 := n1_; have GW185 := n2_; have GE185 := n3_; clear n0_ n1_ n2_ n3_; clear hb hbox hg; have hcz7_0 : w6.cell? ⟨gb185, 0, none⟩ = some (.int .i64 a0_0) := (z04 BK185.out 0).trans rfl; have hcz7_1 : w6.cell? ⟨gb185, 1, none⟩ = some (.int .i64 a0_1) := (z04 BK185.out 1).trans rfl; have hcz7_2 : w6.cell? ⟨gb185, 2, none⟩ = some (.slice A0_2 l0_2.length c0_2) := (z04 BK185.out 2).trans rfl; have hfz7_0 := z01 BK185.out 0; have hfz7_1 := z01 BK185.out 1; have hfz7_2 := z01 BK185.out 2))
    go_loopg [5] k (fun kq v5 w' => ∃ (x5_1 : Int), v5 = .int .i64 x5_1 ∧ z05 (winnowerref22_Few.l0 kq x5_1 a0_0 a0_1 l0_2 = some r) ∧ z05 (kq ≤ k) ∧ z05 (w'.heap[gb185]? = some (.cells #[.int .i64 a0_0, .int .i64 a0_1, (.slice A0_2 l0_2.length c0_2)] 27 (0, 0))) ∧ z05 (Below w.heap.size w w'))
    case atStart => exact ⟨(0), (by first | rfl | (simp; done) | (simp [*]; done)), H', ⟨Nat.le_refl _⟩, ⟨by (with_reducible repeat (first | refine z07 ?_ _ | refine z08 ?_ | refine z06 ?_ _)); exact BK185.out⟩, ⟨by repeat (first | (with_reducible first | exact HB.out | apply z02 | apply z00 | apply z03 | refine z09 ?_ GE185.out) | exact HB.out)⟩⟩
    case round =>
      clear H'
      try clear p2
      try clear c3
      try clear c3b0
      try clear c7
      try clear hcz5_0
      try clear hcz5_1
      try clear hcz5_2
      try clear hcz7_0
      try clear hcz7_1
      try clear hcz7_2
      try clear hfz5_0
      try clear hfz5_1
      try clear hfz5_2
      try clear hfz7_0
      try clear hfz7_1
      try clear hfz7_2
      obtain ⟨x5_1, rfl, HA, HK1, BK185, HB⟩ := hrel
      cases gk with
      | zero => exact absurd HA.out (by simp [winnowerref22_Few.l0])
      | succ k1 =>
        have H := HA.out
        clear HA
        simp only [winnowerref22_Few.l0] at H
        by_cases c8 : x5_1 < (l0_2.length : Int)
        · rw [if_pos c8] at H
          have c8b0 : decide (x5_1 < (l0_2.length : Int)) = true := decide_eq_true c8
          have c8b0y0 := c8b0
          (try simp only [hl186_0] at c8b0y0)
          clear c8
          by_cases c9 : 0 ≤ x5_1
          · rw [if_pos c9] at H
            have c9b0 : decide (0 ≤ x5_1) = true := decide_eq_true c9
            clear c9
            by_cases c10 : ((rd_L1 l0_2 x5_1).length : Int) > 200
            · rw [if_pos c10] at H
              have c10b0 : decide (200 < ((rd_L1 l0_2 x5_1).length : Int)) = true := decide_eq_true c10
              have c10b0y0 := c10b0
              (try simp only [hl186_0] at c10b0y0)
              have c10b1 : decide (200 < (rd_L1 l0_2 x5_1).length) = true := decide_eq_true (by omega)
              have c10b1y0 := c10b1
              (try simp only [hl186_0] at c10b1y0)
              clear c10
              obtain rfl := Option.some.inj H
              have hcz11_0 : wr.cell? ⟨gb185, 0, none⟩ = some (.int .i64 a0_0) := (z04 BK185.out 0).trans rfl
              have hcz11_1 : wr.cell? ⟨gb185, 1, none⟩ = some (.int .i64 a0_1) := (z04 BK185.out 1).trans rfl
              have hcz11_2 : wr.cell? ⟨gb185, 2, none⟩ = some (.slice A0_2 l0_2.length c0_2) := (z04 BK185.out 2).trans rfl
              have hfz11_0 := z01 BK185.out 0
              have hfz11_1 := z01 BK185.out 1
              have hfz11_2 := z01 BK185.out 2
              have p186 : 0 ≤ (x5_1 : Int) := of_decide_eq_true (by first | (with_reducible assumption) | assumption)
              have q186 : x5_1 < (l0_2.length : Int) := of_decide_eq_true (by first | (with_reducible assumption) | assumption)
              obtain ⟨ad186, A186_0, c186_0, e186, hx186_0, hl186_0, hi186_0⟩ := at_L1 HR0_2.out x5_1 p186 q186
              cases e186
              replace hx186_0 := (HB.out.cell (World.block_lt_of_cell? w _ hx186_0)).trans hx186_0
              have HR186_0 := z05.mk hi186_0
              have HC186_0 := z05.mk hl186_0
              clear hi186_0 hl186_0
              replace p186 := eq_true p186
              replace q186 := eq_true q186
              go_wp2
              go_ret
              exact ⟨by first | rfl | (simp [z0d, z0c] <;> rfl) | (refine congrArg (fun b_ : Bool => Ending.returned (Value.bool b_)) ?_; simp; done) | (simp [*, z0d, z0c] <;> rfl), by repeat (first | (with_reducible first | exact HB.out | apply z02 | apply z00 | apply z03 | refine z09 ?_ GE185.out) | exact HB.out)⟩
            · rw [if_neg c10] at H
              have c10b0 : decide (200 < ((rd_L1 l0_2 x5_1).length : Int)) = false := decide_eq_false c10
              have c10b0y0 := c10b0
              (try simp only [hl186_0] at c10b0y0)
              have c10b1 : decide (200 < (rd_L1 l0_2 x5_1).length) = false := decide_eq_false (by omega)
              have c10b1y0 := c10b1
              (try simp only [hl186_0] at c10b1y0)
              clear c10
              have H' := z05.mk H
              clear H
              have hcz12_0 : wr.cell? ⟨gb185, 0, none⟩ = some (.int .i64 a0_0) := (z04 BK185.out 0).trans rfl
              have hcz12_1 : wr.cell? ⟨gb185, 1, none⟩ = some (.int .i64 a0_1) := (z04 BK185.out 1).trans rfl
              have hcz12_2 : wr.cell? ⟨gb185, 2, none⟩ = some (.slice A0_2 l0_2.length c0_2) := (z04 BK185.out 2).trans rfl
              have hfz12_0 := z01 BK185.out 0
              have hfz12_1 := z01 BK185.out 1
              have hfz12_2 := z01 BK185.out 2
              have p186 : 0 ≤ (x5_1 : Int) := of_decide_eq_true (by first | (with_reducible assumption) | assumption)
              have q186 : x5_1 < (l0_2.length : Int) := of_decide_eq_true (by first | (with_reducible assumption) | assumption)
              obtain ⟨ad186, A186_0, c186_0, e186, hx186_0, hl186_0, hi186_0⟩ := at_L1 HR0_2.out x5_1 p186 q186
              cases e186
              replace hx186_0 := (HB.out.cell (World.block_lt_of_cell? w _ hx186_0)).trans hx186_0
              have HR186_0 := z05.mk hi186_0
              have HC186_0 := z05.mk hl186_0
              clear hi186_0 hl186_0
              replace p186 := eq_true p186
              replace q186 := eq_true q186
              go_wp2
              go_roundg k1
              case measure => have := HK1.out; omega
              case rel => exact ⟨(wrap64 (x5_1 + 1)), (by first | rfl | (simp; done) | (simp [*]; done)), H', ⟨by have := HK1.out; omega⟩, ⟨by (with_reducible repeat (first | refine z07 ?_ _ | refine z08 ?_ | refine z06 ?_ _)); exact BK185.out⟩, ⟨by repeat (first | (with_reducible first | exact HB.out | apply z02 | apply z00 | apply z03 | refine z09 ?_ GE185.out) | exact HB.out)⟩⟩
          · rw [if_neg c9] at H
            exact absurd H (by simp)
        · rw [if_neg c8] at H
          have c8b0 : decide (x5_1 < (l0_2.length : Int)) = false := decide_eq_false c8
          have c8b0y0 := c8b0
          (try simp only [hl186_0] at c8b0y0)
          clear c8
          obtain rfl := Option.some.inj H
          have hcz13_0 : wr.cell? ⟨gb185, 0, none⟩ = some (.int .i64 a0_0) := (z04 BK185.out 0).trans rfl
          have hcz13_1 : wr.cell? ⟨gb185, 1, none⟩ = some (.int .i64 a0_1) := (z04 BK185.out 1).trans rfl
          have hcz13_2 : wr.cell? ⟨gb185, 2, none⟩ = some (.slice A0_2 l0_2.length c0_2) := (z04 BK185.out 2).trans rfl
          have hfz13_0 := z01 BK185.out 0
          have hfz13_1 := z01 BK185.out 1
          have hfz13_2 := z01 BK185.out 2
          go_wp2
          go_ret
          exact ⟨by first | rfl | (simp [z0d, z0c] <;> rfl) | (refine congrArg (fun b_ : Bool => Ending.returned (Value.bool b_)) ?_; simp; done) | (simp [*, z0d, z0c] <;> rfl), by repeat (first | (with_reducible first | exact HB.out | apply z02 | apply z00 | apply z03 | refine z09 ?_ GE185.out) | exact HB.out)⟩

/-! ### winnowerref22_Check: function 12 -/
mutual
def winnowerref22_Check.j0 : Nat → Int → Bool → Int → Int → List (List Int) → Option (Int)
  | 0, _, _, _, _, _ => none
  | k + 1, x0, x30, x188000, x188001, x188002 => if x30 = true then (some 1) else (if (x188002.length : Int) > 1024 then (winnowerref22_Check.j1 k x0 true x188000 x188001 x188002) else (winnowerref22_Check.j1 k x0 (decide ((wrap64 (x188001 + (x188002.length : Int))) > 1099511627776)) x188000 x188001 x188002))
def winnowerref22_Check.j1 : Nat → Int → Bool → Int → Int → List (List Int) → Option (Int)
  | 0, _, _, _, _, _ => none
  | k + 1, x0, x43, x188000, x188001, x188002 => if x43 = true then (some 2) else (if x0 < x188001 then (some 11) else (some 0))
end
def winnowerref22_Check.f (k : Nat) (a0 : Int) (a1_0 : Int) (a1_1 : Int) (l1_2 : List (List Int)) : Option (Int) := if a0 < 0 then (winnowerref22_Check.j0 k a0 true a1_0 a1_1 l1_2) else (if a0 > 1099511627776 then (winnowerref22_Check.j0 k a0 true a1_0 a1_1 l1_2) else (if a1_1 < 0 then (winnowerref22_Check.j0 k a0 true a1_0 a1_1 l1_2) else (if a1_1 > 1099511627776 then (winnowerref22_Check.j0 k a0 true a1_0 a1_1 l1_2) else (if a1_0 < 0 then (winnowerref22_Check.j0 k a0 true a1_0 a1_1 l1_2) else (winnowerref22_Check.j0 k a0 (decide (a1_0 > 3)) a1_0 a1_1 l1_2)))))
set_option maxHeartbeats 8000000 in
set_option maxRecDepth 100000 in
theorem winnowerref22_Check.calls (k : Nat) (a0 : Int) (a1_0 : Int) (a1_1 : Int) (A1_2 : Option Addr) (c1_2 : Nat) (l1_2 : List (List Int)) (r : Int) (w : World) (hr1_2 : Kd.C (Kd.slice 5 (Kd.int .u8)) w A1_2 l1_2.length l1_2) (hc1_2 : l1_2.length ≤ c1_2) (h : winnowerref22_Check.f k a0 a1_0 a1_1 l1_2 = some r) :
    Calls Tryd.prog 12 #[.int .i64 a0, .agg #[.int .i64 a1_0, .int .i64 a1_1, .slice A1_2 l1_2.length c1_2]] w fun e w' => e = .returned (.int .i64 r) ∧ Below w.heap.size w w' := by
  have hu27 := Tryd.underlying27
  have HR1_2 := z05.mk hr1_2
  have HC1_2 := z05.mk hc1_2
  clear hr1_2 hc1_2
  have HB := z05.mk (Below.refl w.heap.size w)
  have H : (if a0 < 0 then (winnowerref22_Check.j0 k a0 true a1_0 a1_1 l1_2) else (if a0 > 1099511627776 then (winnowerref22_Check.j0 k a0 true a1_0 a1_1 l1_2) else (if a1_1 < 0 then (winnowerref22_Check.j0 k a0 true a1_0 a1_1 l1_2) else (if a1_1 > 1099511627776 then (winnowerref22_Check.j0 k a0 true a1_0 a1_1 l1_2) else (if a1_0 < 0 then (winnowerref22_Check.j0 k a0 true a1_0 a1_1 l1_2) else (winnowerref22_Check.j0 k a0 (decide (a1_0 > 3)) a1_0 a1_1 l1_2)))))) = some r := h
  clear h
  have HC3 := z05.mk H
  clear H
  go_enter Tryd.func12, Tryd.ntmps12
  go_upto_region 1 with (first | ((with_reducible refine z0h (N := 3) rfl ?_); (try (refine z0r (by rfl) ?_; dsimp only)); refine z0g ?hg (N := 3) ?hd (cs := #[.int .i64 a1_0, .int .i64 a1_1, .slice A1_2 l1_2.length c1_2]) (t := 27) ?hr ?_; (case hd => rfl); (case hg => rfl); (case hr => first | (go_simp; done) | (go_simp; rfl)); intro gb187 hg w4 hbox hb; have n0_ := z05.mk (z0a (by repeat (first | (with_reducible first | exact HB.out | apply z02 | apply z00 | apply z03) | exact HB.out)) hb); have n1_ := z05.mk (hbox); have n2_ := z05.mk ((by rw [hg]; exact (z0b (by repeat (first | (with_reducible first | exact HB.out | apply z02 | apply z00 | apply z03) | exact HB.out))) : w.heap.size ≤ gb187)); have n3_ := z05.mk ((by rw [hg]; exact (z0b (by repeat (first | (with_reducible first | exact HB.out | apply z02 | apply z00 | apply z03) | exact HB.out))) : w.heap.size ≤ gb187)); clear HB; have HB := n0_; have BK187 := n1_; have GW187 := n2_; have GE187 := n3_; clear n0_ n1_ n2_ n3_; clear hb hbox hg))
  (try simp only [Act.put, List.setIfInBounds_toArray, List.set_cons_zero, List.set_cons_succ])
  go_cut [30] (fun v30 wc => ∃ (kq : Nat) (x30_2 : Bool), v30 = .bool x30_2 ∧ z05 (winnowerref22_Check.j0 kq a0 x30_2 a1_0 a1_1 l1_2 = some r) ∧ z05 (kq ≤ k) ∧ z05 (wc.heap[gb187]? = some (.cells #[.int .i64 a1_0, .int .i64 a1_1, (.slice A1_2 l1_2.length c1_2)] 27 (0, 0))) ∧ z05 (Below w.heap.size w wc))
  case first =>
    have H := HC3.out
    clear HC3
    by_cases c5 : a0 < 0
    · rw [if_pos c5] at H
      have c5b0 : decide (a0 < 0) = true := decide_eq_true c5
      clear c5
      (first | rw [c5b0] | (simp only [i64_w, i32_w]; rw [c5b0]) | skip)
      have H' := z05.mk H
      clear H
      go_wp2
      go_meet
      case rel => exact ⟨_, (true), (by first | rfl | (simp; done) | (simp [*]; done)), H', ⟨by first | omega | exact Nat.le_refl _⟩, ⟨by (with_reducible repeat (first | refine z07 ?_ _ | refine z08 ?_ | refine z06 ?_ _)); exact BK187.out⟩, ⟨by repeat (first | (with_reducible first | exact HB.out | apply z02 | apply z00 | apply z03 | refine z09 ?_ GE187.out) | exact HB.out)⟩⟩
    · rw [if_neg c5] at H
      have c5b0 : decide (a0 < 0) = false := decide_eq_false c5
      clear c5
      (first | rw [c5b0] | (simp only [i64_w, i32_w]; rw [c5b0]) | skip)
      by_cases c6 : a0 > 1099511627776
      · rw [if_pos c6] at H
        have c6b0 : decide (1099511627776 < a0) = true := decide_eq_true c6
        clear c6
        have H' := z05.mk H
        clear H
        go_wp2
        go_meet
        case rel => exact ⟨_, (true), (by first | rfl | (simp; done) | (simp [*]; done)), H', ⟨by first | omega | exact Nat.le_refl _⟩, ⟨by (with_reducible repeat (first | refine z07 ?_ _ | refine z08 ?_ | refine z06 ?_ _)); exact BK187.out⟩, ⟨by repeat (first | (with_reducible first | exact HB.out | apply z02 | apply z00 | apply z03 | refine z09 ?_ GE187.out) | exact HB.out)⟩⟩
      · rw [if_neg c6] at H
        have c6b0 : decide (1099511627776 < a0) = false := decide_eq_false c6
        clear c6
        by_cases c7 : a1_1 < 0
        · rw [if_pos c7] at H
          have c7b0 : decide (a1_1 < 0) = true := decide_eq_true c7
          clear c7
          have H' := z05.mk H
          clear H
          have hcz8_0 : w4.cell? ⟨gb187, 0, none⟩ = some (.int .i64 a1_0) := (z04 BK187.out 0).trans rfl
          have hcz8_1 : w4.cell? ⟨gb187, 1, none⟩ = some (.int .i64 a1_1) := (z04 BK187.out 1).trans rfl
          have hcz8_2 : w4.cell? ⟨gb187, 2, none⟩ = some (.slice A1_2 l1_2.length c1_2) := (z04 BK187.out 2).trans rfl
          have hfz8_0 := z01 BK187.out 0
          have hfz8_1 := z01 BK187.out 1
          have hfz8_2 := z01 BK187.out 2
          go_wp2
          go_meet
          case rel => exact ⟨_, (true), (by first | rfl | (simp; done) | (simp [*]; done)), H', ⟨by first | omega | exact Nat.le_refl _⟩, ⟨by (with_reducible repeat (first | refine z07 ?_ _ | refine z08 ?_ | refine z06 ?_ _)); exact BK187.out⟩, ⟨by repeat (first | (with_reducible first | exact HB.out | apply z02 | apply z00 | apply z03 | refine z09 ?_ GE187.out) | exact HB.out)⟩⟩
        · rw [if_neg c7] at H
          have c7b0 : decide (a1_1 < 0) = false := decide_eq_false c7
          clear c7
          by_cases c9 : a1_1 > 1099511627776
          · rw [if_pos c9] at H
            have c9b0 : decide (1099511627776 < a1_1) = true := decide_eq_true c9
            clear c9
            have H' := z05.mk H
            clear H
            have hcz10_0 : w4.cell? ⟨gb187, 0, none⟩ = some (.int .i64 a1_0) := (z04 BK187.out 0).trans rfl
            have hcz10_1 : w4.cell? ⟨gb187, 1, none⟩ = some (.int .i64 a1_1) := (z04 BK187.out 1).trans rfl
            have hcz10_2 : w4.cell? ⟨gb187, 2, none⟩ = some (.slice A1_2 l1_2.length c1_2) := (z04 BK187.out 2).trans rfl
            have hfz10_0 := z01 BK187.out 0
            have hfz10_1 := z01 BK187.out 1
            have hfz10_2 := z01 BK187.out 2
            go_wp2
            go_meet
            case rel => exact ⟨_, (true), (by first | rfl | (simp; done) | (simp [*]; done)), H', ⟨by first | omega | exact Nat.le_refl _⟩, ⟨by (with_reducible repeat (first | refine z07 ?_ _ | refine z08 ?_ | refine z06 ?_ _)); exact BK187.out⟩, ⟨by repeat (first | (with_reducible first | exact HB.out | apply z02 | apply z00 | apply z03 | refine z09 ?_ GE187.out) | exact HB.out)⟩⟩
          · rw [if_neg c9] at H
            have c9b0 : decide (1099511627776 < a1_1) = false := decide_eq_false c9
            clear c9
            by_cases c11 : a1_0 < 0
            · rw [if_pos c11] at H
              have c11b0 : decide (a1_0 < 0) = true := decide_eq_true c11
              clear c11
              have H' := z05.mk H
              clear H
              have hcz12_0 : w4.cell? ⟨gb187, 0, none⟩ = some (.int .i64 a1_0) := (z04 BK187.out 0).trans rfl
              have hcz12_1 : w4.cell? ⟨gb187, 1, none⟩ = some (.int .i64 a1_1) := (z04 BK187.out 1).trans rfl
              have hcz12_2 : w4.cell? ⟨gb187, 2, none⟩ = some (.slice A1_2 l1_2.length c1_2) := (z04 BK187.out 2).trans rfl
              have hfz12_0 := z01 BK187.out 0
              have hfz12_1 := z01 BK187.out 1
              have hfz12_2 := z01 BK187.out 2
              go_wp2
              go_meet
              case rel => exact ⟨_, (true), (by first | rfl | (simp; done) | (simp [*]; done)), H', ⟨by first | omega | exact Nat.le_refl _⟩, ⟨by (with_reducible repeat (first | refine z07 ?_ _ | refine z08 ?_ | refine z06 ?_ _)); exact BK187.out⟩, ⟨by repeat (first | (with_reducible first | exact HB.out | apply z02 | apply z00 | apply z03 | refine z09 ?_ GE187.out) | exact HB.out)⟩⟩
            · rw [if_neg c11] at H
              have c11b0 : decide (a1_0 < 0) = false := decide_eq_false c11
              clear c11
              have H' := z05.mk H
              clear H
              have hcz13_0 : w4.cell? ⟨gb187, 0, none⟩ = some (.int .i64 a1_0) := (z04 BK187.out 0).trans rfl
              have hcz13_1 : w4.cell? ⟨gb187, 1, none⟩ = some (.int .i64 a1_1) := (z04 BK187.out 1).trans rfl
              have hcz13_2 : w4.cell? ⟨gb187, 2, none⟩ = some (.slice A1_2 l1_2.length c1_2) := (z04 BK187.out 2).trans rfl
              have hfz13_0 := z01 BK187.out 0
              have hfz13_1 := z01 BK187.out 1
              have hfz13_2 := z01 BK187.out 2
              go_wp2
              go_meet
              case rel => exact ⟨_, (decide (a1_0 > 3)), (by first | rfl | (simp; done) | (simp [*]; done)), H', ⟨by first | omega | exact Nat.le_refl _⟩, ⟨by (with_reducible repeat (first | refine z07 ?_ _ | refine z08 ?_ | refine z06 ?_ _)); exact BK187.out⟩, ⟨by repeat (first | (with_reducible first | exact HB.out | apply z02 | apply z00 | apply z03 | refine z09 ?_ GE187.out) | exact HB.out)⟩⟩
  case rest =>
    clear HC3
    try clear c1
    try clear p2
    try clear c5
    try clear c5b0
    try clear c6
    try clear c6b0
    try clear c7
    try clear c7b0
    try clear c9
    try clear c9b0
    try clear c11
    try clear c11b0
    try clear c12
    try clear hcz10_0
    try clear hcz10_1
    try clear hcz10_2
    try clear hcz12_0
    try clear hcz12_1
    try clear hcz12_2
    try clear hcz13_0
    try clear hcz13_1
    try clear hcz13_2
    try clear hcz8_0
    try clear hcz8_1
    try clear hcz8_2
    try clear hfz10_0
    try clear hfz10_1
    try clear hfz10_2
    try clear hfz12_0
    try clear hfz12_1
    try clear hfz12_2
    try clear hfz13_0
    try clear hfz13_1
    try clear hfz13_2
    try clear hfz8_0
    try clear hfz8_1
    try clear hfz8_2
    obtain ⟨kq, x30_2, rfl, HA, HJ2, BK187, HB⟩ := hcut
    cases kq with
    | zero => exact absurd HA.out (by simp [winnowerref22_Check.j0])
    | succ kj2 =>
      have H := HA.out
      clear HA
      simp only [winnowerref22_Check.j0] at H
      by_cases c14 : x30_2 = true
      · subst c14
        have H1 : (some 1) = some r := by rw [if_pos rfl] at H; exact H
        clear H
        have H := H1
        clear H1
        obtain rfl := Option.some.inj H
        go_wp2
        go_ret
        exact ⟨by first | rfl | (simp [z0d, z0c] <;> rfl) | (refine congrArg (fun b_ : Bool => Ending.returned (Value.bool b_)) ?_; simp; done) | (simp [*, z0d, z0c] <;> rfl), by repeat (first | (with_reducible first | exact HB.out | apply z02 | apply z00 | apply z03 | refine z09 ?_ GE187.out) | exact HB.out)⟩
      · replace c14 := Bool.eq_false_iff.mpr c14
        subst c14
        have H1 : (if (l1_2.length : Int) > 1024 then (winnowerref22_Check.j1 kj2 a0 true a1_0 a1_1 l1_2) else (winnowerref22_Check.j1 kj2 a0 (decide ((wrap64 (a1_1 + (l1_2.length : Int))) > 1099511627776)) a1_0 a1_1 l1_2)) = some r := by rw [if_neg (show ¬ (false = true) by decide)] at H; exact H
        clear H
        have H := H1
        clear H1
        have HC15 := z05.mk H
        clear H
        go_upto_region 3 with (fail)
        go_cut [43] (fun v43 wc => ∃ (kq : Nat) (x43_14 : Bool), v43 = .bool x43_14 ∧ z05 (winnowerref22_Check.j1 kq a0 x43_14 a1_0 a1_1 l1_2 = some r) ∧ z05 (kq ≤ kj2) ∧ z05 (wc.heap[gb187]? = some (.cells #[.int .i64 a1_0, .int .i64 a1_1, (.slice A1_2 l1_2.length c1_2)] 27 (0, 0))) ∧ z05 (Below w.heap.size w wc))
        case first =>
          have H := HC15.out
          clear HC15
          by_cases c16 : (l1_2.length : Int) > 1024
          · rw [if_pos c16] at H
            have c16b0 : decide (1024 < (l1_2.length : Int)) = true := decide_eq_true c16
            have c16b1 : decide (1024 < l1_2.length) = true := decide_eq_true (by omega)
            clear c16
            (first | rw [c16b0] | (simp only [i64_w, i32_w]; rw [c16b0]) | skip)
            have H' := z05.mk H
            clear H
            have hcz17_0 : wc.cell? ⟨gb187, 0, none⟩ = some (.int .i64 a1_0) := (z04 BK187.out 0).trans rfl
            have hcz17_1 : wc.cell? ⟨gb187, 1, none⟩ = some (.int .i64 a1_1) := (z04 BK187.out 1).trans rfl
            have hcz17_2 : wc.cell? ⟨gb187, 2, none⟩ = some (.slice A1_2 l1_2.length c1_2) := (z04 BK187.out 2).trans rfl
            have hfz17_0 := z01 BK187.out 0
            have hfz17_1 := z01 BK187.out 1
            have hfz17_2 := z01 BK187.out 2
            go_wp2
            go_meet
            case rel => exact ⟨_, (true), (by first | rfl | (simp; done) | (simp [*]; done)), H', ⟨by have := HJ2.out; first | omega | exact Nat.le_refl _⟩, ⟨by (with_reducible repeat (first | refine z07 ?_ _ | refine z08 ?_ | refine z06 ?_ _)); exact BK187.out⟩, ⟨by repeat (first | (with_reducible first | exact HB.out | apply z02 | apply z00 | apply z03 | refine z09 ?_ GE187.out) | exact HB.out)⟩⟩
          · rw [if_neg c16] at H
            have c16b0 : decide (1024 < (l1_2.length : Int)) = false := decide_eq_false c16
            have c16b1 : decide (1024 < l1_2.length) = false := decide_eq_false (by omega)
            clear c16
            (first | rw [c16b0] | (simp only [i64_w, i32_w]; rw [c16b0]) | skip)
            have H' := z05.mk H
            clear H
            have hcz18_0 : wc.cell? ⟨gb187, 0, none⟩ = some (.int .i64 a1_0) := (z04 BK187.out 0).trans rfl
            have hcz18_1 : wc.cell? ⟨gb187, 1, none⟩ = some (.int .i64 a1_1) := (z04 BK187.out 1).trans rfl
            have hcz18_2 : wc.cell? ⟨gb187, 2, none⟩ = some (.slice A1_2 l1_2.length c1_2) := (z04 BK187.out 2).trans rfl
            have hfz18_0 := z01 BK187.out 0
            have hfz18_1 := z01 BK187.out 1
            have hfz18_2 := z01 BK187.out 2
            go_wp2
            go_meet
            case rel => exact ⟨_, (decide ((wrap64 (a1_1 + (l1_2.length : Int))) > 1099511627776)), (by first | rfl | (simp; done) | (simp [*]; done)), H', ⟨by have := HJ2.out; first | omega | exact Nat.le_refl _⟩, ⟨by (with_reducible repeat (first | refine z07 ?_ _ | refine z08 ?_ | refine z06 ?_ _)); exact BK187.out⟩, ⟨by repeat (first | (with_reducible first | exact HB.out | apply z02 | apply z00 | apply z03 | refine z09 ?_ GE187.out) | exact HB.out)⟩⟩
        case rest =>
          clear HC15
          try clear c1
          try clear p2
          try clear c5
          try clear c5b0
          try clear c6
          try clear c6b0
          try clear p6
          try clear c7
          try clear c7b0
          try clear c9
          try clear c9b0
          try clear c11
          try clear c11b0
          try clear c12
          try clear c14
          try clear c16
          try clear c16b0
          try clear c16b1
          try clear hcz10_0
          try clear hcz10_1
          try clear hcz10_2
          try clear hcz12_0
          try clear hcz12_1
          try clear hcz12_2
          try clear hcz13_0
          try clear hcz13_1
          try clear hcz13_2
          try clear hcz17_0
          try clear hcz17_1
          try clear hcz17_2
          try clear hcz18_0
          try clear hcz18_1
          try clear hcz18_2
          try clear hcz8_0
          try clear hcz8_1
          try clear hcz8_2
          try clear hfz10_0
          try clear hfz10_1
          try clear hfz10_2
          try clear hfz12_0
          try clear hfz12_1
          try clear hfz12_2
          try clear hfz13_0
          try clear hfz13_1
          try clear hfz13_2
          try clear hfz17_0
          try clear hfz17_1
          try clear hfz17_2
          try clear hfz18_0
          try clear hfz18_1
          try clear hfz18_2
          try clear hfz8_0
          try clear hfz8_1
          try clear hfz8_2
          try clear p2
          obtain ⟨kq, x43_14, rfl, HA, HJ14, BK187, HB⟩ := hcut
          cases kq with
          | zero => exact absurd HA.out (by simp [winnowerref22_Check.j1])
          | succ kj14 =>
            have H := HA.out
            clear HA
            simp only [winnowerref22_Check.j1] at H
            by_cases c19 : x43_14 = true
            · subst c19
              have H1 : (some 2) = some r := by rw [if_pos rfl] at H; exact H
              clear H
              have H := H1
              clear H1
              obtain rfl := Option.some.inj H
              go_wp2
              go_ret
              exact ⟨by first | rfl | (simp [z0d, z0c] <;> rfl) | (refine congrArg (fun b_ : Bool => Ending.returned (Value.bool b_)) ?_; simp; done) | (simp [*, z0d, z0c] <;> rfl), by repeat (first | (with_reducible first | exact HB.out | apply z02 | apply z00 | apply z03 | refine z09 ?_ GE187.out) | exact HB.out)⟩
            · replace c19 := Bool.eq_false_iff.mpr c19
              subst c19
              have H1 : (if a0 < a1_1 then (some 11) else (some 0)) = some r := by rw [if_neg (show ¬ (false = true) by decide)] at H; exact H
              clear H
              have H := H1
              clear H1
              by_cases c20 : a0 < a1_1
              · rw [if_pos c20] at H
                have c20b0 : decide (a0 < a1_1) = true := decide_eq_true c20
                clear c20
                obtain rfl := Option.some.inj H
                have hcz21_0 : wc.cell? ⟨gb187, 0, none⟩ = some (.int .i64 a1_0) := (z04 BK187.out 0).trans rfl
                have hcz21_1 : wc.cell? ⟨gb187, 1, none⟩ = some (.int .i64 a1_1) := (z04 BK187.out 1).trans rfl
                have hcz21_2 : wc.cell? ⟨gb187, 2, none⟩ = some (.slice A1_2 l1_2.length c1_2) := (z04 BK187.out 2).trans rfl
                have hfz21_0 := z01 BK187.out 0
                have hfz21_1 := z01 BK187.out 1
                have hfz21_2 := z01 BK187.out 2
                go_wp2
                go_ret
                exact ⟨by first | rfl | (simp [z0d, z0c] <;> rfl) | (refine congrArg (fun b_ : Bool => Ending.returned (Value.bool b_)) ?_; simp; done) | (simp [*, z0d, z0c] <;> rfl), by repeat (first | (with_reducible first | exact HB.out | apply z02 | apply z00 | apply z03 | refine z09 ?_ GE187.out) | exact HB.out)⟩
              · rw [if_neg c20] at H
                have c20b0 : decide (a0 < a1_1) = false := decide_eq_false c20
                clear c20
                obtain rfl := Option.some.inj H
                have hcz22_0 : wc.cell? ⟨gb187, 0, none⟩ = some (.int .i64 a1_0) := (z04 BK187.out 0).trans rfl
                have hcz22_1 : wc.cell? ⟨gb187, 1, none⟩ = some (.int .i64 a1_1) := (z04 BK187.out 1).trans rfl
                have hcz22_2 : wc.cell? ⟨gb187, 2, none⟩ = some (.slice A1_2 l1_2.length c1_2) := (z04 BK187.out 2).trans rfl
                have hfz22_0 := z01 BK187.out 0
                have hfz22_1 := z01 BK187.out 1
                have hfz22_2 := z01 BK187.out 2
                go_wp2
                go_ret
                exact ⟨by first | rfl | (simp [z0d, z0c] <;> rfl) | (refine congrArg (fun b_ : Bool => Ending.returned (Value.bool b_)) ?_; simp; done) | (simp [*, z0d, z0c] <;> rfl), by repeat (first | (with_reducible first | exact HB.out | apply z02 | apply z00 | apply z03 | refine z09 ?_ GE187.out) | exact HB.out)⟩

end Go.Proofs.YtimomihjghefdaaDoor.Q
namespace Go.Proofs.YtimomihjghefdaaDoor.Q
open Go.RowKit Go.Proofs.YtimomihjghefdaaDoorW.PrintWords Go.Proofs.YtimomihjghefdaaDoorW.PrintLast Go.Proofs.YtimomihjghefdaaDoorW.PrintMore
attribute [local go_sem] z0y z0v z0z z10 z0s z0t z0w z0x   -- for this text's walks alone
set_option linter.unusedVariables false
set_option linter.unusedSimpArgs false

/-! ### winnowerref07_name: function 29 -/
mutual
def winnowerref07_name.j0 : Nat → ByteArray → Bool → Option (Bool)
  | 0, _, _ => none
  | k + 1, x0, x12 => if x12 = true then (some false) else (winnowerref07_name.l0 k x0 0)
def winnowerref07_name.l0 : Nat → ByteArray → Int → Option (Bool)
  | 0, _, _ => none
  | k + 1, x0, x3 => if x3 < (x0.size : Int) then (if 0 ≤ x3 then (if (bt x0 x3) ≥ 97 then (if (bt x0 x3) ≤ 122 then (winnowerref07_name.l0 k x0 (wrap64 (x3 + 1))) else (if (bt x0 x3) ≥ 48 then (if (bt x0 x3) ≤ 57 then (winnowerref07_name.l0 k x0 (wrap64 (x3 + 1))) else (if ((bt x0 x3) = 95) then (winnowerref07_name.l0 k x0 (wrap64 (x3 + 1))) else (some false))) else (if ((bt x0 x3) = 95) then (winnowerref07_name.l0 k x0 (wrap64 (x3 + 1))) else (some false)))) else (if (bt x0 x3) ≥ 48 then (if (bt x0 x3) ≤ 57 then (winnowerref07_name.l0 k x0 (wrap64 (x3 + 1))) else (if ((bt x0 x3) = 95) then (winnowerref07_name.l0 k x0 (wrap64 (x3 + 1))) else (some false))) else (if ((bt x0 x3) = 95) then (winnowerref07_name.l0 k x0 (wrap64 (x3 + 1))) else (some false)))) else (none)) else (some true)
end
def winnowerref07_name.f (k : Nat) (a0 : ByteArray) : Option (Bool) := if (a0.size : Int) < 1 then (winnowerref07_name.j0 k a0 true) else (winnowerref07_name.j0 k a0 (decide ((a0.size : Int) > 16)))
set_option maxHeartbeats 8000000 in
set_option maxRecDepth 100000 in
theorem winnowerref07_name.calls (k : Nat) (a0 : ByteArray) (r : Bool) (w : World) (h : winnowerref07_name.f k a0 = some r) :
    Calls Tryd.prog 29 #[.string a0] w fun e w' => e = .returned (.bool r) ∧ z0k w w' := by
  have H : (if (a0.size : Int) < 1 then (winnowerref07_name.j0 k a0 true) else (winnowerref07_name.j0 k a0 (decide ((a0.size : Int) > 16)))) = some r := h
  clear h
  have HC2 := z05.mk H
  clear H
  go_enter Tryd.func29, Tryd.ntmps29
  go_upto_region 1 with (fail)
  go_cut [12] (fun v12 wc => ∃ (kq : Nat) (x12_1 : Bool), v12 = .bool x12_1 ∧ z05 (winnowerref07_name.j0 kq a0 x12_1 = some r) ∧ z05 (kq ≤ k) ∧ z0k w wc)
  case first =>
    have H := HC2.out
    clear HC2
    by_cases c3 : (a0.size : Int) < 1
    · rw [if_pos c3] at H
      have c3b0 : decide ((a0.size : Int) < 1) = true := decide_eq_true c3
      have c3b1 : decide (a0.size < 1) = true := decide_eq_true (by omega)
      clear c3
      (first | rw [c3b0] | (simp only [i64_w, i32_w]; rw [c3b0]) | skip)
      have H' := z05.mk H
      clear H
      go_wp2
      go_meet
      case rel => exact ⟨_, (true), (by first | rfl | (simp; done) | (simp [*]; done)), H', ⟨by first | omega | exact Nat.le_refl _⟩, by repeat (first | exact z0k.refl _ | apply z0k.step)⟩
    · rw [if_neg c3] at H
      have c3b0 : decide ((a0.size : Int) < 1) = false := decide_eq_false c3
      have c3b1 : decide (a0.size < 1) = false := decide_eq_false (by omega)
      clear c3
      (first | rw [c3b0] | (simp only [i64_w, i32_w]; rw [c3b0]) | skip)
      have H' := z05.mk H
      clear H
      go_wp2
      go_meet
      case rel => exact ⟨_, (decide ((a0.size : Int) > 16)), (by first | rfl | (simp; done) | (simp [*]; done)), H', ⟨by first | omega | exact Nat.le_refl _⟩, by repeat (first | exact z0k.refl _ | apply z0k.step)⟩
  case rest =>
    clear HC2
    try clear c2
    try clear p2
    try clear c3
    try clear c3b0
    try clear c3b1
    obtain ⟨kq, x12_1, rfl, HA, HJ1, ⟨mc1, rfl⟩⟩ := hcut
    cases kq with
    | zero => exact absurd HA.out (by simp [winnowerref07_name.j0])
    | succ kj1 =>
      have H := HA.out
      clear HA
      simp only [winnowerref07_name.j0] at H
      by_cases c4 : x12_1 = true
      · subst c4
        have H1 : (some false) = some r := by rw [if_pos rfl] at H; exact H
        clear H
        have H := H1
        clear H1
        obtain rfl := Option.some.inj H
        go_wp2
        go_ret
        exact ⟨by first | rfl | (simp; done) | (simp [*]; done), by repeat (first | exact z0k.refl _ | apply z0k.step)⟩
      · replace c4 := Bool.eq_false_iff.mpr c4
        subst c4
        have H1 : (winnowerref07_name.l0 kj1 a0 0) = some r := by rw [if_neg (show ¬ (false = true) by decide)] at H; exact H
        clear H
        have H := H1
        clear H1
        have H' := z05.mk H
        clear H
        go_wp2
        go_loopg [3] kj1 (fun kq v3 w' => ∃ (x3_2 : Int), v3 = .int .i64 x3_2 ∧ z05 (winnowerref07_name.l0 kq a0 x3_2 = some r) ∧ z05 (kq ≤ kj1) ∧ z0k w w')
        case atStart => exact ⟨(0), (by first | rfl | (simp; done) | (simp [*]; done)), H', ⟨Nat.le_refl _⟩, by repeat (first | exact z0k.refl _ | apply z0k.step)⟩
        case round =>
          clear H'
          try clear c1
          try clear c2
          try clear p2
          try clear c3
          try clear c3b0
          try clear c3b1
          try clear c4
          try clear p2
          obtain ⟨x3_2, rfl, HA, HK2, ⟨m2, rfl⟩⟩ := hrel
          cases gk with
          | zero => exact absurd HA.out (by simp [winnowerref07_name.l0])
          | succ k2 =>
            have H := HA.out
            clear HA
            simp only [winnowerref07_name.l0] at H
            by_cases c5 : x3_2 < (a0.size : Int)
            · rw [if_pos c5] at H
              have c5b0 : decide (x3_2 < (a0.size : Int)) = true := decide_eq_true c5
              clear c5
              by_cases c6 : 0 ≤ x3_2
              · rw [if_pos c6] at H
                have c6b0 : decide (0 ≤ x3_2) = true := decide_eq_true c6
                clear c6
                by_cases c8 : (bt a0 x3_2) ≥ 97
                · rw [if_pos c8] at H
                  have c8b0 : decide (97 ≤ (bt a0 x3_2)) = true := decide_eq_true c8
                  clear c8
                  by_cases c9 : (bt a0 x3_2) ≤ 122
                  · rw [if_pos c9] at H
                    have c9b0 : decide ((bt a0 x3_2) ≤ 122) = true := decide_eq_true c9
                    clear c9
                    have H' := z05.mk H
                    clear H
                    have p7 : 0 ≤ (x3_2 : Int) := of_decide_eq_true (by first | (with_reducible assumption) | assumption)
                    have q7 : x3_2 < (a0.size : Int) := of_decide_eq_true (by first | (with_reducible assumption) | assumption)
                    have hx7 := bt_at a0 x3_2
                    replace p7 := eq_true p7
                    replace q7 := eq_true q7
                    go_wp2
                    go_roundg k2
                    case measure => have := HJ1.out; have := HK2.out; omega
                    case rel => exact ⟨(wrap64 (x3_2 + 1)), (by first | rfl | (simp; done) | (simp [*]; done)), H', ⟨by have := HJ1.out; have := HK2.out; omega⟩, by repeat (first | exact z0k.refl _ | apply z0k.step)⟩
                  · rw [if_neg c9] at H
                    have c9b0 : decide ((bt a0 x3_2) ≤ 122) = false := decide_eq_false c9
                    clear c9
                    by_cases c10 : (bt a0 x3_2) ≥ 48
                    · rw [if_pos c10] at H
                      have c10b0 : decide (48 ≤ (bt a0 x3_2)) = true := decide_eq_true c10
                      clear c10
                      by_cases c11 : (bt a0 x3_2) ≤ 57
                      · rw [if_pos c11] at H
                        have c11b0 : decide ((bt a0 x3_2) ≤ 57) = true := decide_eq_true c11
                        clear c11
                        have H' := z05.mk H
                        clear H
                        have p7 : 0 ≤ (x3_2 : Int) := of_decide_eq_true (by first | (with_reducible assumption) | assumption)
                        have q7 : x3_2 < (a0.size : Int) := of_decide_eq_true (by first | (with_reducible assumption) | assumption)
                        have hx7 := bt_at a0 x3_2
                        replace p7 := eq_true p7
                        replace q7 := eq_true q7
                        go_wp2
                        go_roundg k2
                        case measure => have := HJ1.out; have := HK2.out; omega
                        case rel => exact ⟨(wrap64 (x3_2 + 1)), (by first | rfl | (simp; done) | (simp [*]; done)), H', ⟨by have := HJ1.out; have := HK2.out; omega⟩, by repeat (first | exact z0k.refl _ | apply z0k.step)⟩
                      · rw [if_neg c11] at H
                        have c11b0 : decide ((bt a0 x3_2) ≤ 57) = false := decide_eq_false c11
                        clear c11
                        by_cases c12 : ((bt a0 x3_2) = 95)
                        · rw [if_pos c12] at H
                          have c12b0 : ((bt a0 x3_2) == 95) = true := beq_iff_eq.mpr c12
                          have c12b1 : ((bt a0 x3_2) != 95) = false := bne_eq_false_iff_eq.mpr c12
                          clear c12
                          have H' := z05.mk H
                          clear H
                          have p7 : 0 ≤ (x3_2 : Int) := of_decide_eq_true (by first | (with_reducible assumption) | assumption)
                          have q7 : x3_2 < (a0.size : Int) := of_decide_eq_true (by first | (with_reducible assumption) | assumption)
                          have hx7 := bt_at a0 x3_2
                          replace p7 := eq_true p7
                          replace q7 := eq_true q7
                          go_wp2
                          go_roundg k2
                          case measure => have := HJ1.out; have := HK2.out; omega
                          case rel => exact ⟨(wrap64 (x3_2 + 1)), (by first | rfl | (simp; done) | (simp [*]; done)), H', ⟨by have := HJ1.out; have := HK2.out; omega⟩, by repeat (first | exact z0k.refl _ | apply z0k.step)⟩
                        · rw [if_neg c12] at H
                          have c12b0 : ((bt a0 x3_2) == 95) = false := beq_eq_false_iff_ne.mpr c12
                          have c12b1 : ((bt a0 x3_2) != 95) = true := bne_iff_ne.mpr c12
                          obtain rfl := Option.some.inj H
                          have p7 : 0 ≤ (x3_2 : Int) := of_decide_eq_true (by first | (with_reducible assumption) | assumption)
                          have q7 : x3_2 < (a0.size : Int) := of_decide_eq_true (by first | (with_reducible assumption) | assumption)
                          have hx7 := bt_at a0 x3_2
                          replace p7 := eq_true p7
                          replace q7 := eq_true q7
                          go_wp2
                          go_ret
                          exact ⟨by first | rfl | (simp; done) | (simp [*]; done), by repeat (first | exact z0k.refl _ | apply z0k.step)⟩
                    · rw [if_neg c10] at H
                      have c10b0 : decide (48 ≤ (bt a0 x3_2)) = false := decide_eq_false c10
                      clear c10
                      by_cases c13 : ((bt a0 x3_2) = 95)
                      · rw [if_pos c13] at H
                        have c13b0 : ((bt a0 x3_2) == 95) = true := beq_iff_eq.mpr c13
                        have c13b1 : ((bt a0 x3_2) != 95) = false := bne_eq_false_iff_eq.mpr c13
                        clear c13
                        have H' := z05.mk H
                        clear H
                        have p7 : 0 ≤ (x3_2 : Int) := of_decide_eq_true (by first | (with_reducible assumption) | assumption)
                        have q7 : x3_2 < (a0.size : Int) := of_decide_eq_true (by first | (with_reducible assumption) | assumption)
                        have hx7 := bt_at a0 x3_2
                        replace p7 := eq_true p7
                        replace q7 := eq_true q7
                        go_wp2
                        go_roundg k2
                        case measure => have := HJ1.out; have := HK2.out; omega
                        case rel => exact ⟨(wrap64 (x3_2 + 1)), (by first | rfl | (simp; done) | (simp [*]; done)), H', ⟨by have := HJ1.out; have := HK2.out; omega⟩, by repeat (first | exact z0k.refl _ | apply z0k.step)⟩
                      · rw [if_neg c13] at H
                        have c13b0 : ((bt a0 x3_2) == 95) = false := beq_eq_false_iff_ne.mpr c13
                        have c13b1 : ((bt a0 x3_2) != 95) = true := bne_iff_ne.mpr c13
                        obtain rfl := Option.some.inj H
                        have p7 : 0 ≤ (x3_2 : Int) := of_decide_eq_true (by first | (with_reducible assumption) | assumption)
                        have q7 : x3_2 < (a0.size : Int) := of_decide_eq_true (by first | (with_reducible assumption) | assumption)
                        have hx7 := bt_at a0 x3_2
                        replace p7 := eq_true p7
                        replace q7 := eq_true q7
                        go_wp2
                        go_ret
                        exact ⟨by first | rfl | (simp; done) | (simp [*]; done), by repeat (first | exact z0k.refl _ | apply z0k.step)⟩
                · rw [if_neg c8] at H
                  have c8b0 : decide (97 ≤ (bt a0 x3_2)) = false := decide_eq_false c8
                  clear c8
                  by_cases c14 : (bt a0 x3_2) ≥ 48
                  · rw [if_pos c14] at H
                    have c14b0 : decide (48 ≤ (bt a0 x3_2)) = true := decide_eq_true c14
                    clear c14
                    by_cases c15 : (bt a0 x3_2) ≤ 57
                    · rw [if_pos c15] at H
                      have c15b0 : decide ((bt a0 x3_2) ≤ 57) = true := decide_eq_true c15
                      clear c15
                      have H' := z05.mk H
                      clear H
                      have p7 : 0 ≤ (x3_2 : Int) := of_decide_eq_true (by first | (with_reducible assumption) | assumption)
                      have q7 : x3_2 < (a0.size : Int) := of_decide_eq_true (by first | (with_reducible assumption) | assumption)
                      have hx7 := bt_at a0 x3_2
                      replace p7 := eq_true p7
                      replace q7 := eq_true q7
                      go_wp2
                      go_roundg k2
                      case measure => have := HJ1.out; have := HK2.out; omega
                      case rel => exact ⟨(wrap64 (x3_2 + 1)), (by first | rfl | (simp; done) | (simp [*]; done)), H', ⟨by have := HJ1.out; have := HK2.out; omega⟩, by repeat (first | exact z0k.refl _ | apply z0k.step)⟩
                    · rw [if_neg c15] at H
                      have c15b0 : decide ((bt a0 x3_2) ≤ 57) = false := decide_eq_false c15
                      clear c15
                      by_cases c16 : ((bt a0 x3_2) = 95)
                      · rw [if_pos c16] at H
                        have c16b0 : ((bt a0 x3_2) == 95) = true := beq_iff_eq.mpr c16
                        have c16b1 : ((bt a0 x3_2) != 95) = false := bne_eq_false_iff_eq.mpr c16
                        clear c16
                        have H' := z05.mk H
                        clear H
                        have p7 : 0 ≤ (x3_2 : Int) := of_decide_eq_true (by first | (with_reducible assumption) | assumption)
                        have q7 : x3_2 < (a0.size : Int) := of_decide_eq_true (by first | (with_reducible assumption) | assumption)
                        have hx7 := bt_at a0 x3_2
                        replace p7 := eq_true p7
                        replace q7 := eq_true q7
                        go_wp2
                        go_roundg k2
                        case measure => have := HJ1.out; have := HK2.out; omega
                        case rel => exact ⟨(wrap64 (x3_2 + 1)), (by first | rfl | (simp; done) | (simp [*]; done)), H', ⟨by have := HJ1.out; have := HK2.out; omega⟩, by repeat (first | exact z0k.refl _ | apply z0k.step)⟩
                      · rw [if_neg c16] at H
                        have c16b0 : ((bt a0 x3_2) == 95) = false := beq_eq_false_iff_ne.mpr c16
                        have c16b1 : ((bt a0 x3_2) != 95) = true := bne_iff_ne.mpr c16
                        obtain rfl := Option.some.inj H
                        have p7 : 0 ≤ (x3_2 : Int) := of_decide_eq_true (by first | (with_reducible assumption) | assumption)
                        have q7 : x3_2 < (a0.size : Int) := of_decide_eq_true (by first | (with_reducible assumption) | assumption)
                        have hx7 := bt_at a0 x3_2
                        replace p7 := eq_true p7
                        replace q7 := eq_true q7
                        go_wp2
                        go_ret
                        exact ⟨by first | rfl | (simp; done) | (simp [*]; done), by repeat (first | exact z0k.refl _ | apply z0k.step)⟩
                  · rw [if_neg c14] at H
                    have c14b0 : decide (48 ≤ (bt a0 x3_2)) = false := decide_eq_false c14
                    clear c14
                    by_cases c17 : ((bt a0 x3_2) = 95)
                    · rw [if_pos c17] at H
                      have c17b0 : ((bt a0 x3_2) == 95) = true := beq_iff_eq.mpr c17
                      have c17b1 : ((bt a0 x3_2) != 95) = false := bne_eq_false_iff_eq.mpr c17
                      clear c17
                      have H' := z05.mk H
                      clear H
                      have p7 : 0 ≤ (x3_2 : Int) := of_decide_eq_true (by first | (with_reducible assumption) | assumption)
                      have q7 : x3_2 < (a0.size : Int) := of_decide_eq_true (by first | (with_reducible assumption) | assumption)
                      have hx7 := bt_at a0 x3_2
                      replace p7 := eq_true p7
                      replace q7 := eq_true q7
                      go_wp2
                      go_roundg k2
                      case measure => have := HJ1.out; have := HK2.out; omega
                      case rel => exact ⟨(wrap64 (x3_2 + 1)), (by first | rfl | (simp; done) | (simp [*]; done)), H', ⟨by have := HJ1.out; have := HK2.out; omega⟩, by repeat (first | exact z0k.refl _ | apply z0k.step)⟩
                    · rw [if_neg c17] at H
                      have c17b0 : ((bt a0 x3_2) == 95) = false := beq_eq_false_iff_ne.mpr c17
                      have c17b1 : ((bt a0 x3_2) != 95) = true := bne_iff_ne.mpr c17
                      obtain rfl := Option.some.inj H
                      have p7 : 0 ≤ (x3_2 : Int) := of_decide_eq_true (by first | (with_reducible assumption) | assumption)
                      have q7 : x3_2 < (a0.size : Int) := of_decide_eq_true (by first | (with_reducible assumption) | assumption)
                      have hx7 := bt_at a0 x3_2
                      replace p7 := eq_true p7
                      replace q7 := eq_true q7
                      go_wp2
                      go_ret
                      exact ⟨by first | rfl | (simp; done) | (simp [*]; done), by repeat (first | exact z0k.refl _ | apply z0k.step)⟩
              · rw [if_neg c6] at H
                exact absurd H (by simp)
            · rw [if_neg c5] at H
              have c5b0 : decide (x3_2 < (a0.size : Int)) = false := decide_eq_false c5
              clear c5
              obtain rfl := Option.some.inj H
              go_wp2
              go_ret
              exact ⟨by first | rfl | (simp; done) | (simp [*]; done), by repeat (first | exact z0k.refl _ | apply z0k.step)⟩

/-! ### winnowerref07_whole: function 30 -/
def winnowerref07_whole.f (l0_0 : List (S45)) (a0_1 : Int) (a0_2 : Int) (a0_3 : Int) (a0_4 : Int) (a1 : Int) : Option (Bool) := if a1 ≥ 0 then (if a1 < (l0_0.length : Int) then (if 0 ≤ a1 then (some (!((z0f l0_0 a1).f2))) else (none)) else (some false)) else (some false)
set_option maxHeartbeats 8000000 in
set_option maxRecDepth 100000 in
theorem winnowerref07_whole.calls (A0_0 : Option Addr) (c0_0 : Nat) (l0_0 : List (S45)) (a0_1 : Int) (a0_2 : Int) (a0_3 : Int) (a0_4 : Int) (a1 : Int) (r : Bool) (w : World) (hr0_0 : Kd.C k45 w A0_0 l0_0.length l0_0) (hc0_0 : l0_0.length ≤ c0_0) (h : winnowerref07_whole.f l0_0 a0_1 a0_2 a0_3 a0_4 a1 = some r) :
    Calls Tryd.prog 30 #[.agg #[.slice A0_0 l0_0.length c0_0, .int .i64 a0_1, .int .i64 a0_2, .int .i64 a0_3, .int .i64 a0_4], .int .i64 a1] w fun e w' => e = .returned (.bool r) ∧ Below w.heap.size w w' := by
  have hu24 := Tryd.underlying24
  have HR0_0 := z05.mk hr0_0
  have HC0_0 := z05.mk hc0_0
  clear hr0_0 hc0_0
  have HB := z05.mk (Below.refl w.heap.size w)
  have H : (if a1 ≥ 0 then (if a1 < (l0_0.length : Int) then (if 0 ≤ a1 then (some (!((z0f l0_0 a1).f2))) else (none)) else (some false)) else (some false)) = some r := h
  clear h
  by_cases c3 : a1 ≥ 0
  · rw [if_pos c3] at H
    have c3b0 : decide (0 ≤ a1) = true := decide_eq_true c3
    clear c3
    by_cases c4 : a1 < (l0_0.length : Int)
    · rw [if_pos c4] at H
      have c4b0 : decide (a1 < (l0_0.length : Int)) = true := decide_eq_true c4
      clear c4
      by_cases c5 : 0 ≤ a1
      · rw [if_pos c5] at H
        have c5b0 : decide (0 ≤ a1) = true := decide_eq_true c5
        clear c5
        obtain rfl := Option.some.inj H
        go_enter Tryd.func30, Tryd.ntmps30
        go_wp2_with (first | ((with_reducible refine z0h (N := 2) rfl ?_); (try (refine z0r (by rfl) ?_; dsimp only)); refine z0g ?hg (N := 2) ?hd (cs := #[.slice A0_0 l0_0.length c0_0, .int .i64 a0_1, .int .i64 a0_2, .int .i64 a0_3, .int .i64 a0_4]) (t := 24) ?hr ?_; (case hd => rfl); (case hg => rfl); (case hr => first | (go_simp; done) | (go_simp; rfl)); intro gb188 hg w6 hbox hb; have n0_ := z05.mk (z0a (by repeat (first | (with_reducible first | exact HB.out | apply z02 | apply z00 | apply z03) | exact HB.out)) hb); have n1_ := z05.mk (hbox); have n2_ := z05.mk ((by rw [hg]; exact (z0b (by repeat (first | (with_reducible first | exact HB.out | apply z02 | apply z00 | apply z03) | exact HB.out))) : w.heap.size ≤ gb188)); have n3_ := z05.mk ((by rw [hg]; exact (z0b (by repeat (first | (with_reducible first | exact HB.out | apply z02 | apply z00 | apply z03) | exact HB.out))) : w.heap.size ≤ gb188)); clear HB; have HB := n0_; have BK188 := n1_; have GW188 := n2_; have GE188 := n3_; clear n0_ n1_ n2_ n3_; clear hb hbox hg; have hcz7_0 : w6.cell? ⟨gb188, 0, none⟩ = some (.slice A0_0 l0_0.length c0_0) := (z04 BK188.out 0).trans rfl; have hcz7_1 : w6.cell? ⟨gb188, 1, none⟩ = some (.int .i64 a0_1) := (z04 BK188.out 1).trans rfl; have hcz7_2 : w6.cell? ⟨gb188, 2, none⟩ = some (.int .i64 a0_2) := (z04 BK188.out 2).trans rfl; have hcz7_3 : w6.cell? ⟨gb188, 3, none⟩ = some (.int .i64 a0_3) := (z04 BK188.out 3).trans rfl; have hcz7_4 : w6.cell? ⟨gb188, 4, none⟩ = some (.int .i64 a0_4) := (z04 BK188.out 4).trans rfl; have hfz7_0 := z01 BK188.out 0; have hfz7_1 := z01 BK188.out 1; have hfz7_2 := z01 BK188.out 2; have hfz7_3 := z01 BK188.out 3; have hfz7_4 := z01 BK188.out 4; have p189 : 0 ≤ (a1 : Int) := of_decide_eq_true (by first | (with_reducible assumption) | assumption); have q189 : a1 < (l0_0.length : Int) := of_decide_eq_true (by first | (with_reducible assumption) | assumption); obtain ⟨ad189, e189, hx189_0, hx189_1, hx189_2⟩ := z11 HR0_0.out a1 p189 q189; cases e189; replace hx189_0 := (HB.out.cell (World.block_lt_of_cell? w _ hx189_0)).trans hx189_0; replace hx189_1 := (HB.out.cell (World.block_lt_of_cell? w _ hx189_1)).trans hx189_1; replace hx189_2 := (HB.out.cell (World.block_lt_of_cell? w _ hx189_2)).trans hx189_2; replace p189 := eq_true p189; replace q189 := eq_true q189))
        go_ret
        exact ⟨by first | rfl | (simp [z0d, z0c] <;> rfl) | (refine congrArg (fun b_ : Bool => Ending.returned (Value.bool b_)) ?_; simp; done) | (simp [*, z0d, z0c] <;> rfl), by repeat (first | (with_reducible first | exact HB.out | apply z02 | apply z00 | apply z03 | refine z09 ?_ GE188.out) | exact HB.out)⟩
      · rw [if_neg c5] at H
        exact absurd H (by simp)
    · rw [if_neg c4] at H
      have c4b0 : decide (a1 < (l0_0.length : Int)) = false := decide_eq_false c4
      clear c4
      obtain rfl := Option.some.inj H
      go_enter Tryd.func30, Tryd.ntmps30
      go_wp2_with (first | ((with_reducible refine z0h (N := 2) rfl ?_); (try (refine z0r (by rfl) ?_; dsimp only)); refine z0g ?hg (N := 2) ?hd (cs := #[.slice A0_0 l0_0.length c0_0, .int .i64 a0_1, .int .i64 a0_2, .int .i64 a0_3, .int .i64 a0_4]) (t := 24) ?hr ?_; (case hd => rfl); (case hg => rfl); (case hr => first | (go_simp; done) | (go_simp; rfl)); intro gb188 hg w8 hbox hb; have n0_ := z05.mk (z0a (by repeat (first | (with_reducible first | exact HB.out | apply z02 | apply z00 | apply z03) | exact HB.out)) hb); have n1_ := z05.mk (hbox); have n2_ := z05.mk ((by rw [hg]; exact (z0b (by repeat (first | (with_reducible first | exact HB.out | apply z02 | apply z00 | apply z03) | exact HB.out))) : w.heap.size ≤ gb188)); have n3_ := z05.mk ((by rw [hg]; exact (z0b (by repeat (first | (with_reducible first | exact HB.out | apply z02 | apply z00 | apply z03) | exact HB.out))) : w.heap.size ≤ gb188)); clear HB; have HB := n0_; have BK188 := n1_; have GW188 := n2_; have GE188 := n3_; clear n0_ n1_ n2_ n3_; clear hb hbox hg; have hcz9_0 : w8.cell? ⟨gb188, 0, none⟩ = some (.slice A0_0 l0_0.length c0_0) := (z04 BK188.out 0).trans rfl; have hcz9_1 : w8.cell? ⟨gb188, 1, none⟩ = some (.int .i64 a0_1) := (z04 BK188.out 1).trans rfl; have hcz9_2 : w8.cell? ⟨gb188, 2, none⟩ = some (.int .i64 a0_2) := (z04 BK188.out 2).trans rfl; have hcz9_3 : w8.cell? ⟨gb188, 3, none⟩ = some (.int .i64 a0_3) := (z04 BK188.out 3).trans rfl; have hcz9_4 : w8.cell? ⟨gb188, 4, none⟩ = some (.int .i64 a0_4) := (z04 BK188.out 4).trans rfl; have hfz9_0 := z01 BK188.out 0; have hfz9_1 := z01 BK188.out 1; have hfz9_2 := z01 BK188.out 2; have hfz9_3 := z01 BK188.out 3; have hfz9_4 := z01 BK188.out 4))
      go_ret
      exact ⟨by first | rfl | (simp [z0d, z0c] <;> rfl) | (refine congrArg (fun b_ : Bool => Ending.returned (Value.bool b_)) ?_; simp; done) | (simp [*, z0d, z0c] <;> rfl), by repeat (first | (with_reducible first | exact HB.out | apply z02 | apply z00 | apply z03 | refine z09 ?_ GE188.out) | exact HB.out)⟩
  · rw [if_neg c3] at H
    have c3b0 : decide (0 ≤ a1) = false := decide_eq_false c3
    clear c3
    obtain rfl := Option.some.inj H
    go_enter Tryd.func30, Tryd.ntmps30
    go_wp2_with (first | ((with_reducible refine z0h (N := 2) rfl ?_); (try (refine z0r (by rfl) ?_; dsimp only)); refine z0g ?hg (N := 2) ?hd (cs := #[.slice A0_0 l0_0.length c0_0, .int .i64 a0_1, .int .i64 a0_2, .int .i64 a0_3, .int .i64 a0_4]) (t := 24) ?hr ?_; (case hd => rfl); (case hg => rfl); (case hr => first | (go_simp; done) | (go_simp; rfl)); intro gb188 hg w10 hbox hb; have n0_ := z05.mk (z0a (by repeat (first | (with_reducible first | exact HB.out | apply z02 | apply z00 | apply z03) | exact HB.out)) hb); have n1_ := z05.mk (hbox); have n2_ := z05.mk ((by rw [hg]; exact (z0b (by repeat (first | (with_reducible first | exact HB.out | apply z02 | apply z00 | apply z03) | exact HB.out))) : w.heap.size ≤ gb188)); have n3_ := z05.mk ((by rw [hg]; exact (z0b (by repeat (first | (with_reducible first | exact HB.out | apply z02 | apply z00 | apply z03) | exact HB.out))) : w.heap.size ≤ gb188)); clear HB; have HB := n0_; have BK188 := n1_; have GW188 := n2_; have GE188 := n3_; clear n0_ n1_ n2_ n3_; clear hb hbox hg))
    go_ret
    exact ⟨by first | rfl | (simp [z0d, z0c] <;> rfl) | (refine congrArg (fun b_ : Bool => Ending.returned (Value.bool b_)) ?_; simp; done) | (simp [*, z0d, z0c] <;> rfl), by repeat (first | (with_reducible first | exact HB.out | apply z02 | apply z00 | apply z03 | refine z09 ?_ GE188.out) | exact HB.out)⟩

end Go.Proofs.YtimomihjghefdaaDoor.Q
