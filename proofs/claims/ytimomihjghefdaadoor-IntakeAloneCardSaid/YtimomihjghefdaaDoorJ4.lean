/- The machine side of laws, written by wip/tools/myprint.py (the printer's way, with functions proved by hand put in); Lean checks it. -/
import Derived.Test.YtimomihjghefdaaDoorJ1
import Derived.Test.YtimomihjghefdaaDoorJ2
namespace Go.Proofs.YtimomihjghefdaaDoor.Q
open Go.RowKit Go.Proofs.YtimomihjghefdaaDoorW.PrintWords Go.Proofs.YtimomihjghefdaaDoorW.PrintLast Go.Proofs.YtimomihjghefdaaDoorW.PrintMore
attribute [local go_sem] max2_int min2_int max_two min_two max_three min_three max_four min_four   -- for this text's walks alone
set_option linter.unusedVariables false
set_option linter.unusedSimpArgs false

/-! ### winnowerref07_Few: function 6 -/
def winnowerref07_Few.l0 : Nat → Int → List (S45) → Int → Int → Int → Int → Option (Bool)
  | 0, _, _, _, _, _, _ => none
  | k + 1, x3, x184000, x184001, x184002, x184003, x184004 => if x3 < (x184000.length : Int) then (if 0 ≤ x3 then (if (((rd_T45 x184000 x3).f0).size : Int) > 100 then (some false) else (winnowerref07_Few.l0 k (wrap64 (x3 + 1)) x184000 x184001 x184002 x184003 x184004)) else (none)) else (some true)
def winnowerref07_Few.f (k : Nat) (l0_0 : List (S45)) (a0_1 : Int) (a0_2 : Int) (a0_3 : Int) (a0_4 : Int) : Option (Bool) := if (l0_0.length : Int) > 12 then (some false) else (winnowerref07_Few.l0 k 0 l0_0 a0_1 a0_2 a0_3 a0_4)
set_option maxHeartbeats 8000000 in
set_option maxRecDepth 100000 in
theorem winnowerref07_Few.calls (k : Nat) (A0_0 : Option Addr) (c0_0 : Nat) (l0_0 : List (S45)) (a0_1 : Int) (a0_2 : Int) (a0_3 : Int) (a0_4 : Int) (r : Bool) (w : World) (hr0_0 : Kd.C k45 w A0_0 l0_0.length l0_0) (hc0_0 : l0_0.length ≤ c0_0) (h : winnowerref07_Few.f k l0_0 a0_1 a0_2 a0_3 a0_4 = some r) :
    Calls Tryd.prog 6 #[.agg #[.slice A0_0 l0_0.length c0_0, .int .i64 a0_1, .int .i64 a0_2, .int .i64 a0_3, .int .i64 a0_4]] w fun e w' => e = .returned (.bool r) ∧ Below w.heap.size w w' := by
  have hu24 := Tryd.underlying24
  have HR0_0 := Aside0.mk hr0_0
  have HC0_0 := Aside0.mk hc0_0
  clear hr0_0 hc0_0
  have HB := Aside0.mk (Below.refl w.heap.size w)
  have H : (if (l0_0.length : Int) > 12 then (some false) else (winnowerref07_Few.l0 k 0 l0_0 a0_1 a0_2 a0_3 a0_4)) = some r := h
  clear h
  by_cases c2 : (l0_0.length : Int) > 12
  · rw [if_pos c2] at H
    have c2b0 : decide (12 < (l0_0.length : Int)) = true := decide_eq_true c2
    have c2b1 : decide (12 < l0_0.length) = true := decide_eq_true (by omega)
    clear c2
    obtain rfl := Option.some.inj H
    go_enter Tryd.func6, Tryd.ntmps6
    go_wp2_with (first | ((with_reducible refine gate_dst (N := 1) rfl ?_); refine box_event ?hg (N := 1) ?hd (cs := #[.slice A0_0 l0_0.length c0_0, .int .i64 a0_1, .int .i64 a0_2, .int .i64 a0_3, .int .i64 a0_4]) (t := 24) ?hr ?_; (case hd => rfl); (case hg => rfl); (case hr => first | (go_simp; done) | (go_simp; rfl)); intro gb183 hg w3 hbox hb; have n0_ := Aside0.mk (below_step (by repeat (first | (with_reducible first | exact HB.out | apply below_alloc | apply pw_below_drewN | apply below_drew1) | exact HB.out)) hb); have n1_ := Aside0.mk (hbox); have n2_ := Aside0.mk ((by rw [hg]; exact (below_size (by repeat (first | (with_reducible first | exact HB.out | apply below_alloc | apply pw_below_drewN | apply below_drew1) | exact HB.out))) : w.heap.size ≤ gb183)); have n3_ := Aside0.mk ((by rw [hg]; exact (below_size (by repeat (first | (with_reducible first | exact HB.out | apply below_alloc | apply pw_below_drewN | apply below_drew1) | exact HB.out))) : w.heap.size ≤ gb183)); clear HB; have HB := n0_; have BK183 := n1_; have GW183 := n2_; have GE183 := n3_; clear n0_ n1_ n2_ n3_; clear hb hbox hg; have hcz4_0 : w3.cell? ⟨gb183, 0, none⟩ = some (.slice A0_0 l0_0.length c0_0) := (blk_cell BK183.out 0).trans rfl; have hcz4_1 : w3.cell? ⟨gb183, 1, none⟩ = some (.int .i64 a0_1) := (blk_cell BK183.out 1).trans rfl; have hcz4_2 : w3.cell? ⟨gb183, 2, none⟩ = some (.int .i64 a0_2) := (blk_cell BK183.out 2).trans rfl; have hcz4_3 : w3.cell? ⟨gb183, 3, none⟩ = some (.int .i64 a0_3) := (blk_cell BK183.out 3).trans rfl; have hcz4_4 : w3.cell? ⟨gb183, 4, none⟩ = some (.int .i64 a0_4) := (blk_cell BK183.out 4).trans rfl; have hfz4_0 := blk_frozen BK183.out 0; have hfz4_1 := blk_frozen BK183.out 1; have hfz4_2 := blk_frozen BK183.out 2; have hfz4_3 := blk_frozen BK183.out 3; have hfz4_4 := blk_frozen BK183.out 4))
    go_ret
    exact ⟨by first | rfl | (simp [errW_none, errW_some] <;> rfl) | (refine congrArg (fun b_ : Bool => Ending.returned (Value.bool b_)) ?_; simp; done) | (simp [*, errW_none, errW_some] <;> rfl), by repeat (first | (with_reducible first | exact HB.out | apply below_alloc | apply pw_below_drewN | apply below_drew1 | refine below_set ?_ GE183.out) | exact HB.out)⟩
  · rw [if_neg c2] at H
    have c2b0 : decide (12 < (l0_0.length : Int)) = false := decide_eq_false c2
    have c2b1 : decide (12 < l0_0.length) = false := decide_eq_false (by omega)
    clear c2
    have H' := Aside0.mk H
    clear H
    go_enter Tryd.func6, Tryd.ntmps6
    go_wp2_with (first | ((with_reducible refine gate_dst (N := 1) rfl ?_); refine box_event ?hg (N := 1) ?hd (cs := #[.slice A0_0 l0_0.length c0_0, .int .i64 a0_1, .int .i64 a0_2, .int .i64 a0_3, .int .i64 a0_4]) (t := 24) ?hr ?_; (case hd => rfl); (case hg => rfl); (case hr => first | (go_simp; done) | (go_simp; rfl)); intro gb183 hg w5 hbox hb; have n0_ := Aside0.mk (below_step (by repeat (first | (with_reducible first | exact HB.out | apply below_alloc | apply pw_below_drewN | apply below_drew1) | exact HB.out)) hb); have n1_ := Aside0.mk (hbox); have n2_ := Aside0.mk ((by rw [hg]; exact (below_size (by repeat (first | (with_reducible first | exact HB.out | apply below_alloc | apply pw_below_drewN | apply below_drew1) | exact HB.out))) : w.heap.size ≤ gb183)); have n3_ := Aside0.mk ((by rw [hg]; exact (below_size (by repeat (first | (with_reducible first | exact HB.out | apply below_alloc | apply pw_below_drewN | apply below_drew1) | exact HB.out))) : w.heap.size ≤ gb183)); clear HB; have HB := n0_; have BK183 := n1_; have GW183 := n2_; have GE183 := n3_; clear n0_ n1_ n2_ n3_; clear hb hbox hg; have hcz6_0 : w5.cell? ⟨gb183, 0, none⟩ = some (.slice A0_0 l0_0.length c0_0) := (blk_cell BK183.out 0).trans rfl; have hcz6_1 : w5.cell? ⟨gb183, 1, none⟩ = some (.int .i64 a0_1) := (blk_cell BK183.out 1).trans rfl; have hcz6_2 : w5.cell? ⟨gb183, 2, none⟩ = some (.int .i64 a0_2) := (blk_cell BK183.out 2).trans rfl; have hcz6_3 : w5.cell? ⟨gb183, 3, none⟩ = some (.int .i64 a0_3) := (blk_cell BK183.out 3).trans rfl; have hcz6_4 : w5.cell? ⟨gb183, 4, none⟩ = some (.int .i64 a0_4) := (blk_cell BK183.out 4).trans rfl; have hfz6_0 := blk_frozen BK183.out 0; have hfz6_1 := blk_frozen BK183.out 1; have hfz6_2 := blk_frozen BK183.out 2; have hfz6_3 := blk_frozen BK183.out 3; have hfz6_4 := blk_frozen BK183.out 4))
    go_loopg [3] k (fun kq v3 w' => ∃ (x3_1 : Int), v3 = .int .i64 x3_1 ∧ Aside0 (winnowerref07_Few.l0 kq x3_1 l0_0 a0_1 a0_2 a0_3 a0_4 = some r) ∧ Aside0 (kq ≤ k) ∧ Aside0 (w'.heap[gb183]? = some (.cells #[(.slice A0_0 l0_0.length c0_0), .int .i64 a0_1, .int .i64 a0_2, .int .i64 a0_3, .int .i64 a0_4] 24 (0, 0))) ∧ Aside0 (Below w.heap.size w w'))
    case atStart => exact ⟨(0), (by first | rfl | (simp; done) | (simp [*]; done)), H', ⟨Nat.le_refl _⟩, ⟨by (with_reducible repeat (first | refine blk_drewN ?_ _ | refine blk_drew ?_ | refine blk_alloc ?_ _)); exact BK183.out⟩, ⟨by repeat (first | (with_reducible first | exact HB.out | apply below_alloc | apply pw_below_drewN | apply below_drew1 | refine below_set ?_ GE183.out) | exact HB.out)⟩⟩
    case round =>
      clear H'
      try clear c2
      try clear c2b0
      try clear c2b1
      try clear p2
      try clear c6
      try clear hcz4_0
      try clear hcz4_1
      try clear hcz4_2
      try clear hcz4_3
      try clear hcz4_4
      try clear hcz6_0
      try clear hcz6_1
      try clear hcz6_2
      try clear hcz6_3
      try clear hcz6_4
      try clear hfz4_0
      try clear hfz4_1
      try clear hfz4_2
      try clear hfz4_3
      try clear hfz4_4
      try clear hfz6_0
      try clear hfz6_1
      try clear hfz6_2
      try clear hfz6_3
      try clear hfz6_4
      obtain ⟨x3_1, rfl, HA, HK1, BK183, HB⟩ := hrel
      cases gk with
      | zero => exact absurd HA.out (by simp [winnowerref07_Few.l0])
      | succ k1 =>
        have H := HA.out
        clear HA
        simp only [winnowerref07_Few.l0] at H
        by_cases c7 : x3_1 < (l0_0.length : Int)
        · rw [if_pos c7] at H
          have c7b0 : decide (x3_1 < (l0_0.length : Int)) = true := decide_eq_true c7
          clear c7
          by_cases c8 : 0 ≤ x3_1
          · rw [if_pos c8] at H
            have c8b0 : decide (0 ≤ x3_1) = true := decide_eq_true c8
            clear c8
            by_cases c9 : (((rd_T45 l0_0 x3_1).f0).size : Int) > 100
            · rw [if_pos c9] at H
              have c9b0 : decide (100 < (((rd_T45 l0_0 x3_1).f0).size : Int)) = true := decide_eq_true c9
              have c9b1 : decide (100 < ((rd_T45 l0_0 x3_1).f0).size) = true := decide_eq_true (by omega)
              clear c9
              obtain rfl := Option.some.inj H
              have hcz10_0 : wr.cell? ⟨gb183, 0, none⟩ = some (.slice A0_0 l0_0.length c0_0) := (blk_cell BK183.out 0).trans rfl
              have hcz10_1 : wr.cell? ⟨gb183, 1, none⟩ = some (.int .i64 a0_1) := (blk_cell BK183.out 1).trans rfl
              have hcz10_2 : wr.cell? ⟨gb183, 2, none⟩ = some (.int .i64 a0_2) := (blk_cell BK183.out 2).trans rfl
              have hcz10_3 : wr.cell? ⟨gb183, 3, none⟩ = some (.int .i64 a0_3) := (blk_cell BK183.out 3).trans rfl
              have hcz10_4 : wr.cell? ⟨gb183, 4, none⟩ = some (.int .i64 a0_4) := (blk_cell BK183.out 4).trans rfl
              have hfz10_0 := blk_frozen BK183.out 0
              have hfz10_1 := blk_frozen BK183.out 1
              have hfz10_2 := blk_frozen BK183.out 2
              have hfz10_3 := blk_frozen BK183.out 3
              have hfz10_4 := blk_frozen BK183.out 4
              have p184 : 0 ≤ (x3_1 : Int) := of_decide_eq_true (by first | (with_reducible assumption) | assumption)
              have q184 : x3_1 < (l0_0.length : Int) := of_decide_eq_true (by first | (with_reducible assumption) | assumption)
              obtain ⟨ad184, e184, hx184_0, hx184_1, hx184_2⟩ := at_T45 HR0_0.out x3_1 p184 q184
              cases e184
              replace hx184_0 := (HB.out.cell (World.block_lt_of_cell? w _ hx184_0)).trans hx184_0
              replace hx184_1 := (HB.out.cell (World.block_lt_of_cell? w _ hx184_1)).trans hx184_1
              replace hx184_2 := (HB.out.cell (World.block_lt_of_cell? w _ hx184_2)).trans hx184_2
              replace p184 := eq_true p184
              replace q184 := eq_true q184
              go_wp2
              go_ret
              exact ⟨by first | rfl | (simp [errW_none, errW_some] <;> rfl) | (refine congrArg (fun b_ : Bool => Ending.returned (Value.bool b_)) ?_; simp; done) | (simp [*, errW_none, errW_some] <;> rfl), by repeat (first | (with_reducible first | exact HB.out | apply below_alloc | apply pw_below_drewN | apply below_drew1 | refine below_set ?_ GE183.out) | exact HB.out)⟩
            · rw [if_neg c9] at H
              have c9b0 : decide (100 < (((rd_T45 l0_0 x3_1).f0).size : Int)) = false := decide_eq_false c9
              have c9b1 : decide (100 < ((rd_T45 l0_0 x3_1).f0).size) = false := decide_eq_false (by omega)
              clear c9
              have H' := Aside0.mk H
              clear H
              have hcz11_0 : wr.cell? ⟨gb183, 0, none⟩ = some (.slice A0_0 l0_0.length c0_0) := (blk_cell BK183.out 0).trans rfl
              have hcz11_1 : wr.cell? ⟨gb183, 1, none⟩ = some (.int .i64 a0_1) := (blk_cell BK183.out 1).trans rfl
              have hcz11_2 : wr.cell? ⟨gb183, 2, none⟩ = some (.int .i64 a0_2) := (blk_cell BK183.out 2).trans rfl
              have hcz11_3 : wr.cell? ⟨gb183, 3, none⟩ = some (.int .i64 a0_3) := (blk_cell BK183.out 3).trans rfl
              have hcz11_4 : wr.cell? ⟨gb183, 4, none⟩ = some (.int .i64 a0_4) := (blk_cell BK183.out 4).trans rfl
              have hfz11_0 := blk_frozen BK183.out 0
              have hfz11_1 := blk_frozen BK183.out 1
              have hfz11_2 := blk_frozen BK183.out 2
              have hfz11_3 := blk_frozen BK183.out 3
              have hfz11_4 := blk_frozen BK183.out 4
              have p184 : 0 ≤ (x3_1 : Int) := of_decide_eq_true (by first | (with_reducible assumption) | assumption)
              have q184 : x3_1 < (l0_0.length : Int) := of_decide_eq_true (by first | (with_reducible assumption) | assumption)
              obtain ⟨ad184, e184, hx184_0, hx184_1, hx184_2⟩ := at_T45 HR0_0.out x3_1 p184 q184
              cases e184
              replace hx184_0 := (HB.out.cell (World.block_lt_of_cell? w _ hx184_0)).trans hx184_0
              replace hx184_1 := (HB.out.cell (World.block_lt_of_cell? w _ hx184_1)).trans hx184_1
              replace hx184_2 := (HB.out.cell (World.block_lt_of_cell? w _ hx184_2)).trans hx184_2
              replace p184 := eq_true p184
              replace q184 := eq_true q184
              go_wp2
              go_roundg k1
              case measure => have := HK1.out; omega
              case rel => exact ⟨(wrap64 (x3_1 + 1)), (by first | rfl | (simp; done) | (simp [*]; done)), H', ⟨by have := HK1.out; omega⟩, ⟨by (with_reducible repeat (first | refine blk_drewN ?_ _ | refine blk_drew ?_ | refine blk_alloc ?_ _)); exact BK183.out⟩, ⟨by repeat (first | (with_reducible first | exact HB.out | apply below_alloc | apply pw_below_drewN | apply below_drew1 | refine below_set ?_ GE183.out) | exact HB.out)⟩⟩
          · rw [if_neg c8] at H
            exact absurd H (by simp)
        · rw [if_neg c7] at H
          have c7b0 : decide (x3_1 < (l0_0.length : Int)) = false := decide_eq_false c7
          clear c7
          obtain rfl := Option.some.inj H
          have hcz12_0 : wr.cell? ⟨gb183, 0, none⟩ = some (.slice A0_0 l0_0.length c0_0) := (blk_cell BK183.out 0).trans rfl
          have hcz12_1 : wr.cell? ⟨gb183, 1, none⟩ = some (.int .i64 a0_1) := (blk_cell BK183.out 1).trans rfl
          have hcz12_2 : wr.cell? ⟨gb183, 2, none⟩ = some (.int .i64 a0_2) := (blk_cell BK183.out 2).trans rfl
          have hcz12_3 : wr.cell? ⟨gb183, 3, none⟩ = some (.int .i64 a0_3) := (blk_cell BK183.out 3).trans rfl
          have hcz12_4 : wr.cell? ⟨gb183, 4, none⟩ = some (.int .i64 a0_4) := (blk_cell BK183.out 4).trans rfl
          have hfz12_0 := blk_frozen BK183.out 0
          have hfz12_1 := blk_frozen BK183.out 1
          have hfz12_2 := blk_frozen BK183.out 2
          have hfz12_3 := blk_frozen BK183.out 3
          have hfz12_4 := blk_frozen BK183.out 4
          go_wp2
          go_ret
          exact ⟨by first | rfl | (simp [errW_none, errW_some] <;> rfl) | (refine congrArg (fun b_ : Bool => Ending.returned (Value.bool b_)) ?_; simp; done) | (simp [*, errW_none, errW_some] <;> rfl), by repeat (first | (with_reducible first | exact HB.out | apply below_alloc | apply pw_below_drewN | apply below_drew1 | refine below_set ?_ GE183.out) | exact HB.out)⟩

/-! ### winnowerref22_Few: function 7 -/
def winnowerref22_Few.l0 : Nat → Int → Int → Int → List (List Int) → Option (Bool)
  | 0, _, _, _, _ => none
  | k + 1, x5, x186000, x186001, x186002 => if x5 < (x186002.length : Int) then (if 0 ≤ x5 then (if ((rd_L1 x186002 x5).length : Int) > 200 then (some false) else (winnowerref22_Few.l0 k (wrap64 (x5 + 1)) x186000 x186001 x186002)) else (none)) else (some true)
def winnowerref22_Few.f (k : Nat) (a0_0 : Int) (a0_1 : Int) (l0_2 : List (List Int)) (a1 : Int) : Option (Bool) := if (l0_2.length : Int) > a1 then (some false) else (winnowerref22_Few.l0 k 0 a0_0 a0_1 l0_2)
set_option maxHeartbeats 8000000 in
set_option maxRecDepth 100000 in
theorem winnowerref22_Few.calls (k : Nat) (a0_0 : Int) (a0_1 : Int) (A0_2 : Option Addr) (c0_2 : Nat) (l0_2 : List (List Int)) (a1 : Int) (r : Bool) (w : World) (hr0_2 : Kd.C (Kd.slice 5 (Kd.int .u8)) w A0_2 l0_2.length l0_2) (hc0_2 : l0_2.length ≤ c0_2) (h : winnowerref22_Few.f k a0_0 a0_1 l0_2 a1 = some r) :
    Calls Tryd.prog 7 #[.agg #[.int .i64 a0_0, .int .i64 a0_1, .slice A0_2 l0_2.length c0_2], .int .i64 a1] w fun e w' => e = .returned (.bool r) ∧ Below w.heap.size w w' := by
  have hu27 := Tryd.underlying27
  have HR0_2 := Aside0.mk hr0_2
  have HC0_2 := Aside0.mk hc0_2
  clear hr0_2 hc0_2
  have HB := Aside0.mk (Below.refl w.heap.size w)
  have H : (if (l0_2.length : Int) > a1 then (some false) else (winnowerref22_Few.l0 k 0 a0_0 a0_1 l0_2)) = some r := h
  clear h
  by_cases c3 : (l0_2.length : Int) > a1
  · rw [if_pos c3] at H
    have c3b0 : decide (a1 < (l0_2.length : Int)) = true := decide_eq_true c3
    have c3b0y0 := c3b0
    (try simp only [hl186_0] at c3b0y0)
    clear c3
    obtain rfl := Option.some.inj H
    go_enter Tryd.func7, Tryd.ntmps7
    go_wp2_with (first | ((with_reducible refine gate_dst (N := 2) rfl ?_); refine box_event ?hg (N := 2) ?hd (cs := #[.int .i64 a0_0, .int .i64 a0_1, .slice A0_2 l0_2.length c0_2]) (t := 27) ?hr ?_; (case hd => rfl); (case hg => rfl); (case hr => first | (go_simp; done) | (go_simp; rfl)); intro gb185 hg w4 hbox hb; have n0_ := Aside0.mk (below_step (by repeat (first | (with_reducible first | exact HB.out | apply below_alloc | apply pw_below_drewN | apply below_drew1) | exact HB.out)) hb); have n1_ := Aside0.mk (hbox); have n2_ := Aside0.mk ((by rw [hg]; exact (below_size (by repeat (first | (with_reducible first | exact HB.out | apply below_alloc | apply pw_below_drewN | apply below_drew1) | exact HB.out))) : w.heap.size ≤ gb185)); have n3_ := Aside0.mk ((by rw [hg]; exact (below_size (by repeat (first | (with_reducible first | exact HB.out | apply below_alloc | apply pw_below_drewN | apply below_drew1) | exact HB.out))) : w.heap.size ≤ gb185)); clear HB; have HB := n0_; have BK185 := n1_; have GW185 := n2_; have GE185 := n3_; clear n0_ n1_ n2_ n3_; clear hb hbox hg; have hcz5_0 : w4.cell? ⟨gb185, 0, none⟩ = some (.int .i64 a0_0) := (blk_cell BK185.out 0).trans rfl; have hcz5_1 : w4.cell? ⟨gb185, 1, none⟩ = some (.int .i64 a0_1) := (blk_cell BK185.out 1).trans rfl; have hcz5_2 : w4.cell? ⟨gb185, 2, none⟩ = some (.slice A0_2 l0_2.length c0_2) := (blk_cell BK185.out 2).trans rfl; have hfz5_0 := blk_frozen BK185.out 0; have hfz5_1 := blk_frozen BK185.out 1; have hfz5_2 := blk_frozen BK185.out 2))
    go_ret
    exact ⟨by first | rfl | (simp [errW_none, errW_some] <;> rfl) | (refine congrArg (fun b_ : Bool => Ending.returned (Value.bool b_)) ?_; simp; done) | (simp [*, errW_none, errW_some] <;> rfl), by repeat (first | (with_reducible first | exact HB.out | apply below_alloc | apply pw_below_drewN | apply below_drew1 | refine below_set ?_ GE185.out) | exact HB.out)⟩
  · rw [if_neg c3] at H
    have c3b0 : decide (a1 < (l0_2.length : Int)) = false := decide_eq_false c3
    have c3b0y0 := c3b0
    (try simp only [hl186_0] at c3b0y0)
    clear c3
    have H' := Aside0.mk H
    clear H
    go_enter Tryd.func7, Tryd.ntmps7
    go_wp2_with (first | ((with_reducible refine gate_dst (N := 2) rfl ?_); refine box_event ?hg (N := 2) ?hd (cs := #[.int .i64 a0_0, .int .i64 a0_1, .slice A0_2 l0_2.length c0_2]) (t := 27) ?hr ?_; (case hd => rfl); (case hg => rfl); (case hr => first | (go_simp; done) | (go_simp; rfl)); intro gb185 hg w6 hbox hb; have n0_ := Aside0.mk (below_step (by repeat (first | (with_reducible first | exact HB.out | apply below_alloc | apply pw_below_drewN | apply below_drew1) | exact HB.out)) hb); have n1_ := Aside0.mk (hbox); have n2_ := Aside0.mk ((by rw [hg]; exact (below_size (by repeat (first | (with_reducible first | exact HB.out | apply below_alloc | apply pw_below_drewN | apply below_drew1) | exact HB.out))) : w.heap.size ≤ gb185)); have n3_ := Aside0.mk ((by rw [hg]; exact (below_size (by repeat (first | (with_reducible first | exact HB.out | apply below_alloc | apply pw_below_drewN | apply below_drew1) | exact HB.out))) : w.heap.size ≤ gb185)); clear HB; have HB := n0_; have BK185 := n1_; have GW185 := n2_; have GE185 := n3_; clear n0_ n1_ n2_ n3_; clear hb hbox hg; have hcz7_0 : w6.cell? ⟨gb185, 0, none⟩ = some (.int .i64 a0_0) := (blk_cell BK185.out 0).trans rfl; have hcz7_1 : w6.cell? ⟨gb185, 1, none⟩ = some (.int .i64 a0_1) := (blk_cell BK185.out 1).trans rfl; have hcz7_2 : w6.cell? ⟨gb185, 2, none⟩ = some (.slice A0_2 l0_2.length c0_2) := (blk_cell BK185.out 2).trans rfl; have hfz7_0 := blk_frozen BK185.out 0; have hfz7_1 := blk_frozen BK185.out 1; have hfz7_2 := blk_frozen BK185.out 2))
    go_loopg [5] k (fun kq v5 w' => ∃ (x5_1 : Int), v5 = .int .i64 x5_1 ∧ Aside0 (winnowerref22_Few.l0 kq x5_1 a0_0 a0_1 l0_2 = some r) ∧ Aside0 (kq ≤ k) ∧ Aside0 (w'.heap[gb185]? = some (.cells #[.int .i64 a0_0, .int .i64 a0_1, (.slice A0_2 l0_2.length c0_2)] 27 (0, 0))) ∧ Aside0 (Below w.heap.size w w'))
    case atStart => exact ⟨(0), (by first | rfl | (simp; done) | (simp [*]; done)), H', ⟨Nat.le_refl _⟩, ⟨by (with_reducible repeat (first | refine blk_drewN ?_ _ | refine blk_drew ?_ | refine blk_alloc ?_ _)); exact BK185.out⟩, ⟨by repeat (first | (with_reducible first | exact HB.out | apply below_alloc | apply pw_below_drewN | apply below_drew1 | refine below_set ?_ GE185.out) | exact HB.out)⟩⟩
    case round =>
      clear H'
      try clear p2
      try clear c3
      try clear c3b0
      try clear c7
      try clear hcz5_0
      try clear hcz5_1
      try clear hcz5_2
      try clear hcz7_0
      try clear hcz7_1
      try clear hcz7_2
      try clear hfz5_0
      try clear hfz5_1
      try clear hfz5_2
      try clear hfz7_0
      try clear hfz7_1
      try clear hfz7_2
      obtain ⟨x5_1, rfl, HA, HK1, BK185, HB⟩ := hrel
      cases gk with
      | zero => exact absurd HA.out (by simp [winnowerref22_Few.l0])
      | succ k1 =>
        have H := HA.out
        clear HA
        simp only [winnowerref22_Few.l0] at H
        by_cases c8 : x5_1 < (l0_2.length : Int)
        · rw [if_pos c8] at H
          have c8b0 : decide (x5_1 < (l0_2.length : Int)) = true := decide_eq_true c8
          have c8b0y0 := c8b0
          (try simp only [hl186_0] at c8b0y0)
          clear c8
          by_cases c9 : 0 ≤ x5_1
          · rw [if_pos c9] at H
            have c9b0 : decide (0 ≤ x5_1) = true := decide_eq_true c9
            clear c9
            by_cases c10 : ((rd_L1 l0_2 x5_1).length : Int) > 200
            · rw [if_pos c10] at H
              have c10b0 : decide (200 < ((rd_L1 l0_2 x5_1).length : Int)) = true := decide_eq_true c10
              have c10b0y0 := c10b0
              (try simp only [hl186_0] at c10b0y0)
              have c10b1 : decide (200 < (rd_L1 l0_2 x5_1).length) = true := decide_eq_true (by omega)
              have c10b1y0 := c10b1
              (try simp only [hl186_0] at c10b1y0)
              clear c10
              obtain rfl := Option.some.inj H
              have hcz11_0 : wr.cell? ⟨gb185, 0, none⟩ = some (.int .i64 a0_0) := (blk_cell BK185.out 0).trans rfl
              have hcz11_1 : wr.cell? ⟨gb185, 1, none⟩ = some (.int .i64 a0_1) := (blk_cell BK185.out 1).trans rfl
              have hcz11_2 : wr.cell? ⟨gb185, 2, none⟩ = some (.slice A0_2 l0_2.length c0_2) := (blk_cell BK185.out 2).trans rfl
              have hfz11_0 := blk_frozen BK185.out 0
              have hfz11_1 := blk_frozen BK185.out 1
              have hfz11_2 := blk_frozen BK185.out 2
              have p186 : 0 ≤ (x5_1 : Int) := of_decide_eq_true (by first | (with_reducible assumption) | assumption)
              have q186 : x5_1 < (l0_2.length : Int) := of_decide_eq_true (by first | (with_reducible assumption) | assumption)
              obtain ⟨ad186, A186_0, c186_0, e186, hx186_0, hl186_0, hi186_0⟩ := at_L1 HR0_2.out x5_1 p186 q186
              cases e186
              replace hx186_0 := (HB.out.cell (World.block_lt_of_cell? w _ hx186_0)).trans hx186_0
              have HR186_0 := Aside0.mk hi186_0
              have HC186_0 := Aside0.mk hl186_0
              clear hi186_0 hl186_0
              replace p186 := eq_true p186
              replace q186 := eq_true q186
              go_wp2
              go_ret
              exact ⟨by first | rfl | (simp [errW_none, errW_some] <;> rfl) | (refine congrArg (fun b_ : Bool => Ending.returned (Value.bool b_)) ?_; simp; done) | (simp [*, errW_none, errW_some] <;> rfl), by repeat (first | (with_reducible first | exact HB.out | apply below_alloc | apply pw_below_drewN | apply below_drew1 | refine below_set ?_ GE185.out) | exact HB.out)⟩
            · rw [if_neg c10] at H
              have c10b0 : decide (200 < ((rd_L1 l0_2 x5_1).length : Int)) = false := decide_eq_false c10
              have c10b0y0 := c10b0
              (try simp only [hl186_0] at c10b0y0)
              have c10b1 : decide (200 < (rd_L1 l0_2 x5_1).length) = false := decide_eq_false (by omega)
              have c10b1y0 := c10b1
              (try simp only [hl186_0] at c10b1y0)
              clear c10
              have H' := Aside0.mk H
              clear H
              have hcz12_0 : wr.cell? ⟨gb185, 0, none⟩ = some (.int .i64 a0_0) := (blk_cell BK185.out 0).trans rfl
              have hcz12_1 : wr.cell? ⟨gb185, 1, none⟩ = some (.int .i64 a0_1) := (blk_cell BK185.out 1).trans rfl
              have hcz12_2 : wr.cell? ⟨gb185, 2, none⟩ = some (.slice A0_2 l0_2.length c0_2) := (blk_cell BK185.out 2).trans rfl
              have hfz12_0 := blk_frozen BK185.out 0
              have hfz12_1 := blk_frozen BK185.out 1
              have hfz12_2 := blk_frozen BK185.out 2
              have p186 : 0 ≤ (x5_1 : Int) := of_decide_eq_true (by first | (with_reducible assumption) | assumption)
              have q186 : x5_1 < (l0_2.length : Int) := of_decide_eq_true (by first | (with_reducible assumption) | assumption)
              obtain ⟨ad186, A186_0, c186_0, e186, hx186_0, hl186_0, hi186_0⟩ := at_L1 HR0_2.out x5_1 p186 q186
              cases e186
              replace hx186_0 := (HB.out.cell (World.block_lt_of_cell? w _ hx186_0)).trans hx186_0
              have HR186_0 := Aside0.mk hi186_0
              have HC186_0 := Aside0.mk hl186_0
              clear hi186_0 hl186_0
              replace p186 := eq_true p186
              replace q186 := eq_true q186
              go_wp2
              go_roundg k1
              case measure => have := HK1.out; omega
              case rel => exact ⟨(wrap64 (x5_1 + 1)), (by first | rfl | (simp; done) | (simp [*]; done)), H', ⟨by have := HK1.out; omega⟩, ⟨by (with_reducible repeat (first | refine blk_drewN ?_ _ | refine blk_drew ?_ | refine blk_alloc ?_ _)); exact BK185.out⟩, ⟨by repeat (first | (with_reducible first | exact HB.out | apply below_alloc | apply pw_below_drewN | apply below_drew1 | refine below_set ?_ GE185.out) | exact HB.out)⟩⟩
          · rw [if_neg c9] at H
            exact absurd H (by simp)
        · rw [if_neg c8] at H
          have c8b0 : decide (x5_1 < (l0_2.length : Int)) = false := decide_eq_false c8
          have c8b0y0 := c8b0
          (try simp only [hl186_0] at c8b0y0)
          clear c8
          obtain rfl := Option.some.inj H
          have hcz13_0 : wr.cell? ⟨gb185, 0, none⟩ = some (.int .i64 a0_0) := (blk_cell BK185.out 0).trans rfl
          have hcz13_1 : wr.cell? ⟨gb185, 1, none⟩ = some (.int .i64 a0_1) := (blk_cell BK185.out 1).trans rfl
          have hcz13_2 : wr.cell? ⟨gb185, 2, none⟩ = some (.slice A0_2 l0_2.length c0_2) := (blk_cell BK185.out 2).trans rfl
          have hfz13_0 := blk_frozen BK185.out 0
          have hfz13_1 := blk_frozen BK185.out 1
          have hfz13_2 := blk_frozen BK185.out 2
          go_wp2
          go_ret
          exact ⟨by first | rfl | (simp [errW_none, errW_some] <;> rfl) | (refine congrArg (fun b_ : Bool => Ending.returned (Value.bool b_)) ?_; simp; done) | (simp [*, errW_none, errW_some] <;> rfl), by repeat (first | (with_reducible first | exact HB.out | apply below_alloc | apply pw_below_drewN | apply below_drew1 | refine below_set ?_ GE185.out) | exact HB.out)⟩

/-! ### winnowerref22_Check: function 12 -/

end Go.Proofs.YtimomihjghefdaaDoor.Q
namespace Go.Proofs.YtimomihjghefdaaDoor.Q
open Go.RowKit Go.Proofs.YtimomihjghefdaaDoorW.PrintWords Go.Proofs.YtimomihjghefdaaDoorW.PrintLast Go.Proofs.YtimomihjghefdaaDoorW.PrintMore
attribute [local go_sem] max2_int min2_int max_two min_two max_three min_three max_four min_four   -- for this text's walks alone
set_option linter.unusedVariables false
set_option linter.unusedSimpArgs false

/-! ### winnowerref07_name: function 29 -/

/-! ### winnowerref07_whole: function 30 -/

end Go.Proofs.YtimomihjghefdaaDoor.Q
namespace Go.Proofs.YtimomihjghefdaaDoor.Q
open Go.RowKit Go.Proofs.YtimomihjghefdaaDoorW.PrintWords Go.Proofs.YtimomihjghefdaaDoorW.PrintLast Go.Proofs.YtimomihjghefdaaDoorW.PrintMore
attribute [local go_sem] max2_int min2_int max_two min_two max_three min_three max_four min_four   -- for this text's walks alone
set_option linter.unusedVariables false
set_option linter.unusedSimpArgs false

/-! ### winnowerref07_May: function 19 -/

end Go.Proofs.YtimomihjghefdaaDoor.Q
namespace Go.Proofs.YtimomihjghefdaaDoor.Q
open Go.RowKit Go.Proofs.YtimomihjghefdaaDoorW.PrintWords Go.Proofs.YtimomihjghefdaaDoorW.PrintLast Go.Proofs.YtimomihjghefdaaDoorW.PrintMore
attribute [local go_sem] max2_int min2_int max_two min_two max_three min_three max_four min_four   -- for this text's walks alone
set_option linter.unusedVariables false
set_option linter.unusedSimpArgs false

/-! ### winnowerref07_Decode: function 20 -/

end Go.Proofs.YtimomihjghefdaaDoor.Q
namespace Go.Proofs.YtimomihjghefdaaDoor.Q
open Go.RowKit Go.Proofs.YtimomihjghefdaaDoorW.PrintWords Go.Proofs.YtimomihjghefdaaDoorW.PrintLast Go.Proofs.YtimomihjghefdaaDoorW.PrintMore
attribute [local go_sem] max2_int min2_int max_two min_two max_three min_three max_four min_four   -- for this text's walks alone
set_option linter.unusedVariables false
set_option linter.unusedSimpArgs false

theorem eqA63 (d : Nat) (w : World) (x0 y0 : Int) (x1 y1 : Int) (x2 y2 : ByteArray) (x3 y3 : Bool) :
    (Op.equalIn (d + 2) 63 (.agg #[.int .i64 x0, .int .i64 x1, .string x2, .bool x3]) (.agg #[.int .i64 y0, .int .i64 y1, .string y2, .bool y3])).run Tryd.prog w = .ok (x0 == y0 && (x1 == y1 && (x2.toList == y2.toList && (x3 == y3)))) w := by
  refine eqA_of Tryd.underlying63 (by kernel_rfl) ?_
  refine eqf_cons (by rfl) (by go_simp; rfl) (by go_simp; rfl) (by go_simp) ?_
  refine eqf_cons (by rfl) (by go_simp; rfl) (by go_simp; rfl) (by go_simp) ?_
  refine eqf_cons (by rfl) (by go_simp; rfl) (by go_simp; rfl) (by go_simp) ?_
  exact eqf_last (by rfl) (by go_simp; rfl) (by go_simp; rfl) (by go_simp)
end Go.Proofs.YtimomihjghefdaaDoor.Q
namespace Go.Proofs.YtimomihjghefdaaDoor.Q
open Go.RowKit Go.Proofs.YtimomihjghefdaaDoorW.PrintWords Go.Proofs.YtimomihjghefdaaDoorW.PrintLast Go.Proofs.YtimomihjghefdaaDoorW.PrintMore
attribute [local go_sem] max2_int min2_int max_two min_two max_three min_three max_four min_four   -- for this text's walks alone
set_option linter.unusedVariables false
set_option linter.unusedSimpArgs false

attribute [local go_sem high] eqA63
/-! ### winnowerref22_Take: function 9 -/

/-! ### winnowerref06_Same: function 21 -/
def winnowerref06_Same.l0 : Nat → List (S63) → List (S63) → Int → Option (Bool)
  | 0, _, _, _ => none
  | k + 1, x0, x1, x5 => if x5 < (x0.length : Int) then (if 0 ≤ x5 then (if x5 < (x1.length : Int) then (if (!(((rd_T63 x0 x5).f0) == ((rd_T63 x1 x5).f0)) || (!(((rd_T63 x0 x5).f1) == ((rd_T63 x1 x5).f1)) || (!((((rd_T63 x0 x5).f2).toList) == (((rd_T63 x1 x5).f2).toList)) || (!(((rd_T63 x0 x5).f3) == ((rd_T63 x1 x5).f3)))))) = true then (some false) else (winnowerref06_Same.l0 k x0 x1 (wrap64 (x5 + 1)))) else (none)) else (none)) else (some true)
def winnowerref06_Same.f (k : Nat) (l0 : List (S63)) (l1 : List (S63)) : Option (Bool) := if (l0.length : Int) = (l1.length : Int) then (winnowerref06_Same.l0 k l0 l1 0) else (some false)
set_option maxHeartbeats 8000000 in
set_option maxRecDepth 100000 in
theorem winnowerref06_Same.calls (k : Nat) (A0 : Option Addr) (c0 : Nat) (l0 : List (S63)) (A1 : Option Addr) (c1 : Nat) (l1 : List (S63)) (r : Bool) (w : World) (hr0 : Kd.C k63 w A0 l0.length l0) (hc0 : l0.length ≤ c0) (hr1 : Kd.C k63 w A1 l1.length l1) (hc1 : l1.length ≤ c1) (h : winnowerref06_Same.f k l0 l1 = some r) :
    Calls Tryd.prog 21 #[.slice A0 l0.length c0, .slice A1 l1.length c1] w fun e w' => e = .returned (.bool r) ∧ Drawn0 w w' := by
  have hu63 := Tryd.underlying63
  have HR0 := Aside0.mk hr0
  have HC0 := Aside0.mk hc0
  clear hr0 hc0
  have HR1 := Aside0.mk hr1
  have HC1 := Aside0.mk hc1
  clear hr1 hc1
  have H : (if (l0.length : Int) = (l1.length : Int) then (winnowerref06_Same.l0 k l0 l1 0) else (some false)) = some r := h
  clear h
  by_cases c3 : (l0.length : Int) = (l1.length : Int)
  · rw [if_pos c3] at H
    have c3b0 : ((l0.length : Int) == (l1.length : Int)) = true := beq_iff_eq.mpr c3
    have c3b1 : ((l0.length : Int) != (l1.length : Int)) = false := bne_eq_false_iff_eq.mpr c3
    have c3b2 : (l0.length == l1.length) = true := by first | simpa using c3 | (simp at c3 ⊢; omega)
    clear c3
    have H' := Aside0.mk H
    clear H
    go_enter Tryd.func21, Tryd.ntmps21
    go_wp2
    repeat (go_quiet (fail); try go_wp2)
    go_loopg [5] k (fun kq v5 w' => ∃ (x5_1 : Int), v5 = .int .i64 x5_1 ∧ Aside0 (winnowerref06_Same.l0 kq l0 l1 x5_1 = some r) ∧ Aside0 (kq ≤ k) ∧ Drawn0 w w')
    case atStart => exact ⟨(0), (by first | rfl | (simp; done) | (simp [*]; done)), H', ⟨Nat.le_refl _⟩, by repeat (first | exact Drawn0.refl _ | apply Drawn0.step)⟩
    case round =>
      clear H'
      try clear c1
      try clear c2
      try clear p2
      try clear c3
      try clear c3b0
      try clear c3b1
      try clear c3b2
      obtain ⟨x5_1, rfl, HA, HK1, ⟨m1, rfl⟩⟩ := hrel
      cases gk with
      | zero => exact absurd HA.out (by simp [winnowerref06_Same.l0])
      | succ k1 =>
        have H := HA.out
        clear HA
        simp only [winnowerref06_Same.l0] at H
        by_cases c4 : x5_1 < (l0.length : Int)
        · rw [if_pos c4] at H
          have c4b0 : decide (x5_1 < (l0.length : Int)) = true := decide_eq_true c4
          clear c4
          by_cases c5 : 0 ≤ x5_1
          · rw [if_pos c5] at H
            have c5b0 : decide (0 ≤ x5_1) = true := decide_eq_true c5
            clear c5
            by_cases c6 : x5_1 < (l1.length : Int)
            · rw [if_pos c6] at H
              have c6b0 : decide (x5_1 < (l1.length : Int)) = true := decide_eq_true c6
              clear c6
              by_cases c7 : (!(((rd_T63 l0 x5_1).f0) == ((rd_T63 l1 x5_1).f0)) || (!(((rd_T63 l0 x5_1).f1) == ((rd_T63 l1 x5_1).f1)) || (!((((rd_T63 l0 x5_1).f2).toList) == (((rd_T63 l1 x5_1).f2).toList)) || (!(((rd_T63 l0 x5_1).f3) == ((rd_T63 l1 x5_1).f3)))))) = true
              · rw [if_pos c7] at H
                have c7b0 : (!(((rd_T63 l0 x5_1).f0) == ((rd_T63 l1 x5_1).f0)) || (!(((rd_T63 l0 x5_1).f1) == ((rd_T63 l1 x5_1).f1)) || (!((((rd_T63 l0 x5_1).f2).toList) == (((rd_T63 l1 x5_1).f2).toList)) || (!(((rd_T63 l0 x5_1).f3) == ((rd_T63 l1 x5_1).f3)))))) = true := c7
                clear c7
                obtain rfl := Option.some.inj H
                have p284 : 0 ≤ (x5_1 : Int) := of_decide_eq_true (by first | (with_reducible assumption) | assumption)
                have q284 : x5_1 < (l0.length : Int) := of_decide_eq_true (by first | (with_reducible assumption) | assumption)
                obtain ⟨ad284, e284, hx284_0, hx284_1, hx284_2, hx284_3⟩ := at_T63 HR0.out x5_1 p284 q284
                cases e284
                replace p284 := eq_true p284
                replace q284 := eq_true q284
                have p285 : 0 ≤ (x5_1 : Int) := of_decide_eq_true (by first | (with_reducible assumption) | assumption)
                have q285 : x5_1 < (l1.length : Int) := of_decide_eq_true (by first | (with_reducible assumption) | assumption)
                obtain ⟨ad285, e285, hx285_0, hx285_1, hx285_2, hx285_3⟩ := at_T63 HR1.out x5_1 p285 q285
                cases e285
                replace p285 := eq_true p285
                replace q285 := eq_true q285
                go_wp2
                repeat (go_quiet (fail); try go_wp2)
                go_ret
                exact ⟨by first | rfl | (simp; done) | (simp [*]; done), by repeat (first | exact Drawn0.refl _ | apply Drawn0.step)⟩
              · rw [if_neg c7] at H
                have c7b0 : (!(((rd_T63 l0 x5_1).f0) == ((rd_T63 l1 x5_1).f0)) || (!(((rd_T63 l0 x5_1).f1) == ((rd_T63 l1 x5_1).f1)) || (!((((rd_T63 l0 x5_1).f2).toList) == (((rd_T63 l1 x5_1).f2).toList)) || (!(((rd_T63 l0 x5_1).f3) == ((rd_T63 l1 x5_1).f3)))))) = false := by simpa using c7
                clear c7
                have H' := Aside0.mk H
                clear H
                have p284 : 0 ≤ (x5_1 : Int) := of_decide_eq_true (by first | (with_reducible assumption) | assumption)
                have q284 : x5_1 < (l0.length : Int) := of_decide_eq_true (by first | (with_reducible assumption) | assumption)
                obtain ⟨ad284, e284, hx284_0, hx284_1, hx284_2, hx284_3⟩ := at_T63 HR0.out x5_1 p284 q284
                cases e284
                replace p284 := eq_true p284
                replace q284 := eq_true q284
                have p285 : 0 ≤ (x5_1 : Int) := of_decide_eq_true (by first | (with_reducible assumption) | assumption)
                have q285 : x5_1 < (l1.length : Int) := of_decide_eq_true (by first | (with_reducible assumption) | assumption)
                obtain ⟨ad285, e285, hx285_0, hx285_1, hx285_2, hx285_3⟩ := at_T63 HR1.out x5_1 p285 q285
                cases e285
                replace p285 := eq_true p285
                replace q285 := eq_true q285
                go_wp2
                repeat (go_quiet (fail); try go_wp2)
                go_roundg k1
                case measure => have := HK1.out; omega
                case rel => exact ⟨(wrap64 (x5_1 + 1)), (by first | rfl | (simp; done) | (simp [*]; done)), H', ⟨by have := HK1.out; omega⟩, by repeat (first | exact Drawn0.refl _ | apply Drawn0.step)⟩
            · rw [if_neg c6] at H
              exact absurd H (by simp)
          · rw [if_neg c5] at H
            exact absurd H (by simp)
        · rw [if_neg c4] at H
          have c4b0 : decide (x5_1 < (l0.length : Int)) = false := decide_eq_false c4
          clear c4
          obtain rfl := Option.some.inj H
          go_wp2
          repeat (go_quiet (fail); try go_wp2)
          go_ret
          exact ⟨by first | rfl | (simp; done) | (simp [*]; done), by repeat (first | exact Drawn0.refl _ | apply Drawn0.step)⟩
  · rw [if_neg c3] at H
    have c3b0 : ((l0.length : Int) == (l1.length : Int)) = false := beq_eq_false_iff_ne.mpr c3
    have c3b1 : ((l0.length : Int) != (l1.length : Int)) = true := bne_iff_ne.mpr c3
    have c3b2 : (l0.length == l1.length) = false := by first | simpa using c3 | (simp at c3 ⊢; omega)
    obtain rfl := Option.some.inj H
    go_enter Tryd.func21, Tryd.ntmps21
    go_wp2
    repeat (go_quiet (fail); try go_wp2)
    go_ret
    exact ⟨by first | rfl | (simp; done) | (simp [*]; done), by repeat (first | exact Drawn0.refl _ | apply Drawn0.step)⟩

/-! ### winnowerref22_Same: function 10 -/
def winnowerref22_Same.l0 : Nat → List (S41) → List (S41) → Int → Option (Bool)
  | 0, _, _, _ => none
  | k + 1, x0, x1, x5 => if x5 < (x0.length : Int) then (if 0 ≤ x5 then (if x5 < (x1.length : Int) then ((winnowerref06_Same.f k ((rd_T41 x0 x5).f2) ((rd_T41 x1 x5).f2)).bind fun t288 => (if t288 = true then (if ((rd_T41 x0 x5).f0) = ((rd_T41 x1 x5).f0) then (if (((rd_T41 x0 x5).f1) != ((rd_T41 x1 x5).f1)) = true then (some false) else (winnowerref22_Same.l0 k x0 x1 (wrap64 (x5 + 1)))) else (some false)) else (some false))) else (none)) else (none)) else (some true)
def winnowerref22_Same.f (k : Nat) (l0 : List (S41)) (l1 : List (S41)) : Option (Bool) := if (l0.length : Int) = (l1.length : Int) then (winnowerref22_Same.l0 k l0 l1 0) else (some false)
set_option maxHeartbeats 8000000 in
set_option maxRecDepth 100000 in
theorem winnowerref22_Same.calls (k : Nat) (A0 : Option Addr) (c0 : Nat) (l0 : List (S41)) (A1 : Option Addr) (c1 : Nat) (l1 : List (S41)) (r : Bool) (w : World) (hr0 : Kd.C k41 w A0 l0.length l0) (hc0 : l0.length ≤ c0) (hr1 : Kd.C k41 w A1 l1.length l1) (hc1 : l1.length ≤ c1) (h : winnowerref22_Same.f k l0 l1 = some r) :
    Calls Tryd.prog 10 #[.slice A0 l0.length c0, .slice A1 l1.length c1] w fun e w' => e = .returned (.bool r) ∧ Drawn0 w w' := by
  have HR0 := Aside0.mk hr0
  have HC0 := Aside0.mk hc0
  clear hr0 hc0
  have HR1 := Aside0.mk hr1
  have HC1 := Aside0.mk hc1
  clear hr1 hc1
  have H : (if (l0.length : Int) = (l1.length : Int) then (winnowerref22_Same.l0 k l0 l1 0) else (some false)) = some r := h
  clear h
  by_cases c3 : (l0.length : Int) = (l1.length : Int)
  · rw [if_pos c3] at H
    have c3b0 : ((l0.length : Int) == (l1.length : Int)) = true := beq_iff_eq.mpr c3
    have c3b0y0 := c3b0
    (try simp only [hl286_2] at c3b0y0)
    have c3b0y1 := c3b0
    (try simp only [hl287_2] at c3b0y1)
    have c3b0y2 := c3b0
    (try simp only [hl289_2] at c3b0y2)
    have c3b0y3 := c3b0
    (try simp only [hl290_2] at c3b0y3)
    have c3b0y4 := c3b0
    (try simp only [hl291_2] at c3b0y4)
    have c3b0y5 := c3b0
    (try simp only [hl292_2] at c3b0y5)
    have c3b1 : ((l0.length : Int) != (l1.length : Int)) = false := bne_eq_false_iff_eq.mpr c3
    have c3b1y0 := c3b1
    (try simp only [hl286_2] at c3b1y0)
    have c3b1y1 := c3b1
    (try simp only [hl287_2] at c3b1y1)
    have c3b1y2 := c3b1
    (try simp only [hl289_2] at c3b1y2)
    have c3b1y3 := c3b1
    (try simp only [hl290_2] at c3b1y3)
    have c3b1y4 := c3b1
    (try simp only [hl291_2] at c3b1y4)
    have c3b1y5 := c3b1
    (try simp only [hl292_2] at c3b1y5)
    have c3b2 : (l0.length == l1.length) = true := by first | simpa using c3 | (simp at c3 ⊢; omega)
    have c3b2y0 := c3b2
    (try simp only [hl286_2] at c3b2y0)
    have c3b2y1 := c3b2
    (try simp only [hl287_2] at c3b2y1)
    have c3b2y2 := c3b2
    (try simp only [hl289_2] at c3b2y2)
    have c3b2y3 := c3b2
    (try simp only [hl290_2] at c3b2y3)
    have c3b2y4 := c3b2
    (try simp only [hl291_2] at c3b2y4)
    have c3b2y5 := c3b2
    (try simp only [hl292_2] at c3b2y5)
    clear c3
    have H' := Aside0.mk H
    clear H
    go_enter Tryd.func10, Tryd.ntmps10
    go_wp2
    repeat (go_quiet (fail); try go_wp2)
    go_loopg [5] k (fun kq v5 w' => ∃ (x5_1 : Int), v5 = .int .i64 x5_1 ∧ Aside0 (winnowerref22_Same.l0 kq l0 l1 x5_1 = some r) ∧ Aside0 (kq ≤ k) ∧ Drawn0 w w')
    case atStart => exact ⟨(0), (by first | rfl | (simp; done) | (simp [*]; done)), H', ⟨Nat.le_refl _⟩, by repeat (first | exact Drawn0.refl _ | apply Drawn0.step)⟩
    case round =>
      clear H'
      try clear c1
      try clear p2
      try clear c3
      try clear c3b0
      try clear c3b1
      try clear c3b2
      obtain ⟨x5_1, rfl, HA, HK1, ⟨m1, rfl⟩⟩ := hrel
      cases gk with
      | zero => exact absurd HA.out (by simp [winnowerref22_Same.l0])
      | succ k1 =>
        have H := HA.out
        clear HA
        simp only [winnowerref22_Same.l0] at H
        by_cases c4 : x5_1 < (l0.length : Int)
        · rw [if_pos c4] at H
          have c4b0 : decide (x5_1 < (l0.length : Int)) = true := decide_eq_true c4
          have c4b0y0 := c4b0
          (try simp only [hl286_2] at c4b0y0)
          have c4b0y1 := c4b0
          (try simp only [hl287_2] at c4b0y1)
          have c4b0y2 := c4b0
          (try simp only [hl289_2] at c4b0y2)
          have c4b0y3 := c4b0
          (try simp only [hl290_2] at c4b0y3)
          have c4b0y4 := c4b0
          (try simp only [hl291_2] at c4b0y4)
          have c4b0y5 := c4b0
          (try simp only [hl292_2] at c4b0y5)
          clear c4
          by_cases c5 : 0 ≤ x5_1
          · rw [if_pos c5] at H
            have c5b0 : decide (0 ≤ x5_1) = true := decide_eq_true c5
            clear c5
            by_cases c6 : x5_1 < (l1.length : Int)
            · rw [if_pos c6] at H
              have c6b0 : decide (x5_1 < (l1.length : Int)) = true := decide_eq_true c6
              have c6b0y0 := c6b0
              (try simp only [hl286_2] at c6b0y0)
              have c6b0y1 := c6b0
              (try simp only [hl287_2] at c6b0y1)
              have c6b0y2 := c6b0
              (try simp only [hl289_2] at c6b0y2)
              have c6b0y3 := c6b0
              (try simp only [hl290_2] at c6b0y3)
              have c6b0y4 := c6b0
              (try simp only [hl291_2] at c6b0y4)
              have c6b0y5 := c6b0
              (try simp only [hl292_2] at c6b0y5)
              clear c6
              replace H := Option.bind_eq_some_iff.mp H
              obtain ⟨t288, A70, H⟩ := H
              replace H : (if t288 = true then (if ((rd_T41 l0 x5_1).f0) = ((rd_T41 l1 x5_1).f0) then (if (((rd_T41 l0 x5_1).f1) != ((rd_T41 l1 x5_1).f1)) = true then (some false) else (winnowerref22_Same.l0 k1 l0 l1 (wrap64 (x5_1 + 1)))) else (some false)) else (some false)) = some r := H
              have A7 := Aside0.mk A70
              clear A70
              by_cases c8 : t288 = true
              · subst c8
                have H1 : (if ((rd_T41 l0 x5_1).f0) = ((rd_T41 l1 x5_1).f0) then (if (((rd_T41 l0 x5_1).f1) != ((rd_T41 l1 x5_1).f1)) = true then (some false) else (winnowerref22_Same.l0 k1 l0 l1 (wrap64 (x5_1 + 1)))) else (some false)) = some r := by rw [if_pos rfl] at H; exact H
                clear H
                have H := H1
                clear H1
                by_cases c9 : ((rd_T41 l0 x5_1).f0) = ((rd_T41 l1 x5_1).f0)
                · rw [if_pos c9] at H
                  have c9b0 : (((rd_T41 l0 x5_1).f0) == ((rd_T41 l1 x5_1).f0)) = true := beq_iff_eq.mpr c9
                  have c9b1 : (((rd_T41 l0 x5_1).f0) != ((rd_T41 l1 x5_1).f0)) = false := bne_eq_false_iff_eq.mpr c9
                  clear c9
                  by_cases c10 : (((rd_T41 l0 x5_1).f1) != ((rd_T41 l1 x5_1).f1)) = true
                  · rw [if_pos c10] at H
                    have c10b0 : (((rd_T41 l0 x5_1).f1) != ((rd_T41 l1 x5_1).f1)) = true := c10
                    (try (have c10b1 : decide (((rd_T41 l0 x5_1).f1) = ((rd_T41 l1 x5_1).f1)) = false := by simpa using c10))
                    (try (have c10b2 : (((rd_T41 l0 x5_1).f1) == ((rd_T41 l1 x5_1).f1)) = false := by simpa using c10))
                    (try (have c10b3 : ¬ (((rd_T41 l0 x5_1).f1) = ((rd_T41 l1 x5_1).f1)) := by simpa using c10))
                    clear c10
                    obtain rfl := Option.some.inj H
                    have p286 : 0 ≤ (x5_1 : Int) := of_decide_eq_true (by first | (with_reducible assumption) | assumption)
                    have q286 : x5_1 < (l0.length : Int) := of_decide_eq_true (by first | (with_reducible assumption) | assumption)
                    obtain ⟨ad286, A286_2, c286_2, e286, hx286_0, hx286_1, hx286_2, hl286_2, hi286_2⟩ := at_T41 HR0.out x5_1 p286 q286
                    cases e286
                    have HR286_2 := Aside0.mk hi286_2
                    have HC286_2 := Aside0.mk hl286_2
                    clear hi286_2 hl286_2
                    replace p286 := eq_true p286
                    replace q286 := eq_true q286
                    have p287 : 0 ≤ (x5_1 : Int) := of_decide_eq_true (by first | (with_reducible assumption) | assumption)
                    have q287 : x5_1 < (l1.length : Int) := of_decide_eq_true (by first | (with_reducible assumption) | assumption)
                    obtain ⟨ad287, A287_2, c287_2, e287, hx287_0, hx287_1, hx287_2, hl287_2, hi287_2⟩ := at_T41 HR1.out x5_1 p287 q287
                    cases e287
                    have HR287_2 := Aside0.mk hi287_2
                    have HC287_2 := Aside0.mk hl287_2
                    clear hi287_2 hl287_2
                    replace p287 := eq_true p287
                    replace q287 := eq_true q287
                    go_wp2_with (first | (go_at_call 21; (with_reducible refine (winnowerref06_Same.calls k1 _ _ ((rd_T41 l0 x5_1).f2) _ _ ((rd_T41 l1 x5_1).f2) true _ ?side1 ?side2 ?side3 ?side4 A7.out).mono ?_); (case side1 => repeat (first | exact HR286_2.out | (with_reducible refine Kd.C_alloc ?_ _) | (with_reducible refine Kd.C_drewN ?_ _) | (with_reducible refine Kd.C_drew ?_))); (case side2 => exact HC286_2.out); (case side3 => repeat (first | exact HR287_2.out | (with_reducible refine Kd.C_alloc ?_ _) | (with_reducible refine Kd.C_drewN ?_ _) | (with_reducible refine Kd.C_drew ?_))); (case side4 => exact HC287_2.out); rintro e w' ⟨rfl, ⟨nd, rfl⟩⟩; (try first | exact ⟨rfl, _, World.drewN_drewN _ _ _⟩ | exact ⟨rfl, _, Eq.trans (World.drewN_drewN _ _ _) (congrArg (World.drewN _) (Nat.add_assoc _ _ _))⟩); have p289 : 0 ≤ (x5_1 : Int) := of_decide_eq_true (by first | (with_reducible assumption) | assumption); have q289 : x5_1 < (l0.length : Int) := of_decide_eq_true (by first | (with_reducible assumption) | assumption); obtain ⟨ad289, A289_2, c289_2, e289, hx289_0, hx289_1, hx289_2, hl289_2, hi289_2⟩ := at_T41 HR0.out x5_1 p289 q289; obtain rfl : ad286 = ad289 := (by injection e289); have HR289_2 := Aside0.mk hi289_2; have HC289_2 := Aside0.mk hl289_2; clear hi289_2 hl289_2; replace p289 := eq_true p289; replace q289 := eq_true q289; have ea_ := Option.some.inj (hx286_2.symm.trans hx289_2); injection ea_ with ea_ en_ ec_; subst ea_; subst ec_; clear en_; have p290 : 0 ≤ (x5_1 : Int) := of_decide_eq_true (by first | (with_reducible assumption) | assumption); have q290 : x5_1 < (l1.length : Int) := of_decide_eq_true (by first | (with_reducible assumption) | assumption); obtain ⟨ad290, A290_2, c290_2, e290, hx290_0, hx290_1, hx290_2, hl290_2, hi290_2⟩ := at_T41 HR1.out x5_1 p290 q290; obtain rfl : ad287 = ad290 := (by injection e290); have HR290_2 := Aside0.mk hi290_2; have HC290_2 := Aside0.mk hl290_2; clear hi290_2 hl290_2; replace p290 := eq_true p290; replace q290 := eq_true q290; have ea_ := Option.some.inj (hx287_2.symm.trans hx290_2); injection ea_ with ea_ en_ ec_; subst ea_; subst ec_; clear en_; have p291 : 0 ≤ (x5_1 : Int) := of_decide_eq_true (by first | (with_reducible assumption) | assumption); have q291 : x5_1 < (l0.length : Int) := of_decide_eq_true (by first | (with_reducible assumption) | assumption); obtain ⟨ad291, A291_2, c291_2, e291, hx291_0, hx291_1, hx291_2, hl291_2, hi291_2⟩ := at_T41 HR0.out x5_1 p291 q291; obtain rfl : ad286 = ad291 := (by injection e291); have HR291_2 := Aside0.mk hi291_2; have HC291_2 := Aside0.mk hl291_2; clear hi291_2 hl291_2; replace p291 := eq_true p291; replace q291 := eq_true q291; have ea_ := Option.some.inj (hx286_2.symm.trans hx291_2); injection ea_ with ea_ en_ ec_; subst ea_; subst ec_; clear en_; have p292 : 0 ≤ (x5_1 : Int) := of_decide_eq_true (by first | (with_reducible assumption) | assumption); have q292 : x5_1 < (l1.length : Int) := of_decide_eq_true (by first | (with_reducible assumption) | assumption); obtain ⟨ad292, A292_2, c292_2, e292, hx292_0, hx292_1, hx292_2, hl292_2, hi292_2⟩ := at_T41 HR1.out x5_1 p292 q292; obtain rfl : ad287 = ad292 := (by injection e292); have HR292_2 := Aside0.mk hi292_2; have HC292_2 := Aside0.mk hl292_2; clear hi292_2 hl292_2; replace p292 := eq_true p292; replace q292 := eq_true q292; have ea_ := Option.some.inj (hx287_2.symm.trans hx292_2); injection ea_ with ea_ en_ ec_; subst ea_; subst ec_; clear en_))
                    repeat (go_quiet (first | (go_at_call 21; (with_reducible refine (winnowerref06_Same.calls k1 _ _ ((rd_T41 l0 x5_1).f2) _ _ ((rd_T41 l1 x5_1).f2) true _ ?side1 ?side2 ?side3 ?side4 A7.out).mono ?_); (case side1 => repeat (first | exact HR286_2.out | (with_reducible refine Kd.C_alloc ?_ _) | (with_reducible refine Kd.C_drewN ?_ _) | (with_reducible refine Kd.C_drew ?_))); (case side2 => exact HC286_2.out); (case side3 => repeat (first | exact HR287_2.out | (with_reducible refine Kd.C_alloc ?_ _) | (with_reducible refine Kd.C_drewN ?_ _) | (with_reducible refine Kd.C_drew ?_))); (case side4 => exact HC287_2.out); rintro e w' ⟨rfl, ⟨nd, rfl⟩⟩; (try first | exact ⟨rfl, _, World.drewN_drewN _ _ _⟩ | exact ⟨rfl, _, Eq.trans (World.drewN_drewN _ _ _) (congrArg (World.drewN _) (Nat.add_assoc _ _ _))⟩); have p289 : 0 ≤ (x5_1 : Int) := of_decide_eq_true (by first | (with_reducible assumption) | assumption); have q289 : x5_1 < (l0.length : Int) := of_decide_eq_true (by first | (with_reducible assumption) | assumption); obtain ⟨ad289, A289_2, c289_2, e289, hx289_0, hx289_1, hx289_2, hl289_2, hi289_2⟩ := at_T41 HR0.out x5_1 p289 q289; obtain rfl : ad286 = ad289 := (by injection e289); have HR289_2 := Aside0.mk hi289_2; have HC289_2 := Aside0.mk hl289_2; clear hi289_2 hl289_2; replace p289 := eq_true p289; replace q289 := eq_true q289; have ea_ := Option.some.inj (hx286_2.symm.trans hx289_2); injection ea_ with ea_ en_ ec_; subst ea_; subst ec_; clear en_; have p290 : 0 ≤ (x5_1 : Int) := of_decide_eq_true (by first | (with_reducible assumption) | assumption); have q290 : x5_1 < (l1.length : Int) := of_decide_eq_true (by first | (with_reducible assumption) | assumption); obtain ⟨ad290, A290_2, c290_2, e290, hx290_0, hx290_1, hx290_2, hl290_2, hi290_2⟩ := at_T41 HR1.out x5_1 p290 q290; obtain rfl : ad287 = ad290 := (by injection e290); have HR290_2 := Aside0.mk hi290_2; have HC290_2 := Aside0.mk hl290_2; clear hi290_2 hl290_2; replace p290 := eq_true p290; replace q290 := eq_true q290; have ea_ := Option.some.inj (hx287_2.symm.trans hx290_2); injection ea_ with ea_ en_ ec_; subst ea_; subst ec_; clear en_; have p291 : 0 ≤ (x5_1 : Int) := of_decide_eq_true (by first | (with_reducible assumption) | assumption); have q291 : x5_1 < (l0.length : Int) := of_decide_eq_true (by first | (with_reducible assumption) | assumption); obtain ⟨ad291, A291_2, c291_2, e291, hx291_0, hx291_1, hx291_2, hl291_2, hi291_2⟩ := at_T41 HR0.out x5_1 p291 q291; obtain rfl : ad286 = ad291 := (by injection e291); have HR291_2 := Aside0.mk hi291_2; have HC291_2 := Aside0.mk hl291_2; clear hi291_2 hl291_2; replace p291 := eq_true p291; replace q291 := eq_true q291; have ea_ := Option.some.inj (hx286_2.symm.trans hx291_2); injection ea_ with ea_ en_ ec_; subst ea_; subst ec_; clear en_; have p292 : 0 ≤ (x5_1 : Int) := of_decide_eq_true (by first | (with_reducible assumption) | assumption); have q292 : x5_1 < (l1.length : Int) := of_decide_eq_true (by first | (with_reducible assumption) | assumption); obtain ⟨ad292, A292_2, c292_2, e292, hx292_0, hx292_1, hx292_2, hl292_2, hi292_2⟩ := at_T41 HR1.out x5_1 p292 q292; obtain rfl : ad287 = ad292 := (by injection e292); have HR292_2 := Aside0.mk hi292_2; have HC292_2 := Aside0.mk hl292_2; clear hi292_2 hl292_2; replace p292 := eq_true p292; replace q292 := eq_true q292; have ea_ := Option.some.inj (hx287_2.symm.trans hx292_2); injection ea_ with ea_ en_ ec_; subst ea_; subst ec_; clear en_)); try go_wp2_with (first | (go_at_call 21; (with_reducible refine (winnowerref06_Same.calls k1 _ _ ((rd_T41 l0 x5_1).f2) _ _ ((rd_T41 l1 x5_1).f2) true _ ?side1 ?side2 ?side3 ?side4 A7.out).mono ?_); (case side1 => repeat (first | exact HR286_2.out | (with_reducible refine Kd.C_alloc ?_ _) | (with_reducible refine Kd.C_drewN ?_ _) | (with_reducible refine Kd.C_drew ?_))); (case side2 => exact HC286_2.out); (case side3 => repeat (first | exact HR287_2.out | (with_reducible refine Kd.C_alloc ?_ _) | (with_reducible refine Kd.C_drewN ?_ _) | (with_reducible refine Kd.C_drew ?_))); (case side4 => exact HC287_2.out); rintro e w' ⟨rfl, ⟨nd, rfl⟩⟩; (try first | exact ⟨rfl, _, World.drewN_drewN _ _ _⟩ | exact ⟨rfl, _, Eq.trans (World.drewN_drewN _ _ _) (congrArg (World.drewN _) (Nat.add_assoc _ _ _))⟩); have p289 : 0 ≤ (x5_1 : Int) := of_decide_eq_true (by first | (with_reducible assumption) | assumption); have q289 : x5_1 < (l0.length : Int) := of_decide_eq_true (by first | (with_reducible assumption) | assumption); obtain ⟨ad289, A289_2, c289_2, e289, hx289_0, hx289_1, hx289_2, hl289_2, hi289_2⟩ := at_T41 HR0.out x5_1 p289 q289; obtain rfl : ad286 = ad289 := (by injection e289); have HR289_2 := Aside0.mk hi289_2; have HC289_2 := Aside0.mk hl289_2; clear hi289_2 hl289_2; replace p289 := eq_true p289; replace q289 := eq_true q289; have ea_ := Option.some.inj (hx286_2.symm.trans hx289_2); injection ea_ with ea_ en_ ec_; subst ea_; subst ec_; clear en_; have p290 : 0 ≤ (x5_1 : Int) := of_decide_eq_true (by first | (with_reducible assumption) | assumption); have q290 : x5_1 < (l1.length : Int) := of_decide_eq_true (by first | (with_reducible assumption) | assumption); obtain ⟨ad290, A290_2, c290_2, e290, hx290_0, hx290_1, hx290_2, hl290_2, hi290_2⟩ := at_T41 HR1.out x5_1 p290 q290; obtain rfl : ad287 = ad290 := (by injection e290); have HR290_2 := Aside0.mk hi290_2; have HC290_2 := Aside0.mk hl290_2; clear hi290_2 hl290_2; replace p290 := eq_true p290; replace q290 := eq_true q290; have ea_ := Option.some.inj (hx287_2.symm.trans hx290_2); injection ea_ with ea_ en_ ec_; subst ea_; subst ec_; clear en_; have p291 : 0 ≤ (x5_1 : Int) := of_decide_eq_true (by first | (with_reducible assumption) | assumption); have q291 : x5_1 < (l0.length : Int) := of_decide_eq_true (by first | (with_reducible assumption) | assumption); obtain ⟨ad291, A291_2, c291_2, e291, hx291_0, hx291_1, hx291_2, hl291_2, hi291_2⟩ := at_T41 HR0.out x5_1 p291 q291; obtain rfl : ad286 = ad291 := (by injection e291); have HR291_2 := Aside0.mk hi291_2; have HC291_2 := Aside0.mk hl291_2; clear hi291_2 hl291_2; replace p291 := eq_true p291; replace q291 := eq_true q291; have ea_ := Option.some.inj (hx286_2.symm.trans hx291_2); injection ea_ with ea_ en_ ec_; subst ea_; subst ec_; clear en_; have p292 : 0 ≤ (x5_1 : Int) := of_decide_eq_true (by first | (with_reducible assumption) | assumption); have q292 : x5_1 < (l1.length : Int) := of_decide_eq_true (by first | (with_reducible assumption) | assumption); obtain ⟨ad292, A292_2, c292_2, e292, hx292_0, hx292_1, hx292_2, hl292_2, hi292_2⟩ := at_T41 HR1.out x5_1 p292 q292; obtain rfl : ad287 = ad292 := (by injection e292); have HR292_2 := Aside0.mk hi292_2; have HC292_2 := Aside0.mk hl292_2; clear hi292_2 hl292_2; replace p292 := eq_true p292; replace q292 := eq_true q292; have ea_ := Option.some.inj (hx287_2.symm.trans hx292_2); injection ea_ with ea_ en_ ec_; subst ea_; subst ec_; clear en_)))
                    go_ret
                    exact ⟨by first | rfl | (simp; done) | (simp [*]; done), by repeat (first | exact Drawn0.refl _ | apply Drawn0.step)⟩
                  · rw [if_neg c10] at H
                    have c10b0 : (((rd_T41 l0 x5_1).f1) != ((rd_T41 l1 x5_1).f1)) = false := by simpa using c10
                    (try (have c10b1 : decide (((rd_T41 l0 x5_1).f1) = ((rd_T41 l1 x5_1).f1)) = true := by simpa using c10))
                    (try (have c10b2 : (((rd_T41 l0 x5_1).f1) == ((rd_T41 l1 x5_1).f1)) = true := by simpa using c10))
                    clear c10
                    have H' := Aside0.mk H
                    clear H
                    have p286 : 0 ≤ (x5_1 : Int) := of_decide_eq_true (by first | (with_reducible assumption) | assumption)
                    have q286 : x5_1 < (l0.length : Int) := of_decide_eq_true (by first | (with_reducible assumption) | assumption)
                    obtain ⟨ad286, A286_2, c286_2, e286, hx286_0, hx286_1, hx286_2, hl286_2, hi286_2⟩ := at_T41 HR0.out x5_1 p286 q286
                    cases e286
                    have HR286_2 := Aside0.mk hi286_2
                    have HC286_2 := Aside0.mk hl286_2
                    clear hi286_2 hl286_2
                    replace p286 := eq_true p286
                    replace q286 := eq_true q286
                    have p287 : 0 ≤ (x5_1 : Int) := of_decide_eq_true (by first | (with_reducible assumption) | assumption)
                    have q287 : x5_1 < (l1.length : Int) := of_decide_eq_true (by first | (with_reducible assumption) | assumption)
                    obtain ⟨ad287, A287_2, c287_2, e287, hx287_0, hx287_1, hx287_2, hl287_2, hi287_2⟩ := at_T41 HR1.out x5_1 p287 q287
                    cases e287
                    have HR287_2 := Aside0.mk hi287_2
                    have HC287_2 := Aside0.mk hl287_2
                    clear hi287_2 hl287_2
                    replace p287 := eq_true p287
                    replace q287 := eq_true q287
                    go_wp2_with (first | (go_at_call 21; (with_reducible refine (winnowerref06_Same.calls k1 _ _ ((rd_T41 l0 x5_1).f2) _ _ ((rd_T41 l1 x5_1).f2) true _ ?side1 ?side2 ?side3 ?side4 A7.out).mono ?_); (case side1 => repeat (first | exact HR286_2.out | (with_reducible refine Kd.C_alloc ?_ _) | (with_reducible refine Kd.C_drewN ?_ _) | (with_reducible refine Kd.C_drew ?_))); (case side2 => exact HC286_2.out); (case side3 => repeat (first | exact HR287_2.out | (with_reducible refine Kd.C_alloc ?_ _) | (with_reducible refine Kd.C_drewN ?_ _) | (with_reducible refine Kd.C_drew ?_))); (case side4 => exact HC287_2.out); rintro e w' ⟨rfl, ⟨nd, rfl⟩⟩; (try first | exact ⟨rfl, _, World.drewN_drewN _ _ _⟩ | exact ⟨rfl, _, Eq.trans (World.drewN_drewN _ _ _) (congrArg (World.drewN _) (Nat.add_assoc _ _ _))⟩); have p289 : 0 ≤ (x5_1 : Int) := of_decide_eq_true (by first | (with_reducible assumption) | assumption); have q289 : x5_1 < (l0.length : Int) := of_decide_eq_true (by first | (with_reducible assumption) | assumption); obtain ⟨ad289, A289_2, c289_2, e289, hx289_0, hx289_1, hx289_2, hl289_2, hi289_2⟩ := at_T41 HR0.out x5_1 p289 q289; obtain rfl : ad286 = ad289 := (by injection e289); have HR289_2 := Aside0.mk hi289_2; have HC289_2 := Aside0.mk hl289_2; clear hi289_2 hl289_2; replace p289 := eq_true p289; replace q289 := eq_true q289; have ea_ := Option.some.inj (hx286_2.symm.trans hx289_2); injection ea_ with ea_ en_ ec_; subst ea_; subst ec_; clear en_; have p290 : 0 ≤ (x5_1 : Int) := of_decide_eq_true (by first | (with_reducible assumption) | assumption); have q290 : x5_1 < (l1.length : Int) := of_decide_eq_true (by first | (with_reducible assumption) | assumption); obtain ⟨ad290, A290_2, c290_2, e290, hx290_0, hx290_1, hx290_2, hl290_2, hi290_2⟩ := at_T41 HR1.out x5_1 p290 q290; obtain rfl : ad287 = ad290 := (by injection e290); have HR290_2 := Aside0.mk hi290_2; have HC290_2 := Aside0.mk hl290_2; clear hi290_2 hl290_2; replace p290 := eq_true p290; replace q290 := eq_true q290; have ea_ := Option.some.inj (hx287_2.symm.trans hx290_2); injection ea_ with ea_ en_ ec_; subst ea_; subst ec_; clear en_; have p291 : 0 ≤ (x5_1 : Int) := of_decide_eq_true (by first | (with_reducible assumption) | assumption); have q291 : x5_1 < (l0.length : Int) := of_decide_eq_true (by first | (with_reducible assumption) | assumption); obtain ⟨ad291, A291_2, c291_2, e291, hx291_0, hx291_1, hx291_2, hl291_2, hi291_2⟩ := at_T41 HR0.out x5_1 p291 q291; obtain rfl : ad286 = ad291 := (by injection e291); have HR291_2 := Aside0.mk hi291_2; have HC291_2 := Aside0.mk hl291_2; clear hi291_2 hl291_2; replace p291 := eq_true p291; replace q291 := eq_true q291; have ea_ := Option.some.inj (hx286_2.symm.trans hx291_2); injection ea_ with ea_ en_ ec_; subst ea_; subst ec_; clear en_; have p292 : 0 ≤ (x5_1 : Int) := of_decide_eq_true (by first | (with_reducible assumption) | assumption); have q292 : x5_1 < (l1.length : Int) := of_decide_eq_true (by first | (with_reducible assumption) | assumption); obtain ⟨ad292, A292_2, c292_2, e292, hx292_0, hx292_1, hx292_2, hl292_2, hi292_2⟩ := at_T41 HR1.out x5_1 p292 q292; obtain rfl : ad287 = ad292 := (by injection e292); have HR292_2 := Aside0.mk hi292_2; have HC292_2 := Aside0.mk hl292_2; clear hi292_2 hl292_2; replace p292 := eq_true p292; replace q292 := eq_true q292; have ea_ := Option.some.inj (hx287_2.symm.trans hx292_2); injection ea_ with ea_ en_ ec_; subst ea_; subst ec_; clear en_))
                    repeat (go_quiet (first | (go_at_call 21; (with_reducible refine (winnowerref06_Same.calls k1 _ _ ((rd_T41 l0 x5_1).f2) _ _ ((rd_T41 l1 x5_1).f2) true _ ?side1 ?side2 ?side3 ?side4 A7.out).mono ?_); (case side1 => repeat (first | exact HR286_2.out | (with_reducible refine Kd.C_alloc ?_ _) | (with_reducible refine Kd.C_drewN ?_ _) | (with_reducible refine Kd.C_drew ?_))); (case side2 => exact HC286_2.out); (case side3 => repeat (first | exact HR287_2.out | (with_reducible refine Kd.C_alloc ?_ _) | (with_reducible refine Kd.C_drewN ?_ _) | (with_reducible refine Kd.C_drew ?_))); (case side4 => exact HC287_2.out); rintro e w' ⟨rfl, ⟨nd, rfl⟩⟩; (try first | exact ⟨rfl, _, World.drewN_drewN _ _ _⟩ | exact ⟨rfl, _, Eq.trans (World.drewN_drewN _ _ _) (congrArg (World.drewN _) (Nat.add_assoc _ _ _))⟩); have p289 : 0 ≤ (x5_1 : Int) := of_decide_eq_true (by first | (with_reducible assumption) | assumption); have q289 : x5_1 < (l0.length : Int) := of_decide_eq_true (by first | (with_reducible assumption) | assumption); obtain ⟨ad289, A289_2, c289_2, e289, hx289_0, hx289_1, hx289_2, hl289_2, hi289_2⟩ := at_T41 HR0.out x5_1 p289 q289; obtain rfl : ad286 = ad289 := (by injection e289); have HR289_2 := Aside0.mk hi289_2; have HC289_2 := Aside0.mk hl289_2; clear hi289_2 hl289_2; replace p289 := eq_true p289; replace q289 := eq_true q289; have ea_ := Option.some.inj (hx286_2.symm.trans hx289_2); injection ea_ with ea_ en_ ec_; subst ea_; subst ec_; clear en_; have p290 : 0 ≤ (x5_1 : Int) := of_decide_eq_true (by first | (with_reducible assumption) | assumption); have q290 : x5_1 < (l1.length : Int) := of_decide_eq_true (by first | (with_reducible assumption) | assumption); obtain ⟨ad290, A290_2, c290_2, e290, hx290_0, hx290_1, hx290_2, hl290_2, hi290_2⟩ := at_T41 HR1.out x5_1 p290 q290; obtain rfl : ad287 = ad290 := (by injection e290); have HR290_2 := Aside0.mk hi290_2; have HC290_2 := Aside0.mk hl290_2; clear hi290_2 hl290_2; replace p290 := eq_true p290; replace q290 := eq_true q290; have ea_ := Option.some.inj (hx287_2.symm.trans hx290_2); injection ea_ with ea_ en_ ec_; subst ea_; subst ec_; clear en_; have p291 : 0 ≤ (x5_1 : Int) := of_decide_eq_true (by first | (with_reducible assumption) | assumption); have q291 : x5_1 < (l0.length : Int) := of_decide_eq_true (by first | (with_reducible assumption) | assumption); obtain ⟨ad291, A291_2, c291_2, e291, hx291_0, hx291_1, hx291_2, hl291_2, hi291_2⟩ := at_T41 HR0.out x5_1 p291 q291; obtain rfl : ad286 = ad291 := (by injection e291); have HR291_2 := Aside0.mk hi291_2; have HC291_2 := Aside0.mk hl291_2; clear hi291_2 hl291_2; replace p291 := eq_true p291; replace q291 := eq_true q291; have ea_ := Option.some.inj (hx286_2.symm.trans hx291_2); injection ea_ with ea_ en_ ec_; subst ea_; subst ec_; clear en_; have p292 : 0 ≤ (x5_1 : Int) := of_decide_eq_true (by first | (with_reducible assumption) | assumption); have q292 : x5_1 < (l1.length : Int) := of_decide_eq_true (by first | (with_reducible assumption) | assumption); obtain ⟨ad292, A292_2, c292_2, e292, hx292_0, hx292_1, hx292_2, hl292_2, hi292_2⟩ := at_T41 HR1.out x5_1 p292 q292; obtain rfl : ad287 = ad292 := (by injection e292); have HR292_2 := Aside0.mk hi292_2; have HC292_2 := Aside0.mk hl292_2; clear hi292_2 hl292_2; replace p292 := eq_true p292; replace q292 := eq_true q292; have ea_ := Option.some.inj (hx287_2.symm.trans hx292_2); injection ea_ with ea_ en_ ec_; subst ea_; subst ec_; clear en_)); try go_wp2_with (first | (go_at_call 21; (with_reducible refine (winnowerref06_Same.calls k1 _ _ ((rd_T41 l0 x5_1).f2) _ _ ((rd_T41 l1 x5_1).f2) true _ ?side1 ?side2 ?side3 ?side4 A7.out).mono ?_); (case side1 => repeat (first | exact HR286_2.out | (with_reducible refine Kd.C_alloc ?_ _) | (with_reducible refine Kd.C_drewN ?_ _) | (with_reducible refine Kd.C_drew ?_))); (case side2 => exact HC286_2.out); (case side3 => repeat (first | exact HR287_2.out | (with_reducible refine Kd.C_alloc ?_ _) | (with_reducible refine Kd.C_drewN ?_ _) | (with_reducible refine Kd.C_drew ?_))); (case side4 => exact HC287_2.out); rintro e w' ⟨rfl, ⟨nd, rfl⟩⟩; (try first | exact ⟨rfl, _, World.drewN_drewN _ _ _⟩ | exact ⟨rfl, _, Eq.trans (World.drewN_drewN _ _ _) (congrArg (World.drewN _) (Nat.add_assoc _ _ _))⟩); have p289 : 0 ≤ (x5_1 : Int) := of_decide_eq_true (by first | (with_reducible assumption) | assumption); have q289 : x5_1 < (l0.length : Int) := of_decide_eq_true (by first | (with_reducible assumption) | assumption); obtain ⟨ad289, A289_2, c289_2, e289, hx289_0, hx289_1, hx289_2, hl289_2, hi289_2⟩ := at_T41 HR0.out x5_1 p289 q289; obtain rfl : ad286 = ad289 := (by injection e289); have HR289_2 := Aside0.mk hi289_2; have HC289_2 := Aside0.mk hl289_2; clear hi289_2 hl289_2; replace p289 := eq_true p289; replace q289 := eq_true q289; have ea_ := Option.some.inj (hx286_2.symm.trans hx289_2); injection ea_ with ea_ en_ ec_; subst ea_; subst ec_; clear en_; have p290 : 0 ≤ (x5_1 : Int) := of_decide_eq_true (by first | (with_reducible assumption) | assumption); have q290 : x5_1 < (l1.length : Int) := of_decide_eq_true (by first | (with_reducible assumption) | assumption); obtain ⟨ad290, A290_2, c290_2, e290, hx290_0, hx290_1, hx290_2, hl290_2, hi290_2⟩ := at_T41 HR1.out x5_1 p290 q290; obtain rfl : ad287 = ad290 := (by injection e290); have HR290_2 := Aside0.mk hi290_2; have HC290_2 := Aside0.mk hl290_2; clear hi290_2 hl290_2; replace p290 := eq_true p290; replace q290 := eq_true q290; have ea_ := Option.some.inj (hx287_2.symm.trans hx290_2); injection ea_ with ea_ en_ ec_; subst ea_; subst ec_; clear en_; have p291 : 0 ≤ (x5_1 : Int) := of_decide_eq_true (by first | (with_reducible assumption) | assumption); have q291 : x5_1 < (l0.length : Int) := of_decide_eq_true (by first | (with_reducible assumption) | assumption); obtain ⟨ad291, A291_2, c291_2, e291, hx291_0, hx291_1, hx291_2, hl291_2, hi291_2⟩ := at_T41 HR0.out x5_1 p291 q291; obtain rfl : ad286 = ad291 := (by injection e291); have HR291_2 := Aside0.mk hi291_2; have HC291_2 := Aside0.mk hl291_2; clear hi291_2 hl291_2; replace p291 := eq_true p291; replace q291 := eq_true q291; have ea_ := Option.some.inj (hx286_2.symm.trans hx291_2); injection ea_ with ea_ en_ ec_; subst ea_; subst ec_; clear en_; have p292 : 0 ≤ (x5_1 : Int) := of_decide_eq_true (by first | (with_reducible assumption) | assumption); have q292 : x5_1 < (l1.length : Int) := of_decide_eq_true (by first | (with_reducible assumption) | assumption); obtain ⟨ad292, A292_2, c292_2, e292, hx292_0, hx292_1, hx292_2, hl292_2, hi292_2⟩ := at_T41 HR1.out x5_1 p292 q292; obtain rfl : ad287 = ad292 := (by injection e292); have HR292_2 := Aside0.mk hi292_2; have HC292_2 := Aside0.mk hl292_2; clear hi292_2 hl292_2; replace p292 := eq_true p292; replace q292 := eq_true q292; have ea_ := Option.some.inj (hx287_2.symm.trans hx292_2); injection ea_ with ea_ en_ ec_; subst ea_; subst ec_; clear en_)))
                    go_roundg k1
                    case measure => have := HK1.out; omega
                    case rel => exact ⟨(wrap64 (x5_1 + 1)), (by first | rfl | (simp; done) | (simp [*]; done)), H', ⟨by have := HK1.out; omega⟩, by repeat (first | exact Drawn0.refl _ | apply Drawn0.step)⟩
                · rw [if_neg c9] at H
                  have c9b0 : (((rd_T41 l0 x5_1).f0) == ((rd_T41 l1 x5_1).f0)) = false := beq_eq_false_iff_ne.mpr c9
                  have c9b1 : (((rd_T41 l0 x5_1).f0) != ((rd_T41 l1 x5_1).f0)) = true := bne_iff_ne.mpr c9
                  obtain rfl := Option.some.inj H
                  have p286 : 0 ≤ (x5_1 : Int) := of_decide_eq_true (by first | (with_reducible assumption) | assumption)
                  have q286 : x5_1 < (l0.length : Int) := of_decide_eq_true (by first | (with_reducible assumption) | assumption)
                  obtain ⟨ad286, A286_2, c286_2, e286, hx286_0, hx286_1, hx286_2, hl286_2, hi286_2⟩ := at_T41 HR0.out x5_1 p286 q286
                  cases e286
                  have HR286_2 := Aside0.mk hi286_2
                  have HC286_2 := Aside0.mk hl286_2
                  clear hi286_2 hl286_2
                  replace p286 := eq_true p286
                  replace q286 := eq_true q286
                  have p287 : 0 ≤ (x5_1 : Int) := of_decide_eq_true (by first | (with_reducible assumption) | assumption)
                  have q287 : x5_1 < (l1.length : Int) := of_decide_eq_true (by first | (with_reducible assumption) | assumption)
                  obtain ⟨ad287, A287_2, c287_2, e287, hx287_0, hx287_1, hx287_2, hl287_2, hi287_2⟩ := at_T41 HR1.out x5_1 p287 q287
                  cases e287
                  have HR287_2 := Aside0.mk hi287_2
                  have HC287_2 := Aside0.mk hl287_2
                  clear hi287_2 hl287_2
                  replace p287 := eq_true p287
                  replace q287 := eq_true q287
                  go_wp2_with (first | (go_at_call 21; (with_reducible refine (winnowerref06_Same.calls k1 _ _ ((rd_T41 l0 x5_1).f2) _ _ ((rd_T41 l1 x5_1).f2) true _ ?side1 ?side2 ?side3 ?side4 A7.out).mono ?_); (case side1 => repeat (first | exact HR286_2.out | (with_reducible refine Kd.C_alloc ?_ _) | (with_reducible refine Kd.C_drewN ?_ _) | (with_reducible refine Kd.C_drew ?_))); (case side2 => exact HC286_2.out); (case side3 => repeat (first | exact HR287_2.out | (with_reducible refine Kd.C_alloc ?_ _) | (with_reducible refine Kd.C_drewN ?_ _) | (with_reducible refine Kd.C_drew ?_))); (case side4 => exact HC287_2.out); rintro e w' ⟨rfl, ⟨nd, rfl⟩⟩; (try first | exact ⟨rfl, _, World.drewN_drewN _ _ _⟩ | exact ⟨rfl, _, Eq.trans (World.drewN_drewN _ _ _) (congrArg (World.drewN _) (Nat.add_assoc _ _ _))⟩); have p289 : 0 ≤ (x5_1 : Int) := of_decide_eq_true (by first | (with_reducible assumption) | assumption); have q289 : x5_1 < (l0.length : Int) := of_decide_eq_true (by first | (with_reducible assumption) | assumption); obtain ⟨ad289, A289_2, c289_2, e289, hx289_0, hx289_1, hx289_2, hl289_2, hi289_2⟩ := at_T41 HR0.out x5_1 p289 q289; obtain rfl : ad286 = ad289 := (by injection e289); have HR289_2 := Aside0.mk hi289_2; have HC289_2 := Aside0.mk hl289_2; clear hi289_2 hl289_2; replace p289 := eq_true p289; replace q289 := eq_true q289; have ea_ := Option.some.inj (hx286_2.symm.trans hx289_2); injection ea_ with ea_ en_ ec_; subst ea_; subst ec_; clear en_; have p290 : 0 ≤ (x5_1 : Int) := of_decide_eq_true (by first | (with_reducible assumption) | assumption); have q290 : x5_1 < (l1.length : Int) := of_decide_eq_true (by first | (with_reducible assumption) | assumption); obtain ⟨ad290, A290_2, c290_2, e290, hx290_0, hx290_1, hx290_2, hl290_2, hi290_2⟩ := at_T41 HR1.out x5_1 p290 q290; obtain rfl : ad287 = ad290 := (by injection e290); have HR290_2 := Aside0.mk hi290_2; have HC290_2 := Aside0.mk hl290_2; clear hi290_2 hl290_2; replace p290 := eq_true p290; replace q290 := eq_true q290; have ea_ := Option.some.inj (hx287_2.symm.trans hx290_2); injection ea_ with ea_ en_ ec_; subst ea_; subst ec_; clear en_))
                  repeat (go_quiet (first | (go_at_call 21; (with_reducible refine (winnowerref06_Same.calls k1 _ _ ((rd_T41 l0 x5_1).f2) _ _ ((rd_T41 l1 x5_1).f2) true _ ?side1 ?side2 ?side3 ?side4 A7.out).mono ?_); (case side1 => repeat (first | exact HR286_2.out | (with_reducible refine Kd.C_alloc ?_ _) | (with_reducible refine Kd.C_drewN ?_ _) | (with_reducible refine Kd.C_drew ?_))); (case side2 => exact HC286_2.out); (case side3 => repeat (first | exact HR287_2.out | (with_reducible refine Kd.C_alloc ?_ _) | (with_reducible refine Kd.C_drewN ?_ _) | (with_reducible refine Kd.C_drew ?_))); (case side4 => exact HC287_2.out); rintro e w' ⟨rfl, ⟨nd, rfl⟩⟩; (try first | exact ⟨rfl, _, World.drewN_drewN _ _ _⟩ | exact ⟨rfl, _, Eq.trans (World.drewN_drewN _ _ _) (congrArg (World.drewN _) (Nat.add_assoc _ _ _))⟩); have p289 : 0 ≤ (x5_1 : Int) := of_decide_eq_true (by first | (with_reducible assumption) | assumption); have q289 : x5_1 < (l0.length : Int) := of_decide_eq_true (by first | (with_reducible assumption) | assumption); obtain ⟨ad289, A289_2, c289_2, e289, hx289_0, hx289_1, hx289_2, hl289_2, hi289_2⟩ := at_T41 HR0.out x5_1 p289 q289; obtain rfl : ad286 = ad289 := (by injection e289); have HR289_2 := Aside0.mk hi289_2; have HC289_2 := Aside0.mk hl289_2; clear hi289_2 hl289_2; replace p289 := eq_true p289; replace q289 := eq_true q289; have ea_ := Option.some.inj (hx286_2.symm.trans hx289_2); injection ea_ with ea_ en_ ec_; subst ea_; subst ec_; clear en_; have p290 : 0 ≤ (x5_1 : Int) := of_decide_eq_true (by first | (with_reducible assumption) | assumption); have q290 : x5_1 < (l1.length : Int) := of_decide_eq_true (by first | (with_reducible assumption) | assumption); obtain ⟨ad290, A290_2, c290_2, e290, hx290_0, hx290_1, hx290_2, hl290_2, hi290_2⟩ := at_T41 HR1.out x5_1 p290 q290; obtain rfl : ad287 = ad290 := (by injection e290); have HR290_2 := Aside0.mk hi290_2; have HC290_2 := Aside0.mk hl290_2; clear hi290_2 hl290_2; replace p290 := eq_true p290; replace q290 := eq_true q290; have ea_ := Option.some.inj (hx287_2.symm.trans hx290_2); injection ea_ with ea_ en_ ec_; subst ea_; subst ec_; clear en_)); try go_wp2_with (first | (go_at_call 21; (with_reducible refine (winnowerref06_Same.calls k1 _ _ ((rd_T41 l0 x5_1).f2) _ _ ((rd_T41 l1 x5_1).f2) true _ ?side1 ?side2 ?side3 ?side4 A7.out).mono ?_); (case side1 => repeat (first | exact HR286_2.out | (with_reducible refine Kd.C_alloc ?_ _) | (with_reducible refine Kd.C_drewN ?_ _) | (with_reducible refine Kd.C_drew ?_))); (case side2 => exact HC286_2.out); (case side3 => repeat (first | exact HR287_2.out | (with_reducible refine Kd.C_alloc ?_ _) | (with_reducible refine Kd.C_drewN ?_ _) | (with_reducible refine Kd.C_drew ?_))); (case side4 => exact HC287_2.out); rintro e w' ⟨rfl, ⟨nd, rfl⟩⟩; (try first | exact ⟨rfl, _, World.drewN_drewN _ _ _⟩ | exact ⟨rfl, _, Eq.trans (World.drewN_drewN _ _ _) (congrArg (World.drewN _) (Nat.add_assoc _ _ _))⟩); have p289 : 0 ≤ (x5_1 : Int) := of_decide_eq_true (by first | (with_reducible assumption) | assumption); have q289 : x5_1 < (l0.length : Int) := of_decide_eq_true (by first | (with_reducible assumption) | assumption); obtain ⟨ad289, A289_2, c289_2, e289, hx289_0, hx289_1, hx289_2, hl289_2, hi289_2⟩ := at_T41 HR0.out x5_1 p289 q289; obtain rfl : ad286 = ad289 := (by injection e289); have HR289_2 := Aside0.mk hi289_2; have HC289_2 := Aside0.mk hl289_2; clear hi289_2 hl289_2; replace p289 := eq_true p289; replace q289 := eq_true q289; have ea_ := Option.some.inj (hx286_2.symm.trans hx289_2); injection ea_ with ea_ en_ ec_; subst ea_; subst ec_; clear en_; have p290 : 0 ≤ (x5_1 : Int) := of_decide_eq_true (by first | (with_reducible assumption) | assumption); have q290 : x5_1 < (l1.length : Int) := of_decide_eq_true (by first | (with_reducible assumption) | assumption); obtain ⟨ad290, A290_2, c290_2, e290, hx290_0, hx290_1, hx290_2, hl290_2, hi290_2⟩ := at_T41 HR1.out x5_1 p290 q290; obtain rfl : ad287 = ad290 := (by injection e290); have HR290_2 := Aside0.mk hi290_2; have HC290_2 := Aside0.mk hl290_2; clear hi290_2 hl290_2; replace p290 := eq_true p290; replace q290 := eq_true q290; have ea_ := Option.some.inj (hx287_2.symm.trans hx290_2); injection ea_ with ea_ en_ ec_; subst ea_; subst ec_; clear en_)))
                  go_ret
                  exact ⟨by first | rfl | (simp; done) | (simp [*]; done), by repeat (first | exact Drawn0.refl _ | apply Drawn0.step)⟩
              · replace c8 := Bool.eq_false_iff.mpr c8
                subst c8
                have H1 : (some false) = some r := by rw [if_neg (show ¬ (false = true) by decide)] at H; exact H
                clear H
                have H := H1
                clear H1
                obtain rfl := Option.some.inj H
                have p286 : 0 ≤ (x5_1 : Int) := of_decide_eq_true (by first | (with_reducible assumption) | assumption)
                have q286 : x5_1 < (l0.length : Int) := of_decide_eq_true (by first | (with_reducible assumption) | assumption)
                obtain ⟨ad286, A286_2, c286_2, e286, hx286_0, hx286_1, hx286_2, hl286_2, hi286_2⟩ := at_T41 HR0.out x5_1 p286 q286
                cases e286
                have HR286_2 := Aside0.mk hi286_2
                have HC286_2 := Aside0.mk hl286_2
                clear hi286_2 hl286_2
                replace p286 := eq_true p286
                replace q286 := eq_true q286
                have p287 : 0 ≤ (x5_1 : Int) := of_decide_eq_true (by first | (with_reducible assumption) | assumption)
                have q287 : x5_1 < (l1.length : Int) := of_decide_eq_true (by first | (with_reducible assumption) | assumption)
                obtain ⟨ad287, A287_2, c287_2, e287, hx287_0, hx287_1, hx287_2, hl287_2, hi287_2⟩ := at_T41 HR1.out x5_1 p287 q287
                cases e287
                have HR287_2 := Aside0.mk hi287_2
                have HC287_2 := Aside0.mk hl287_2
                clear hi287_2 hl287_2
                replace p287 := eq_true p287
                replace q287 := eq_true q287
                go_wp2_with (first | (go_at_call 21; (with_reducible refine (winnowerref06_Same.calls k1 _ _ ((rd_T41 l0 x5_1).f2) _ _ ((rd_T41 l1 x5_1).f2) false _ ?side1 ?side2 ?side3 ?side4 A7.out).mono ?_); (case side1 => repeat (first | exact HR286_2.out | (with_reducible refine Kd.C_alloc ?_ _) | (with_reducible refine Kd.C_drewN ?_ _) | (with_reducible refine Kd.C_drew ?_))); (case side2 => exact HC286_2.out); (case side3 => repeat (first | exact HR287_2.out | (with_reducible refine Kd.C_alloc ?_ _) | (with_reducible refine Kd.C_drewN ?_ _) | (with_reducible refine Kd.C_drew ?_))); (case side4 => exact HC287_2.out); rintro e w' ⟨rfl, ⟨nd, rfl⟩⟩; (try first | exact ⟨rfl, _, World.drewN_drewN _ _ _⟩ | exact ⟨rfl, _, Eq.trans (World.drewN_drewN _ _ _) (congrArg (World.drewN _) (Nat.add_assoc _ _ _))⟩)))
                repeat (go_quiet (first | (go_at_call 21; (with_reducible refine (winnowerref06_Same.calls k1 _ _ ((rd_T41 l0 x5_1).f2) _ _ ((rd_T41 l1 x5_1).f2) false _ ?side1 ?side2 ?side3 ?side4 A7.out).mono ?_); (case side1 => repeat (first | exact HR286_2.out | (with_reducible refine Kd.C_alloc ?_ _) | (with_reducible refine Kd.C_drewN ?_ _) | (with_reducible refine Kd.C_drew ?_))); (case side2 => exact HC286_2.out); (case side3 => repeat (first | exact HR287_2.out | (with_reducible refine Kd.C_alloc ?_ _) | (with_reducible refine Kd.C_drewN ?_ _) | (with_reducible refine Kd.C_drew ?_))); (case side4 => exact HC287_2.out); rintro e w' ⟨rfl, ⟨nd, rfl⟩⟩; (try first | exact ⟨rfl, _, World.drewN_drewN _ _ _⟩ | exact ⟨rfl, _, Eq.trans (World.drewN_drewN _ _ _) (congrArg (World.drewN _) (Nat.add_assoc _ _ _))⟩))); try go_wp2_with (first | (go_at_call 21; (with_reducible refine (winnowerref06_Same.calls k1 _ _ ((rd_T41 l0 x5_1).f2) _ _ ((rd_T41 l1 x5_1).f2) false _ ?side1 ?side2 ?side3 ?side4 A7.out).mono ?_); (case side1 => repeat (first | exact HR286_2.out | (with_reducible refine Kd.C_alloc ?_ _) | (with_reducible refine Kd.C_drewN ?_ _) | (with_reducible refine Kd.C_drew ?_))); (case side2 => exact HC286_2.out); (case side3 => repeat (first | exact HR287_2.out | (with_reducible refine Kd.C_alloc ?_ _) | (with_reducible refine Kd.C_drewN ?_ _) | (with_reducible refine Kd.C_drew ?_))); (case side4 => exact HC287_2.out); rintro e w' ⟨rfl, ⟨nd, rfl⟩⟩; (try first | exact ⟨rfl, _, World.drewN_drewN _ _ _⟩ | exact ⟨rfl, _, Eq.trans (World.drewN_drewN _ _ _) (congrArg (World.drewN _) (Nat.add_assoc _ _ _))⟩))))
                go_ret
                exact ⟨by first | rfl | (simp; done) | (simp [*]; done), by repeat (first | exact Drawn0.refl _ | apply Drawn0.step)⟩
            · rw [if_neg c6] at H
              exact absurd H (by simp)
          · rw [if_neg c5] at H
            exact absurd H (by simp)
        · rw [if_neg c4] at H
          have c4b0 : decide (x5_1 < (l0.length : Int)) = false := decide_eq_false c4
          have c4b0y0 := c4b0
          (try simp only [hl286_2] at c4b0y0)
          have c4b0y1 := c4b0
          (try simp only [hl287_2] at c4b0y1)
          have c4b0y2 := c4b0
          (try simp only [hl289_2] at c4b0y2)
          have c4b0y3 := c4b0
          (try simp only [hl290_2] at c4b0y3)
          have c4b0y4 := c4b0
          (try simp only [hl291_2] at c4b0y4)
          have c4b0y5 := c4b0
          (try simp only [hl292_2] at c4b0y5)
          clear c4
          obtain rfl := Option.some.inj H
          go_wp2
          repeat (go_quiet (fail); try go_wp2)
          go_ret
          exact ⟨by first | rfl | (simp; done) | (simp [*]; done), by repeat (first | exact Drawn0.refl _ | apply Drawn0.step)⟩
  · rw [if_neg c3] at H
    have c3b0 : ((l0.length : Int) == (l1.length : Int)) = false := beq_eq_false_iff_ne.mpr c3
    have c3b0y0 := c3b0
    (try simp only [hl286_2] at c3b0y0)
    have c3b0y1 := c3b0
    (try simp only [hl287_2] at c3b0y1)
    have c3b0y2 := c3b0
    (try simp only [hl289_2] at c3b0y2)
    have c3b0y3 := c3b0
    (try simp only [hl290_2] at c3b0y3)
    have c3b0y4 := c3b0
    (try simp only [hl291_2] at c3b0y4)
    have c3b0y5 := c3b0
    (try simp only [hl292_2] at c3b0y5)
    have c3b1 : ((l0.length : Int) != (l1.length : Int)) = true := bne_iff_ne.mpr c3
    have c3b1y0 := c3b1
    (try simp only [hl286_2] at c3b1y0)
    have c3b1y1 := c3b1
    (try simp only [hl287_2] at c3b1y1)
    have c3b1y2 := c3b1
    (try simp only [hl289_2] at c3b1y2)
    have c3b1y3 := c3b1
    (try simp only [hl290_2] at c3b1y3)
    have c3b1y4 := c3b1
    (try simp only [hl291_2] at c3b1y4)
    have c3b1y5 := c3b1
    (try simp only [hl292_2] at c3b1y5)
    have c3b2 : (l0.length == l1.length) = false := by first | simpa using c3 | (simp at c3 ⊢; omega)
    have c3b2y0 := c3b2
    (try simp only [hl286_2] at c3b2y0)
    have c3b2y1 := c3b2
    (try simp only [hl287_2] at c3b2y1)
    have c3b2y2 := c3b2
    (try simp only [hl289_2] at c3b2y2)
    have c3b2y3 := c3b2
    (try simp only [hl290_2] at c3b2y3)
    have c3b2y4 := c3b2
    (try simp only [hl291_2] at c3b2y4)
    have c3b2y5 := c3b2
    (try simp only [hl292_2] at c3b2y5)
    obtain rfl := Option.some.inj H
    go_enter Tryd.func10, Tryd.ntmps10
    go_wp2
    repeat (go_quiet (fail); try go_wp2)
    go_ret
    exact ⟨by first | rfl | (simp; done) | (simp [*]; done), by repeat (first | exact Drawn0.refl _ | apply Drawn0.step)⟩

end Go.Proofs.YtimomihjghefdaaDoor.Q
