/- The machine side of laws, written by wip/tools/myprint.py (the printer's way, with functions proved by hand put in); Lean checks it. -/
import Derived.Test.YteefchdfdgfaaaaDoorJ1
import Derived.Test.YteefchdfdgfaaaaDoorJ4
import Derived.Test.YteefchdfdgfaaaaDoorJ2
import Derived.Test.YteefchdfdgfaaaaDoorJ3
import Derived.Test.YteefchdfdgfaaaaDoorQx12
import Derived.Test.YteefchdfdgfaaaaDoorQx18
import Derived.Test.YteefchdfdgfaaaaDoorQx22
import Derived.Test.YteefchdfdgfaaaaDoorJ0
import Derived.Deep.RegionLaw
namespace Go.Proofs.YteefchdfdgfaaaaDoor.Q
open Go.RowKit Go.Proofs.YteefchdfdgfaaaaDoorW.PrintWords Go.Proofs.YteefchdfdgfaaaaDoorW.PrintLast Go.Proofs.YteefchdfdgfaaaaDoorW.PrintMore
attribute [local go_sem] max2_int min2_int max_two min_two max_three min_three max_four min_four   -- for this text's walks alone
set_option linter.unusedVariables false
set_option linter.unusedSimpArgs false

/-! ### winnowerref01_Same_p: function 13 -/
def winnowerref01_Same_p.l0 : Nat → List Int → List Int → Int → Option (Bool)
  | 0, _, _, _ => none
  | k + 1, x0, x1, x5 => if x5 < (x0.length : Int) then (if 0 ≤ x5 then (if x5 < (x1.length : Int) then (if (rd x0 x5) = (rd x1 x5) then (winnowerref01_Same_p.l0 k x0 x1 (wrap64 (x5 + 1))) else (some false)) else (none)) else (none)) else (some true)
def winnowerref01_Same_p.f (k : Nat) (l0 : List Int) (l1 : List Int) : Option (Bool) := if (l0.length : Int) = (l1.length : Int) then (winnowerref01_Same_p.l0 k l0 l1 0) else (some false)
set_option maxHeartbeats 8000000 in
set_option maxRecDepth 100000 in
theorem winnowerref01_Same_p.calls (k : Nat) (A0 : Option Addr) (c0 : Nat) (l0 : List Int) (A1 : Option Addr) (c1 : Nat) (l1 : List Int) (r : Bool) (w : World) (hr0 : Kd.C (Kd.int .u8) w A0 l0.length l0) (hc0 : l0.length ≤ c0) (hr1 : Kd.C (Kd.int .u8) w A1 l1.length l1) (hc1 : l1.length ≤ c1) (h : winnowerref01_Same_p.f k l0 l1 = some r) :
    Calls Tryd.prog 13 #[.slice A0 l0.length c0, .slice A1 l1.length c1] w fun e w' => e = .returned (.bool r) ∧ Drawn0 w w' := by
  have HR0 := z05.mk hr0
  have HC0 := z05.mk hc0
  clear hr0 hc0
  have HR1 := z05.mk hr1
  have HC1 := z05.mk hc1
  clear hr1 hc1
  have H : (if (l0.length : Int) = (l1.length : Int) then (winnowerref01_Same_p.l0 k l0 l1 0) else (some false)) = some r := h
  clear h
  by_cases c3 : (l0.length : Int) = (l1.length : Int)
  · rw [if_pos c3] at H
    have c3b0 : ((l0.length : Int) == (l1.length : Int)) = true := beq_iff_eq.mpr c3
    have c3b1 : ((l0.length : Int) != (l1.length : Int)) = false := bne_eq_false_iff_eq.mpr c3
    have c3b2 : (l0.length == l1.length) = true := by first | simpa using c3 | (simp at c3 ⊢; omega)
    clear c3
    have H' := z05.mk H
    clear H
    go_enter Tryd.func13, Tryd.ntmps13
    go_wp2
    repeat (go_quiet (fail); try go_wp2)
    go_loopg [5] k (fun kq v5 w' => ∃ (x5_1 : Int), v5 = .int .i64 x5_1 ∧ z05 (winnowerref01_Same_p.l0 kq l0 l1 x5_1 = some r) ∧ z05 (kq ≤ k) ∧ Drawn0 w w')
    case atStart => exact ⟨(0), (by first | rfl | (simp; done) | (simp [*]; done)), H', ⟨Nat.le_refl _⟩, by repeat (first | exact Drawn0.refl _ | apply Drawn0.step)⟩
    case round =>
      clear H'
      try clear c1
      try clear p2
      try clear c3
      try clear c3b0
      try clear c3b1
      try clear c3b2
      obtain ⟨x5_1, rfl, HA, HK1, ⟨m1, rfl⟩⟩ := hrel
      cases gk with
      | zero => exact absurd HA.out (by simp [winnowerref01_Same_p.l0])
      | succ k1 =>
        have H := HA.out
        clear HA
        simp only [winnowerref01_Same_p.l0] at H
        by_cases c4 : x5_1 < (l0.length : Int)
        · rw [if_pos c4] at H
          have c4b0 : decide (x5_1 < (l0.length : Int)) = true := decide_eq_true c4
          clear c4
          by_cases c5 : 0 ≤ x5_1
          · rw [if_pos c5] at H
            have c5b0 : decide (0 ≤ x5_1) = true := decide_eq_true c5
            clear c5
            by_cases c6 : x5_1 < (l1.length : Int)
            · rw [if_pos c6] at H
              have c6b0 : decide (x5_1 < (l1.length : Int)) = true := decide_eq_true c6
              clear c6
              by_cases c7 : (rd l0 x5_1) = (rd l1 x5_1)
              · rw [if_pos c7] at H
                have c7b0 : ((rd l0 x5_1) == (rd l1 x5_1)) = true := beq_iff_eq.mpr c7
                have c7b1 : ((rd l0 x5_1) != (rd l1 x5_1)) = false := bne_eq_false_iff_eq.mpr c7
                clear c7
                have H' := z05.mk H
                clear H
                have p164 : 0 ≤ (x5_1 : Int) := of_decide_eq_true (by first | (with_reducible assumption) | assumption)
                have q164 : x5_1 < (l0.length : Int) := of_decide_eq_true (by first | (with_reducible assumption) | assumption)
                obtain ⟨ad164, e164, hx164_0⟩ := Kd.at_int HR0.out x5_1 p164 q164
                cases e164
                replace p164 := eq_true p164
                replace q164 := eq_true q164
                have p165 : 0 ≤ (x5_1 : Int) := of_decide_eq_true (by first | (with_reducible assumption) | assumption)
                have q165 : x5_1 < (l1.length : Int) := of_decide_eq_true (by first | (with_reducible assumption) | assumption)
                obtain ⟨ad165, e165, hx165_0⟩ := Kd.at_int HR1.out x5_1 p165 q165
                cases e165
                replace p165 := eq_true p165
                replace q165 := eq_true q165
                go_wp2
                repeat (go_quiet (fail); try go_wp2)
                go_roundg k1
                case measure => have := HK1.out; omega
                case rel => exact ⟨(wrap64 (x5_1 + 1)), (by first | rfl | (simp; done) | (simp [*]; done)), H', ⟨by have := HK1.out; omega⟩, by repeat (first | exact Drawn0.refl _ | apply Drawn0.step)⟩
              · rw [if_neg c7] at H
                have c7b0 : ((rd l0 x5_1) == (rd l1 x5_1)) = false := beq_eq_false_iff_ne.mpr c7
                have c7b1 : ((rd l0 x5_1) != (rd l1 x5_1)) = true := bne_iff_ne.mpr c7
                obtain rfl := Option.some.inj H
                have p164 : 0 ≤ (x5_1 : Int) := of_decide_eq_true (by first | (with_reducible assumption) | assumption)
                have q164 : x5_1 < (l0.length : Int) := of_decide_eq_true (by first | (with_reducible assumption) | assumption)
                obtain ⟨ad164, e164, hx164_0⟩ := Kd.at_int HR0.out x5_1 p164 q164
                cases e164
                replace p164 := eq_true p164
                replace q164 := eq_true q164
                have p165 : 0 ≤ (x5_1 : Int) := of_decide_eq_true (by first | (with_reducible assumption) | assumption)
                have q165 : x5_1 < (l1.length : Int) := of_decide_eq_true (by first | (with_reducible assumption) | assumption)
                obtain ⟨ad165, e165, hx165_0⟩ := Kd.at_int HR1.out x5_1 p165 q165
                cases e165
                replace p165 := eq_true p165
                replace q165 := eq_true q165
                go_wp2
                repeat (go_quiet (fail); try go_wp2)
                go_ret
                exact ⟨by first | rfl | (simp; done) | (simp [*]; done), by repeat (first | exact Drawn0.refl _ | apply Drawn0.step)⟩
            · rw [if_neg c6] at H
              exact absurd H (by simp)
          · rw [if_neg c5] at H
            exact absurd H (by simp)
        · rw [if_neg c4] at H
          have c4b0 : decide (x5_1 < (l0.length : Int)) = false := decide_eq_false c4
          clear c4
          obtain rfl := Option.some.inj H
          go_wp2
          repeat (go_quiet (fail); try go_wp2)
          go_ret
          exact ⟨by first | rfl | (simp; done) | (simp [*]; done), by repeat (first | exact Drawn0.refl _ | apply Drawn0.step)⟩
  · rw [if_neg c3] at H
    have c3b0 : ((l0.length : Int) == (l1.length : Int)) = false := beq_eq_false_iff_ne.mpr c3
    have c3b1 : ((l0.length : Int) != (l1.length : Int)) = true := bne_iff_ne.mpr c3
    have c3b2 : (l0.length == l1.length) = false := by first | simpa using c3 | (simp at c3 ⊢; omega)
    obtain rfl := Option.some.inj H
    go_enter Tryd.func13, Tryd.ntmps13
    go_wp2
    repeat (go_quiet (fail); try go_wp2)
    go_ret
    exact ⟨by first | rfl | (simp; done) | (simp [*]; done), by repeat (first | exact Drawn0.refl _ | apply Drawn0.step)⟩

end Go.Proofs.YteefchdfdgfaaaaDoor.Q
namespace Go.Proofs.YteefchdfdgfaaaaDoor.Q
open Go.RowKit Go.Proofs.YteefchdfdgfaaaaDoorW.PrintWords Go.Proofs.YteefchdfdgfaaaaDoorW.PrintLast Go.Proofs.YteefchdfdgfaaaaDoorW.PrintMore
attribute [local go_sem] max2_int min2_int max_two min_two max_three min_three max_four min_four   -- for this text's walks alone
set_option linter.unusedVariables false
set_option linter.unusedSimpArgs false

-- BY HAND: 
/-! ### winnowerref01_Same: function 13 -/
-- HAND winnower/winnowerref01.Same over
theorem winnowerref01_Same.tell (a b : List Int) (hl : a.length = b.length) (h63 : a.length ≤ 9223372036854775807) : ∀ (d k kq : Nat), k + d = a.length → d < kq →
    winnowerref01_Same_p.l0 kq a b (k : Int) = some (decide (a.drop k = b.drop k)) := by
  intro d
  induction d with
  | zero =>
    intro k kq hd hq
    obtain ⟨q, rfl⟩ : ∃ m, kq = m + 1 := ⟨kq - 1, by omega⟩
    simp only [winnowerref01_Same_p.l0]
    rw [if_neg (by omega), List.drop_of_length_le (by omega), List.drop_of_length_le (by omega)]
    rfl
  | succ d ih =>
    intro k kq hd hq
    obtain ⟨q, rfl⟩ : ∃ m, kq = m + 1 := ⟨kq - 1, by omega⟩
    have ha : k < a.length := by omega
    have hb : k < b.length := by omega
    have ra : rd a (k : Int) = a[k] := by rw [rd, Int.toNat_natCast, List.getD_eq_getElem?_getD, List.getElem?_eq_getElem ha]; rfl
    have rb : rd b (k : Int) = b[k] := by rw [rd, Int.toNat_natCast, List.getD_eq_getElem?_getD, List.getElem?_eq_getElem hb]; rfl
    simp only [winnowerref01_Same_p.l0]
    rw [if_pos (by omega), if_pos (by omega), if_pos (by omega), ra, rb, List.drop_eq_getElem_cons ha, List.drop_eq_getElem_cons hb]
    by_cases h : a[k] = b[k]
    · rw [if_pos h, show wrap64 ((k : Int) + 1) = ((k + 1 : Nat) : Int) from by unfold wrap64; omega, ih (k + 1) q (by omega) (by omega)]
      exact congrArg some (decide_eq_decide.2 ⟨fun e => by rw [h, e], fun e => (List.cons.inj e).2⟩)
    · rw [if_neg h]
      exact congrArg some (decide_eq_false (fun e => h (List.cons.inj e).1)).symm
def winnowerref01_Same.f (l0 l1 : List Int) : Option Bool := some (decide (l0 = l1))
theorem winnowerref01_Same.calls (A0 : Option Addr) (c0 : Nat) (l0 : List Int) (A1 : Option Addr) (c1 : Nat) (l1 : List Int) (r : Bool) (w : World) (hr0 : Kd.C (Kd.int .u8) w A0 l0.length l0) (hc0 : l0.length ≤ c0) (hr1 : Kd.C (Kd.int .u8) w A1 l1.length l1) (hc1 : l1.length ≤ c1) (h : winnowerref01_Same.f l0 l1 = some r) :
    Calls Tryd.prog 13 #[.slice A0 l0.length c0, .slice A1 l1.length c1] w fun e w' => e = .returned (.bool r) ∧ Drawn0 w w' := by
  refine winnowerref01_Same_p.calls (l0.length + 1) A0 c0 l0 A1 c1 l1 r w hr0 hc0 hr1 hc1 ?_
  rw [← h]
  unfold winnowerref01_Same_p.f winnowerref01_Same.f
  by_cases hl : l0.length = l1.length
  · rw [if_pos (by omega), show (0 : Int) = ((0 : Nat) : Int) from rfl, winnowerref01_Same.tell l0 l1 hl hr0.2.1 l0.length 0 _ (by omega) (by omega), List.drop_zero, List.drop_zero]
  · rw [if_neg (by omega)]
    congr 1
    symm
    simp only [decide_eq_false_iff_not]
    intro e; exact hl (by rw [e])

end Go.Proofs.YteefchdfdgfaaaaDoor.Q
namespace Go.Proofs.YteefchdfdgfaaaaDoor.Q
open Go.RowKit Go.Proofs.YteefchdfdgfaaaaDoorW.PrintWords Go.Proofs.YteefchdfdgfaaaaDoorW.PrintLast Go.Proofs.YteefchdfdgfaaaaDoorW.PrintMore
attribute [local go_sem] max2_int min2_int max_two min_two max_three min_three max_four min_four   -- for this text's walks alone
set_option linter.unusedVariables false
set_option linter.unusedSimpArgs false

attribute [local go_sem high] eqA46
/-! ### winnowerlaw07_Small: function 23 -/
def winnowerlaw07_Small.f  : Option ((List (S48)) × Int × Int × Int × Int) := some ((([(⟨(⟨#[107]⟩ : ByteArray), 1, false⟩ : S48), (⟨(⟨#[118]⟩ : ByteArray), 2, true⟩ : S48)] : List (S48))), (-1), (-1), (-1), (-1))
set_option maxHeartbeats 8000000 in
set_option maxRecDepth 100000 in
theorem winnowerlaw07_Small.calls  (r1 : List (S48)) (r2 : Int) (r3 : Int) (r4 : Int) (r5 : Int) (w : World) (h : winnowerlaw07_Small.f  = some (r1, r2, r3, r4, r5)) :
    Calls Tryd.prog 23 #[] w fun e w' => ∃ v0_ : Value, e = .returned (.agg #[v0_, .int .i64 r2, .int .i64 r3, .int .i64 r4, .int .i64 r5]) ∧ Kd.R k48 48 w' w.heap.size (fun _ => True) v0_ r1 ∧ Below w.heap.size w w' := by
  have hu24 := Tryd.underlying24
  have hu48 := Tryd.underlying48
  have HB := z05.mk (Below.refl w.heap.size w)
  have H : (some ((([(⟨(⟨#[107]⟩ : ByteArray), 1, false⟩ : S48), (⟨(⟨#[118]⟩ : ByteArray), 2, true⟩ : S48)] : List (S48))), (-1), (-1), (-1), (-1))) = some (r1, r2, r3, r4, r5) := h
  clear h
  obtain ⟨y192, hy192⟩ : ∃ y_ : List (S48), y_ = (([(⟨(⟨#[107]⟩ : ByteArray), 1, false⟩ : S48), (⟨(⟨#[118]⟩ : ByteArray), 2, true⟩ : S48)] : List (S48))) := ⟨_, rfl⟩
  replace H : (some (y192, (-1), (-1), (-1), (-1))) = some (r1, r2, r3, r4, r5) := by first | (rw [hy192]; with_reducible exact H) | (have H2_ := (Option.bind_some _ _).symm.trans H; rw [hy192]; with_reducible exact H2_) | (have H2_ := (Option.bind_some _ _).symm.trans H; with_reducible exact H2_) | with_reducible exact H | (rw [hy192]; exact H) | exact H
  have Ny192 := z05.mk hy192
  clear hy192
  simp only [Option.some.injEq, Prod.mk.injEq] at H
  obtain ⟨rfl, rfl, rfl, rfl, rfl⟩ := H
  go_enter Tryd.func23, Tryd.ntmps23
  go_wp2_with (first | ((with_reducible refine gate_dst (N := 0) rfl ?_); refine box_event ?hg (N := 0) ?hd (cs := #[.slice none 0 0, .int .i64 0, .int .i64 0, .int .i64 0, .int .i64 0]) (t := 24) ?hr ?_; (case hd => rfl); (case hg => rfl); (case hr => first | (go_simp; done) | (go_simp; rfl)); intro gb191 hg w1 hbox hb; have n0_ := z05.mk (below_step (by repeat (first | (with_reducible first | exact HB.out | apply z02 | apply z00 | apply z03) | exact HB.out)) hb); have n1_ := z05.mk (hbox); have n2_ := z05.mk ((by rw [hg]; exact (below_size (by repeat (first | (with_reducible first | exact HB.out | apply z02 | apply z00 | apply z03) | exact HB.out))) : w.heap.size ≤ gb191)); have n3_ := z05.mk ((by rw [hg]; exact (below_size (by repeat (first | (with_reducible first | exact HB.out | apply z02 | apply z00 | apply z03) | exact HB.out))) : w.heap.size ≤ gb191)); clear HB; have HB := n0_; have BK191 := n1_; have GW191 := n2_; have GE191 := n3_; clear n0_ n1_ n2_ n3_; clear hb hbox hg) | ((with_reducible refine gate_dst (N := 3) rfl ?_); refine Kd.R_lit k48 _ 48 ?hg (N := 3) ?hd (xs := ([(⟨(⟨#[107]⟩ : ByteArray), 1, false⟩ : S48), (⟨(⟨#[118]⟩ : ByteArray), 2, true⟩ : S48)] : List (S48))) (inner := [.string (⟨#[107]⟩ : ByteArray), .int .i64 1, .bool false, .string (⟨#[118]⟩ : ByteArray), .int .i64 2, .bool true]) (ok := fun _ => True) (okp := fun _ => True) ?hr ?hp (fun _ hk => hk) trivial (Below.refl _ _) (Nat.le_refl _) (by simp) ?_; (case hd => rfl); (case hg => rfl); (case hr => first | (go_simp; done) | (go_simp; rfl)); (case hp => exact (Reps.c3 (show Kd.M k48 _ _ _ (⟨(⟨#[107]⟩ : ByteArray), 1, false⟩ : S48) [.string (⟨#[107]⟩ : ByteArray), .int .i64 1, .bool false] from (k48_mkM _ _ _ (⟨(⟨#[107]⟩ : ByteArray), 1, false⟩ : S48) )) (Reps.c3 (show Kd.M k48 _ _ _ (⟨(⟨#[118]⟩ : ByteArray), 2, true⟩ : S48) [.string (⟨#[118]⟩ : ByteArray), .int .i64 2, .bool true] from (k48_mkM _ _ _ (⟨(⟨#[118]⟩ : ByteArray), 2, true⟩ : S48) )) (Reps.none _ _)))); intro v193 w2 ho3 hb hg_ hnew_; clear hg_ hnew_; (first | rw [← Ny192.out] at ho3 | (simp only [Int.reduceToNat] at ho3; rw [← Ny192.out] at ho3)); have n0_ := z05.mk (Kd.R_lower ho3 (below_size (by repeat (first | (with_reducible first | exact HB.out | apply z02 | apply z00 | apply z03 | refine z09 ?_ GE191.out) | exact HB.out)))); have n1_ := z05.mk (blk_below (g := gb191) (o := .cells #[.slice none 0 0, .int .i64 0, .int .i64 0, .int .i64 0, .int .i64 0] 24 (0, 0)) (by (with_reducible repeat (first | refine z07 ?_ _ | refine z08 ?_ | refine z06 ?_ _)); exact BK191.out) hb); have n2_ := z05.mk (below_step (by repeat (first | (with_reducible first | exact HB.out | apply z02 | apply z00 | apply z03 | refine z09 ?_ GE191.out) | exact HB.out)) hb); clear BK191; clear HB; have HO194 := n0_; have BK191 := n1_; have HB := n2_; clear n0_ n1_ n2_; clear hb ho3; obtain ⟨Ao4, co4, eo4⟩ := Kd.R_slice HO194.out; subst eo4; have hcz5_0 : w2.cell? ⟨gb191, 0, none⟩ = some (.slice none 0 0) := (z04 BK191.out 0).trans rfl; have hcz5_1 : w2.cell? ⟨gb191, 1, none⟩ = some (.int .i64 0) := (z04 BK191.out 1).trans rfl; have hcz5_2 : w2.cell? ⟨gb191, 2, none⟩ = some (.int .i64 0) := (z04 BK191.out 2).trans rfl; have hcz5_3 : w2.cell? ⟨gb191, 3, none⟩ = some (.int .i64 0) := (z04 BK191.out 3).trans rfl; have hcz5_4 : w2.cell? ⟨gb191, 4, none⟩ = some (.int .i64 0) := (z04 BK191.out 4).trans rfl; have hfz5_0 := z01 BK191.out 0; have hfz5_1 := z01 BK191.out 1; have hfz5_2 := z01 BK191.out 2; have hfz5_3 := z01 BK191.out 3; have hfz5_4 := z01 BK191.out 4))
  refine bodyPost_ret (results_cell_row rfl _ _ gb191 24 #[.slice Ao4 y192.length co4, .int .i64 (-1), .int .i64 (-1), .int .i64 (-1), .int .i64 (-1)] (0, 0) _ rfl (by (with_reducible repeat (first | refine z07 ?_ _ | refine z08 ?_ | refine z06 ?_ _)); refine blk_put (cs := #[.slice Ao4 y192.length co4, .int .i64 (-1), .int .i64 (-1), .int .i64 (-1), .int .i64 0]) ?_ 4 _ rfl; (with_reducible repeat (first | refine z07 ?_ _ | refine z08 ?_ | refine z06 ?_ _)); refine blk_put (cs := #[.slice Ao4 y192.length co4, .int .i64 (-1), .int .i64 (-1), .int .i64 0, .int .i64 0]) ?_ 3 _ rfl; (with_reducible repeat (first | refine z07 ?_ _ | refine z08 ?_ | refine z06 ?_ _)); refine blk_put (cs := #[.slice Ao4 y192.length co4, .int .i64 (-1), .int .i64 0, .int .i64 0, .int .i64 0]) ?_ 2 _ rfl; (with_reducible repeat (first | refine z07 ?_ _ | refine z08 ?_ | refine z06 ?_ _)); refine blk_put (cs := #[.slice Ao4 y192.length co4, .int .i64 0, .int .i64 0, .int .i64 0, .int .i64 0]) ?_ 1 _ rfl; (with_reducible repeat (first | refine z07 ?_ _ | refine z08 ?_ | refine z06 ?_ _)); refine blk_put (cs := #[.slice none 0 0, .int .i64 0, .int .i64 0, .int .i64 0, .int .i64 0]) ?_ 0 _ rfl; (with_reducible repeat (first | refine z07 ?_ _ | refine z08 ?_ | refine z06 ?_ _)); exact BK191.out) Tryd.underlying24 rfl (by kernel_rfl)) rfl ?_
  exact ⟨_, by first | rfl | (simp [errW_none, errW_some] <;> rfl) | (refine congrArg (fun b_ : Bool => Ending.returned (Value.bool b_)) ?_; simp; done) | (simp [*, errW_none, errW_some] <;> rfl), by (with_reducible repeat (first | apply Kd.R_alloc | apply Kd.R_drewN | apply Kd.R_drew)); exact Kd.R_mono (Kd.R_far (p := ⟨gb191, 4, none⟩) (Kd.R_far (p := ⟨gb191, 3, none⟩) (Kd.R_far (p := ⟨gb191, 2, none⟩) (Kd.R_far (p := ⟨gb191, 1, none⟩) (Kd.R_far (p := ⟨gb191, 0, none⟩) (Kd.R_types HO194.out BK191.out (by decide)) (fun _ hk => hk.2) (.slice Ao4 y192.length co4)) (fun _ hk => hk.2) (.int .i64 (-1))) (fun _ hk => hk.2) (.int .i64 (-1))) (fun _ hk => hk.2) (.int .i64 (-1))) (fun _ hk => hk.2) (.int .i64 (-1))) (fun _ hk => trivial), by repeat (first | (with_reducible first | exact HB.out | apply z02 | apply z00 | apply z03 | refine z09 ?_ GE191.out) | exact HB.out)⟩

/-! ### winnowerlaw07_awake_p: function 8 -/
def winnowerlaw07_awake_p.f (k : Nat)  : Option (Bool) := (winnowerlaw07_Small.f).bind fun bt195 => ((schema_Encode.f k bt195.1 bt195.2.1 bt195.2.2.1 bt195.2.2.2.1 bt195.2.2.2.2 (([(⟨1, 5, (⟨#[]⟩ : ByteArray), false⟩ : S46), (⟨2, 0, (⟨#[97]⟩ : ByteArray), false⟩ : S46)] : List (S46)))).bind fun bt206 => ((schema_Decode.f bt195.1 bt195.2.1 bt195.2.2.1 bt195.2.2.2.1 bt195.2.2.2.2 (([10, 0] : List Int))).bind fun bt213 => ((winnowerref01_Same.f bt206.1 (([10, 1, 1, 97] : List Int))).bind fun t220 => (if t220 = true then (if bt206.2 = 0 then (if bt213.2 = 0 then (if (bt213.1.length : Int) = 2 then (if 0 < (bt213.1.length : Int) then (if ((rd_T46 bt213.1 0).f1) = 5 then (if 1 < (bt213.1.length : Int) then (if (((rd_T46 bt213.1 1).f0) == 0 && (((rd_T46 bt213.1 1).f1) == 0 && ((((rd_T46 bt213.1 1).f2).toList) == ([] : List UInt8) && (!((rd_T46 bt213.1 1).f3))))) = true then ((schema_Find.f bt195.1 bt195.2.1 bt195.2.2.1 bt195.2.2.2.1 bt195.2.2.2.2 (⟨#[118]⟩ : ByteArray)).bind fun t223 => (if t223 = 1 then ((schema_May.f bt195.1 bt195.2.1 bt195.2.2.1 bt195.2.2.2.1 bt195.2.2.2.2).bind fun t224 => (some t224)) else (some false))) else (some false)) else (none)) else (some false)) else (none)) else (some false)) else (some false)) else (some false)) else (some false)))))
set_option maxHeartbeats 8000000 in
set_option maxRecDepth 100000 in
theorem winnowerlaw07_awake_p.calls (k : Nat)  (r : Bool) (w : World) (hG : Globs w) (hT_ : r = true) (h : winnowerlaw07_awake_p.f k  = some r) :
    Calls Tryd.prog 8 #[] w fun e w' => e = .returned (.bool r) ∧ Below w.heap.size w w' := by
  have hu24 := Tryd.underlying24
  have hu46 := Tryd.underlying46
  have HGL := z05.mk hG
  clear hG
  have HTRUE := z05.mk hT_
  clear hT_
  have HB := z05.mk (Below.refl w.heap.size w)
  have H : ((winnowerlaw07_Small.f).bind fun bt195 => ((schema_Encode.f k bt195.1 bt195.2.1 bt195.2.2.1 bt195.2.2.2.1 bt195.2.2.2.2 (([(⟨1, 5, (⟨#[]⟩ : ByteArray), false⟩ : S46), (⟨2, 0, (⟨#[97]⟩ : ByteArray), false⟩ : S46)] : List (S46)))).bind fun bt206 => ((schema_Decode.f bt195.1 bt195.2.1 bt195.2.2.1 bt195.2.2.2.1 bt195.2.2.2.2 (([10, 0] : List Int))).bind fun bt213 => ((winnowerref01_Same.f bt206.1 (([10, 1, 1, 97] : List Int))).bind fun t220 => (if t220 = true then (if bt206.2 = 0 then (if bt213.2 = 0 then (if (bt213.1.length : Int) = 2 then (if 0 < (bt213.1.length : Int) then (if ((rd_T46 bt213.1 0).f1) = 5 then (if 1 < (bt213.1.length : Int) then (if (((rd_T46 bt213.1 1).f0) == 0 && (((rd_T46 bt213.1 1).f1) == 0 && ((((rd_T46 bt213.1 1).f2).toList) == ([] : List UInt8) && (!((rd_T46 bt213.1 1).f3))))) = true then ((schema_Find.f bt195.1 bt195.2.1 bt195.2.2.1 bt195.2.2.2.1 bt195.2.2.2.2 (⟨#[118]⟩ : ByteArray)).bind fun t223 => (if t223 = 1 then ((schema_May.f bt195.1 bt195.2.1 bt195.2.2.1 bt195.2.2.2.1 bt195.2.2.2.2).bind fun t224 => (some t224)) else (some false))) else (some false)) else (none)) else (some false)) else (none)) else (some false)) else (some false)) else (some false)) else (some false)))))) = some r := h
  clear h
  replace H := Option.bind_eq_some_iff.mp H
  obtain ⟨⟨t195, t198, t199, t200, t201⟩, A10, H⟩ := H
  replace H : ((schema_Encode.f k t195 t198 t199 t200 t201 (([(⟨1, 5, (⟨#[]⟩ : ByteArray), false⟩ : S46), (⟨2, 0, (⟨#[97]⟩ : ByteArray), false⟩ : S46)] : List (S46)))).bind fun bt206 => ((schema_Decode.f t195 t198 t199 t200 t201 (([10, 0] : List Int))).bind fun bt213 => ((winnowerref01_Same.f bt206.1 (([10, 1, 1, 97] : List Int))).bind fun t220 => (if t220 = true then (if bt206.2 = 0 then (if bt213.2 = 0 then (if (bt213.1.length : Int) = 2 then (if 0 < (bt213.1.length : Int) then (if ((rd_T46 bt213.1 0).f1) = 5 then (if 1 < (bt213.1.length : Int) then (if (((rd_T46 bt213.1 1).f0) == 0 && (((rd_T46 bt213.1 1).f1) == 0 && ((((rd_T46 bt213.1 1).f2).toList) == ([] : List UInt8) && (!((rd_T46 bt213.1 1).f3))))) = true then ((schema_Find.f t195 t198 t199 t200 t201 (⟨#[118]⟩ : ByteArray)).bind fun t223 => (if t223 = 1 then ((schema_May.f t195 t198 t199 t200 t201).bind fun t224 => (some t224)) else (some false))) else (some false)) else (none)) else (some false)) else (none)) else (some false)) else (some false)) else (some false)) else (some false))))) = some r := H
  have A1 := z05.mk A10
  clear A10
  obtain ⟨y203, hy203⟩ : ∃ y_ : List (S46), y_ = (([(⟨1, 5, (⟨#[]⟩ : ByteArray), false⟩ : S46), (⟨2, 0, (⟨#[97]⟩ : ByteArray), false⟩ : S46)] : List (S46))) := ⟨_, rfl⟩
  replace H : ((schema_Encode.f k t195 t198 t199 t200 t201 y203).bind fun bt206 => ((schema_Decode.f t195 t198 t199 t200 t201 (([10, 0] : List Int))).bind fun bt213 => ((winnowerref01_Same.f bt206.1 (([10, 1, 1, 97] : List Int))).bind fun t220 => (if t220 = true then (if bt206.2 = 0 then (if bt213.2 = 0 then (if (bt213.1.length : Int) = 2 then (if 0 < (bt213.1.length : Int) then (if ((rd_T46 bt213.1 0).f1) = 5 then (if 1 < (bt213.1.length : Int) then (if (((rd_T46 bt213.1 1).f0) == 0 && (((rd_T46 bt213.1 1).f1) == 0 && ((((rd_T46 bt213.1 1).f2).toList) == ([] : List UInt8) && (!((rd_T46 bt213.1 1).f3))))) = true then ((schema_Find.f t195 t198 t199 t200 t201 (⟨#[118]⟩ : ByteArray)).bind fun t223 => (if t223 = 1 then ((schema_May.f t195 t198 t199 t200 t201).bind fun t224 => (some t224)) else (some false))) else (some false)) else (none)) else (some false)) else (none)) else (some false)) else (some false)) else (some false)) else (some false))))) = some r := by first | (rw [hy203]; with_reducible exact H) | (have H2_ := (Option.bind_some _ _).symm.trans H; rw [hy203]; with_reducible exact H2_) | (have H2_ := (Option.bind_some _ _).symm.trans H; with_reducible exact H2_) | with_reducible exact H | (rw [hy203]; exact H) | exact H
  have Ny203 := z05.mk hy203
  clear hy203
  replace H := Option.bind_eq_some_iff.mp H
  obtain ⟨⟨t206, t209⟩, A20, H⟩ := H
  replace H : ((schema_Decode.f t195 t198 t199 t200 t201 (([10, 0] : List Int))).bind fun bt213 => ((winnowerref01_Same.f t206 (([10, 1, 1, 97] : List Int))).bind fun t220 => (if t220 = true then (if t209 = 0 then (if bt213.2 = 0 then (if (bt213.1.length : Int) = 2 then (if 0 < (bt213.1.length : Int) then (if ((rd_T46 bt213.1 0).f1) = 5 then (if 1 < (bt213.1.length : Int) then (if (((rd_T46 bt213.1 1).f0) == 0 && (((rd_T46 bt213.1 1).f1) == 0 && ((((rd_T46 bt213.1 1).f2).toList) == ([] : List UInt8) && (!((rd_T46 bt213.1 1).f3))))) = true then ((schema_Find.f t195 t198 t199 t200 t201 (⟨#[118]⟩ : ByteArray)).bind fun t223 => (if t223 = 1 then ((schema_May.f t195 t198 t199 t200 t201).bind fun t224 => (some t224)) else (some false))) else (some false)) else (none)) else (some false)) else (none)) else (some false)) else (some false)) else (some false)) else (some false)))) = some r := H
  have A2 := z05.mk A20
  clear A20
  obtain ⟨y210, hy210⟩ : ∃ y_ : List Int, y_ = (([10, 0] : List Int)) := ⟨_, rfl⟩
  replace H : ((schema_Decode.f t195 t198 t199 t200 t201 y210).bind fun bt213 => ((winnowerref01_Same.f t206 (([10, 1, 1, 97] : List Int))).bind fun t220 => (if t220 = true then (if t209 = 0 then (if bt213.2 = 0 then (if (bt213.1.length : Int) = 2 then (if 0 < (bt213.1.length : Int) then (if ((rd_T46 bt213.1 0).f1) = 5 then (if 1 < (bt213.1.length : Int) then (if (((rd_T46 bt213.1 1).f0) == 0 && (((rd_T46 bt213.1 1).f1) == 0 && ((((rd_T46 bt213.1 1).f2).toList) == ([] : List UInt8) && (!((rd_T46 bt213.1 1).f3))))) = true then ((schema_Find.f t195 t198 t199 t200 t201 (⟨#[118]⟩ : ByteArray)).bind fun t223 => (if t223 = 1 then ((schema_May.f t195 t198 t199 t200 t201).bind fun t224 => (some t224)) else (some false))) else (some false)) else (none)) else (some false)) else (none)) else (some false)) else (some false)) else (some false)) else (some false)))) = some r := by first | (rw [hy210]; with_reducible exact H) | (have H2_ := (Option.bind_some _ _).symm.trans H; rw [hy210]; with_reducible exact H2_) | (have H2_ := (Option.bind_some _ _).symm.trans H; with_reducible exact H2_) | with_reducible exact H | (rw [hy210]; exact H) | exact H
  have Ny210 := z05.mk hy210
  clear hy210
  replace H := Option.bind_eq_some_iff.mp H
  obtain ⟨⟨t213, t216⟩, A30, H⟩ := H
  replace H : ((winnowerref01_Same.f t206 (([10, 1, 1, 97] : List Int))).bind fun t220 => (if t220 = true then (if t209 = 0 then (if t216 = 0 then (if (t213.length : Int) = 2 then (if 0 < (t213.length : Int) then (if ((rd_T46 t213 0).f1) = 5 then (if 1 < (t213.length : Int) then (if (((rd_T46 t213 1).f0) == 0 && (((rd_T46 t213 1).f1) == 0 && ((((rd_T46 t213 1).f2).toList) == ([] : List UInt8) && (!((rd_T46 t213 1).f3))))) = true then ((schema_Find.f t195 t198 t199 t200 t201 (⟨#[118]⟩ : ByteArray)).bind fun t223 => (if t223 = 1 then ((schema_May.f t195 t198 t199 t200 t201).bind fun t224 => (some t224)) else (some false))) else (some false)) else (none)) else (some false)) else (none)) else (some false)) else (some false)) else (some false)) else (some false))) = some r := H
  have A3 := z05.mk A30
  clear A30
  obtain ⟨y217, hy217⟩ : ∃ y_ : List Int, y_ = (([10, 1, 1, 97] : List Int)) := ⟨_, rfl⟩
  replace H : ((winnowerref01_Same.f t206 y217).bind fun t220 => (if t220 = true then (if t209 = 0 then (if t216 = 0 then (if (t213.length : Int) = 2 then (if 0 < (t213.length : Int) then (if ((rd_T46 t213 0).f1) = 5 then (if 1 < (t213.length : Int) then (if (((rd_T46 t213 1).f0) == 0 && (((rd_T46 t213 1).f1) == 0 && ((((rd_T46 t213 1).f2).toList) == ([] : List UInt8) && (!((rd_T46 t213 1).f3))))) = true then ((schema_Find.f t195 t198 t199 t200 t201 (⟨#[118]⟩ : ByteArray)).bind fun t223 => (if t223 = 1 then ((schema_May.f t195 t198 t199 t200 t201).bind fun t224 => (some t224)) else (some false))) else (some false)) else (none)) else (some false)) else (none)) else (some false)) else (some false)) else (some false)) else (some false))) = some r := by first | (rw [hy217]; with_reducible exact H) | (have H2_ := (Option.bind_some _ _).symm.trans H; rw [hy217]; with_reducible exact H2_) | (have H2_ := (Option.bind_some _ _).symm.trans H; with_reducible exact H2_) | with_reducible exact H | (rw [hy217]; exact H) | exact H
  have Ny217 := z05.mk hy217
  clear hy217
  replace H := Option.bind_eq_some_iff.mp H
  obtain ⟨t220, A40, H⟩ := H
  replace H : (if t220 = true then (if t209 = 0 then (if t216 = 0 then (if (t213.length : Int) = 2 then (if 0 < (t213.length : Int) then (if ((rd_T46 t213 0).f1) = 5 then (if 1 < (t213.length : Int) then (if (((rd_T46 t213 1).f0) == 0 && (((rd_T46 t213 1).f1) == 0 && ((((rd_T46 t213 1).f2).toList) == ([] : List UInt8) && (!((rd_T46 t213 1).f3))))) = true then ((schema_Find.f t195 t198 t199 t200 t201 (⟨#[118]⟩ : ByteArray)).bind fun t223 => (if t223 = 1 then ((schema_May.f t195 t198 t199 t200 t201).bind fun t224 => (some t224)) else (some false))) else (some false)) else (none)) else (some false)) else (none)) else (some false)) else (some false)) else (some false)) else (some false)) = some r := H
  have A4 := z05.mk A40
  clear A40
  by_cases c5 : t220 = true
  · subst c5
    have H1 : (if t209 = 0 then (if t216 = 0 then (if (t213.length : Int) = 2 then (if 0 < (t213.length : Int) then (if ((rd_T46 t213 0).f1) = 5 then (if 1 < (t213.length : Int) then (if (((rd_T46 t213 1).f0) == 0 && (((rd_T46 t213 1).f1) == 0 && ((((rd_T46 t213 1).f2).toList) == ([] : List UInt8) && (!((rd_T46 t213 1).f3))))) = true then ((schema_Find.f t195 t198 t199 t200 t201 (⟨#[118]⟩ : ByteArray)).bind fun t223 => (if t223 = 1 then ((schema_May.f t195 t198 t199 t200 t201).bind fun t224 => (some t224)) else (some false))) else (some false)) else (none)) else (some false)) else (none)) else (some false)) else (some false)) else (some false)) = some r := by rw [if_pos rfl] at H; exact H
    clear H
    have H := H1
    clear H1
    by_cases c6 : t209 = 0
    · rw [if_pos c6] at H
      have c6b0 : (t209 == 0) = true := beq_iff_eq.mpr c6
      have c6b1 : (t209 != 0) = false := bne_eq_false_iff_eq.mpr c6
      clear c6
      by_cases c7 : t216 = 0
      · rw [if_pos c7] at H
        have c7b0 : (t216 == 0) = true := beq_iff_eq.mpr c7
        have c7b1 : (t216 != 0) = false := bne_eq_false_iff_eq.mpr c7
        clear c7
        by_cases c8 : (t213.length : Int) = 2
        · rw [if_pos c8] at H
          have c8b0 : ((t213.length : Int) == 2) = true := beq_iff_eq.mpr c8
          have c8b1 : ((t213.length : Int) != 2) = false := bne_eq_false_iff_eq.mpr c8
          clear c8
          by_cases c9 : 0 < (t213.length : Int)
          · rw [if_pos c9] at H
            have c9b0 : decide (0 < (t213.length : Int)) = true := decide_eq_true c9
            have c9b1 : decide (0 < t213.length) = true := decide_eq_true (by omega)
            clear c9
            by_cases c10 : ((rd_T46 t213 0).f1) = 5
            · rw [if_pos c10] at H
              have c10b0 : (((rd_T46 t213 0).f1) == 5) = true := beq_iff_eq.mpr c10
              have c10b1 : (((rd_T46 t213 0).f1) != 5) = false := bne_eq_false_iff_eq.mpr c10
              clear c10
              by_cases c11 : 1 < (t213.length : Int)
              · rw [if_pos c11] at H
                have c11b0 : decide (1 < (t213.length : Int)) = true := decide_eq_true c11
                have c11b1 : decide (1 < t213.length) = true := decide_eq_true (by omega)
                clear c11
                by_cases c12 : (((rd_T46 t213 1).f0) == 0 && (((rd_T46 t213 1).f1) == 0 && ((((rd_T46 t213 1).f2).toList) == ([] : List UInt8) && (!((rd_T46 t213 1).f3))))) = true
                · rw [if_pos c12] at H
                  have c12b0 : (((rd_T46 t213 1).f0) == 0 && (((rd_T46 t213 1).f1) == 0 && ((((rd_T46 t213 1).f2).toList) == ([] : List UInt8) && (!((rd_T46 t213 1).f3))))) = true := c12
                  (try (have c12b1 : decide (((rd_T46 t213 1).f0) = 0 && (((rd_T46 t213 1).f1) == 0 && ((((rd_T46 t213 1).f2).toList) == ([] : List UInt8) && (!((rd_T46 t213 1).f3))))) = true := by simpa using c12))
                  (try (have c12b2 : (((rd_T46 t213 1).f0) == 0 && (((rd_T46 t213 1).f1) == 0 && ((((rd_T46 t213 1).f2).toList) == ([] : List UInt8) && (!((rd_T46 t213 1).f3))))) = true := by simpa using c12))
                  (try (have c12b4 : ((((rd_T46 t213 1).f0) = 0 ∧ (((rd_T46 t213 1).f1) = 0 ∧ ((((rd_T46 t213 1).f2).toList) = ([] : List UInt8) ∧ (((rd_T46 t213 1).f3) = false))))) := by simpa using c12))
                  clear c12
                  replace H := Option.bind_eq_some_iff.mp H
                  obtain ⟨t223, A130, H⟩ := H
                  replace H : (if t223 = 1 then ((schema_May.f t195 t198 t199 t200 t201).bind fun t224 => (some t224)) else (some false)) = some r := H
                  have A13 := z05.mk A130
                  clear A130
                  by_cases c14 : t223 = 1
                  · rw [if_pos c14] at H
                    have c14b0 : (t223 == 1) = true := beq_iff_eq.mpr c14
                    have c14b1 : (t223 != 1) = false := bne_eq_false_iff_eq.mpr c14
                    clear c14
                    replace H := Option.bind_eq_some_iff.mp H
                    obtain ⟨t224, A150, H⟩ := H
                    replace H : (some t224) = some r := H
                    have A15 := z05.mk A150
                    clear A150
                    obtain rfl := Option.some.inj H
                    go_enter Tryd.func8, Tryd.ntmps8
                    go_wp2_with (first | ((with_reducible refine gate_callee (f := 23) rfl ?_); refine goesL_ (some 7) rfl rfl Tryd.func23 (by kernel_rfl) rfl #[] rfl (by (try simp only [List.map_toArray, List.map_cons, List.map_nil]); first | done | rfl | (simp only [List.length_drop, List.length_take]; rfl)) ?_; (with_reducible refine (winnowerlaw07_Small.calls  t195 t198 t199 t200 t201 _ A1.out).mono ?_); rintro e w16 ⟨v196, rfl, ho0, hb⟩; refine ⟨_, rfl, ?_⟩; have n0_ := z05.mk (Kd.R_lower ho0 (below_size (by repeat (first | (with_reducible first | exact HB.out | apply z02 | apply z00 | apply z03) | exact HB.out)))); have n1_ := z05.mk (below_step (by repeat (first | (with_reducible first | exact HB.out | apply z02 | apply z00 | apply z03) | exact HB.out)) hb); clear HB; have HO197 := n0_; have HB := n1_; clear n0_ n1_; (try clear hb); (try clear hb2); (try clear hk); (try clear hi); (try clear ho0)) | ((with_reducible refine gate_dst (N := 1) rfl ?_); (try (refine gate_guard (by rfl) ?_; dsimp only)); refine box_event ?hg (N := 1) ?hd (cs := #[.slice none 0 0, .int .i64 0, .int .i64 0, .int .i64 0, .int .i64 0]) (t := 24) ?hr ?_; (case hd => rfl); (case hg => rfl); (case hr => first | (go_simp; done) | (go_simp; rfl)); intro gb202 hg w17 hbox hb; have n0_ := z05.mk (Kd.R_below (by (with_reducible repeat (first | apply Kd.R_alloc | apply Kd.R_drewN | apply Kd.R_drew)); exact HO197.out) hb); have n1_ := z05.mk (below_step (by repeat (first | (with_reducible first | exact HB.out | apply z02 | apply z00 | apply z03) | exact HB.out)) hb); have n2_ := z05.mk (hbox); have n3_ := z05.mk ((by rw [hg]; exact (below_size (by repeat (first | (with_reducible first | exact HB.out | apply z02 | apply z00 | apply z03) | exact HB.out))) : w.heap.size ≤ gb202)); have n4_ := z05.mk ((by rw [hg]; exact (below_size (by repeat (first | (with_reducible first | exact HB.out | apply z02 | apply z00 | apply z03) | exact HB.out))) : w.heap.size ≤ gb202)); clear HO197; clear HB; have HO197 := n0_; have HB := n1_; have BK202 := n2_; have GW202 := n3_; have GE202 := n4_; clear n0_ n1_ n2_ n3_ n4_; clear hb hbox hg; obtain ⟨Ao18, co18, eo18⟩ := Kd.R_slice HO197.out; subst eo18; have hcz19_0 : w17.cell? ⟨gb202, 0, none⟩ = some (.slice none 0 0) := (z04 BK202.out 0).trans rfl; have hcz19_1 : w17.cell? ⟨gb202, 1, none⟩ = some (.int .i64 0) := (z04 BK202.out 1).trans rfl; have hcz19_2 : w17.cell? ⟨gb202, 2, none⟩ = some (.int .i64 0) := (z04 BK202.out 2).trans rfl; have hcz19_3 : w17.cell? ⟨gb202, 3, none⟩ = some (.int .i64 0) := (z04 BK202.out 3).trans rfl; have hcz19_4 : w17.cell? ⟨gb202, 4, none⟩ = some (.int .i64 0) := (z04 BK202.out 4).trans rfl; have hfz19_0 := z01 BK202.out 0; have hfz19_1 := z01 BK202.out 1; have hfz19_2 := z01 BK202.out 2; have hfz19_3 := z01 BK202.out 3; have hfz19_4 := z01 BK202.out 4) | ((with_reducible refine gate_dst (N := 12) rfl ?_); (try (refine gate_guard (by rfl) ?_; dsimp only)); refine Kd.R_lit k46 _ 46 ?hg (N := 12) ?hd (xs := ([(⟨1, 5, (⟨#[]⟩ : ByteArray), false⟩ : S46), (⟨2, 0, (⟨#[97]⟩ : ByteArray), false⟩ : S46)] : List (S46))) (inner := [.int .i64 1, .int .i64 5, .string (⟨#[]⟩ : ByteArray), .bool false, .int .i64 2, .int .i64 0, .string (⟨#[97]⟩ : ByteArray), .bool false]) (ok := fun _ => True) (okp := fun _ => True) ?hr ?hp (fun _ hk => hk) trivial (Below.refl _ _) (Nat.le_refl _) (by simp) ?_; (case hd => rfl); (case hg => rfl); (case hr => first | (go_simp; done) | (go_simp; rfl)); (case hp => exact (Reps.c4 (show Kd.M k46 _ _ _ (⟨1, 5, (⟨#[]⟩ : ByteArray), false⟩ : S46) [.int .i64 1, .int .i64 5, .string (⟨#[]⟩ : ByteArray), .bool false] from (k46_mkM _ _ _ (⟨1, 5, (⟨#[]⟩ : ByteArray), false⟩ : S46) )) (Reps.c4 (show Kd.M k46 _ _ _ (⟨2, 0, (⟨#[97]⟩ : ByteArray), false⟩ : S46) [.int .i64 2, .int .i64 0, .string (⟨#[97]⟩ : ByteArray), .bool false] from (k46_mkM _ _ _ (⟨2, 0, (⟨#[97]⟩ : ByteArray), false⟩ : S46) )) (Reps.none _ _)))); intro v204 w20 ho21 hb hg_ hnew_; clear hg_ hnew_; (first | rw [← Ny203.out] at ho21 | (simp only [Int.reduceToNat] at ho21; rw [← Ny203.out] at ho21)); have n0_ := z05.mk (Kd.R_below (by (with_reducible repeat (first | apply Kd.R_alloc | apply Kd.R_drewN | apply Kd.R_drew)); exact (Kd.R_mono (Kd.R_far (p := ⟨gb202, 4, none⟩) (Kd.R_far (p := ⟨gb202, 3, none⟩) (Kd.R_far (p := ⟨gb202, 2, none⟩) (Kd.R_far (p := ⟨gb202, 1, none⟩) (Kd.R_far (p := ⟨gb202, 0, none⟩) (Kd.R_types HO197.out BK202.out (by decide)) (fun _ hk => hk.2) (.slice Ao18 t195.length co18)) (fun _ hk => hk.2) (.int .i64 t198)) (fun _ hk => hk.2) (.int .i64 t199)) (fun _ hk => hk.2) (.int .i64 t200)) (fun _ hk => hk.2) (.int .i64 t201)) (fun _ h_ => h_.1))) hb); have n1_ := z05.mk (Kd.R_lower ho21 (below_size (by repeat (first | (with_reducible first | exact HB.out | apply z02 | apply z00 | apply z03 | refine z09 ?_ GE202.out) | exact HB.out)))); have n2_ := z05.mk (blk_below (g := gb202) (o := .cells #[.slice Ao18 t195.length co18, .int .i64 t198, .int .i64 t199, .int .i64 t200, .int .i64 t201] 24 (0, 0)) (by (with_reducible repeat (first | refine z07 ?_ _ | refine z08 ?_ | refine z06 ?_ _)); refine blk_put (cs := #[.slice Ao18 t195.length co18, .int .i64 t198, .int .i64 t199, .int .i64 t200, .int .i64 0]) ?_ 4 _ rfl; (with_reducible repeat (first | refine z07 ?_ _ | refine z08 ?_ | refine z06 ?_ _)); refine blk_put (cs := #[.slice Ao18 t195.length co18, .int .i64 t198, .int .i64 t199, .int .i64 0, .int .i64 0]) ?_ 3 _ rfl; (with_reducible repeat (first | refine z07 ?_ _ | refine z08 ?_ | refine z06 ?_ _)); refine blk_put (cs := #[.slice Ao18 t195.length co18, .int .i64 t198, .int .i64 0, .int .i64 0, .int .i64 0]) ?_ 2 _ rfl; (with_reducible repeat (first | refine z07 ?_ _ | refine z08 ?_ | refine z06 ?_ _)); refine blk_put (cs := #[.slice Ao18 t195.length co18, .int .i64 0, .int .i64 0, .int .i64 0, .int .i64 0]) ?_ 1 _ rfl; (with_reducible repeat (first | refine z07 ?_ _ | refine z08 ?_ | refine z06 ?_ _)); refine blk_put (cs := #[.slice none 0 0, .int .i64 0, .int .i64 0, .int .i64 0, .int .i64 0]) ?_ 0 _ rfl; (with_reducible repeat (first | refine z07 ?_ _ | refine z08 ?_ | refine z06 ?_ _)); exact BK202.out) hb); have n3_ := z05.mk (below_step (by repeat (first | (with_reducible first | exact HB.out | apply z02 | apply z00 | apply z03 | refine z09 ?_ GE202.out) | exact HB.out)) hb); clear HO197; clear BK202; clear HB; have HO197 := n0_; have HO205 := n1_; have BK202 := n2_; have HB := n3_; clear n0_ n1_ n2_ n3_; clear hb ho21; obtain ⟨Ao22, co22, eo22⟩ := Kd.R_slice HO205.out; subst eo22) | ((with_reducible refine gate_callee (f := 11) rfl ?_); refine goesL_ (some 13) rfl rfl Tryd.func11 (by kernel_rfl) rfl #[.agg #[.slice Ao18 t195.length co18, .int .i64 t198, .int .i64 t199, .int .i64 t200, .int .i64 t201], .slice Ao22 y203.length co22] rfl (by (try simp only [List.map_toArray, List.map_cons, List.map_nil]); first | done | rfl | (simp only [List.length_drop, List.length_take]; rfl)) ?_; (with_reducible refine (schema_Encode.calls k _ _ t195 t198 t199 t200 t201 _ _ y203 t206 t209 _ ?side1 ?side2 ?side3 ?side4 A2.out).mono ?_); (case side1 => repeat (first | exact (Kd.R_reads' HO197.out).2.2 | (with_reducible refine Kd.C_alloc ?_ _) | (with_reducible refine Kd.C_drewN ?_ _) | (with_reducible refine Kd.C_drew ?_))); (case side2 => exact (Kd.R_reads' HO197.out).2.1); (case side3 => repeat (first | exact (Kd.R_reads' HO205.out).2.2 | (with_reducible refine Kd.C_alloc ?_ _) | (with_reducible refine Kd.C_drewN ?_ _) | (with_reducible refine Kd.C_drew ?_))); (case side4 => exact (Kd.R_reads' HO205.out).2.1); rintro e w23 ⟨v207, rfl, ho0, hb⟩; refine ⟨_, rfl, ?_⟩; have n0_ := z05.mk (Kd.R_below (by (with_reducible repeat (first | apply Kd.R_alloc | apply Kd.R_drewN | apply Kd.R_drew)); exact HO197.out) hb); have n1_ := z05.mk (Kd.R_below (by (with_reducible repeat (first | apply Kd.R_alloc | apply Kd.R_drewN | apply Kd.R_drew)); exact HO205.out) hb); have n2_ := z05.mk (Kd.R_lower ho0 (below_size (by repeat (first | (with_reducible first | exact HB.out | apply z02 | apply z00 | apply z03 | refine z09 ?_ GE202.out) | exact HB.out)))); have n3_ := z05.mk (blk_below (g := gb202) (o := .cells #[.slice Ao18 t195.length co18, .int .i64 t198, .int .i64 t199, .int .i64 t200, .int .i64 t201] 24 (0, 0)) (by (with_reducible repeat (first | refine z07 ?_ _ | refine z08 ?_ | refine z06 ?_ _)); exact BK202.out) hb); have n4_ := z05.mk (below_step (by repeat (first | (with_reducible first | exact HB.out | apply z02 | apply z00 | apply z03 | refine z09 ?_ GE202.out) | exact HB.out)) hb); clear HO197; clear HO205; clear BK202; clear HB; have HO197 := n0_; have HO205 := n1_; have HO208 := n2_; have BK202 := n3_; have HB := n4_; clear n0_ n1_ n2_ n3_ n4_; (try clear hb); (try clear hb2); (try clear hk); (try clear hi); (try clear ho0); have hcz24_0 : w23.cell? ⟨gb202, 0, none⟩ = some (.slice Ao18 t195.length co18) := (z04 BK202.out 0).trans rfl; have hcz24_1 : w23.cell? ⟨gb202, 1, none⟩ = some (.int .i64 t198) := (z04 BK202.out 1).trans rfl; have hcz24_2 : w23.cell? ⟨gb202, 2, none⟩ = some (.int .i64 t199) := (z04 BK202.out 2).trans rfl; have hcz24_3 : w23.cell? ⟨gb202, 3, none⟩ = some (.int .i64 t200) := (z04 BK202.out 3).trans rfl; have hcz24_4 : w23.cell? ⟨gb202, 4, none⟩ = some (.int .i64 t201) := (z04 BK202.out 4).trans rfl; have hfz24_0 := z01 BK202.out 0; have hfz24_1 := z01 BK202.out 1; have hfz24_2 := z01 BK202.out 2; have hfz24_3 := z01 BK202.out 3; have hfz24_4 := z01 BK202.out 4) | ((with_reducible refine gate_dst (N := 18) rfl ?_); (try (refine gate_guard (by rfl) ?_; dsimp only)); refine Kd.R_lit (Kd.int .u8) _ 5 ?hg (N := 18) ?hd (xs := ([10, 0] : List Int)) (inner := [.int .u8 10, .int .u8 0]) (ok := fun _ => True) (okp := fun _ => True) ?hr ?hp (fun _ hk => hk) trivial (Below.refl _ _) (Nat.le_refl _) (by simp) ?_; (case hd => rfl); (case hg => rfl); (case hr => first | (go_simp; done) | (go_simp; rfl)); (case hp => exact (Reps.one (show Kd.M (Kd.int .u8) _ _ _ 10 [.int .u8 10] from rfl) (Reps.one (show Kd.M (Kd.int .u8) _ _ _ 0 [.int .u8 0] from rfl) (Reps.none _ _)))); intro v211 w25 ho26 hb hg_ hnew_; clear hg_ hnew_; (first | rw [← Ny210.out] at ho26 | (simp only [Int.reduceToNat] at ho26; rw [← Ny210.out] at ho26)); have n0_ := z05.mk (Kd.R_below (by (with_reducible repeat (first | apply Kd.R_alloc | apply Kd.R_drewN | apply Kd.R_drew)); exact HO197.out) hb); have n1_ := z05.mk (Kd.R_below (by (with_reducible repeat (first | apply Kd.R_alloc | apply Kd.R_drewN | apply Kd.R_drew)); exact HO205.out) hb); have n2_ := z05.mk (Kd.R_elder' (by (with_reducible repeat (first | apply Kd.R_alloc | apply Kd.R_drewN | apply Kd.R_drew)); exact HO208.out) (Kd.R_base ho26) hb); have n3_ := z05.mk (Kd.R_lower (Kd.R_new' ho26 (Kd.R_lt (by (with_reducible repeat (first | apply Kd.R_alloc | apply Kd.R_drewN | apply Kd.R_drew)); exact HO208.out))) (below_size (by repeat (first | (with_reducible first | exact HB.out | apply z02 | apply z00 | apply z03 | refine z09 ?_ GE202.out) | exact HB.out)))); have n4_ := z05.mk (blk_below (g := gb202) (o := .cells #[.slice Ao18 t195.length co18, .int .i64 t198, .int .i64 t199, .int .i64 t200, .int .i64 t201] 24 (0, 0)) (by (with_reducible repeat (first | refine z07 ?_ _ | refine z08 ?_ | refine z06 ?_ _)); exact BK202.out) hb); have n5_ := z05.mk (below_step (by repeat (first | (with_reducible first | exact HB.out | apply z02 | apply z00 | apply z03 | refine z09 ?_ GE202.out) | exact HB.out)) hb); clear HO197; clear HO205; clear HO208; clear BK202; clear HB; have HO197 := n0_; have HO205 := n1_; have HO208 := n2_; have HO212 := n3_; have BK202 := n4_; have HB := n5_; clear n0_ n1_ n2_ n3_ n4_ n5_; clear hb ho26; obtain ⟨Ao27, co27, eo27⟩ := Kd.R_slice HO212.out; subst eo27) | ((with_reducible refine gate_callee (f := 20) rfl ?_); refine goesL_ (some 19) rfl rfl Tryd.func20 (by kernel_rfl) rfl #[.agg #[.slice Ao18 t195.length co18, .int .i64 t198, .int .i64 t199, .int .i64 t200, .int .i64 t201], .slice Ao27 y210.length co27] rfl (by (try simp only [List.map_toArray, List.map_cons, List.map_nil]); first | done | rfl | (simp only [List.length_drop, List.length_take]; rfl)) ?_; (with_reducible refine (schema_Decode.calls _ _ t195 t198 t199 t200 t201 _ _ y210 t213 t216 _ ?side1 ?side2 ?side3 ?side4 ?side5 A3.out).mono ?_); (case side1 => repeat (first | exact (Kd.R_reads' HO197.out).2.2 | (with_reducible refine Kd.C_alloc ?_ _) | (with_reducible refine Kd.C_drewN ?_ _) | (with_reducible refine Kd.C_drew ?_))); (case side2 => exact (Kd.R_reads' HO197.out).2.1); (case side3 => repeat (first | exact (Kd.R_reads' HO212.out).2.2 | (with_reducible refine Kd.C_alloc ?_ _) | (with_reducible refine Kd.C_drewN ?_ _) | (with_reducible refine Kd.C_drew ?_))); (case side4 => exact (Kd.R_reads' HO212.out).2.1); (case side5 => exact globs_below HGL.out (by repeat (first | (with_reducible first | exact HB.out | apply z02 | apply z00 | apply z03 | refine z09 ?_ GE202.out) | exact HB.out))); rintro e w28 ⟨v214, rfl, ho0, hb⟩; refine ⟨_, rfl, ?_⟩; have n0_ := z05.mk (Kd.R_below (by (with_reducible repeat (first | apply Kd.R_alloc | apply Kd.R_drewN | apply Kd.R_drew)); exact HO197.out) hb); have n1_ := z05.mk (Kd.R_elder' (by (with_reducible repeat (first | apply Kd.R_alloc | apply Kd.R_drewN | apply Kd.R_drew)); exact HO205.out) (Kd.R_base ho0) hb); have n2_ := z05.mk (Kd.R_below (by (with_reducible repeat (first | apply Kd.R_alloc | apply Kd.R_drewN | apply Kd.R_drew)); exact HO208.out) hb); have n3_ := z05.mk (Kd.R_below (by (with_reducible repeat (first | apply Kd.R_alloc | apply Kd.R_drewN | apply Kd.R_drew)); exact HO212.out) hb); have n4_ := z05.mk (Kd.R_lower (Kd.R_new' ho0 (Kd.R_lt (by (with_reducible repeat (first | apply Kd.R_alloc | apply Kd.R_drewN | apply Kd.R_drew)); exact HO205.out))) (below_size (by repeat (first | (with_reducible first | exact HB.out | apply z02 | apply z00 | apply z03 | refine z09 ?_ GE202.out) | exact HB.out)))); have n5_ := z05.mk (blk_below (g := gb202) (o := .cells #[.slice Ao18 t195.length co18, .int .i64 t198, .int .i64 t199, .int .i64 t200, .int .i64 t201] 24 (0, 0)) (by (with_reducible repeat (first | refine z07 ?_ _ | refine z08 ?_ | refine z06 ?_ _)); exact BK202.out) hb); have n6_ := z05.mk (below_step (by repeat (first | (with_reducible first | exact HB.out | apply z02 | apply z00 | apply z03 | refine z09 ?_ GE202.out) | exact HB.out)) hb); clear HO197; clear HO205; clear HO208; clear HO212; clear BK202; clear HB; have HO197 := n0_; have HO205 := n1_; have HO208 := n2_; have HO212 := n3_; have HO215 := n4_; have BK202 := n5_; have HB := n6_; clear n0_ n1_ n2_ n3_ n4_ n5_ n6_; (try clear hb); (try clear hb2); (try clear hk); (try clear hi); (try clear ho0)) | ((with_reducible refine gate_dst (N := 23) rfl ?_); (try (refine gate_guard (by rfl) ?_; dsimp only)); refine Kd.R_lit (Kd.int .u8) _ 5 ?hg (N := 23) ?hd (xs := ([10, 1, 1, 97] : List Int)) (inner := [.int .u8 10, .int .u8 1, .int .u8 1, .int .u8 97]) (ok := fun _ => True) (okp := fun _ => True) ?hr ?hp (fun _ hk => hk) trivial (Below.refl _ _) (Nat.le_refl _) (by simp) ?_; (case hd => rfl); (case hg => rfl); (case hr => first | (go_simp; done) | (go_simp; rfl)); (case hp => exact (Reps.one (show Kd.M (Kd.int .u8) _ _ _ 10 [.int .u8 10] from rfl) (Reps.one (show Kd.M (Kd.int .u8) _ _ _ 1 [.int .u8 1] from rfl) (Reps.one (show Kd.M (Kd.int .u8) _ _ _ 1 [.int .u8 1] from rfl) (Reps.one (show Kd.M (Kd.int .u8) _ _ _ 97 [.int .u8 97] from rfl) (Reps.none _ _)))))); intro v218 w29 ho30 hb hg_ hnew_; clear hg_ hnew_; (first | rw [← Ny217.out] at ho30 | (simp only [Int.reduceToNat] at ho30; rw [← Ny217.out] at ho30)); have n0_ := z05.mk (Kd.R_below (by (with_reducible repeat (first | apply Kd.R_alloc | apply Kd.R_drewN | apply Kd.R_drew)); exact HO197.out) hb); have n1_ := z05.mk (Kd.R_below (by (with_reducible repeat (first | apply Kd.R_alloc | apply Kd.R_drewN | apply Kd.R_drew)); exact HO205.out) hb); have n2_ := z05.mk (Kd.R_elder' (by (with_reducible repeat (first | apply Kd.R_alloc | apply Kd.R_drewN | apply Kd.R_drew)); exact HO208.out) (Kd.R_base ho30) hb); have n3_ := z05.mk (Kd.R_elder' (by (with_reducible repeat (first | apply Kd.R_alloc | apply Kd.R_drewN | apply Kd.R_drew)); exact HO212.out) (Kd.R_base ho30) hb); have n4_ := z05.mk (Kd.R_below (by (with_reducible repeat (first | apply Kd.R_alloc | apply Kd.R_drewN | apply Kd.R_drew)); exact HO215.out) hb); have n5_ := z05.mk (Kd.R_lower (Kd.R_new' (Kd.R_new' ho30 (Kd.R_lt (by (with_reducible repeat (first | apply Kd.R_alloc | apply Kd.R_drewN | apply Kd.R_drew)); exact HO208.out))) (Kd.R_lt (by (with_reducible repeat (first | apply Kd.R_alloc | apply Kd.R_drewN | apply Kd.R_drew)); exact HO212.out))) (below_size (by repeat (first | (with_reducible first | exact HB.out | apply z02 | apply z00 | apply z03 | refine z09 ?_ GE202.out) | exact HB.out)))); have n6_ := z05.mk (blk_below (g := gb202) (o := .cells #[.slice Ao18 t195.length co18, .int .i64 t198, .int .i64 t199, .int .i64 t200, .int .i64 t201] 24 (0, 0)) (by (with_reducible repeat (first | refine z07 ?_ _ | refine z08 ?_ | refine z06 ?_ _)); exact BK202.out) hb); have n7_ := z05.mk (below_step (by repeat (first | (with_reducible first | exact HB.out | apply z02 | apply z00 | apply z03 | refine z09 ?_ GE202.out) | exact HB.out)) hb); clear HO197; clear HO205; clear HO208; clear HO212; clear HO215; clear BK202; clear HB; have HO197 := n0_; have HO205 := n1_; have HO208 := n2_; have HO212 := n3_; have HO215 := n4_; have HO219 := n5_; have BK202 := n6_; have HB := n7_; clear n0_ n1_ n2_ n3_ n4_ n5_ n6_ n7_; clear hb ho30; obtain ⟨Ao31, co31, eo31⟩ := Kd.R_slice HO208.out; subst eo31; obtain ⟨Ao32, co32, eo32⟩ := Kd.R_slice HO219.out; subst eo32) | ((with_reducible refine gate_callee (f := 13) rfl ?_); refine goesL_ (some 24) rfl rfl Tryd.func13 (by kernel_rfl) rfl #[.slice Ao31 t206.length co31, .slice Ao32 y217.length co32] rfl (by (try simp only [List.map_toArray, List.map_cons, List.map_nil]); first | done | rfl | (simp only [List.length_drop, List.length_take]; rfl)) ?_; (with_reducible refine (winnowerref01_Same.calls _ _ t206 _ _ y217 true _ ?side1 ?side2 ?side3 ?side4 A4.out).mono ?_); (case side1 => repeat (first | exact (Kd.R_reads' HO208.out).2.2 | (with_reducible refine Kd.C_alloc ?_ _) | (with_reducible refine Kd.C_drewN ?_ _) | (with_reducible refine Kd.C_drew ?_))); (case side2 => exact (Kd.R_reads' HO208.out).2.1); (case side3 => repeat (first | exact (Kd.R_reads' HO219.out).2.2 | (with_reducible refine Kd.C_alloc ?_ _) | (with_reducible refine Kd.C_drewN ?_ _) | (with_reducible refine Kd.C_drew ?_))); (case side4 => exact (Kd.R_reads' HO219.out).2.1); rintro e w' ⟨rfl, ⟨nd, rfl⟩⟩; refine ⟨_, rfl, ?_⟩; obtain ⟨Ao33, co33, eo33⟩ := Kd.R_slice HO215.out; subst eo33; have p221 : 0 ≤ (0 : Int) := (by omega); have q221 : 0 < (t213.length : Int) := of_decide_eq_true (by first | (with_reducible assumption) | assumption); obtain ⟨ad221, e221, hx221_0, hx221_1, hx221_2, hx221_3⟩ := at_T46 (Kd.R_reads' HO215.out).2.2 0 p221 q221; cases e221; have qi221 : (0 < t213.length) = True := eq_true (by omega); (try rw [show ((0 : Int)).toNat = 0 from rfl] at hx221_0); (try rw [show 0 * 4 = 0 from rfl] at hx221_0); (try rw [Addr.add_zero'] at hx221_0); (try rw [show ((0 : Int)).toNat = 0 from rfl] at hx221_1); (try rw [show 0 * 4 = 0 from rfl] at hx221_1); (try rw [Addr.add_zero'] at hx221_1); (try rw [show ((0 : Int)).toNat = 0 from rfl] at hx221_2); (try rw [show 0 * 4 = 0 from rfl] at hx221_2); (try rw [Addr.add_zero'] at hx221_2); (try rw [show ((0 : Int)).toNat = 0 from rfl] at hx221_3); (try rw [show 0 * 4 = 0 from rfl] at hx221_3); (try rw [Addr.add_zero'] at hx221_3); replace p221 := eq_true p221; replace q221 := eq_true q221; have p222 : 0 ≤ (1 : Int) := (by omega); have q222 : 1 < (t213.length : Int) := of_decide_eq_true (by first | (with_reducible assumption) | assumption); obtain ⟨ad222, e222, hx222_0, hx222_1, hx222_2, hx222_3⟩ := at_T46 (Kd.R_reads' HO215.out).2.2 1 p222 q222; obtain rfl : ad221 = ad222 := (by injection e222); (try simp only [show (1 : Int).toNat = 1 from rfl, Nat.reduceMul, Nat.reduceEqDiff, Go.Addr.add, ↓reduceIte] at hx222_0); (try simp only [show (1 : Int).toNat = 1 from rfl, Nat.reduceMul, Nat.reduceEqDiff, Go.Addr.add, ↓reduceIte] at hx222_1); (try simp only [show (1 : Int).toNat = 1 from rfl, Nat.reduceMul, Nat.reduceEqDiff, Go.Addr.add, ↓reduceIte] at hx222_2); (try simp only [show (1 : Int).toNat = 1 from rfl, Nat.reduceMul, Nat.reduceEqDiff, Go.Addr.add, ↓reduceIte] at hx222_3); have qi222 : (1 < t213.length) = True := eq_true (by omega); (try rw [show ((1 : Int)).toNat = 1 from rfl] at hx222_0); (try rw [show 1 * 4 = 4 from rfl] at hx222_0); (try rw [show ((1 : Int)).toNat = 1 from rfl] at hx222_1); (try rw [show 1 * 4 = 4 from rfl] at hx222_1); (try rw [show ((1 : Int)).toNat = 1 from rfl] at hx222_2); (try rw [show 1 * 4 = 4 from rfl] at hx222_2); (try rw [show ((1 : Int)).toNat = 1 from rfl] at hx222_3); (try rw [show 1 * 4 = 4 from rfl] at hx222_3); replace p222 := eq_true p222; replace q222 := eq_true q222; have hcz34_0 : w29.cell? ⟨gb202, 0, none⟩ = some (.slice Ao18 t195.length co18) := (z04 BK202.out 0).trans rfl; have hcz34_1 : w29.cell? ⟨gb202, 1, none⟩ = some (.int .i64 t198) := (z04 BK202.out 1).trans rfl; have hcz34_2 : w29.cell? ⟨gb202, 2, none⟩ = some (.int .i64 t199) := (z04 BK202.out 2).trans rfl; have hcz34_3 : w29.cell? ⟨gb202, 3, none⟩ = some (.int .i64 t200) := (z04 BK202.out 3).trans rfl; have hcz34_4 : w29.cell? ⟨gb202, 4, none⟩ = some (.int .i64 t201) := (z04 BK202.out 4).trans rfl; have hfz34_0 := z01 BK202.out 0; have hfz34_1 := z01 BK202.out 1; have hfz34_2 := z01 BK202.out 2; have hfz34_3 := z01 BK202.out 3; have hfz34_4 := z01 BK202.out 4) | (go_at_call 16; (with_reducible refine (schema_Find.calls _ _ t195 t198 t199 t200 t201 (⟨#[118]⟩ : ByteArray) t223 _ ?side1 ?side2 A13.out).mono ?_); (case side1 => repeat (first | exact (Kd.R_reads' HO197.out).2.2 | (with_reducible refine Kd.C_alloc ?_ _) | (with_reducible refine Kd.C_drewN ?_ _) | (with_reducible refine Kd.C_drew ?_))); (case side2 => exact (Kd.R_reads' HO197.out).2.1); rintro e w35 ⟨rfl, hb⟩; have n0_ := z05.mk (Kd.R_below (by (with_reducible repeat (first | apply Kd.R_alloc | apply Kd.R_drewN | apply Kd.R_drew)); exact HO197.out) hb); have n1_ := z05.mk (Kd.R_below (by (with_reducible repeat (first | apply Kd.R_alloc | apply Kd.R_drewN | apply Kd.R_drew)); exact HO205.out) hb); have n2_ := z05.mk (Kd.R_below (by (with_reducible repeat (first | apply Kd.R_alloc | apply Kd.R_drewN | apply Kd.R_drew)); exact HO208.out) hb); have n3_ := z05.mk (Kd.R_below (by (with_reducible repeat (first | apply Kd.R_alloc | apply Kd.R_drewN | apply Kd.R_drew)); exact HO212.out) hb); have n4_ := z05.mk (Kd.R_below (by (with_reducible repeat (first | apply Kd.R_alloc | apply Kd.R_drewN | apply Kd.R_drew)); exact HO215.out) hb); have n5_ := z05.mk (Kd.R_below (by (with_reducible repeat (first | apply Kd.R_alloc | apply Kd.R_drewN | apply Kd.R_drew)); exact HO219.out) hb); have n6_ := z05.mk (blk_below (g := gb202) (o := .cells #[.slice Ao18 t195.length co18, .int .i64 t198, .int .i64 t199, .int .i64 t200, .int .i64 t201] 24 (0, 0)) (by (with_reducible repeat (first | refine z07 ?_ _ | refine z08 ?_ | refine z06 ?_ _)); exact BK202.out) hb); have n7_ := z05.mk (below_step (by repeat (first | (with_reducible first | exact HB.out | apply z02 | apply z00 | apply z03 | refine z09 ?_ GE202.out) | exact HB.out)) hb); clear HO197; clear HO205; clear HO208; clear HO212; clear HO215; clear HO219; clear BK202; clear HB; have HO197 := n0_; have HO205 := n1_; have HO208 := n2_; have HO212 := n3_; have HO215 := n4_; have HO219 := n5_; have BK202 := n6_; have HB := n7_; clear n0_ n1_ n2_ n3_ n4_ n5_ n6_ n7_; (try clear hb); (try clear hb2); (try clear hk); (try clear hi); have hcz36_0 : w35.cell? ⟨gb202, 0, none⟩ = some (.slice Ao18 t195.length co18) := (z04 BK202.out 0).trans rfl; have hcz36_1 : w35.cell? ⟨gb202, 1, none⟩ = some (.int .i64 t198) := (z04 BK202.out 1).trans rfl; have hcz36_2 : w35.cell? ⟨gb202, 2, none⟩ = some (.int .i64 t199) := (z04 BK202.out 2).trans rfl; have hcz36_3 : w35.cell? ⟨gb202, 3, none⟩ = some (.int .i64 t200) := (z04 BK202.out 3).trans rfl; have hcz36_4 : w35.cell? ⟨gb202, 4, none⟩ = some (.int .i64 t201) := (z04 BK202.out 4).trans rfl; have hfz36_0 := z01 BK202.out 0; have hfz36_1 := z01 BK202.out 1; have hfz36_2 := z01 BK202.out 2; have hfz36_3 := z01 BK202.out 3; have hfz36_4 := z01 BK202.out 4) | (go_at_call 14; (with_reducible refine (schema_May.calls _ _ t195 t198 t199 t200 t201 t224 _ ?side1 ?side2 A15.out).mono ?_); (case side1 => repeat (first | exact (Kd.R_reads' HO197.out).2.2 | (with_reducible refine Kd.C_alloc ?_ _) | (with_reducible refine Kd.C_drewN ?_ _) | (with_reducible refine Kd.C_drew ?_))); (case side2 => exact (Kd.R_reads' HO197.out).2.1); rintro e w37 ⟨rfl, hb⟩; have n0_ := z05.mk (Kd.R_below (by (with_reducible repeat (first | apply Kd.R_alloc | apply Kd.R_drewN | apply Kd.R_drew)); exact HO197.out) hb); have n1_ := z05.mk (Kd.R_below (by (with_reducible repeat (first | apply Kd.R_alloc | apply Kd.R_drewN | apply Kd.R_drew)); exact HO205.out) hb); have n2_ := z05.mk (Kd.R_below (by (with_reducible repeat (first | apply Kd.R_alloc | apply Kd.R_drewN | apply Kd.R_drew)); exact HO208.out) hb); have n3_ := z05.mk (Kd.R_below (by (with_reducible repeat (first | apply Kd.R_alloc | apply Kd.R_drewN | apply Kd.R_drew)); exact HO212.out) hb); have n4_ := z05.mk (Kd.R_below (by (with_reducible repeat (first | apply Kd.R_alloc | apply Kd.R_drewN | apply Kd.R_drew)); exact HO215.out) hb); have n5_ := z05.mk (Kd.R_below (by (with_reducible repeat (first | apply Kd.R_alloc | apply Kd.R_drewN | apply Kd.R_drew)); exact HO219.out) hb); have n6_ := z05.mk (blk_below (g := gb202) (o := .cells #[.slice Ao18 t195.length co18, .int .i64 t198, .int .i64 t199, .int .i64 t200, .int .i64 t201] 24 (0, 0)) (by (with_reducible repeat (first | refine z07 ?_ _ | refine z08 ?_ | refine z06 ?_ _)); exact BK202.out) hb); have n7_ := z05.mk (below_step (by repeat (first | (with_reducible first | exact HB.out | apply z02 | apply z00 | apply z03 | refine z09 ?_ GE202.out) | exact HB.out)) hb); clear HO197; clear HO205; clear HO208; clear HO212; clear HO215; clear HO219; clear BK202; clear HB; have HO197 := n0_; have HO205 := n1_; have HO208 := n2_; have HO212 := n3_; have HO215 := n4_; have HO219 := n5_; have BK202 := n6_; have HB := n7_; clear n0_ n1_ n2_ n3_ n4_ n5_ n6_ n7_; (try clear hb); (try clear hb2); (try clear hk); (try clear hi)))
                    go_ret
                    exact ⟨by first | rfl | (simp [errW_none, errW_some] <;> rfl) | (refine congrArg (fun b_ : Bool => Ending.returned (Value.bool b_)) ?_; simp; done) | (simp [*, errW_none, errW_some] <;> rfl), by repeat (first | (with_reducible first | exact HB.out | apply z02 | apply z00 | apply z03 | refine z09 ?_ GE202.out) | exact HB.out)⟩
                  · rw [if_neg c14] at H
                    have c14b0 : (t223 == 1) = false := beq_eq_false_iff_ne.mpr c14
                    have c14b1 : (t223 != 1) = true := bne_iff_ne.mpr c14
                    exact absurd (HTRUE.out.symm.trans (Option.some.inj H).symm) (by decide)
                · rw [if_neg c12] at H
                  have c12b0 : (((rd_T46 t213 1).f0) == 0 && (((rd_T46 t213 1).f1) == 0 && ((((rd_T46 t213 1).f2).toList) == ([] : List UInt8) && (!((rd_T46 t213 1).f3))))) = false := by simpa using c12
                  (try (have c12b1 : decide (((rd_T46 t213 1).f0) = 0 && (((rd_T46 t213 1).f1) == 0 && ((((rd_T46 t213 1).f2).toList) == ([] : List UInt8) && (!((rd_T46 t213 1).f3))))) = false := by simpa using c12))
                  (try (have c12b2 : (((rd_T46 t213 1).f0) == 0 && (((rd_T46 t213 1).f1) == 0 && ((((rd_T46 t213 1).f2).toList) == ([] : List UInt8) && (!((rd_T46 t213 1).f3))))) = false := by simpa using c12))
                  (try (have c12b4 : ¬ ((((rd_T46 t213 1).f0) = 0 ∧ (((rd_T46 t213 1).f1) = 0 ∧ ((((rd_T46 t213 1).f2).toList) = ([] : List UInt8) ∧ (((rd_T46 t213 1).f3) = false))))) := by simpa using c12))
                  (try (have c12b3 : ¬ (((rd_T46 t213 1).f0) = 0 && (((rd_T46 t213 1).f1) == 0 && ((((rd_T46 t213 1).f2).toList) == ([] : List UInt8) && (!((rd_T46 t213 1).f3))))) := by simpa using c12))
                  clear c12
                  exact absurd (HTRUE.out.symm.trans (Option.some.inj H).symm) (by decide)
              · rw [if_neg c11] at H
                exact absurd H (by simp)
            · rw [if_neg c10] at H
              have c10b0 : (((rd_T46 t213 0).f1) == 5) = false := beq_eq_false_iff_ne.mpr c10
              have c10b1 : (((rd_T46 t213 0).f1) != 5) = true := bne_iff_ne.mpr c10
              exact absurd (HTRUE.out.symm.trans (Option.some.inj H).symm) (by decide)
          · rw [if_neg c9] at H
            exact absurd H (by simp)
        · rw [if_neg c8] at H
          have c8b0 : ((t213.length : Int) == 2) = false := beq_eq_false_iff_ne.mpr c8
          have c8b1 : ((t213.length : Int) != 2) = true := bne_iff_ne.mpr c8
          exact absurd (HTRUE.out.symm.trans (Option.some.inj H).symm) (by decide)
      · rw [if_neg c7] at H
        have c7b0 : (t216 == 0) = false := beq_eq_false_iff_ne.mpr c7
        have c7b1 : (t216 != 0) = true := bne_iff_ne.mpr c7
        exact absurd (HTRUE.out.symm.trans (Option.some.inj H).symm) (by decide)
    · rw [if_neg c6] at H
      have c6b0 : (t209 == 0) = false := beq_eq_false_iff_ne.mpr c6
      have c6b1 : (t209 != 0) = true := bne_iff_ne.mpr c6
      exact absurd (HTRUE.out.symm.trans (Option.some.inj H).symm) (by decide)
  · replace c5 := Bool.eq_false_iff.mpr c5
    subst c5
    have H1 : (some false) = some r := by rw [if_neg (show ¬ (false = true) by decide)] at H; exact H
    clear H
    have H := H1
    clear H1
    exact absurd (HTRUE.out.symm.trans (Option.some.inj H).symm) (by decide)

end Go.Proofs.YteefchdfdgfaaaaDoor.Q
namespace Go.Proofs.YteefchdfdgfaaaaDoor.Q
open Go.RowKit Go.Proofs.YteefchdfdgfaaaaDoorW.PrintWords Go.Proofs.YteefchdfdgfaaaaDoorW.PrintLast Go.Proofs.YteefchdfdgfaaaaDoorW.PrintMore
attribute [local go_sem] max2_int min2_int max_two min_two max_three min_three max_four min_four   -- for this text's walks alone
set_option linter.unusedVariables false
set_option linter.unusedSimpArgs false

attribute [local go_sem high] eqA46
-- BY HAND: Derived.Test.YteefchdfdgfaaaaDoorHsch07
/-! ### winnowerlaw07_awake: function 8 -/
-- HAND winnower/winnowerlaw07.awake over making glob lawlike
-- IMPORT Derived.Test.YteefchdfdgfaaaaDoorHsch07
open Go.Proofs.YteefchdfdgfaaaaDoor.Hnum Go.Proofs.YteefchdfdgfaaaaDoor.Hval
theorem awake07 {k : Nat} (hk : 10 ≤ k) : winnowerlaw07_awake_p.f k = some true := by
  unfold winnowerlaw07_awake_p.f
  rw [show winnowerlaw07_Small.f = some (smallC, -1, -1, -1, -1) from rfl, Option.bind_some]
  simp only
  have hi : ∀ v ∈ smallR, i64 v.f1 := by
    intro v hv
    simp only [smallR, List.mem_cons, List.not_mem_nil, or_false] at hv
    rcases hv with rfl | rfl <;> decide
  have e1 := enc_tell (l := smallC) (by decide) (-1) (-1) (-1) (-1) (row := smallR) hi (k := k) (show 2 * smallC.length + 2 ≤ k by show 2 * 2 + 2 ≤ k; omega)
  rw [small_fits, if_pos rfl, small_enc] at e1
  have e2 : schema_Decode.f smallC (-1) (-1) (-1) (-1) [10, 0] = some ([⟨1, 5, ⟨#[]⟩, false⟩, ⟨0, 0, ⟨#[]⟩, false⟩], 0) := by
    unfold schema_Decode.f
    rw [if_pos (by decide), small_may, if_pos rfl, small_dec]
  have e3 : schema_May.f smallC (-1) (-1) (-1) (-1) = some true := by
    unfold schema_May.f
    rw [if_pos (by decide), small_may]
  have e4 : schema_Find.f smallC (-1) (-1) (-1) (-1) ⟨#[118]⟩ = some 1 := by
    unfold schema_Find.f
    rw [small_find2]
  rw [show ([(⟨1, 5, (⟨#[]⟩ : ByteArray), false⟩ : S46), (⟨2, 0, (⟨#[97]⟩ : ByteArray), false⟩ : S46)] : List S46) = smallR from rfl, e1, Option.bind_some, e2, Option.bind_some]
  simp only
  unfold winnowerref01_Same.f
  rw [e3, e4]
  have hz : (((rd_T46 [(⟨1, 5, ⟨#[]⟩, false⟩ : S46), ⟨0, 0, ⟨#[]⟩, false⟩] 1).f0 == 0) && (((rd_T46 [(⟨1, 5, ⟨#[]⟩, false⟩ : S46), ⟨0, 0, ⟨#[]⟩, false⟩] 1).f1 == 0) && ((((rd_T46 [(⟨1, 5, ⟨#[]⟩, false⟩ : S46), ⟨0, 0, ⟨#[]⟩, false⟩] 1).f2).toList == ([] : List UInt8)) && !((rd_T46 [(⟨1, 5, ⟨#[]⟩, false⟩ : S46), ⟨0, 0, ⟨#[]⟩, false⟩] 1).f3)))) = true := by
    show ((0 : Int) == 0 && ((0 : Int) == 0 && (((⟨#[]⟩ : ByteArray).toList == ([] : List UInt8)) && !false))) = true
    rw [toL []]
    rfl
  rw [Option.bind_some, decide_eq_true rfl, if_pos rfl]
  simp only [if_true]
  rw [if_pos (by decide), if_pos (by decide), if_pos (by rfl), if_pos (by decide), if_pos hz, Option.bind_some, if_pos rfl, Option.bind_some]

def winnowerlaw07_awake.f : Option Bool := some true
theorem winnowerlaw07_awake.calls (r : Bool) (w : World) (hG : Globs w) (h : winnowerlaw07_awake.f = some r) :
    Calls Tryd.prog 8 #[] w fun e w' => e = .returned (.bool r) ∧ Below w.heap.size w w' :=
  winnowerlaw07_awake_p.calls 10 r w hG (Option.some.inj h).symm ((awake07 (by omega)).trans h)

end Go.Proofs.YteefchdfdgfaaaaDoor.Q
namespace Go.Proofs.YteefchdfdgfaaaaDoor.Q
open Go.RowKit Go.Proofs.YteefchdfdgfaaaaDoorW.PrintWords Go.Proofs.YteefchdfdgfaaaaDoorW.PrintLast Go.Proofs.YteefchdfdgfaaaaDoorW.PrintMore
attribute [local go_sem] max2_int min2_int max_two min_two max_three min_three max_four min_four   -- for this text's walks alone
set_option linter.unusedVariables false
set_option linter.unusedSimpArgs false

/-! ### winnowerref06_May: function 33 -/

/-! ### winnowerref07_Fits: function 19 -/

/-! ### winnowerref01_digits_p: function 52 -/

end Go.Proofs.YteefchdfdgfaaaaDoor.Q
namespace Go.Proofs.YteefchdfdgfaaaaDoor.Q
open Go.RowKit Go.Proofs.YteefchdfdgfaaaaDoorW.PrintWords Go.Proofs.YteefchdfdgfaaaaDoorW.PrintLast Go.Proofs.YteefchdfdgfaaaaDoorW.PrintMore
attribute [local go_sem] max2_int min2_int max_two min_two max_three min_three max_four min_four   -- for this text's walks alone
set_option linter.unusedVariables false
set_option linter.unusedSimpArgs false

-- BY HAND: Derived.Test.YteefchdfdgfaaaaDoorHnum
/-! ### winnowerref01_digits: function 52 -/
-- HAND winnower/winnowerref01.digits over
-- IMPORT Derived.Test.YteefchdfdgfaaaaDoorHnum
open Go.Proofs.YteefchdfdgfaaaaDoor.Hnum

end Go.Proofs.YteefchdfdgfaaaaDoor.Q
namespace Go.Proofs.YteefchdfdgfaaaaDoor.Q
open Go.RowKit Go.Proofs.YteefchdfdgfaaaaDoorW.PrintWords Go.Proofs.YteefchdfdgfaaaaDoorW.PrintLast Go.Proofs.YteefchdfdgfaaaaDoorW.PrintMore
attribute [local go_sem] max2_int min2_int max_two min_two max_three min_three max_four min_four   -- for this text's walks alone
set_option linter.unusedVariables false
set_option linter.unusedSimpArgs false

/-! ### winnowerref01_Put: function 41 -/

/-! ### winnowerref01_PutLen: function 42 -/

end Go.Proofs.YteefchdfdgfaaaaDoor.Q
namespace Go.Proofs.YteefchdfdgfaaaaDoor.Q
open Go.RowKit Go.Proofs.YteefchdfdgfaaaaDoorW.PrintWords Go.Proofs.YteefchdfdgfaaaaDoorW.PrintLast Go.Proofs.YteefchdfdgfaaaaDoorW.PrintMore
attribute [local go_sem] max2_int min2_int max_two min_two max_three min_three max_four min_four   -- for this text's walks alone
set_option linter.unusedVariables false
set_option linter.unusedSimpArgs false

-- BY HAND: Derived.Test.YteefchdfdgfaaaaDoorHnum,Derived.Test.YteefchdfdgfaaaaDoorHval,Derived.Deep.RegionLaw
/-! ### winnowerref06_Put: function 25 -/
-- HAND winnower/winnowerref06.Put making
-- IMPORT Derived.Test.YteefchdfdgfaaaaDoorHnum
-- IMPORT Derived.Test.YteefchdfdgfaaaaDoorHval
-- IMPORT Derived.Deep.RegionLaw
open Go.Proofs.YteefchdfdgfaaaaDoor.Hnum Go.Proofs.YteefchdfdgfaaaaDoor.Hval

end Go.Proofs.YteefchdfdgfaaaaDoor.Q
namespace Go.Proofs.YteefchdfdgfaaaaDoor.Q
open Go.RowKit Go.Proofs.YteefchdfdgfaaaaDoorW.PrintWords Go.Proofs.YteefchdfdgfaaaaDoorW.PrintLast Go.Proofs.YteefchdfdgfaaaaDoorW.PrintMore
attribute [local go_sem] max2_int min2_int max_two min_two max_three min_three max_four min_four   -- for this text's walks alone
set_option linter.unusedVariables false
set_option linter.unusedSimpArgs false

/-! ### winnowerref07_Encode: function 12 -/

/-! ### winnowerref07_Find: function 17 -/

end Go.Proofs.YteefchdfdgfaaaaDoor.Q
namespace Go.Proofs.YteefchdfdgfaaaaDoor.Q
open Go.RowKit Go.Proofs.YteefchdfdgfaaaaDoorW.PrintWords Go.Proofs.YteefchdfdgfaaaaDoorW.PrintLast Go.Proofs.YteefchdfdgfaaaaDoorW.PrintMore
attribute [local go_sem] max2_int min2_int max_two min_two max_three min_three max_four min_four   -- for this text's walks alone
set_option linter.unusedVariables false
set_option linter.unusedSimpArgs false

/-! ### winnowerlaw07_SchemaTells: function 3 -/

/-! ### winnowerref01_run_p: function 67 -/
mutual
def winnowerref01_run_p.l0 : Nat → List Int → Int → Option (Int × Int)
  | 0, _, _ => none
  | k + 1, x0, x4 => if x4 < (x0.length : Int) then (if x4 = 9 then (if 0 ≤ x4 then (winnowerref01_run_p.j1 k x0 x4 (decide ((rd x0 x4) > 1))) else (none)) else (winnowerref01_run_p.j1 k x0 x4 false)) else (some (0, 6))
def winnowerref01_run_p.j1 : Nat → List Int → Int → Bool → Option (Int × Int)
  | 0, _, _, _ => none
  | k + 1, x0, x4, x19 => if x19 = true then (some (0, 7)) else (if 0 ≤ x4 then (if x4 < (x0.length : Int) then (if (rd x0 x4) < 128 then (if (rd x0 x4) = 0 then (if x4 > 0 then (some (0, 7)) else (some (wrap64 (x4 + 1), 0))) else (some (wrap64 (x4 + 1), 0))) else (winnowerref01_run_p.l0 k x0 (wrap64 (x4 + 1)))) else (none)) else (none))
end
def winnowerref01_run_p.f (k : Nat) (l0 : List Int) : Option (Int × Int) := winnowerref01_run_p.l0 k l0 0
set_option maxHeartbeats 8000000 in
set_option maxRecDepth 100000 in
theorem winnowerref01_run_p.calls (k : Nat) (A0 : Option Addr) (c0 : Nat) (l0 : List Int) (r1 : Int) (r2 : Int) (w : World) (hr0 : Kd.C (Kd.int .u8) w A0 l0.length l0) (hc0 : l0.length ≤ c0) (h : winnowerref01_run_p.f k l0 = some (r1, r2)) :
    Calls Tryd.prog 67 #[.slice A0 l0.length c0] w fun e w' => e = .returned (.tuple #[.int .i64 r1, .int .i64 r2]) ∧ Drawn0 w w' := by
  have HR0 := z05.mk hr0
  have HC0 := z05.mk hc0
  clear hr0 hc0
  have H : (winnowerref01_run_p.l0 k l0 0) = some (r1, r2) := h
  clear h
  have H' := z05.mk H
  clear H
  go_enter Tryd.func67, Tryd.ntmps67
  go_wp2
  go_loopg [4] k (fun kq v4 w' => ∃ (x4_1 : Int), v4 = .int .i64 x4_1 ∧ z05 (winnowerref01_run_p.l0 kq l0 x4_1 = some (r1, r2)) ∧ z05 (kq ≤ k) ∧ Drawn0 w w')
  case atStart => exact ⟨(0), (by first | rfl | (simp; done) | (simp [*]; done)), H', ⟨Nat.le_refl _⟩, by repeat (first | exact Drawn0.refl _ | apply Drawn0.step)⟩
  case round =>
    clear H'
    obtain ⟨x4_1, rfl, HA, HK1, ⟨m1, rfl⟩⟩ := hrel
    cases gk with
    | zero => exact absurd HA.out (by simp [winnowerref01_run_p.l0])
    | succ k1 =>
      have H := HA.out
      clear HA
      simp only [winnowerref01_run_p.l0] at H
      by_cases c2 : x4_1 < (l0.length : Int)
      · rw [if_pos c2] at H
        have c2b0 : decide (x4_1 < (l0.length : Int)) = true := decide_eq_true c2
        clear c2
        have HC3 := z05.mk H
        clear H
        go_upto_region 4 with (fail)
        go_cut [19] (fun v19 wc => ∃ (kq : Nat) (x19_2 : Bool), v19 = .bool x19_2 ∧ z05 (winnowerref01_run_p.j1 kq l0 x4_1 x19_2 = some (r1, r2)) ∧ z05 (kq ≤ k1) ∧ Drawn0 w wc)
        case first =>
          have H := HC3.out
          clear HC3
          by_cases c4 : x4_1 = 9
          · rw [if_pos c4] at H
            have c4b0 : (x4_1 == 9) = true := beq_iff_eq.mpr c4
            have c4b1 : (x4_1 != 9) = false := bne_eq_false_iff_eq.mpr c4
            clear c4
            (first | rw [c4b0] | (simp only [i64_w, i32_w]; rw [c4b0]) | skip)
            by_cases c5 : 0 ≤ x4_1
            · rw [if_pos c5] at H
              have c5b0 : decide (0 ≤ x4_1) = true := decide_eq_true c5
              clear c5
              have H' := z05.mk H
              clear H
              have p319 : 0 ≤ (x4_1 : Int) := of_decide_eq_true (by first | (with_reducible assumption) | assumption)
              have q319 : x4_1 < (l0.length : Int) := of_decide_eq_true (by first | (with_reducible assumption) | assumption)
              obtain ⟨ad319, e319, hx319_0⟩ := Kd.at_int HR0.out x4_1 p319 q319
              cases e319
              replace p319 := eq_true p319
              replace q319 := eq_true q319
              go_wp2
              go_meet
              case rel => exact ⟨_, (decide ((rd l0 x4_1) > 1)), (by first | rfl | (simp; done) | (simp [*]; done)), H', ⟨by have := HK1.out; first | omega | exact Nat.le_refl _⟩, by repeat (first | exact Drawn0.refl _ | apply Drawn0.step)⟩
            · rw [if_neg c5] at H
              exact absurd H (by simp)
          · rw [if_neg c4] at H
            have c4b0 : (x4_1 == 9) = false := beq_eq_false_iff_ne.mpr c4
            have c4b1 : (x4_1 != 9) = true := bne_iff_ne.mpr c4
            (first | rw [c4b0] | (simp only [i64_w, i32_w]; rw [c4b0]) | skip)
            have H' := z05.mk H
            clear H
            go_wp2
            go_meet
            case rel => exact ⟨_, (false), (by first | rfl | (simp; done) | (simp [*]; done)), H', ⟨by have := HK1.out; first | omega | exact Nat.le_refl _⟩, by repeat (first | exact Drawn0.refl _ | apply Drawn0.step)⟩
        case rest =>
          clear HC3
          try clear c2
          try clear c2b0
          try clear p2
          try clear p3
          try clear q3
          try clear hx3
          try clear c4
          try clear c4b0
          try clear c4b1
          try clear c5
          try clear c5b0
          try clear hx319_0
          try clear p319
          try clear q319
          obtain ⟨kq, x19_2, rfl, HA, HJ2, ⟨mc2, rfl⟩⟩ := hcut
          cases kq with
          | zero => exact absurd HA.out (by simp [winnowerref01_run_p.j1])
          | succ kj2 =>
            have H := HA.out
            clear HA
            simp only [winnowerref01_run_p.j1] at H
            by_cases c6 : x19_2 = true
            · subst c6
              have H1 : (some (0, 7)) = some (r1, r2) := by rw [if_pos rfl] at H; exact H
              clear H
              have H := H1
              clear H1
              simp only [Option.some.injEq, Prod.mk.injEq] at H
              obtain ⟨rfl, rfl⟩ := H
              go_wp2
              go_ret2
              exact ⟨by first | rfl | (simp; done) | (simp [*]; done), by repeat (first | exact Drawn0.refl _ | apply Drawn0.step)⟩
            · replace c6 := Bool.eq_false_iff.mpr c6
              subst c6
              have H1 : (if 0 ≤ x4_1 then (if x4_1 < (l0.length : Int) then (if (rd l0 x4_1) < 128 then (if (rd l0 x4_1) = 0 then (if x4_1 > 0 then (some (0, 7)) else (some (wrap64 (x4_1 + 1), 0))) else (some (wrap64 (x4_1 + 1), 0))) else (winnowerref01_run_p.l0 kj2 l0 (wrap64 (x4_1 + 1)))) else (none)) else (none)) = some (r1, r2) := by rw [if_neg (show ¬ (false = true) by decide)] at H; exact H
              clear H
              have H := H1
              clear H1
              by_cases c7 : 0 ≤ x4_1
              · rw [if_pos c7] at H
                have c7b0 : decide (0 ≤ x4_1) = true := decide_eq_true c7
                clear c7
                by_cases c8 : x4_1 < (l0.length : Int)
                · rw [if_pos c8] at H
                  have c8b0 : decide (x4_1 < (l0.length : Int)) = true := decide_eq_true c8
                  clear c8
                  by_cases c9 : (rd l0 x4_1) < 128
                  · rw [if_pos c9] at H
                    have c9b0 : decide ((rd l0 x4_1) < 128) = true := decide_eq_true c9
                    clear c9
                    by_cases c10 : (rd l0 x4_1) = 0
                    · rw [if_pos c10] at H
                      have c10b0 : ((rd l0 x4_1) == 0) = true := beq_iff_eq.mpr c10
                      have c10b1 : ((rd l0 x4_1) != 0) = false := bne_eq_false_iff_eq.mpr c10
                      clear c10
                      by_cases c11 : x4_1 > 0
                      · rw [if_pos c11] at H
                        have c11b0 : decide (0 < x4_1) = true := decide_eq_true c11
                        clear c11
                        simp only [Option.some.injEq, Prod.mk.injEq] at H
                        obtain ⟨rfl, rfl⟩ := H
                        have p320 : 0 ≤ (x4_1 : Int) := of_decide_eq_true (by first | (with_reducible assumption) | assumption)
                        have q320 : x4_1 < (l0.length : Int) := of_decide_eq_true (by first | (with_reducible assumption) | assumption)
                        obtain ⟨ad320, e320, hx320_0⟩ := Kd.at_int HR0.out x4_1 p320 q320
                        cases e320
                        replace p320 := eq_true p320
                        replace q320 := eq_true q320
                        have p321 : 0 ≤ (x4_1 : Int) := of_decide_eq_true (by first | (with_reducible assumption) | assumption)
                        have q321 : x4_1 < (l0.length : Int) := of_decide_eq_true (by first | (with_reducible assumption) | assumption)
                        obtain ⟨ad321, e321, hx321_0⟩ := Kd.at_int HR0.out x4_1 p321 q321
                        obtain rfl : ad320 = ad321 := (by injection e321)
                        replace p321 := eq_true p321
                        replace q321 := eq_true q321
                        go_wp2
                        go_ret2
                        exact ⟨by first | rfl | (simp; done) | (simp [*]; done), by repeat (first | exact Drawn0.refl _ | apply Drawn0.step)⟩
                      · rw [if_neg c11] at H
                        have c11b0 : decide (0 < x4_1) = false := decide_eq_false c11
                        clear c11
                        simp only [Option.some.injEq, Prod.mk.injEq] at H
                        obtain ⟨rfl, rfl⟩ := H
                        have p320 : 0 ≤ (x4_1 : Int) := of_decide_eq_true (by first | (with_reducible assumption) | assumption)
                        have q320 : x4_1 < (l0.length : Int) := of_decide_eq_true (by first | (with_reducible assumption) | assumption)
                        obtain ⟨ad320, e320, hx320_0⟩ := Kd.at_int HR0.out x4_1 p320 q320
                        cases e320
                        replace p320 := eq_true p320
                        replace q320 := eq_true q320
                        have p321 : 0 ≤ (x4_1 : Int) := of_decide_eq_true (by first | (with_reducible assumption) | assumption)
                        have q321 : x4_1 < (l0.length : Int) := of_decide_eq_true (by first | (with_reducible assumption) | assumption)
                        obtain ⟨ad321, e321, hx321_0⟩ := Kd.at_int HR0.out x4_1 p321 q321
                        obtain rfl : ad320 = ad321 := (by injection e321)
                        replace p321 := eq_true p321
                        replace q321 := eq_true q321
                        go_wp2
                        go_ret2
                        exact ⟨by first | rfl | (simp; done) | (simp [*]; done), by repeat (first | exact Drawn0.refl _ | apply Drawn0.step)⟩
                    · rw [if_neg c10] at H
                      have c10b0 : ((rd l0 x4_1) == 0) = false := beq_eq_false_iff_ne.mpr c10
                      have c10b1 : ((rd l0 x4_1) != 0) = true := bne_iff_ne.mpr c10
                      simp only [Option.some.injEq, Prod.mk.injEq] at H
                      obtain ⟨rfl, rfl⟩ := H
                      have p320 : 0 ≤ (x4_1 : Int) := of_decide_eq_true (by first | (with_reducible assumption) | assumption)
                      have q320 : x4_1 < (l0.length : Int) := of_decide_eq_true (by first | (with_reducible assumption) | assumption)
                      obtain ⟨ad320, e320, hx320_0⟩ := Kd.at_int HR0.out x4_1 p320 q320
                      cases e320
                      replace p320 := eq_true p320
                      replace q320 := eq_true q320
                      have p321 : 0 ≤ (x4_1 : Int) := of_decide_eq_true (by first | (with_reducible assumption) | assumption)
                      have q321 : x4_1 < (l0.length : Int) := of_decide_eq_true (by first | (with_reducible assumption) | assumption)
                      obtain ⟨ad321, e321, hx321_0⟩ := Kd.at_int HR0.out x4_1 p321 q321
                      obtain rfl : ad320 = ad321 := (by injection e321)
                      replace p321 := eq_true p321
                      replace q321 := eq_true q321
                      go_wp2
                      go_ret2
                      exact ⟨by first | rfl | (simp; done) | (simp [*]; done), by repeat (first | exact Drawn0.refl _ | apply Drawn0.step)⟩
                  · rw [if_neg c9] at H
                    have c9b0 : decide ((rd l0 x4_1) < 128) = false := decide_eq_false c9
                    clear c9
                    have H' := z05.mk H
                    clear H
                    have p320 : 0 ≤ (x4_1 : Int) := of_decide_eq_true (by first | (with_reducible assumption) | assumption)
                    have q320 : x4_1 < (l0.length : Int) := of_decide_eq_true (by first | (with_reducible assumption) | assumption)
                    obtain ⟨ad320, e320, hx320_0⟩ := Kd.at_int HR0.out x4_1 p320 q320
                    cases e320
                    replace p320 := eq_true p320
                    replace q320 := eq_true q320
                    go_wp2
                    go_roundg kj2
                    case measure => have := HK1.out; have := HJ2.out; omega
                    case rel => exact ⟨(wrap64 (x4_1 + 1)), (by first | rfl | (simp; done) | (simp [*]; done)), H', ⟨by have := HK1.out; have := HJ2.out; omega⟩, by repeat (first | exact Drawn0.refl _ | apply Drawn0.step)⟩
                · rw [if_neg c8] at H
                  exact absurd H (by simp)
              · rw [if_neg c7] at H
                exact absurd H (by simp)
      · rw [if_neg c2] at H
        have c2b0 : decide (x4_1 < (l0.length : Int)) = false := decide_eq_false c2
        clear c2
        simp only [Option.some.injEq, Prod.mk.injEq] at H
        obtain ⟨rfl, rfl⟩ := H
        go_wp2
        go_ret2
        exact ⟨by first | rfl | (simp; done) | (simp [*]; done), by repeat (first | exact Drawn0.refl _ | apply Drawn0.step)⟩

end Go.Proofs.YteefchdfdgfaaaaDoor.Q
namespace Go.Proofs.YteefchdfdgfaaaaDoor.Q
open Go.RowKit Go.Proofs.YteefchdfdgfaaaaDoorW.PrintWords Go.Proofs.YteefchdfdgfaaaaDoorW.PrintLast Go.Proofs.YteefchdfdgfaaaaDoorW.PrintMore
attribute [local go_sem] max2_int min2_int max_two min_two max_three min_three max_four min_four   -- for this text's walks alone
set_option linter.unusedVariables false
set_option linter.unusedSimpArgs false

-- BY HAND: Derived.Test.YteefchdfdgfaaaaDoorHnum
/-! ### winnowerref01_run: function 67 -/
-- HAND winnower/winnowerref01.run over
-- IMPORT Derived.Test.YteefchdfdgfaaaaDoorHnum
open Go.Proofs.YteefchdfdgfaaaaDoor.Hnum
theorem winnowerref01_run.step {l : List Int} (hb : Bytes l) (hl : l.length ≤ 9223372036854775807) {i : Nat} (hlt : i < l.length) (q : Nat) : winnowerref01_run_p.l0 (q + 2) l (i : Int) = (if i = 9 ∧ 1 < l[i] then some (0, 7) else if 128 ≤ l[i] then winnowerref01_run_p.l0 q l ((i + 1 : Nat) : Int) else if l[i] = 0 ∧ 0 < i then some (0, 7) else some (((i + 1 : Nat) : Int), 0)) := by
  have hrd : rd l (i : Int) = l[i] := by rw [rd, Int.toNat_natCast, List.getD_eq_getElem?_getD, List.getElem?_eq_getElem hlt]; rfl
  have hx := hb l[i] (List.getElem_mem hlt)
  have e1 : winnowerref01_run_p.l0 (q + 2) l (i : Int) = winnowerref01_run_p.j1 (q + 1) l (i : Int) (decide (i = 9 ∧ 1 < l[i])) := by
    rw [winnowerref01_run_p.l0, if_pos (by omega)]
    by_cases h9 : (i : Int) = 9
    · rw [if_pos h9, if_pos (by omega), hrd]
      congr 1
      by_cases h1 : 1 < l[i]
      · rw [decide_eq_true (show l[i] > 1 from h1), decide_eq_true ⟨by omega, h1⟩]
      · rw [decide_eq_false (show ¬ l[i] > 1 from h1), decide_eq_false (fun h => h1 h.2)]
    · rw [if_neg h9]
      congr 1
      rw [decide_eq_false (fun h => h9 (by omega))]
  rw [e1, winnowerref01_run_p.j1]
  by_cases h1 : i = 9 ∧ 1 < l[i]
  · rw [if_pos (decide_eq_true h1), if_pos h1]
  · rw [if_neg (by simpa using h1), if_neg h1, if_pos (by omega), if_pos (by omega), hrd]
    have e2 : wrap64 ((i : Int) + 1) = ((i + 1 : Nat) : Int) := by rw [wrap_id (by omega) (by omega)]; omega
    rw [e2]
    by_cases h2 : 128 ≤ l[i]
    · rw [if_neg (by omega), if_pos h2]
    · rw [if_pos (by omega), if_neg h2]
      by_cases h3 : l[i] = 0
      · rw [if_pos h3]
        by_cases h4 : 0 < i
        · rw [if_pos (by omega), if_pos ⟨h3, h4⟩]
        · rw [if_neg (by omega), if_neg (fun h => h4 h.2)]
      · rw [if_neg h3, if_neg (fun h => h3 h.1)]
def winnowerref01_run.at (i : Nat) : Except Int (Nat × Nat) → Int × Int
  | .ok (_, n) => (((i + n : Nat) : Int), 0)
  | .error e => (0, e)
theorem winnowerref01_run.tells {l : List Int} (hb : Bytes l) (hl : l.length ≤ 9223372036854775807) (d : Nat) : ∀ (i k : Nat), l.length - i = d → i ≤ 9 → 2 * d + 2 ≤ k → winnowerref01_run_p.l0 k l (i : Int) = some (winnowerref01_run.at i (getd i (l.drop i))) := by
  induction d with
  | zero =>
    intro i k hd hi hk
    obtain ⟨q, rfl⟩ : ∃ m, k = m + 1 := ⟨k - 1, by omega⟩
    rw [winnowerref01_run_p.l0, if_neg (by omega), List.drop_of_length_le (by omega)]
    rfl
  | succ d ih =>
    intro i k hd hi hk
    have hlt : i < l.length := by omega
    have hx := hb l[i] (List.getElem_mem hlt)
    obtain ⟨q, rfl⟩ : ∃ m, k = m + 2 := ⟨k - 2, by omega⟩
    rw [winnowerref01_run.step hb hl hlt, List.drop_eq_getElem_cons hlt, getd]
    by_cases h1 : i = 9 ∧ 1 < l[i]
    · rw [if_pos h1, if_pos h1]; rfl
    · rw [if_neg h1, if_neg h1]
      by_cases h2 : 128 ≤ l[i]
      · rw [if_pos h2, if_pos h2, ih (i + 1) q (by omega) (by omega) (by omega)]
        cases getd (i + 1) (l.drop (i + 1)) with
        | error e => rfl
        | ok p => obtain ⟨u, n⟩ := p; simp only [winnowerref01_run.at]; rw [show i + (n + 1) = i + 1 + n from by omega]
      · rw [if_neg h2, if_neg h2]
        by_cases h3 : l[i] = 0 ∧ 0 < i
        · rw [if_pos h3, if_pos h3]; rfl
        · rw [if_neg h3, if_neg h3]; rfl
def winnowerref01_run.f (l0 : List Int) : Option (Int × Int) := if Bytes l0 then some (winnowerref01_run.at 0 (getd 0 l0)) else none
theorem winnowerref01_run.fits {l0 : List Int} {r1 r2 : Int} (hl : l0.length ≤ 9223372036854775807) (h : winnowerref01_run.f l0 = some (r1, r2)) : ∃ k, winnowerref01_run_p.f k l0 = some (r1, r2) := by
  unfold winnowerref01_run.f at h
  by_cases hb : Bytes l0
  · rw [if_pos hb] at h
    refine ⟨2 * l0.length + 2, ?_⟩
    unfold winnowerref01_run_p.f
    have := winnowerref01_run.tells hb hl l0.length 0 (2 * l0.length + 2) (by omega) (by omega) (by omega)
    rw [List.drop_zero] at this
    rw [← h]
    exact this
  · rw [if_neg hb] at h; cases h
theorem winnowerref01_run.calls (A0 : Option Addr) (c0 : Nat) (l0 : List Int) (r1 : Int) (r2 : Int) (w : World) (hr0 : Kd.C (Kd.int .u8) w A0 l0.length l0) (hc0 : l0.length ≤ c0) (h : winnowerref01_run.f l0 = some (r1, r2)) :
    Calls Tryd.prog 67 #[.slice A0 l0.length c0] w fun e w' => e = .returned (.tuple #[.int .i64 r1, .int .i64 r2]) ∧ Drawn0 w w' := by
  obtain ⟨k, hk⟩ := winnowerref01_run.fits hr0.2.1 h
  exact winnowerref01_run_p.calls k A0 c0 l0 r1 r2 w hr0 hc0 hk

end Go.Proofs.YteefchdfdgfaaaaDoor.Q
