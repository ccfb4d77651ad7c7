/- The machine side of laws, written by wip/tools/myprint.py (the printer's way, with functions proved by hand put in); Lean checks it. -/
import Derived.Test.YteefchdfdgfaaaaDoorJ1
import Derived.Test.YteefchdfdgfaaaaDoorJ2
import Derived.Test.YteefchdfdgfaaaaDoorQx5
namespace Go.Proofs.YteefchdfdgfaaaaDoor.Q
open Go.RowKit Go.Proofs.YteefchdfdgfaaaaDoorW.PrintWords Go.Proofs.YteefchdfdgfaaaaDoorW.PrintLast Go.Proofs.YteefchdfdgfaaaaDoorW.PrintMore
attribute [local go_sem] max2_int min2_int max_two min_two max_three min_three max_four min_four   -- for this text's walks alone
set_option linter.unusedVariables false
set_option linter.unusedSimpArgs false

-- BY HAND: 
/-! ### schema_May: function 14 -/
-- HAND winnower/schema.May over making
theorem trim_ok (s : ByteArray) (h : (s.size : Int) ≤ 16) : ∃ t, strings_Trim.f s (⟨#[97, 98, 99, 100, 101, 102, 103, 104, 105, 106, 107, 108, 109, 110, 111, 112, 113, 114, 115, 116, 117, 118, 119, 120, 121, 122, 48, 49, 50, 51, 52, 53, 54, 55, 56, 57, 95]⟩ : ByteArray) = some t := by
  unfold strings_Trim.f
  rw [if_pos ⟨by omega, by decide, by decide⟩]
  exact ⟨_, rfl⟩
/-- May a column's name be? -/
def nameS (s : ByteArray) : Bool := (schema_name.f s).getD false
theorem name_tell (s : ByteArray) : schema_name.f s = some (nameS s) := by
  have h : ∃ b, schema_name.f s = some b := by
    unfold schema_name.f
    split
    · split
      · rename_i h
        obtain ⟨t, ht⟩ := trim_ok s h
        rw [ht]
        exact ⟨_, rfl⟩
      · exact ⟨_, rfl⟩
    · exact ⟨_, rfl⟩
  obtain ⟨b, hb⟩ := h
  unfold nameS
  rw [hb]
  rfl
theorem of_ok (l : List S48) (a1 a2 a3 a4 i k : Int) : ∃ b, schema_of.f l a1 a2 a3 a4 i k = some b := by
  unfold schema_of.f
  by_cases h1 : i ≥ 0
  · rw [if_pos h1]
    by_cases h2 : i < (l.length : Int)
    · rw [if_pos h2, if_pos (show (0 : Int) ≤ i from h1)]
      by_cases h3 : (rd_T48 l i).f2 = true
      · rw [if_pos h3]; exact ⟨_, rfl⟩
      · rw [if_neg h3]
        by_cases h4 : k = 0
        · rw [if_pos h4]; exact ⟨_, rfl⟩
        · rw [if_neg h4]; exact ⟨_, rfl⟩
    · rw [if_neg h2]; exact ⟨_, rfl⟩
  · rw [if_neg h1]; exact ⟨_, rfl⟩
def keyedS (l : List S48) (a1 a2 a3 a4 : Int) : Bool := (schema_keyed.f l a1 a2 a3 a4).getD false
theorem keyed_tell (l : List S48) (a1 a2 a3 a4 : Int) : schema_keyed.f l a1 a2 a3 a4 = some (keyedS l a1 a2 a3 a4) := by
  have h : ∃ b, schema_keyed.f l a1 a2 a3 a4 = some b := by
    unfold schema_keyed.f
    obtain ⟨b1, h1⟩ := of_ok l a1 a2 a3 a4 a1 0
    obtain ⟨b2, h2⟩ := of_ok l a1 a2 a3 a4 a2 1
    obtain ⟨b3, h3⟩ := of_ok l a1 a2 a3 a4 a3 3
    rw [h1, h2, h3]
    simp only [Option.bind_some]
    repeat (first | exact ⟨_, rfl⟩ | split)
  obtain ⟨b, hb⟩ := h
  unfold keyedS
  rw [hb]
  rfl
def colsS (all : List S48) : List S48 → Int → Bool
  | [], _ => true
  | x :: t, i => nameS x.f0 && (decide (1 ≤ x.f1) && (decide (x.f1 ≤ 3) && (decide (findC x.f0 all 0 = i) && colsS all t (i + 1))))
/-- May a schema be? -/
def mayS (l : List S48) (a1 a2 a3 a4 : Int) : Bool := colsS l l 0 && (decide (1 ≤ l.length) && (decide (l.length ≤ 8) && (keyedS l a1 a2 a3 a4 && (decide (-1 ≤ a4) && decide (a4 < (l.length : Int))))))
def schema_May.f (l0_0 : List S48) (a0_1 a0_2 a0_3 a0_4 : Int) : Option Bool := if l0_0.length ≤ 1000000 then some (mayS l0_0 a0_1 a0_2 a0_3 a0_4) else none
theorem may_go {l : List S48} (hl : l.length ≤ 1000000) (a1 a2 a3 a4 : Int) (q : Nat) : ∀ (d i : Nat), i + d = l.length →
    schema_May_p.l0 (d + q + 1) l (l.length : Int) (i : Int) l a1 a2 a3 a4 = some (colsS l (l.drop i) (i : Int) && (decide (1 ≤ l.length) && (decide (l.length ≤ 8) && (keyedS l a1 a2 a3 a4 && (decide (-1 ≤ a4) && decide (a4 < (l.length : Int))))))) := by
  intro d
  induction d with
  | zero =>
    intro i hi
    rw [Nat.zero_add]
    unfold schema_May_p.l0
    rw [if_neg (by omega), List.drop_of_length_le (by omega), keyed_tell]
    simp only [colsS, Bool.true_and, Option.bind_some]
    by_cases h1 : (l.length : Int) ≥ 1
    · rw [if_pos h1, decide_eq_true (show 1 ≤ l.length by omega)]
      by_cases h2 : (l.length : Int) ≤ 8
      · rw [if_pos h2, decide_eq_true (show l.length ≤ 8 by omega)]
        cases keyedS l a1 a2 a3 a4 with
        | false => rfl
        | true =>
          rw [if_pos rfl]
          by_cases h3 : a4 ≥ -1
          · rw [if_pos h3, decide_eq_true (show -1 ≤ a4 from h3)]; rfl
          · rw [if_neg h3, decide_eq_false (show ¬ -1 ≤ a4 from h3)]; rfl
      · rw [if_neg h2, decide_eq_false (show ¬ l.length ≤ 8 by omega)]; rfl
    · rw [if_neg h1, decide_eq_false (show ¬ 1 ≤ l.length by omega)]; rfl
  | succ d ih =>
    intro i hi
    have hk : i < l.length := by omega
    have hd : l.drop i = rd_T48 l (i : Int) :: l.drop (i + 1) := by
      unfold rd_T48
      rw [List.drop_eq_getElem_cons hk, Int.toNat_natCast, List.getD_eq_getElem?_getD, List.getElem?_eq_getElem hk]
      rfl
    have ih' := ih (i + 1) (by omega)
    rw [show d + 1 + q + 1 = (d + q + 1) + 1 by omega]
    unfold schema_May_p.l0
    rw [if_pos (by omega), if_pos (by omega), if_pos (by omega), name_tell, hd]
    simp only [colsS, Option.bind_some, schema_Find.f]
    rw [show wrap64 ((i : Int) + 1) = ((i + 1 : Nat) : Int) by unfold wrap64; omega, ih']
    rw [show ((i + 1 : Nat) : Int) = (i : Int) + 1 by omega]
    cases nameS (rd_T48 l (i : Int)).f0 with
    | false => rfl
    | true =>
      rw [if_pos rfl]
      by_cases h1 : (rd_T48 l (i : Int)).f1 < 1
      · rw [if_pos h1, decide_eq_false (show ¬ 1 ≤ (rd_T48 l (i : Int)).f1 by omega)]; rfl
      · rw [if_neg h1, decide_eq_true (show 1 ≤ (rd_T48 l (i : Int)).f1 by omega)]
        by_cases h2 : (rd_T48 l (i : Int)).f1 > 3
        · rw [if_pos h2, decide_eq_false (show ¬ (rd_T48 l (i : Int)).f1 ≤ 3 by omega)]; rfl
        · rw [if_neg h2, decide_eq_true (show (rd_T48 l (i : Int)).f1 ≤ 3 by omega)]
          by_cases h3 : findC (rd_T48 l (i : Int)).f0 l 0 = (i : Int)
          · rw [if_pos h3, decide_eq_true h3]; rfl
          · rw [if_neg h3, decide_eq_false h3]; rfl
theorem schema_May.fits {l0_0 : List S48} {a0_1 a0_2 a0_3 a0_4 : Int} {r : Bool} (hlen_ : l0_0.length ≤ 9223372036854775807) (h : schema_May.f l0_0 a0_1 a0_2 a0_3 a0_4 = some r) : ∃ k, schema_May_p.f k l0_0 a0_1 a0_2 a0_3 a0_4 = some r := by
  unfold schema_May.f at h
  by_cases hl : l0_0.length ≤ 1000000
  · rw [if_pos hl] at h
    refine ⟨l0_0.length + 0 + 1, ?_⟩
    unfold schema_May_p.f
    have g := may_go hl a0_1 a0_2 a0_3 a0_4 0 l0_0.length 0 (by omega)
    rw [← h]
    exact g
  · rw [if_neg hl] at h; cases h
theorem schema_May.calls (A0_0 : Option Addr) (c0_0 : Nat) (l0_0 : List (S48)) (a0_1 : Int) (a0_2 : Int) (a0_3 : Int) (a0_4 : Int) (r : Bool) (w : World) (hr0_0 : Kd.C k48 w A0_0 l0_0.length l0_0) (hc0_0 : l0_0.length ≤ c0_0) (h : schema_May.f l0_0 a0_1 a0_2 a0_3 a0_4 = some r) :
    Calls Tryd.prog 14 #[.agg #[.slice A0_0 l0_0.length c0_0, .int .i64 a0_1, .int .i64 a0_2, .int .i64 a0_3, .int .i64 a0_4]] w fun e w' => e = .returned (.bool r) ∧ Below w.heap.size w w' := by
  obtain ⟨k, hk⟩ := schema_May.fits hr0_0.2.1 h
  exact schema_May_p.calls k A0_0 c0_0 l0_0 a0_1 a0_2 a0_3 a0_4 r w hr0_0 hc0_0 hk

end Go.Proofs.YteefchdfdgfaaaaDoor.Q
namespace Go.Proofs.YteefchdfdgfaaaaDoor.Q
open Go.RowKit Go.Proofs.YteefchdfdgfaaaaDoorW.PrintWords Go.Proofs.YteefchdfdgfaaaaDoorW.PrintLast Go.Proofs.YteefchdfdgfaaaaDoorW.PrintMore
attribute [local go_sem] max2_int min2_int max_two min_two max_three min_three max_four min_four   -- for this text's walks alone
set_option linter.unusedVariables false
set_option linter.unusedSimpArgs false

-- BY HAND: 
/-! ### value_May: function 37 -/
-- HAND winnower/value.May making
theorem eqV_ (d : Nat) (w : World) (x0 y0 : Int) (x1 y1 : Int) (x2 y2 : ByteArray) (x3 y3 : Bool) :
    (Op.equalIn (d + 2) 46 (.agg #[.int .i64 x0, .int .i64 x1, .string x2, .bool x3]) (.agg #[.int .i64 y0, .int .i64 y1, .string y2, .bool y3])).run Tryd.prog w = .ok (x0 == y0 && (x1 == y1 && (x2.toList == y2.toList && (x3 == y3)))) w := by
  refine eqA_of Tryd.underlying46 (by kernel_rfl) ?_
  refine eqf_cons (by rfl) (by go_simp; rfl) (by go_simp; rfl) (by go_simp) ?_
  refine eqf_cons (by rfl) (by go_simp; rfl) (by go_simp; rfl) (by go_simp) ?_
  refine eqf_cons (by rfl) (by go_simp; rfl) (by go_simp; rfl) (by go_simp) ?_
  exact eqf_last (by rfl) (by go_simp; rfl) (by go_simp; rfl) (by go_simp)
attribute [local go_sem high] eqV_
def value_May.f (a0_0 : Int) (a0_1 : Int) (a0_2 : ByteArray) (a0_3 : Bool) : Option (Bool) := if a0_0 = 1 then (some (a0_2.toList == ([] : List UInt8) && (!a0_3))) else (if a0_0 = 2 then (if (a0_2.size : Int) > 64 then (some false) else (some (a0_1 == 0 && (!a0_3)))) else (if a0_0 = 3 then (some (a0_1 == 0 && (a0_2.toList == ([] : List UInt8)))) else (if a0_0 = 0 then (some (a0_1 == 0 && (a0_2.toList == ([] : List UInt8) && (!a0_3)))) else (some false))))
set_option maxHeartbeats 8000000 in
set_option maxRecDepth 100000 in
theorem value_May.calls (a0_0 : Int) (a0_1 : Int) (a0_2 : ByteArray) (a0_3 : Bool) (r : Bool) (w : World) (h : value_May.f a0_0 a0_1 a0_2 a0_3 = some r) :
    Calls Tryd.prog 37 #[.agg #[.int .i64 a0_0, .int .i64 a0_1, .string a0_2, .bool a0_3]] w fun e w' => e = .returned (.bool r) ∧ Below w.heap.size w w' := by
  have huV := Tryd.underlying46
  have H : (if a0_0 = 1 then (some (a0_2.toList == ([] : List UInt8) && (!a0_3))) else (if a0_0 = 2 then (if (a0_2.size : Int) > 64 then (some false) else (some (a0_1 == 0 && (!a0_3)))) else (if a0_0 = 3 then (some (a0_1 == 0 && (a0_2.toList == ([] : List UInt8)))) else (if a0_0 = 0 then (some (a0_1 == 0 && (a0_2.toList == ([] : List UInt8) && (!a0_3)))) else (some false))))) = some r := h
  clear h
  by_cases c2 : a0_0 = 1
  · rw [if_pos c2] at H
    have c2b0 : (a0_0 == 1) = true := beq_iff_eq.mpr c2
    have c2b1 : (a0_0 != 1) = false := bne_eq_false_iff_eq.mpr c2
    clear c2
    obtain rfl := Option.some.inj H
    go_enter Tryd.func37, Tryd.ntmps37
    repeat (first | go_step)
    go_ret
    exact ⟨by first | rfl | (simp [List.isEmpty_eq_true]; done) | (simp [*]; done) | (cases hh : a0_2.toList <;> simp [*]), by repeat (first | exact Below.refl _ _ | apply z02)⟩
  · rw [if_neg c2] at H
    have c2b0 : (a0_0 == 1) = false := beq_eq_false_iff_ne.mpr c2
    have c2b1 : (a0_0 != 1) = true := bne_iff_ne.mpr c2
    by_cases c9 : a0_0 = 2
    · rw [if_pos c9] at H
      have c9b0 : (a0_0 == 2) = true := beq_iff_eq.mpr c9
      have c9b1 : (a0_0 != 2) = false := bne_eq_false_iff_eq.mpr c9
      clear c9
      by_cases c10 : (a0_2.size : Int) > 64
      · rw [if_pos c10] at H
        have c10b0 : decide (64 < (a0_2.size : Int)) = true := decide_eq_true c10
        have c10b1 : decide (64 < a0_2.size) = true := decide_eq_true (by omega)
        clear c10
        obtain rfl := Option.some.inj H
        go_enter Tryd.func37, Tryd.ntmps37
        repeat (first | go_step)
        go_ret
        exact ⟨by first | rfl | (simp [List.isEmpty_eq_true]; done) | (simp [*]; done) | (cases hh : a0_2.toList <;> simp [*]), by repeat (first | exact Below.refl _ _ | apply z02)⟩
      · rw [if_neg c10] at H
        have c10b0 : decide (64 < (a0_2.size : Int)) = false := decide_eq_false c10
        have c10b1 : decide (64 < a0_2.size) = false := decide_eq_false (by omega)
        clear c10
        obtain rfl := Option.some.inj H
        go_enter Tryd.func37, Tryd.ntmps37
        repeat (first | go_step)
        go_ret
        exact ⟨by first | rfl | (simp [List.isEmpty_eq_true]; done) | (simp [*]; done) | (cases hh : a0_2.toList <;> simp [*]), by repeat (first | exact Below.refl _ _ | apply z02)⟩
    · rw [if_neg c9] at H
      have c9b0 : (a0_0 == 2) = false := beq_eq_false_iff_ne.mpr c9
      have c9b1 : (a0_0 != 2) = true := bne_iff_ne.mpr c9
      by_cases c23 : a0_0 = 3
      · rw [if_pos c23] at H
        have c23b0 : (a0_0 == 3) = true := beq_iff_eq.mpr c23
        have c23b1 : (a0_0 != 3) = false := bne_eq_false_iff_eq.mpr c23
        clear c23
        obtain rfl := Option.some.inj H
        go_enter Tryd.func37, Tryd.ntmps37
        repeat (first | go_step)
        go_ret
        exact ⟨by first | rfl | (simp [List.isEmpty_eq_true]; done) | (simp [*]; done) | (cases hh : a0_2.toList <;> simp [*]), by repeat (first | exact Below.refl _ _ | apply z02)⟩
      · rw [if_neg c23] at H
        have c23b0 : (a0_0 == 3) = false := beq_eq_false_iff_ne.mpr c23
        have c23b1 : (a0_0 != 3) = true := bne_iff_ne.mpr c23
        by_cases c30 : a0_0 = 0
        · rw [if_pos c30] at H
          have c30b0 : (a0_0 == 0) = true := beq_iff_eq.mpr c30
          have c30b1 : (a0_0 != 0) = false := bne_eq_false_iff_eq.mpr c30
          clear c30
          obtain rfl := Option.some.inj H
          go_enter Tryd.func37, Tryd.ntmps37
          repeat (first | go_step)
          go_ret
          exact ⟨by first | rfl | (simp [List.isEmpty_eq_true]; done) | (simp [*]; done) | (cases hh : a0_2.toList <;> simp [*]), by repeat (first | exact Below.refl _ _ | apply z02)⟩
        · rw [if_neg c30] at H
          have c30b0 : (a0_0 == 0) = false := beq_eq_false_iff_ne.mpr c30
          have c30b1 : (a0_0 != 0) = true := bne_iff_ne.mpr c30
          obtain rfl := Option.some.inj H
          go_enter Tryd.func37, Tryd.ntmps37
          repeat (first | go_step)
          go_ret
          exact ⟨by first | rfl | (simp [List.isEmpty_eq_true]; done) | (simp [*]; done) | (cases hh : a0_2.toList <;> simp [*]), by repeat (first | exact Below.refl _ _ | apply z02)⟩

end Go.Proofs.YteefchdfdgfaaaaDoor.Q
namespace Go.Proofs.YteefchdfdgfaaaaDoor.Q
open Go.RowKit Go.Proofs.YteefchdfdgfaaaaDoorW.PrintWords Go.Proofs.YteefchdfdgfaaaaDoorW.PrintLast Go.Proofs.YteefchdfdgfaaaaDoorW.PrintMore
attribute [local go_sem] max2_int min2_int max_two min_two max_three min_three max_four min_four   -- for this text's walks alone
set_option linter.unusedVariables false
set_option linter.unusedSimpArgs false

/-! ### schema_fits: function 32 -/
def schema_fits.f (a0_0 : ByteArray) (a0_1 : Int) (a0_2 : Bool) (a1_0 : Int) (a1_1 : Int) (a1_2 : ByteArray) (a1_3 : Bool) : Option (Bool) := (value_May.f a1_0 a1_1 a1_2 a1_3).bind fun t118 => (if t118 = true then (if a1_0 = a0_1 then (some true) else (if a1_0 = 0 then (some a0_2) else (some false))) else (some false))
set_option maxHeartbeats 8000000 in
set_option maxRecDepth 100000 in
theorem schema_fits.calls (a0_0 : ByteArray) (a0_1 : Int) (a0_2 : Bool) (a1_0 : Int) (a1_1 : Int) (a1_2 : ByteArray) (a1_3 : Bool) (r : Bool) (w : World) (h : schema_fits.f a0_0 a0_1 a0_2 a1_0 a1_1 a1_2 a1_3 = some r) :
    Calls Tryd.prog 32 #[.agg #[.string a0_0, .int .i64 a0_1, .bool a0_2], .agg #[.int .i64 a1_0, .int .i64 a1_1, .string a1_2, .bool a1_3]] w fun e w' => e = .returned (.bool r) ∧ Below w.heap.size w w' := by
  have hu48 := Tryd.underlying48
  have hu46 := Tryd.underlying46
  have HB := z05.mk (Below.refl w.heap.size w)
  have H : ((value_May.f a1_0 a1_1 a1_2 a1_3).bind fun t118 => (if t118 = true then (if a1_0 = a0_1 then (some true) else (if a1_0 = 0 then (some a0_2) else (some false))) else (some false))) = some r := h
  clear h
  replace H := Option.bind_eq_some_iff.mp H
  obtain ⟨t118, A30, H⟩ := H
  replace H : (if t118 = true then (if a1_0 = a0_1 then (some true) else (if a1_0 = 0 then (some a0_2) else (some false))) else (some false)) = some r := H
  have A3 := z05.mk A30
  clear A30
  by_cases c4 : t118 = true
  · subst c4
    have H1 : (if a1_0 = a0_1 then (some true) else (if a1_0 = 0 then (some a0_2) else (some false))) = some r := by rw [if_pos rfl] at H; exact H
    clear H
    have H := H1
    clear H1
    by_cases c5 : a1_0 = a0_1
    · rw [if_pos c5] at H
      have c5b0 : (a1_0 == a0_1) = true := beq_iff_eq.mpr c5
      have c5b1 : (a1_0 != a0_1) = false := bne_eq_false_iff_eq.mpr c5
      clear c5
      obtain rfl := Option.some.inj H
      go_enter Tryd.func32, Tryd.ntmps32
      go_wp2_with (first | ((with_reducible refine gate_dst (N := 2) rfl ?_); refine box_event ?hg (N := 2) ?hd (cs := #[.string a0_0, .int .i64 a0_1, .bool a0_2]) (t := 48) ?hr ?_; (case hd => rfl); (case hg => rfl); (case hr => first | (go_simp; done) | (go_simp; rfl)); intro gb116 hg w6 hbox hb; have n0_ := z05.mk (below_step (by repeat (first | (with_reducible first | exact HB.out | apply z02 | apply z00 | apply z03) | exact HB.out)) hb); have n1_ := z05.mk (hbox); have n2_ := z05.mk ((by rw [hg]; exact (below_size (by repeat (first | (with_reducible first | exact HB.out | apply z02 | apply z00 | apply z03) | exact HB.out))) : w.heap.size ≤ gb116)); have n3_ := z05.mk ((by rw [hg]; exact (below_size (by repeat (first | (with_reducible first | exact HB.out | apply z02 | apply z00 | apply z03) | exact HB.out))) : w.heap.size ≤ gb116)); clear HB; have HB := n0_; have BK116 := n1_; have GW116 := n2_; have GE116 := n3_; clear n0_ n1_ n2_ n3_; clear hb hbox hg) | ((with_reducible refine gate_dst (N := 3) rfl ?_); refine box_event ?hg (N := 3) ?hd (cs := #[.int .i64 a1_0, .int .i64 a1_1, .string a1_2, .bool a1_3]) (t := 46) ?hr ?_; (case hd => rfl); (case hg => rfl); (case hr => first | (go_simp; done) | (go_simp; rfl)); intro gb117 hg w7 hbox hb; have n0_ := z05.mk (blk_below (g := gb116) (o := .cells #[.string a0_0, .int .i64 a0_1, .bool a0_2] 48 (0, 0)) (by (with_reducible repeat (first | refine z07 ?_ _ | refine z08 ?_ | refine z06 ?_ _)); exact BK116.out) hb); have n1_ := z05.mk (below_step (by repeat (first | (with_reducible first | exact HB.out | apply z02 | apply z00 | apply z03 | refine z09 ?_ GE116.out) | exact HB.out)) hb); have n2_ := z05.mk (hbox); have n3_ := z05.mk ((by rw [hg]; exact (below_size (by repeat (first | (with_reducible first | exact HB.out | apply z02 | apply z00 | apply z03 | refine z09 ?_ GE116.out) | exact HB.out))) : w.heap.size ≤ gb117)); have n4_ := z05.mk ((by rw [hg]; exact (below_size (by repeat (first | (with_reducible first | exact HB.out | apply z02 | apply z00 | apply z03 | refine z09 ?_ GE116.out) | exact HB.out))) : w.heap.size ≤ gb117)); have n5_ := z05.mk ((by rw [hg]; exact Nat.ne_of_lt (blk_lt (g := gb116) (o := .cells #[.string a0_0, .int .i64 a0_1, .bool a0_2] 48 (0, 0)) (by (with_reducible repeat (first | refine z07 ?_ _ | refine z08 ?_ | refine z06 ?_ _)); exact BK116.out)) : gb116 ≠ gb117)); have n6_ := z05.mk ((by rw [hg]; exact Nat.ne_of_gt (blk_lt (g := gb116) (o := .cells #[.string a0_0, .int .i64 a0_1, .bool a0_2] 48 (0, 0)) (by (with_reducible repeat (first | refine z07 ?_ _ | refine z08 ?_ | refine z06 ?_ _)); exact BK116.out)) : gb117 ≠ gb116)); clear BK116; clear HB; have BK116 := n0_; have HB := n1_; have BK117 := n2_; have GW117 := n3_; have GE117 := n4_; have NB116_117 := n5_; have NB117_116 := n6_; clear n0_ n1_ n2_ n3_ n4_ n5_ n6_; clear hb hbox hg; have hnb8 := NB117_116.out; have hnc8 := NB116_117.out; have hcz9_0 : w7.cell? ⟨gb117, 0, none⟩ = some (.int .i64 a1_0) := (z04 BK117.out 0).trans rfl; have hcz9_1 : w7.cell? ⟨gb117, 1, none⟩ = some (.int .i64 a1_1) := (z04 BK117.out 1).trans rfl; have hcz9_2 : w7.cell? ⟨gb117, 2, none⟩ = some (.string a1_2) := (z04 BK117.out 2).trans rfl; have hcz9_3 : w7.cell? ⟨gb117, 3, none⟩ = some (.bool a1_3) := (z04 BK117.out 3).trans rfl; have hfz9_0 := z01 BK117.out 0; have hfz9_1 := z01 BK117.out 1; have hfz9_2 := z01 BK117.out 2; have hfz9_3 := z01 BK117.out 3) | ((with_reducible refine gate_callee (f := 37) rfl ?_); refine goesL_ (some 6) rfl rfl Tryd.func37 (by kernel_rfl) rfl #[.agg #[.int .i64 a1_0, .int .i64 a1_1, .string a1_2, .bool a1_3]] rfl (by (try simp only [List.map_toArray, List.map_cons, List.map_nil]); first | done | rfl | (simp only [List.length_drop, List.length_take]; rfl)) ?_; (with_reducible refine (value_May.calls a1_0 a1_1 a1_2 a1_3 true _ A3.out).mono ?_); rintro e w10 ⟨rfl, hb⟩; refine ⟨_, rfl, ?_⟩; have n0_ := z05.mk (blk_below (g := gb116) (o := .cells #[.string a0_0, .int .i64 a0_1, .bool a0_2] 48 (0, 0)) (by (with_reducible repeat (first | refine z07 ?_ _ | refine z08 ?_ | refine z06 ?_ _)); exact BK116.out) hb); have n1_ := z05.mk (blk_below (g := gb117) (o := .cells #[.int .i64 a1_0, .int .i64 a1_1, .string a1_2, .bool a1_3] 46 (0, 0)) (by (with_reducible repeat (first | refine z07 ?_ _ | refine z08 ?_ | refine z06 ?_ _)); exact BK117.out) hb); have n2_ := z05.mk (below_step (by repeat (first | (with_reducible first | exact HB.out | apply z02 | apply z00 | apply z03 | refine z09 ?_ GE116.out | refine z09 ?_ GE117.out) | exact HB.out)) hb); clear BK116; clear BK117; clear HB; have BK116 := n0_; have BK117 := n1_; have HB := n2_; clear n0_ n1_ n2_; (try clear hb); (try clear hb2); (try clear hk); (try clear hi); have hcz11_0 : w10.cell? ⟨gb117, 0, none⟩ = some (.int .i64 a1_0) := (z04 BK117.out 0).trans rfl; have hcz11_1 : w10.cell? ⟨gb117, 1, none⟩ = some (.int .i64 a1_1) := (z04 BK117.out 1).trans rfl; have hcz11_2 : w10.cell? ⟨gb117, 2, none⟩ = some (.string a1_2) := (z04 BK117.out 2).trans rfl; have hcz11_3 : w10.cell? ⟨gb117, 3, none⟩ = some (.bool a1_3) := (z04 BK117.out 3).trans rfl; have hfz11_0 := z01 BK117.out 0; have hfz11_1 := z01 BK117.out 1; have hfz11_2 := z01 BK117.out 2; have hfz11_3 := z01 BK117.out 3; have hcz12_0 : w10.cell? ⟨gb116, 0, none⟩ = some (.string a0_0) := (z04 BK116.out 0).trans rfl; have hcz12_1 : w10.cell? ⟨gb116, 1, none⟩ = some (.int .i64 a0_1) := (z04 BK116.out 1).trans rfl; have hcz12_2 : w10.cell? ⟨gb116, 2, none⟩ = some (.bool a0_2) := (z04 BK116.out 2).trans rfl; have hfz12_0 := z01 BK116.out 0; have hfz12_1 := z01 BK116.out 1; have hfz12_2 := z01 BK116.out 2))
      go_ret
      exact ⟨by first | rfl | (simp [errW_none, errW_some] <;> rfl) | (refine congrArg (fun b_ : Bool => Ending.returned (Value.bool b_)) ?_; simp; done) | (simp [*, errW_none, errW_some] <;> rfl), by repeat (first | (with_reducible first | exact HB.out | apply z02 | apply z00 | apply z03 | refine z09 ?_ GE116.out | refine z09 ?_ GE117.out) | exact HB.out)⟩
    · rw [if_neg c5] at H
      have c5b0 : (a1_0 == a0_1) = false := beq_eq_false_iff_ne.mpr c5
      have c5b1 : (a1_0 != a0_1) = true := bne_iff_ne.mpr c5
      by_cases c13 : a1_0 = 0
      · rw [if_pos c13] at H
        have c13b0 : (a1_0 == 0) = true := beq_iff_eq.mpr c13
        have c13b1 : (a1_0 != 0) = false := bne_eq_false_iff_eq.mpr c13
        clear c13
        obtain rfl := Option.some.inj H
        go_enter Tryd.func32, Tryd.ntmps32
        go_wp2_with (first | ((with_reducible refine gate_dst (N := 2) rfl ?_); refine box_event ?hg (N := 2) ?hd (cs := #[.string a0_0, .int .i64 a0_1, .bool a0_2]) (t := 48) ?hr ?_; (case hd => rfl); (case hg => rfl); (case hr => first | (go_simp; done) | (go_simp; rfl)); intro gb116 hg w14 hbox hb; have n0_ := z05.mk (below_step (by repeat (first | (with_reducible first | exact HB.out | apply z02 | apply z00 | apply z03) | exact HB.out)) hb); have n1_ := z05.mk (hbox); have n2_ := z05.mk ((by rw [hg]; exact (below_size (by repeat (first | (with_reducible first | exact HB.out | apply z02 | apply z00 | apply z03) | exact HB.out))) : w.heap.size ≤ gb116)); have n3_ := z05.mk ((by rw [hg]; exact (below_size (by repeat (first | (with_reducible first | exact HB.out | apply z02 | apply z00 | apply z03) | exact HB.out))) : w.heap.size ≤ gb116)); clear HB; have HB := n0_; have BK116 := n1_; have GW116 := n2_; have GE116 := n3_; clear n0_ n1_ n2_ n3_; clear hb hbox hg) | ((with_reducible refine gate_dst (N := 3) rfl ?_); refine box_event ?hg (N := 3) ?hd (cs := #[.int .i64 a1_0, .int .i64 a1_1, .string a1_2, .bool a1_3]) (t := 46) ?hr ?_; (case hd => rfl); (case hg => rfl); (case hr => first | (go_simp; done) | (go_simp; rfl)); intro gb117 hg w15 hbox hb; have n0_ := z05.mk (blk_below (g := gb116) (o := .cells #[.string a0_0, .int .i64 a0_1, .bool a0_2] 48 (0, 0)) (by (with_reducible repeat (first | refine z07 ?_ _ | refine z08 ?_ | refine z06 ?_ _)); exact BK116.out) hb); have n1_ := z05.mk (below_step (by repeat (first | (with_reducible first | exact HB.out | apply z02 | apply z00 | apply z03 | refine z09 ?_ GE116.out) | exact HB.out)) hb); have n2_ := z05.mk (hbox); have n3_ := z05.mk ((by rw [hg]; exact (below_size (by repeat (first | (with_reducible first | exact HB.out | apply z02 | apply z00 | apply z03 | refine z09 ?_ GE116.out) | exact HB.out))) : w.heap.size ≤ gb117)); have n4_ := z05.mk ((by rw [hg]; exact (below_size (by repeat (first | (with_reducible first | exact HB.out | apply z02 | apply z00 | apply z03 | refine z09 ?_ GE116.out) | exact HB.out))) : w.heap.size ≤ gb117)); have n5_ := z05.mk ((by rw [hg]; exact Nat.ne_of_lt (blk_lt (g := gb116) (o := .cells #[.string a0_0, .int .i64 a0_1, .bool a0_2] 48 (0, 0)) (by (with_reducible repeat (first | refine z07 ?_ _ | refine z08 ?_ | refine z06 ?_ _)); exact BK116.out)) : gb116 ≠ gb117)); have n6_ := z05.mk ((by rw [hg]; exact Nat.ne_of_gt (blk_lt (g := gb116) (o := .cells #[.string a0_0, .int .i64 a0_1, .bool a0_2] 48 (0, 0)) (by (with_reducible repeat (first | refine z07 ?_ _ | refine z08 ?_ | refine z06 ?_ _)); exact BK116.out)) : gb117 ≠ gb116)); clear BK116; clear HB; have BK116 := n0_; have HB := n1_; have BK117 := n2_; have GW117 := n3_; have GE117 := n4_; have NB116_117 := n5_; have NB117_116 := n6_; clear n0_ n1_ n2_ n3_ n4_ n5_ n6_; clear hb hbox hg; have hnb16 := NB117_116.out; have hnc16 := NB116_117.out; have hcz17_0 : w15.cell? ⟨gb117, 0, none⟩ = some (.int .i64 a1_0) := (z04 BK117.out 0).trans rfl; have hcz17_1 : w15.cell? ⟨gb117, 1, none⟩ = some (.int .i64 a1_1) := (z04 BK117.out 1).trans rfl; have hcz17_2 : w15.cell? ⟨gb117, 2, none⟩ = some (.string a1_2) := (z04 BK117.out 2).trans rfl; have hcz17_3 : w15.cell? ⟨gb117, 3, none⟩ = some (.bool a1_3) := (z04 BK117.out 3).trans rfl; have hfz17_0 := z01 BK117.out 0; have hfz17_1 := z01 BK117.out 1; have hfz17_2 := z01 BK117.out 2; have hfz17_3 := z01 BK117.out 3) | ((with_reducible refine gate_callee (f := 37) rfl ?_); refine goesL_ (some 6) rfl rfl Tryd.func37 (by kernel_rfl) rfl #[.agg #[.int .i64 a1_0, .int .i64 a1_1, .string a1_2, .bool a1_3]] rfl (by (try simp only [List.map_toArray, List.map_cons, List.map_nil]); first | done | rfl | (simp only [List.length_drop, List.length_take]; rfl)) ?_; (with_reducible refine (value_May.calls a1_0 a1_1 a1_2 a1_3 true _ A3.out).mono ?_); rintro e w18 ⟨rfl, hb⟩; refine ⟨_, rfl, ?_⟩; have n0_ := z05.mk (blk_below (g := gb116) (o := .cells #[.string a0_0, .int .i64 a0_1, .bool a0_2] 48 (0, 0)) (by (with_reducible repeat (first | refine z07 ?_ _ | refine z08 ?_ | refine z06 ?_ _)); exact BK116.out) hb); have n1_ := z05.mk (blk_below (g := gb117) (o := .cells #[.int .i64 a1_0, .int .i64 a1_1, .string a1_2, .bool a1_3] 46 (0, 0)) (by (with_reducible repeat (first | refine z07 ?_ _ | refine z08 ?_ | refine z06 ?_ _)); exact BK117.out) hb); have n2_ := z05.mk (below_step (by repeat (first | (with_reducible first | exact HB.out | apply z02 | apply z00 | apply z03 | refine z09 ?_ GE116.out | refine z09 ?_ GE117.out) | exact HB.out)) hb); clear BK116; clear BK117; clear HB; have BK116 := n0_; have BK117 := n1_; have HB := n2_; clear n0_ n1_ n2_; (try clear hb); (try clear hb2); (try clear hk); (try clear hi); have hcz19_0 : w18.cell? ⟨gb117, 0, none⟩ = some (.int .i64 a1_0) := (z04 BK117.out 0).trans rfl; have hcz19_1 : w18.cell? ⟨gb117, 1, none⟩ = some (.int .i64 a1_1) := (z04 BK117.out 1).trans rfl; have hcz19_2 : w18.cell? ⟨gb117, 2, none⟩ = some (.string a1_2) := (z04 BK117.out 2).trans rfl; have hcz19_3 : w18.cell? ⟨gb117, 3, none⟩ = some (.bool a1_3) := (z04 BK117.out 3).trans rfl; have hfz19_0 := z01 BK117.out 0; have hfz19_1 := z01 BK117.out 1; have hfz19_2 := z01 BK117.out 2; have hfz19_3 := z01 BK117.out 3; have hcz20_0 : w18.cell? ⟨gb116, 0, none⟩ = some (.string a0_0) := (z04 BK116.out 0).trans rfl; have hcz20_1 : w18.cell? ⟨gb116, 1, none⟩ = some (.int .i64 a0_1) := (z04 BK116.out 1).trans rfl; have hcz20_2 : w18.cell? ⟨gb116, 2, none⟩ = some (.bool a0_2) := (z04 BK116.out 2).trans rfl; have hfz20_0 := z01 BK116.out 0; have hfz20_1 := z01 BK116.out 1; have hfz20_2 := z01 BK116.out 2))
        go_ret
        exact ⟨by first | rfl | (simp [errW_none, errW_some] <;> rfl) | (refine congrArg (fun b_ : Bool => Ending.returned (Value.bool b_)) ?_; simp; done) | (simp [*, errW_none, errW_some] <;> rfl), by repeat (first | (with_reducible first | exact HB.out | apply z02 | apply z00 | apply z03 | refine z09 ?_ GE116.out | refine z09 ?_ GE117.out) | exact HB.out)⟩
      · rw [if_neg c13] at H
        have c13b0 : (a1_0 == 0) = false := beq_eq_false_iff_ne.mpr c13
        have c13b1 : (a1_0 != 0) = true := bne_iff_ne.mpr c13
        obtain rfl := Option.some.inj H
        go_enter Tryd.func32, Tryd.ntmps32
        go_wp2_with (first | ((with_reducible refine gate_dst (N := 2) rfl ?_); refine box_event ?hg (N := 2) ?hd (cs := #[.string a0_0, .int .i64 a0_1, .bool a0_2]) (t := 48) ?hr ?_; (case hd => rfl); (case hg => rfl); (case hr => first | (go_simp; done) | (go_simp; rfl)); intro gb116 hg w21 hbox hb; have n0_ := z05.mk (below_step (by repeat (first | (with_reducible first | exact HB.out | apply z02 | apply z00 | apply z03) | exact HB.out)) hb); have n1_ := z05.mk (hbox); have n2_ := z05.mk ((by rw [hg]; exact (below_size (by repeat (first | (with_reducible first | exact HB.out | apply z02 | apply z00 | apply z03) | exact HB.out))) : w.heap.size ≤ gb116)); have n3_ := z05.mk ((by rw [hg]; exact (below_size (by repeat (first | (with_reducible first | exact HB.out | apply z02 | apply z00 | apply z03) | exact HB.out))) : w.heap.size ≤ gb116)); clear HB; have HB := n0_; have BK116 := n1_; have GW116 := n2_; have GE116 := n3_; clear n0_ n1_ n2_ n3_; clear hb hbox hg) | ((with_reducible refine gate_dst (N := 3) rfl ?_); refine box_event ?hg (N := 3) ?hd (cs := #[.int .i64 a1_0, .int .i64 a1_1, .string a1_2, .bool a1_3]) (t := 46) ?hr ?_; (case hd => rfl); (case hg => rfl); (case hr => first | (go_simp; done) | (go_simp; rfl)); intro gb117 hg w22 hbox hb; have n0_ := z05.mk (blk_below (g := gb116) (o := .cells #[.string a0_0, .int .i64 a0_1, .bool a0_2] 48 (0, 0)) (by (with_reducible repeat (first | refine z07 ?_ _ | refine z08 ?_ | refine z06 ?_ _)); exact BK116.out) hb); have n1_ := z05.mk (below_step (by repeat (first | (with_reducible first | exact HB.out | apply z02 | apply z00 | apply z03 | refine z09 ?_ GE116.out) | exact HB.out)) hb); have n2_ := z05.mk (hbox); have n3_ := z05.mk ((by rw [hg]; exact (below_size (by repeat (first | (with_reducible first | exact HB.out | apply z02 | apply z00 | apply z03 | refine z09 ?_ GE116.out) | exact HB.out))) : w.heap.size ≤ gb117)); have n4_ := z05.mk ((by rw [hg]; exact (below_size (by repeat (first | (with_reducible first | exact HB.out | apply z02 | apply z00 | apply z03 | refine z09 ?_ GE116.out) | exact HB.out))) : w.heap.size ≤ gb117)); have n5_ := z05.mk ((by rw [hg]; exact Nat.ne_of_lt (blk_lt (g := gb116) (o := .cells #[.string a0_0, .int .i64 a0_1, .bool a0_2] 48 (0, 0)) (by (with_reducible repeat (first | refine z07 ?_ _ | refine z08 ?_ | refine z06 ?_ _)); exact BK116.out)) : gb116 ≠ gb117)); have n6_ := z05.mk ((by rw [hg]; exact Nat.ne_of_gt (blk_lt (g := gb116) (o := .cells #[.string a0_0, .int .i64 a0_1, .bool a0_2] 48 (0, 0)) (by (with_reducible repeat (first | refine z07 ?_ _ | refine z08 ?_ | refine z06 ?_ _)); exact BK116.out)) : gb117 ≠ gb116)); clear BK116; clear HB; have BK116 := n0_; have HB := n1_; have BK117 := n2_; have GW117 := n3_; have GE117 := n4_; have NB116_117 := n5_; have NB117_116 := n6_; clear n0_ n1_ n2_ n3_ n4_ n5_ n6_; clear hb hbox hg; have hnb23 := NB117_116.out; have hnc23 := NB116_117.out; have hcz24_0 : w22.cell? ⟨gb117, 0, none⟩ = some (.int .i64 a1_0) := (z04 BK117.out 0).trans rfl; have hcz24_1 : w22.cell? ⟨gb117, 1, none⟩ = some (.int .i64 a1_1) := (z04 BK117.out 1).trans rfl; have hcz24_2 : w22.cell? ⟨gb117, 2, none⟩ = some (.string a1_2) := (z04 BK117.out 2).trans rfl; have hcz24_3 : w22.cell? ⟨gb117, 3, none⟩ = some (.bool a1_3) := (z04 BK117.out 3).trans rfl; have hfz24_0 := z01 BK117.out 0; have hfz24_1 := z01 BK117.out 1; have hfz24_2 := z01 BK117.out 2; have hfz24_3 := z01 BK117.out 3) | ((with_reducible refine gate_callee (f := 37) rfl ?_); refine goesL_ (some 6) rfl rfl Tryd.func37 (by kernel_rfl) rfl #[.agg #[.int .i64 a1_0, .int .i64 a1_1, .string a1_2, .bool a1_3]] rfl (by (try simp only [List.map_toArray, List.map_cons, List.map_nil]); first | done | rfl | (simp only [List.length_drop, List.length_take]; rfl)) ?_; (with_reducible refine (value_May.calls a1_0 a1_1 a1_2 a1_3 true _ A3.out).mono ?_); rintro e w25 ⟨rfl, hb⟩; refine ⟨_, rfl, ?_⟩; have n0_ := z05.mk (blk_below (g := gb116) (o := .cells #[.string a0_0, .int .i64 a0_1, .bool a0_2] 48 (0, 0)) (by (with_reducible repeat (first | refine z07 ?_ _ | refine z08 ?_ | refine z06 ?_ _)); exact BK116.out) hb); have n1_ := z05.mk (blk_below (g := gb117) (o := .cells #[.int .i64 a1_0, .int .i64 a1_1, .string a1_2, .bool a1_3] 46 (0, 0)) (by (with_reducible repeat (first | refine z07 ?_ _ | refine z08 ?_ | refine z06 ?_ _)); exact BK117.out) hb); have n2_ := z05.mk (below_step (by repeat (first | (with_reducible first | exact HB.out | apply z02 | apply z00 | apply z03 | refine z09 ?_ GE116.out | refine z09 ?_ GE117.out) | exact HB.out)) hb); clear BK116; clear BK117; clear HB; have BK116 := n0_; have BK117 := n1_; have HB := n2_; clear n0_ n1_ n2_; (try clear hb); (try clear hb2); (try clear hk); (try clear hi); have hcz26_0 : w25.cell? ⟨gb117, 0, none⟩ = some (.int .i64 a1_0) := (z04 BK117.out 0).trans rfl; have hcz26_1 : w25.cell? ⟨gb117, 1, none⟩ = some (.int .i64 a1_1) := (z04 BK117.out 1).trans rfl; have hcz26_2 : w25.cell? ⟨gb117, 2, none⟩ = some (.string a1_2) := (z04 BK117.out 2).trans rfl; have hcz26_3 : w25.cell? ⟨gb117, 3, none⟩ = some (.bool a1_3) := (z04 BK117.out 3).trans rfl; have hfz26_0 := z01 BK117.out 0; have hfz26_1 := z01 BK117.out 1; have hfz26_2 := z01 BK117.out 2; have hfz26_3 := z01 BK117.out 3; have hcz27_0 : w25.cell? ⟨gb116, 0, none⟩ = some (.string a0_0) := (z04 BK116.out 0).trans rfl; have hcz27_1 : w25.cell? ⟨gb116, 1, none⟩ = some (.int .i64 a0_1) := (z04 BK116.out 1).trans rfl; have hcz27_2 : w25.cell? ⟨gb116, 2, none⟩ = some (.bool a0_2) := (z04 BK116.out 2).trans rfl; have hfz27_0 := z01 BK116.out 0; have hfz27_1 := z01 BK116.out 1; have hfz27_2 := z01 BK116.out 2))
        go_ret
        exact ⟨by first | rfl | (simp [errW_none, errW_some] <;> rfl) | (refine congrArg (fun b_ : Bool => Ending.returned (Value.bool b_)) ?_; simp; done) | (simp [*, errW_none, errW_some] <;> rfl), by repeat (first | (with_reducible first | exact HB.out | apply z02 | apply z00 | apply z03 | refine z09 ?_ GE116.out | refine z09 ?_ GE117.out) | exact HB.out)⟩
  · replace c4 := Bool.eq_false_iff.mpr c4
    subst c4
    have H1 : (some false) = some r := by rw [if_neg (show ¬ (false = true) by decide)] at H; exact H
    clear H
    have H := H1
    clear H1
    obtain rfl := Option.some.inj H
    go_enter Tryd.func32, Tryd.ntmps32
    go_wp2_with (first | ((with_reducible refine gate_dst (N := 2) rfl ?_); refine box_event ?hg (N := 2) ?hd (cs := #[.string a0_0, .int .i64 a0_1, .bool a0_2]) (t := 48) ?hr ?_; (case hd => rfl); (case hg => rfl); (case hr => first | (go_simp; done) | (go_simp; rfl)); intro gb116 hg w28 hbox hb; have n0_ := z05.mk (below_step (by repeat (first | (with_reducible first | exact HB.out | apply z02 | apply z00 | apply z03) | exact HB.out)) hb); have n1_ := z05.mk (hbox); have n2_ := z05.mk ((by rw [hg]; exact (below_size (by repeat (first | (with_reducible first | exact HB.out | apply z02 | apply z00 | apply z03) | exact HB.out))) : w.heap.size ≤ gb116)); have n3_ := z05.mk ((by rw [hg]; exact (below_size (by repeat (first | (with_reducible first | exact HB.out | apply z02 | apply z00 | apply z03) | exact HB.out))) : w.heap.size ≤ gb116)); clear HB; have HB := n0_; have BK116 := n1_; have GW116 := n2_; have GE116 := n3_; clear n0_ n1_ n2_ n3_; clear hb hbox hg) | ((with_reducible refine gate_dst (N := 3) rfl ?_); refine box_event ?hg (N := 3) ?hd (cs := #[.int .i64 a1_0, .int .i64 a1_1, .string a1_2, .bool a1_3]) (t := 46) ?hr ?_; (case hd => rfl); (case hg => rfl); (case hr => first | (go_simp; done) | (go_simp; rfl)); intro gb117 hg w29 hbox hb; have n0_ := z05.mk (blk_below (g := gb116) (o := .cells #[.string a0_0, .int .i64 a0_1, .bool a0_2] 48 (0, 0)) (by (with_reducible repeat (first | refine z07 ?_ _ | refine z08 ?_ | refine z06 ?_ _)); exact BK116.out) hb); have n1_ := z05.mk (below_step (by repeat (first | (with_reducible first | exact HB.out | apply z02 | apply z00 | apply z03 | refine z09 ?_ GE116.out) | exact HB.out)) hb); have n2_ := z05.mk (hbox); have n3_ := z05.mk ((by rw [hg]; exact (below_size (by repeat (first | (with_reducible first | exact HB.out | apply z02 | apply z00 | apply z03 | refine z09 ?_ GE116.out) | exact HB.out))) : w.heap.size ≤ gb117)); have n4_ := z05.mk ((by rw [hg]; exact (below_size (by repeat (first | (with_reducible first | exact HB.out | apply z02 | apply z00 | apply z03 | refine z09 ?_ GE116.out) | exact HB.out))) : w.heap.size ≤ gb117)); have n5_ := z05.mk ((by rw [hg]; exact Nat.ne_of_lt (blk_lt (g := gb116) (o := .cells #[.string a0_0, .int .i64 a0_1, .bool a0_2] 48 (0, 0)) (by (with_reducible repeat (first | refine z07 ?_ _ | refine z08 ?_ | refine z06 ?_ _)); exact BK116.out)) : gb116 ≠ gb117)); have n6_ := z05.mk ((by rw [hg]; exact Nat.ne_of_gt (blk_lt (g := gb116) (o := .cells #[.string a0_0, .int .i64 a0_1, .bool a0_2] 48 (0, 0)) (by (with_reducible repeat (first | refine z07 ?_ _ | refine z08 ?_ | refine z06 ?_ _)); exact BK116.out)) : gb117 ≠ gb116)); clear BK116; clear HB; have BK116 := n0_; have HB := n1_; have BK117 := n2_; have GW117 := n3_; have GE117 := n4_; have NB116_117 := n5_; have NB117_116 := n6_; clear n0_ n1_ n2_ n3_ n4_ n5_ n6_; clear hb hbox hg; have hnb30 := NB117_116.out; have hnc30 := NB116_117.out; have hcz31_0 : w29.cell? ⟨gb117, 0, none⟩ = some (.int .i64 a1_0) := (z04 BK117.out 0).trans rfl; have hcz31_1 : w29.cell? ⟨gb117, 1, none⟩ = some (.int .i64 a1_1) := (z04 BK117.out 1).trans rfl; have hcz31_2 : w29.cell? ⟨gb117, 2, none⟩ = some (.string a1_2) := (z04 BK117.out 2).trans rfl; have hcz31_3 : w29.cell? ⟨gb117, 3, none⟩ = some (.bool a1_3) := (z04 BK117.out 3).trans rfl; have hfz31_0 := z01 BK117.out 0; have hfz31_1 := z01 BK117.out 1; have hfz31_2 := z01 BK117.out 2; have hfz31_3 := z01 BK117.out 3) | ((with_reducible refine gate_callee (f := 37) rfl ?_); refine goesL_ (some 6) rfl rfl Tryd.func37 (by kernel_rfl) rfl #[.agg #[.int .i64 a1_0, .int .i64 a1_1, .string a1_2, .bool a1_3]] rfl (by (try simp only [List.map_toArray, List.map_cons, List.map_nil]); first | done | rfl | (simp only [List.length_drop, List.length_take]; rfl)) ?_; (with_reducible refine (value_May.calls a1_0 a1_1 a1_2 a1_3 false _ A3.out).mono ?_); rintro e w32 ⟨rfl, hb⟩; refine ⟨_, rfl, ?_⟩; have n0_ := z05.mk (blk_below (g := gb116) (o := .cells #[.string a0_0, .int .i64 a0_1, .bool a0_2] 48 (0, 0)) (by (with_reducible repeat (first | refine z07 ?_ _ | refine z08 ?_ | refine z06 ?_ _)); exact BK116.out) hb); have n1_ := z05.mk (blk_below (g := gb117) (o := .cells #[.int .i64 a1_0, .int .i64 a1_1, .string a1_2, .bool a1_3] 46 (0, 0)) (by (with_reducible repeat (first | refine z07 ?_ _ | refine z08 ?_ | refine z06 ?_ _)); exact BK117.out) hb); have n2_ := z05.mk (below_step (by repeat (first | (with_reducible first | exact HB.out | apply z02 | apply z00 | apply z03 | refine z09 ?_ GE116.out | refine z09 ?_ GE117.out) | exact HB.out)) hb); clear BK116; clear BK117; clear HB; have BK116 := n0_; have BK117 := n1_; have HB := n2_; clear n0_ n1_ n2_; (try clear hb); (try clear hb2); (try clear hk); (try clear hi)))
    go_ret
    exact ⟨by first | rfl | (simp [errW_none, errW_some] <;> rfl) | (refine congrArg (fun b_ : Bool => Ending.returned (Value.bool b_)) ?_; simp; done) | (simp [*, errW_none, errW_some] <;> rfl), by repeat (first | (with_reducible first | exact HB.out | apply z02 | apply z00 | apply z03 | refine z09 ?_ GE116.out | refine z09 ?_ GE117.out) | exact HB.out)⟩

/-! ### schema_Fits: function 18 -/
mutual
def schema_Fits.j0 : Nat → List (S46) → Bool → List (S48) → Int → Int → Int → Int → Option (Bool)
  | 0, _, _, _, _, _, _, _ => none
  | k + 1, x1, x17, x120000, x120001, x120002, x120003, x120004 => if x17 = true then (some false) else (schema_Fits.l0 k x1 x120000 (x120000.length : Int) 0)
def schema_Fits.l0 : Nat → List (S46) → List (S48) → Int → Int → Option (Bool)
  | 0, _, _, _, _ => none
  | k + 1, x1, x19, x20, x21 => if x21 < x20 then (if 0 ≤ x21 then (if x21 < (x19.length : Int) then (if x21 < (x1.length : Int) then ((schema_fits.f ((rd_T48 x19 x21).f0) ((rd_T48 x19 x21).f1) ((rd_T48 x19 x21).f2) ((rd_T46 x1 x21).f0) ((rd_T46 x1 x21).f1) ((rd_T46 x1 x21).f2) ((rd_T46 x1 x21).f3)).bind fun t124 => (if t124 = true then (schema_Fits.l0 k x1 x19 x20 (wrap64 (x21 + 1))) else (some false))) else (none)) else (none)) else (none)) else (some true)
end
def schema_Fits.f (k : Nat) (l0_0 : List (S48)) (a0_1 : Int) (a0_2 : Int) (a0_3 : Int) (a0_4 : Int) (l1 : List (S46)) : Option (Bool) := (schema_May.f l0_0 a0_1 a0_2 a0_3 a0_4).bind fun t120 => (if t120 = true then (schema_Fits.j0 k l1 ((l1.length : Int) != (l0_0.length : Int)) l0_0 a0_1 a0_2 a0_3 a0_4) else (schema_Fits.j0 k l1 true l0_0 a0_1 a0_2 a0_3 a0_4))
set_option maxHeartbeats 8000000 in
set_option maxRecDepth 100000 in
theorem schema_Fits.calls (k : Nat) (A0_0 : Option Addr) (c0_0 : Nat) (l0_0 : List (S48)) (a0_1 : Int) (a0_2 : Int) (a0_3 : Int) (a0_4 : Int) (A1 : Option Addr) (c1 : Nat) (l1 : List (S46)) (r : Bool) (w : World) (hr0_0 : Kd.C k48 w A0_0 l0_0.length l0_0) (hc0_0 : l0_0.length ≤ c0_0) (hr1 : Kd.C k46 w A1 l1.length l1) (hc1 : l1.length ≤ c1) (h : schema_Fits.f k l0_0 a0_1 a0_2 a0_3 a0_4 l1 = some r) :
    Calls Tryd.prog 18 #[.agg #[.slice A0_0 l0_0.length c0_0, .int .i64 a0_1, .int .i64 a0_2, .int .i64 a0_3, .int .i64 a0_4], .slice A1 l1.length c1] w fun e w' => e = .returned (.bool r) ∧ Below w.heap.size w w' := by
  have hu24 := Tryd.underlying24
  have hu48 := Tryd.underlying48
  have hu46 := Tryd.underlying46
  have HR0_0 := z05.mk hr0_0
  have HC0_0 := z05.mk hc0_0
  clear hr0_0 hc0_0
  have HR1 := z05.mk hr1
  have HC1 := z05.mk hc1
  clear hr1 hc1
  have HB := z05.mk (Below.refl w.heap.size w)
  have H : ((schema_May.f l0_0 a0_1 a0_2 a0_3 a0_4).bind fun t120 => (if t120 = true then (schema_Fits.j0 k l1 ((l1.length : Int) != (l0_0.length : Int)) l0_0 a0_1 a0_2 a0_3 a0_4) else (schema_Fits.j0 k l1 true l0_0 a0_1 a0_2 a0_3 a0_4))) = some r := h
  clear h
  have HC3 := z05.mk H
  clear H
  go_enter Tryd.func18, Tryd.ntmps18
  go_upto_region 1 with (first | ((with_reducible refine gate_dst (N := 2) rfl ?_); (try (refine gate_guard (by rfl) ?_; dsimp only)); refine box_event ?hg (N := 2) ?hd (cs := #[.slice A0_0 l0_0.length c0_0, .int .i64 a0_1, .int .i64 a0_2, .int .i64 a0_3, .int .i64 a0_4]) (t := 24) ?hr ?_; (case hd => rfl); (case hg => rfl); (case hr => first | (go_simp; done) | (go_simp; rfl)); intro gb119 hg w4 hbox hb; have n0_ := z05.mk (below_step (by repeat (first | (with_reducible first | exact HB.out | apply z02 | apply z00 | apply z03) | exact HB.out)) hb); have n1_ := z05.mk (hbox); have n2_ := z05.mk ((by rw [hg]; exact (below_size (by repeat (first | (with_reducible first | exact HB.out | apply z02 | apply z00 | apply z03) | exact HB.out))) : w.heap.size ≤ gb119)); have n3_ := z05.mk ((by rw [hg]; exact (below_size (by repeat (first | (with_reducible first | exact HB.out | apply z02 | apply z00 | apply z03) | exact HB.out))) : w.heap.size ≤ gb119)); clear HB; have HB := n0_; have BK119 := n1_; have GW119 := n2_; have GE119 := n3_; clear n0_ n1_ n2_ n3_; clear hb hbox hg))
  (try simp only [Act.put, List.setIfInBounds_toArray, List.set_cons_zero, List.set_cons_succ])
  go_cut [17] (fun v17 wc => ∃ (kq : Nat) (x17_2 : Bool), v17 = .bool x17_2 ∧ z05 (schema_Fits.j0 kq l1 x17_2 l0_0 a0_1 a0_2 a0_3 a0_4 = some r) ∧ z05 (kq ≤ k) ∧ z05 (wc.heap[gb119]? = some (.cells #[(.slice A0_0 l0_0.length c0_0), .int .i64 a0_1, .int .i64 a0_2, .int .i64 a0_3, .int .i64 a0_4] 24 (0, 0))) ∧ z05 (Below w.heap.size w wc))
  case first =>
    have H := HC3.out
    clear HC3
    replace H := Option.bind_eq_some_iff.mp H
    obtain ⟨t120, A50, H⟩ := H
    replace H : (if t120 = true then (schema_Fits.j0 k l1 ((l1.length : Int) != (l0_0.length : Int)) l0_0 a0_1 a0_2 a0_3 a0_4) else (schema_Fits.j0 k l1 true l0_0 a0_1 a0_2 a0_3 a0_4)) = some r := H
    have A5 := z05.mk A50
    clear A50
    by_cases c6 : t120 = true
    · subst c6
      have H1 : (schema_Fits.j0 k l1 ((l1.length : Int) != (l0_0.length : Int)) l0_0 a0_1 a0_2 a0_3 a0_4) = some r := by rw [if_pos rfl] at H; exact H
      clear H
      have H := H1
      clear H1
      have H' := z05.mk H
      clear H
      have hcz7_0 : w4.cell? ⟨gb119, 0, none⟩ = some (.slice A0_0 l0_0.length c0_0) := (z04 BK119.out 0).trans rfl
      have hcz7_1 : w4.cell? ⟨gb119, 1, none⟩ = some (.int .i64 a0_1) := (z04 BK119.out 1).trans rfl
      have hcz7_2 : w4.cell? ⟨gb119, 2, none⟩ = some (.int .i64 a0_2) := (z04 BK119.out 2).trans rfl
      have hcz7_3 : w4.cell? ⟨gb119, 3, none⟩ = some (.int .i64 a0_3) := (z04 BK119.out 3).trans rfl
      have hcz7_4 : w4.cell? ⟨gb119, 4, none⟩ = some (.int .i64 a0_4) := (z04 BK119.out 4).trans rfl
      have hfz7_0 := z01 BK119.out 0
      have hfz7_1 := z01 BK119.out 1
      have hfz7_2 := z01 BK119.out 2
      have hfz7_3 := z01 BK119.out 3
      have hfz7_4 := z01 BK119.out 4
      go_wp2_with (first | ((with_reducible refine gate_callee (f := 14) rfl ?_); refine goesL_ (some 8) rfl rfl Tryd.func14 (by kernel_rfl) rfl #[.agg #[.slice A0_0 l0_0.length c0_0, .int .i64 a0_1, .int .i64 a0_2, .int .i64 a0_3, .int .i64 a0_4]] rfl (by (try simp only [List.map_toArray, List.map_cons, List.map_nil]); first | done | rfl | (simp only [List.length_drop, List.length_take]; rfl)) ?_; (with_reducible refine (schema_May.calls _ _ l0_0 a0_1 a0_2 a0_3 a0_4 true _ ?side1 ?side2 A5.out).mono ?_); (case side1 => repeat (first | exact (Kd.C_below HR0_0.out HB.out) | (with_reducible refine Kd.C_alloc ?_ _) | (with_reducible refine Kd.C_drewN ?_ _) | (with_reducible refine Kd.C_drew ?_))); (case side2 => exact HC0_0.out); rintro e w8 ⟨rfl, hb⟩; refine ⟨_, rfl, ?_⟩; have n0_ := z05.mk (blk_below (g := gb119) (o := .cells #[.slice A0_0 l0_0.length c0_0, .int .i64 a0_1, .int .i64 a0_2, .int .i64 a0_3, .int .i64 a0_4] 24 (0, 0)) (by (with_reducible repeat (first | refine z07 ?_ _ | refine z08 ?_ | refine z06 ?_ _)); exact BK119.out) hb); have n1_ := z05.mk (below_step (by repeat (first | (with_reducible first | exact HB.out | apply z02 | apply z00 | apply z03 | refine z09 ?_ GE119.out) | exact HB.out)) hb); clear BK119; clear HB; have BK119 := n0_; have HB := n1_; clear n0_ n1_; (try clear hb); (try clear hb2); (try clear hk); (try clear hi); have hcz9_0 : w8.cell? ⟨gb119, 0, none⟩ = some (.slice A0_0 l0_0.length c0_0) := (z04 BK119.out 0).trans rfl; have hcz9_1 : w8.cell? ⟨gb119, 1, none⟩ = some (.int .i64 a0_1) := (z04 BK119.out 1).trans rfl; have hcz9_2 : w8.cell? ⟨gb119, 2, none⟩ = some (.int .i64 a0_2) := (z04 BK119.out 2).trans rfl; have hcz9_3 : w8.cell? ⟨gb119, 3, none⟩ = some (.int .i64 a0_3) := (z04 BK119.out 3).trans rfl; have hcz9_4 : w8.cell? ⟨gb119, 4, none⟩ = some (.int .i64 a0_4) := (z04 BK119.out 4).trans rfl; have hfz9_0 := z01 BK119.out 0; have hfz9_1 := z01 BK119.out 1; have hfz9_2 := z01 BK119.out 2; have hfz9_3 := z01 BK119.out 3; have hfz9_4 := z01 BK119.out 4))
      go_meet
      case rel => exact ⟨_, (((l1.length : Int) != (l0_0.length : Int))), (by first | rfl | (simp; done) | (simp [*]; done)), H', ⟨by first | omega | exact Nat.le_refl _⟩, ⟨by (with_reducible repeat (first | refine z07 ?_ _ | refine z08 ?_ | refine z06 ?_ _)); exact BK119.out⟩, ⟨by repeat (first | (with_reducible first | exact HB.out | apply z02 | apply z00 | apply z03 | refine z09 ?_ GE119.out) | exact HB.out)⟩⟩
    · replace c6 := Bool.eq_false_iff.mpr c6
      subst c6
      have H1 : (schema_Fits.j0 k l1 true l0_0 a0_1 a0_2 a0_3 a0_4) = some r := by rw [if_neg (show ¬ (false = true) by decide)] at H; exact H
      clear H
      have H := H1
      clear H1
      have H' := z05.mk H
      clear H
      have hcz10_0 : w4.cell? ⟨gb119, 0, none⟩ = some (.slice A0_0 l0_0.length c0_0) := (z04 BK119.out 0).trans rfl
      have hcz10_1 : w4.cell? ⟨gb119, 1, none⟩ = some (.int .i64 a0_1) := (z04 BK119.out 1).trans rfl
      have hcz10_2 : w4.cell? ⟨gb119, 2, none⟩ = some (.int .i64 a0_2) := (z04 BK119.out 2).trans rfl
      have hcz10_3 : w4.cell? ⟨gb119, 3, none⟩ = some (.int .i64 a0_3) := (z04 BK119.out 3).trans rfl
      have hcz10_4 : w4.cell? ⟨gb119, 4, none⟩ = some (.int .i64 a0_4) := (z04 BK119.out 4).trans rfl
      have hfz10_0 := z01 BK119.out 0
      have hfz10_1 := z01 BK119.out 1
      have hfz10_2 := z01 BK119.out 2
      have hfz10_3 := z01 BK119.out 3
      have hfz10_4 := z01 BK119.out 4
      go_wp2_with (first | ((with_reducible refine gate_callee (f := 14) rfl ?_); refine goesL_ (some 8) rfl rfl Tryd.func14 (by kernel_rfl) rfl #[.agg #[.slice A0_0 l0_0.length c0_0, .int .i64 a0_1, .int .i64 a0_2, .int .i64 a0_3, .int .i64 a0_4]] rfl (by (try simp only [List.map_toArray, List.map_cons, List.map_nil]); first | done | rfl | (simp only [List.length_drop, List.length_take]; rfl)) ?_; (with_reducible refine (schema_May.calls _ _ l0_0 a0_1 a0_2 a0_3 a0_4 false _ ?side1 ?side2 A5.out).mono ?_); (case side1 => repeat (first | exact (Kd.C_below HR0_0.out HB.out) | (with_reducible refine Kd.C_alloc ?_ _) | (with_reducible refine Kd.C_drewN ?_ _) | (with_reducible refine Kd.C_drew ?_))); (case side2 => exact HC0_0.out); rintro e w11 ⟨rfl, hb⟩; refine ⟨_, rfl, ?_⟩; have n0_ := z05.mk (blk_below (g := gb119) (o := .cells #[.slice A0_0 l0_0.length c0_0, .int .i64 a0_1, .int .i64 a0_2, .int .i64 a0_3, .int .i64 a0_4] 24 (0, 0)) (by (with_reducible repeat (first | refine z07 ?_ _ | refine z08 ?_ | refine z06 ?_ _)); exact BK119.out) hb); have n1_ := z05.mk (below_step (by repeat (first | (with_reducible first | exact HB.out | apply z02 | apply z00 | apply z03 | refine z09 ?_ GE119.out) | exact HB.out)) hb); clear BK119; clear HB; have BK119 := n0_; have HB := n1_; clear n0_ n1_; (try clear hb); (try clear hb2); (try clear hk); (try clear hi)))
      go_meet
      case rel => exact ⟨_, (true), (by first | rfl | (simp; done) | (simp [*]; done)), H', ⟨by first | omega | exact Nat.le_refl _⟩, ⟨by (with_reducible repeat (first | refine z07 ?_ _ | refine z08 ?_ | refine z06 ?_ _)); exact BK119.out⟩, ⟨by repeat (first | (with_reducible first | exact HB.out | apply z02 | apply z00 | apply z03 | refine z09 ?_ GE119.out) | exact HB.out)⟩⟩
  case rest =>
    clear HC3
    try clear c1
    try clear p2
    try clear c6
    try clear hcz10_0
    try clear hcz10_1
    try clear hcz10_2
    try clear hcz10_3
    try clear hcz10_4
    try clear hcz7_0
    try clear hcz7_1
    try clear hcz7_2
    try clear hcz7_3
    try clear hcz7_4
    try clear hcz9_0
    try clear hcz9_1
    try clear hcz9_2
    try clear hcz9_3
    try clear hcz9_4
    try clear hfz10_0
    try clear hfz10_1
    try clear hfz10_2
    try clear hfz10_3
    try clear hfz10_4
    try clear hfz7_0
    try clear hfz7_1
    try clear hfz7_2
    try clear hfz7_3
    try clear hfz7_4
    try clear hfz9_0
    try clear hfz9_1
    try clear hfz9_2
    try clear hfz9_3
    try clear hfz9_4
    obtain ⟨kq, x17_2, rfl, HA, HJ2, BK119, HB⟩ := hcut
    cases kq with
    | zero => exact absurd HA.out (by simp [schema_Fits.j0])
    | succ kj2 =>
      have H := HA.out
      clear HA
      simp only [schema_Fits.j0] at H
      by_cases c12 : x17_2 = true
      · subst c12
        have H1 : (some false) = some r := by rw [if_pos rfl] at H; exact H
        clear H
        have H := H1
        clear H1
        obtain rfl := Option.some.inj H
        go_wp2
        go_ret
        exact ⟨by first | rfl | (simp [errW_none, errW_some] <;> rfl) | (refine congrArg (fun b_ : Bool => Ending.returned (Value.bool b_)) ?_; simp; done) | (simp [*, errW_none, errW_some] <;> rfl), by repeat (first | (with_reducible first | exact HB.out | apply z02 | apply z00 | apply z03 | refine z09 ?_ GE119.out) | exact HB.out)⟩
      · replace c12 := Bool.eq_false_iff.mpr c12
        subst c12
        have H1 : (schema_Fits.l0 kj2 l1 l0_0 (l0_0.length : Int) 0) = some r := by rw [if_neg (show ¬ (false = true) by decide)] at H; exact H
        clear H
        have H := H1
        clear H1
        have H' := z05.mk H
        clear H
        have hcz13_0 : wc.cell? ⟨gb119, 0, none⟩ = some (.slice A0_0 l0_0.length c0_0) := (z04 BK119.out 0).trans rfl
        have hcz13_1 : wc.cell? ⟨gb119, 1, none⟩ = some (.int .i64 a0_1) := (z04 BK119.out 1).trans rfl
        have hcz13_2 : wc.cell? ⟨gb119, 2, none⟩ = some (.int .i64 a0_2) := (z04 BK119.out 2).trans rfl
        have hcz13_3 : wc.cell? ⟨gb119, 3, none⟩ = some (.int .i64 a0_3) := (z04 BK119.out 3).trans rfl
        have hcz13_4 : wc.cell? ⟨gb119, 4, none⟩ = some (.int .i64 a0_4) := (z04 BK119.out 4).trans rfl
        have hfz13_0 := z01 BK119.out 0
        have hfz13_1 := z01 BK119.out 1
        have hfz13_2 := z01 BK119.out 2
        have hfz13_3 := z01 BK119.out 3
        have hfz13_4 := z01 BK119.out 4
        go_wp2
        go_loopg [21] kj2 (fun kq v21 w' => ∃ (x21_2 : Int), v21 = .int .i64 x21_2 ∧ z05 (schema_Fits.l0 kq l1 l0_0 (l0_0.length : Int) x21_2 = some r) ∧ z05 (kq ≤ kj2) ∧ z05 (w'.heap[gb119]? = some (.cells #[(.slice A0_0 l0_0.length c0_0), .int .i64 a0_1, .int .i64 a0_2, .int .i64 a0_3, .int .i64 a0_4] 24 (0, 0))) ∧ z05 (Below w.heap.size w w'))
        case atStart => exact ⟨(0), (by first | rfl | (simp; done) | (simp [*]; done)), H', ⟨Nat.le_refl _⟩, ⟨by (with_reducible repeat (first | refine z07 ?_ _ | refine z08 ?_ | refine z06 ?_ _)); exact BK119.out⟩, ⟨by repeat (first | (with_reducible first | exact HB.out | apply z02 | apply z00 | apply z03 | refine z09 ?_ GE119.out) | exact HB.out)⟩⟩
        case round =>
          clear H'
          try clear c1
          try clear p2
          try clear c6
          try clear c12
          try clear hcz10_0
          try clear hcz10_1
          try clear hcz10_2
          try clear hcz10_3
          try clear hcz10_4
          try clear hcz13_0
          try clear hcz13_1
          try clear hcz13_2
          try clear hcz13_3
          try clear hcz13_4
          try clear hcz7_0
          try clear hcz7_1
          try clear hcz7_2
          try clear hcz7_3
          try clear hcz7_4
          try clear hcz9_0
          try clear hcz9_1
          try clear hcz9_2
          try clear hcz9_3
          try clear hcz9_4
          try clear hfz10_0
          try clear hfz10_1
          try clear hfz10_2
          try clear hfz10_3
          try clear hfz10_4
          try clear hfz13_0
          try clear hfz13_1
          try clear hfz13_2
          try clear hfz13_3
          try clear hfz13_4
          try clear hfz7_0
          try clear hfz7_1
          try clear hfz7_2
          try clear hfz7_3
          try clear hfz7_4
          try clear hfz9_0
          try clear hfz9_1
          try clear hfz9_2
          try clear hfz9_3
          try clear hfz9_4
          try clear p2
          obtain ⟨x21_2, rfl, HA, HK2, BK119, HB⟩ := hrel
          cases gk with
          | zero => exact absurd HA.out (by simp [schema_Fits.l0])
          | succ k2 =>
            have H := HA.out
            clear HA
            simp only [schema_Fits.l0] at H
            by_cases c14 : x21_2 < (l0_0.length : Int)
            · rw [if_pos c14] at H
              have c14b0 : decide (x21_2 < (l0_0.length : Int)) = true := decide_eq_true c14
              clear c14
              by_cases c15 : 0 ≤ x21_2
              · rw [if_pos c15] at H
                have c15b0 : decide (0 ≤ x21_2) = true := decide_eq_true c15
                clear c15
                by_cases c16 : x21_2 < (l0_0.length : Int)
                · rw [if_pos c16] at H
                  have c16b0 : decide (x21_2 < (l0_0.length : Int)) = true := decide_eq_true c16
                  clear c16
                  by_cases c17 : x21_2 < (l1.length : Int)
                  · rw [if_pos c17] at H
                    have c17b0 : decide (x21_2 < (l1.length : Int)) = true := decide_eq_true c17
                    clear c17
                    replace H := Option.bind_eq_some_iff.mp H
                    obtain ⟨t124, A180, H⟩ := H
                    replace H : (if t124 = true then (schema_Fits.l0 k2 l1 l0_0 (l0_0.length : Int) (wrap64 (x21_2 + 1))) else (some false)) = some r := H
                    have A18 := z05.mk A180
                    clear A180
                    by_cases c19 : t124 = true
                    · subst c19
                      have H1 : (schema_Fits.l0 k2 l1 l0_0 (l0_0.length : Int) (wrap64 (x21_2 + 1))) = some r := by rw [if_pos rfl] at H; exact H
                      clear H
                      have H := H1
                      clear H1
                      have H' := z05.mk H
                      clear H
                      have p121 : 0 ≤ (x21_2 : Int) := of_decide_eq_true (by first | (with_reducible assumption) | assumption)
                      have q121 : x21_2 < (l0_0.length : Int) := of_decide_eq_true (by first | (with_reducible assumption) | assumption)
                      obtain ⟨ad121, e121, hx121_0, hx121_1, hx121_2⟩ := at_T48 HR0_0.out x21_2 p121 q121
                      cases e121
                      replace hx121_0 := (HB.out.cell (World.block_lt_of_cell? w _ hx121_0)).trans hx121_0
                      replace hx121_1 := (HB.out.cell (World.block_lt_of_cell? w _ hx121_1)).trans hx121_1
                      replace hx121_2 := (HB.out.cell (World.block_lt_of_cell? w _ hx121_2)).trans hx121_2
                      replace p121 := eq_true p121
                      replace q121 := eq_true q121
                      try go_wp2_with (first | ((with_reducible refine gate_dst (N := 6) rfl ?_); (try (refine gate_guard (by rfl) ?_; dsimp only)); refine box_event ?hg (N := 6) ?hd (cs := #[.string (⟨#[]⟩ : ByteArray), .int .i64 0, .bool false]) (t := 48) ?hr ?_; (case hd => rfl); (case hg => rfl); (case hr => first | (go_simp; done) | (go_simp; rfl)); intro gb122 hg w20 hbox hb; have n0_ := z05.mk (blk_below (g := gb119) (o := .cells #[.slice (some ad121) l0_0.length c0_0, .int .i64 a0_1, .int .i64 a0_2, .int .i64 a0_3, .int .i64 a0_4] 24 (0, 0)) (by (with_reducible repeat (first | refine z07 ?_ _ | refine z08 ?_ | refine z06 ?_ _)); exact BK119.out) hb); have n1_ := z05.mk (below_step (by repeat (first | (with_reducible first | exact HB.out | apply z02 | apply z00 | apply z03 | refine z09 ?_ GE119.out) | exact HB.out)) hb); have n2_ := z05.mk (hbox); have n3_ := z05.mk ((by rw [hg]; exact (below_size (by repeat (first | (with_reducible first | exact HB.out | apply z02 | apply z00 | apply z03 | refine z09 ?_ GE119.out) | exact HB.out))) : w.heap.size ≤ gb122)); have n4_ := z05.mk ((by rw [hg]; exact (below_size (by repeat (first | (with_reducible first | exact HB.out | apply z02 | apply z00 | apply z03 | refine z09 ?_ GE119.out) | exact HB.out))) : w.heap.size ≤ gb122)); have n5_ := z05.mk ((by rw [hg]; exact Nat.ne_of_lt (blk_lt (g := gb119) (o := .cells #[.slice (some ad121) l0_0.length c0_0, .int .i64 a0_1, .int .i64 a0_2, .int .i64 a0_3, .int .i64 a0_4] 24 (0, 0)) (by (with_reducible repeat (first | refine z07 ?_ _ | refine z08 ?_ | refine z06 ?_ _)); exact BK119.out)) : gb119 ≠ gb122)); have n6_ := z05.mk ((by rw [hg]; exact Nat.ne_of_gt (blk_lt (g := gb119) (o := .cells #[.slice (some ad121) l0_0.length c0_0, .int .i64 a0_1, .int .i64 a0_2, .int .i64 a0_3, .int .i64 a0_4] 24 (0, 0)) (by (with_reducible repeat (first | refine z07 ?_ _ | refine z08 ?_ | refine z06 ?_ _)); exact BK119.out)) : gb122 ≠ gb119)); clear BK119; clear HB; have BK119 := n0_; have HB := n1_; have BK122 := n2_; have GW122 := n3_; have GE122 := n4_; have NB119_122 := n5_; have NB122_119 := n6_; clear n0_ n1_ n2_ n3_ n4_ n5_ n6_; clear hb hbox hg; have hnb21 := NB122_119.out; have hnc21 := NB119_122.out; have hcz22_0 : w20.cell? ⟨gb122, 0, none⟩ = some (.string (⟨#[]⟩ : ByteArray)) := (z04 BK122.out 0).trans rfl; have hcz22_1 : w20.cell? ⟨gb122, 1, none⟩ = some (.int .i64 0) := (z04 BK122.out 1).trans rfl; have hcz22_2 : w20.cell? ⟨gb122, 2, none⟩ = some (.bool false) := (z04 BK122.out 2).trans rfl; have hfz22_0 := z01 BK122.out 0; have hfz22_1 := z01 BK122.out 1; have hfz22_2 := z01 BK122.out 2))
                      have n0_ : z05 ((((w20.setCell ⟨gb122, 0, none⟩ (.string ((rd_T48 l0_0 x21_2).f0))).setCell ⟨gb122, 1, none⟩ (.int .i64 ((rd_T48 l0_0 x21_2).f1))).setCell ⟨gb122, 2, none⟩ (.bool ((rd_T48 l0_0 x21_2).f2))).heap[gb119]? = some (.cells #[.slice (some ad121) l0_0.length c0_0, .int .i64 a0_1, .int .i64 a0_2, .int .i64 a0_3, .int .i64 a0_4] 24 (0, 0))) := ⟨by (with_reducible repeat (first | refine z07 ?_ _ | refine z08 ?_ | refine z06 ?_ _)); refine blk_far ?_ NB119_122.out _; (with_reducible repeat (first | refine z07 ?_ _ | refine z08 ?_ | refine z06 ?_ _)); refine blk_far ?_ NB119_122.out _; (with_reducible repeat (first | refine z07 ?_ _ | refine z08 ?_ | refine z06 ?_ _)); refine blk_far ?_ NB119_122.out _; (with_reducible repeat (first | refine z07 ?_ _ | refine z08 ?_ | refine z06 ?_ _)); exact BK119.out⟩
                      have n1_ : z05 ((((w20.setCell ⟨gb122, 0, none⟩ (.string ((rd_T48 l0_0 x21_2).f0))).setCell ⟨gb122, 1, none⟩ (.int .i64 ((rd_T48 l0_0 x21_2).f1))).setCell ⟨gb122, 2, none⟩ (.bool ((rd_T48 l0_0 x21_2).f2))).heap[gb122]? = some (.cells #[.string ((rd_T48 l0_0 x21_2).f0), .int .i64 ((rd_T48 l0_0 x21_2).f1), .bool ((rd_T48 l0_0 x21_2).f2)] 48 (0, 0))) := ⟨by (with_reducible repeat (first | refine z07 ?_ _ | refine z08 ?_ | refine z06 ?_ _)); refine blk_put (cs := #[.string ((rd_T48 l0_0 x21_2).f0), .int .i64 ((rd_T48 l0_0 x21_2).f1), .bool false]) ?_ 2 _ rfl; (with_reducible repeat (first | refine z07 ?_ _ | refine z08 ?_ | refine z06 ?_ _)); refine blk_put (cs := #[.string ((rd_T48 l0_0 x21_2).f0), .int .i64 0, .bool false]) ?_ 1 _ rfl; (with_reducible repeat (first | refine z07 ?_ _ | refine z08 ?_ | refine z06 ?_ _)); refine blk_put (cs := #[.string (⟨#[]⟩ : ByteArray), .int .i64 0, .bool false]) ?_ 0 _ rfl; (with_reducible repeat (first | refine z07 ?_ _ | refine z08 ?_ | refine z06 ?_ _)); exact BK122.out⟩
                      have n2_ : z05 (Below w.heap.size w (((w20.setCell ⟨gb122, 0, none⟩ (.string ((rd_T48 l0_0 x21_2).f0))).setCell ⟨gb122, 1, none⟩ (.int .i64 ((rd_T48 l0_0 x21_2).f1))).setCell ⟨gb122, 2, none⟩ (.bool ((rd_T48 l0_0 x21_2).f2)))) := ⟨by repeat (first | (with_reducible first | exact HB.out | apply z02 | apply z00 | apply z03 | refine z09 ?_ GE119.out | refine z09 ?_ GE122.out) | exact HB.out)⟩
                      (try clear BK119); (try clear BK122); (try clear HB)
                      generalize (((w20.setCell ⟨gb122, 0, none⟩ (.string ((rd_T48 l0_0 x21_2).f0))).setCell ⟨gb122, 1, none⟩ (.int .i64 ((rd_T48 l0_0 x21_2).f1))).setCell ⟨gb122, 2, none⟩ (.bool ((rd_T48 l0_0 x21_2).f2))) = w23 at n0_ n1_ n2_ ⊢
                      have BK119 := n0_; have BK122 := n1_; have HB := n2_; clear n0_ n1_ n2_; have n0_ := z05.mk (z08 BK119.out); have n1_ := z05.mk (z08 BK122.out); have n2_ := z05.mk (z03 HB.out); clear BK119; clear BK122; clear HB; have BK119 := n0_; have BK122 := n1_; have HB := n2_; clear n0_ n1_ n2_
                      have p123 : 0 ≤ (x21_2 : Int) := of_decide_eq_true (by first | (with_reducible assumption) | assumption)
                      have q123 : x21_2 < (l1.length : Int) := of_decide_eq_true (by first | (with_reducible assumption) | assumption)
                      obtain ⟨ad123, e123, hx123_0, hx123_1, hx123_2, hx123_3⟩ := at_T46 HR1.out x21_2 p123 q123
                      have hw123_3 := hx123_3
                      have hw123_2 := hx123_2
                      have hw123_1 := hx123_1
                      have hw123_0 := hx123_0
                      cases e123
                      replace hx123_0 := (HB.out.cell (World.block_lt_of_cell? w _ hx123_0)).trans hx123_0
                      replace hx123_1 := (HB.out.cell (World.block_lt_of_cell? w _ hx123_1)).trans hx123_1
                      replace hx123_2 := (HB.out.cell (World.block_lt_of_cell? w _ hx123_2)).trans hx123_2
                      replace hx123_3 := (HB.out.cell (World.block_lt_of_cell? w _ hx123_3)).trans hx123_3
                      replace p123 := eq_true p123
                      replace q123 := eq_true q123
                      refine start_ (n := 7) (S := fun w' => w'.cell? ⟨gb122, 0, none⟩ = some (.string ((rd_T48 l0_0 x21_2).f0)) ∧ w'.cell? ⟨gb122, 1, none⟩ = some (.int .i64 ((rd_T48 l0_0 x21_2).f1)) ∧ w'.cell? ⟨gb122, 2, none⟩ = some (.bool ((rd_T48 l0_0 x21_2).f2)) ∧ w'.cell? (ad123.add ((x21_2).toNat * 4)) = some (.int .i64 ((rd_T46 l1 x21_2).f0)) ∧ w'.cell? ⟨(ad123.add ((x21_2).toNat * 4)).block, (ad123.add ((x21_2).toNat * 4)).off + 1, none⟩ = some (.int .i64 ((rd_T46 l1 x21_2).f1)) ∧ w'.cell? ⟨(ad123.add ((x21_2).toNat * 4)).block, (ad123.add ((x21_2).toNat * 4)).off + 2, none⟩ = some (.string ((rd_T46 l1 x21_2).f2)) ∧ w'.cell? ⟨(ad123.add ((x21_2).toNat * 4)).block, (ad123.add ((x21_2).toNat * 4)).off + 3, none⟩ = some (.bool ((rd_T46 l1 x21_2).f3))) (ds := []) #[false, false, false, false, false, false, false] (by kernel_rfl) rfl rfl ⟨(z04 BK122.out 0).trans rfl, (z04 BK122.out 1).trans rfl, (z04 BK122.out 2).trans rfl, ((HB.out.cell (World.block_lt_of_cell? w _ hw123_0)).trans hw123_0), ((HB.out.cell (World.block_lt_of_cell? w _ hw123_1)).trans hw123_1), ((HB.out.cell (World.block_lt_of_cell? w _ hw123_2)).trans hw123_2), ((HB.out.cell (World.block_lt_of_cell? w _ hw123_3)).trans hw123_3)⟩ (fun hHeld => ?_)
                      generalize w23.drew = w24 at BK119 BK122 HB hx123_0 hx123_1 hx123_2 hx123_3 hHeld ⊢
                      refine pure_ (i := 1) (N := some 27) (v := ?_) (a' := ?_) #[false, true, false, false, false, false, false] rfl rfl (by kernel_rfl) (fun _ _ _ h => h) (Or.inl ⟨by rfl, ?_⟩) ?_ ?_
                      rotate_left
                      · intro w'
                        go_simp
                        with_reducible rfl
                      rotate_left
                      · simp only [Act.put, List.setIfInBounds_toArray, List.set_cons_zero, List.set_cons_succ, i64_w, i32_w]
                        rfl
                      refine pure_ (i := 2) (N := some 28) (v := ?_) (a' := ?_) #[false, true, true, false, false, false, false] rfl rfl (by kernel_rfl) (fun _ _ _ h => h) (Or.inl ⟨by rfl, ?_⟩) ?_ ?_
                      rotate_left
                      · intro w'
                        go_simp
                        with_reducible rfl
                      rotate_left
                      · simp only [Act.put, List.setIfInBounds_toArray, List.set_cons_zero, List.set_cons_succ, i64_w, i32_w]
                        rfl
                      refine pure_ (i := 3) (N := some 29) (v := ?_) (a' := ?_) #[false, true, true, true, false, false, false] rfl rfl (by kernel_rfl) (fun _ _ _ h => h) (Or.inl ⟨by rfl, ?_⟩) ?_ ?_
                      rotate_left
                      · intro w'
                        go_simp
                        with_reducible rfl
                      rotate_left
                      · simp only [Act.put, List.setIfInBounds_toArray, List.set_cons_zero, List.set_cons_succ, i64_w, i32_w]
                        rfl
                      refine take_ (i := 0) (N := some 26) (v := ?_) (a' := ?_) #[true, true, true, true, false, false, false] rfl rfl (by kernel_rfl) (fun _ _ _ h => h) (Or.inl ⟨by rfl, ?_⟩) hHeld ?_ ?_
                      rotate_left
                      · rintro w' ⟨s0, s1, s2, s3, s4, s5, s6⟩
                        go_simp
                        with_reducible rfl
                      rotate_left
                      · simp only [Act.put, List.setIfInBounds_toArray, List.set_cons_zero, List.set_cons_succ, i64_w, i32_w]
                        rfl
                      refine take_ (i := 4) (N := some 30) (v := ?_) (a' := ?_) #[true, true, true, true, true, false, false] rfl rfl (by kernel_rfl) (fun _ _ _ h => h) (Or.inl ⟨by rfl, ?_⟩) hHeld ?_ ?_
                      rotate_left
                      · rintro w' ⟨s0, s1, s2, s3, s4, s5, s6⟩
                        go_simp
                        with_reducible rfl
                      rotate_left
                      · simp only [Act.put, List.setIfInBounds_toArray, List.set_cons_zero, List.set_cons_succ, i64_w, i32_w]
                        rfl
                      refine one_ (i := 5) (N := some 31) #[true, true, true, true, true, true, false] rfl rfl (by kernel_rfl) (by decide) (fun K hK => ?_)
                      refine goes_ Tryd.func32 (by kernel_rfl) rfl #[.agg #[.string ((rd_T48 l0_0 x21_2).f0), .int .i64 ((rd_T48 l0_0 x21_2).f1), .bool ((rd_T48 l0_0 x21_2).f2)], .agg #[.int .i64 ((rd_T46 l1 x21_2).f0), .int .i64 ((rd_T46 l1 x21_2).f1), .string ((rd_T46 l1 x21_2).f2), .bool ((rd_T46 l1 x21_2).f3)]] (by rfl) rfl rfl (by (try simp only [List.map_toArray, List.map_cons, List.map_nil]); first | done | rfl | (simp only [List.length_drop, List.length_take]; rfl)) ?_
                      with_reducible refine (schema_fits.calls ((rd_T48 l0_0 x21_2).f0) ((rd_T48 l0_0 x21_2).f1) ((rd_T48 l0_0 x21_2).f2) ((rd_T46 l1 x21_2).f0) ((rd_T46 l1 x21_2).f1) ((rd_T46 l1 x21_2).f2) ((rd_T46 l1 x21_2).f3) true _ A18.out).mono ?_
                      rintro e w25 ⟨rfl, hb⟩
                      refine ⟨_, rfl, ?_⟩
                      have n0_ := z05.mk (blk_below (g := gb119) (o := .cells #[.slice (some ad121) l0_0.length c0_0, .int .i64 a0_1, .int .i64 a0_2, .int .i64 a0_3, .int .i64 a0_4] 24 (0, 0)) (by (with_reducible repeat (first | refine z07 ?_ _ | refine z08 ?_ | refine z06 ?_ _)); exact BK119.out) hb); have n1_ := z05.mk (blk_below (g := gb122) (o := .cells #[.string ((rd_T48 l0_0 x21_2).f0), .int .i64 ((rd_T48 l0_0 x21_2).f1), .bool ((rd_T48 l0_0 x21_2).f2)] 48 (0, 0)) (by (with_reducible repeat (first | refine z07 ?_ _ | refine z08 ?_ | refine z06 ?_ _)); exact BK122.out) hb); have n2_ := z05.mk (below_step (by repeat (first | (with_reducible first | exact HB.out | apply z02 | apply z00 | apply z03 | refine z09 ?_ GE119.out | refine z09 ?_ GE122.out) | exact HB.out)) hb); clear BK119; clear BK122; clear HB; have BK119 := n0_; have BK122 := n1_; have HB := n2_; clear n0_ n1_ n2_; (try clear hb); (try clear hb2); (try clear hk); (try clear hi)
                      refine hK.out _ _ ⟨(z04 BK122.out 0).trans rfl, (z04 BK122.out 1).trans rfl, (z04 BK122.out 2).trans rfl, ((HB.out.cell (World.block_lt_of_cell? w _ hw123_0)).trans hw123_0), ((HB.out.cell (World.block_lt_of_cell? w _ hw123_1)).trans hw123_1), ((HB.out.cell (World.block_lt_of_cell? w _ hw123_2)).trans hw123_2), ((HB.out.cell (World.block_lt_of_cell? w _ hw123_3)).trans hw123_3)⟩ (fun hHeld => ?_)
                      clear hK K
                      refine norm_ (a' := ?_) ?_ ?_
                      rotate_left
                      · show Act.put _ (some 31) _ = _
                        simp only [Act.put, List.setIfInBounds_toArray, List.set_cons_zero, List.set_cons_succ, i64_w, i32_w]
                        rfl
                      refine pure_ (i := 6) (N := some 32) (v := ?_) (a' := ?_) #[true, true, true, true, true, true, true] rfl rfl (by kernel_rfl) (fun _ _ _ h => h) (Or.inl ⟨by rfl, ?_⟩) ?_ ?_
                      rotate_left
                      · intro w'
                        go_simp
                        with_reducible rfl
                      rotate_left
                      · simp only [Act.put, List.setIfInBounds_toArray, List.set_cons_zero, List.set_cons_succ, i64_w, i32_w]
                        rfl
                      refine done_ (by kernel_rfl) ?_
                      try go_wp2
                      go_roundg k2
                      case measure => have := HJ2.out; have := HK2.out; omega
                      case rel => exact ⟨(wrap64 (x21_2 + 1)), (by first | rfl | (simp; done) | (simp [*]; done)), H', ⟨by have := HJ2.out; have := HK2.out; omega⟩, ⟨by (with_reducible repeat (first | refine z07 ?_ _ | refine z08 ?_ | refine z06 ?_ _)); exact BK119.out⟩, ⟨by repeat (first | (with_reducible first | exact HB.out | apply z02 | apply z00 | apply z03 | refine z09 ?_ GE119.out | refine z09 ?_ GE122.out) | exact HB.out)⟩⟩
                    · replace c19 := Bool.eq_false_iff.mpr c19
                      subst c19
                      have H1 : (some false) = some r := by rw [if_neg (show ¬ (false = true) by decide)] at H; exact H
                      clear H
                      have H := H1
                      clear H1
                      obtain rfl := Option.some.inj H
                      have p121 : 0 ≤ (x21_2 : Int) := of_decide_eq_true (by first | (with_reducible assumption) | assumption)
                      have q121 : x21_2 < (l0_0.length : Int) := of_decide_eq_true (by first | (with_reducible assumption) | assumption)
                      obtain ⟨ad121, e121, hx121_0, hx121_1, hx121_2⟩ := at_T48 HR0_0.out x21_2 p121 q121
                      cases e121
                      replace hx121_0 := (HB.out.cell (World.block_lt_of_cell? w _ hx121_0)).trans hx121_0
                      replace hx121_1 := (HB.out.cell (World.block_lt_of_cell? w _ hx121_1)).trans hx121_1
                      replace hx121_2 := (HB.out.cell (World.block_lt_of_cell? w _ hx121_2)).trans hx121_2
                      replace p121 := eq_true p121
                      replace q121 := eq_true q121
                      try go_wp2_with (first | ((with_reducible refine gate_dst (N := 6) rfl ?_); (try (refine gate_guard (by rfl) ?_; dsimp only)); refine box_event ?hg (N := 6) ?hd (cs := #[.string (⟨#[]⟩ : ByteArray), .int .i64 0, .bool false]) (t := 48) ?hr ?_; (case hd => rfl); (case hg => rfl); (case hr => first | (go_simp; done) | (go_simp; rfl)); intro gb122 hg w26 hbox hb; have n0_ := z05.mk (blk_below (g := gb119) (o := .cells #[.slice (some ad121) l0_0.length c0_0, .int .i64 a0_1, .int .i64 a0_2, .int .i64 a0_3, .int .i64 a0_4] 24 (0, 0)) (by (with_reducible repeat (first | refine z07 ?_ _ | refine z08 ?_ | refine z06 ?_ _)); exact BK119.out) hb); have n1_ := z05.mk (below_step (by repeat (first | (with_reducible first | exact HB.out | apply z02 | apply z00 | apply z03 | refine z09 ?_ GE119.out) | exact HB.out)) hb); have n2_ := z05.mk (hbox); have n3_ := z05.mk ((by rw [hg]; exact (below_size (by repeat (first | (with_reducible first | exact HB.out | apply z02 | apply z00 | apply z03 | refine z09 ?_ GE119.out) | exact HB.out))) : w.heap.size ≤ gb122)); have n4_ := z05.mk ((by rw [hg]; exact (below_size (by repeat (first | (with_reducible first | exact HB.out | apply z02 | apply z00 | apply z03 | refine z09 ?_ GE119.out) | exact HB.out))) : w.heap.size ≤ gb122)); have n5_ := z05.mk ((by rw [hg]; exact Nat.ne_of_lt (blk_lt (g := gb119) (o := .cells #[.slice (some ad121) l0_0.length c0_0, .int .i64 a0_1, .int .i64 a0_2, .int .i64 a0_3, .int .i64 a0_4] 24 (0, 0)) (by (with_reducible repeat (first | refine z07 ?_ _ | refine z08 ?_ | refine z06 ?_ _)); exact BK119.out)) : gb119 ≠ gb122)); have n6_ := z05.mk ((by rw [hg]; exact Nat.ne_of_gt (blk_lt (g := gb119) (o := .cells #[.slice (some ad121) l0_0.length c0_0, .int .i64 a0_1, .int .i64 a0_2, .int .i64 a0_3, .int .i64 a0_4] 24 (0, 0)) (by (with_reducible repeat (first | refine z07 ?_ _ | refine z08 ?_ | refine z06 ?_ _)); exact BK119.out)) : gb122 ≠ gb119)); clear BK119; clear HB; have BK119 := n0_; have HB := n1_; have BK122 := n2_; have GW122 := n3_; have GE122 := n4_; have NB119_122 := n5_; have NB122_119 := n6_; clear n0_ n1_ n2_ n3_ n4_ n5_ n6_; clear hb hbox hg; have hnb27 := NB122_119.out; have hnc27 := NB119_122.out; have hcz28_0 : w26.cell? ⟨gb122, 0, none⟩ = some (.string (⟨#[]⟩ : ByteArray)) := (z04 BK122.out 0).trans rfl; have hcz28_1 : w26.cell? ⟨gb122, 1, none⟩ = some (.int .i64 0) := (z04 BK122.out 1).trans rfl; have hcz28_2 : w26.cell? ⟨gb122, 2, none⟩ = some (.bool false) := (z04 BK122.out 2).trans rfl; have hfz28_0 := z01 BK122.out 0; have hfz28_1 := z01 BK122.out 1; have hfz28_2 := z01 BK122.out 2))
                      have n0_ : z05 ((((w26.setCell ⟨gb122, 0, none⟩ (.string ((rd_T48 l0_0 x21_2).f0))).setCell ⟨gb122, 1, none⟩ (.int .i64 ((rd_T48 l0_0 x21_2).f1))).setCell ⟨gb122, 2, none⟩ (.bool ((rd_T48 l0_0 x21_2).f2))).heap[gb119]? = some (.cells #[.slice (some ad121) l0_0.length c0_0, .int .i64 a0_1, .int .i64 a0_2, .int .i64 a0_3, .int .i64 a0_4] 24 (0, 0))) := ⟨by (with_reducible repeat (first | refine z07 ?_ _ | refine z08 ?_ | refine z06 ?_ _)); refine blk_far ?_ NB119_122.out _; (with_reducible repeat (first | refine z07 ?_ _ | refine z08 ?_ | refine z06 ?_ _)); refine blk_far ?_ NB119_122.out _; (with_reducible repeat (first | refine z07 ?_ _ | refine z08 ?_ | refine z06 ?_ _)); refine blk_far ?_ NB119_122.out _; (with_reducible repeat (first | refine z07 ?_ _ | refine z08 ?_ | refine z06 ?_ _)); exact BK119.out⟩
                      have n1_ : z05 ((((w26.setCell ⟨gb122, 0, none⟩ (.string ((rd_T48 l0_0 x21_2).f0))).setCell ⟨gb122, 1, none⟩ (.int .i64 ((rd_T48 l0_0 x21_2).f1))).setCell ⟨gb122, 2, none⟩ (.bool ((rd_T48 l0_0 x21_2).f2))).heap[gb122]? = some (.cells #[.string ((rd_T48 l0_0 x21_2).f0), .int .i64 ((rd_T48 l0_0 x21_2).f1), .bool ((rd_T48 l0_0 x21_2).f2)] 48 (0, 0))) := ⟨by (with_reducible repeat (first | refine z07 ?_ _ | refine z08 ?_ | refine z06 ?_ _)); refine blk_put (cs := #[.string ((rd_T48 l0_0 x21_2).f0), .int .i64 ((rd_T48 l0_0 x21_2).f1), .bool false]) ?_ 2 _ rfl; (with_reducible repeat (first | refine z07 ?_ _ | refine z08 ?_ | refine z06 ?_ _)); refine blk_put (cs := #[.string ((rd_T48 l0_0 x21_2).f0), .int .i64 0, .bool false]) ?_ 1 _ rfl; (with_reducible repeat (first | refine z07 ?_ _ | refine z08 ?_ | refine z06 ?_ _)); refine blk_put (cs := #[.string (⟨#[]⟩ : ByteArray), .int .i64 0, .bool false]) ?_ 0 _ rfl; (with_reducible repeat (first | refine z07 ?_ _ | refine z08 ?_ | refine z06 ?_ _)); exact BK122.out⟩
                      have n2_ : z05 (Below w.heap.size w (((w26.setCell ⟨gb122, 0, none⟩ (.string ((rd_T48 l0_0 x21_2).f0))).setCell ⟨gb122, 1, none⟩ (.int .i64 ((rd_T48 l0_0 x21_2).f1))).setCell ⟨gb122, 2, none⟩ (.bool ((rd_T48 l0_0 x21_2).f2)))) := ⟨by repeat (first | (with_reducible first | exact HB.out | apply z02 | apply z00 | apply z03 | refine z09 ?_ GE119.out | refine z09 ?_ GE122.out) | exact HB.out)⟩
                      (try clear BK119); (try clear BK122); (try clear HB)
                      generalize (((w26.setCell ⟨gb122, 0, none⟩ (.string ((rd_T48 l0_0 x21_2).f0))).setCell ⟨gb122, 1, none⟩ (.int .i64 ((rd_T48 l0_0 x21_2).f1))).setCell ⟨gb122, 2, none⟩ (.bool ((rd_T48 l0_0 x21_2).f2))) = w29 at n0_ n1_ n2_ ⊢
                      have BK119 := n0_; have BK122 := n1_; have HB := n2_; clear n0_ n1_ n2_; have n0_ := z05.mk (z08 BK119.out); have n1_ := z05.mk (z08 BK122.out); have n2_ := z05.mk (z03 HB.out); clear BK119; clear BK122; clear HB; have BK119 := n0_; have BK122 := n1_; have HB := n2_; clear n0_ n1_ n2_
                      have p123 : 0 ≤ (x21_2 : Int) := of_decide_eq_true (by first | (with_reducible assumption) | assumption)
                      have q123 : x21_2 < (l1.length : Int) := of_decide_eq_true (by first | (with_reducible assumption) | assumption)
                      obtain ⟨ad123, e123, hx123_0, hx123_1, hx123_2, hx123_3⟩ := at_T46 HR1.out x21_2 p123 q123
                      have hw123_3 := hx123_3
                      have hw123_2 := hx123_2
                      have hw123_1 := hx123_1
                      have hw123_0 := hx123_0
                      cases e123
                      replace hx123_0 := (HB.out.cell (World.block_lt_of_cell? w _ hx123_0)).trans hx123_0
                      replace hx123_1 := (HB.out.cell (World.block_lt_of_cell? w _ hx123_1)).trans hx123_1
                      replace hx123_2 := (HB.out.cell (World.block_lt_of_cell? w _ hx123_2)).trans hx123_2
                      replace hx123_3 := (HB.out.cell (World.block_lt_of_cell? w _ hx123_3)).trans hx123_3
                      replace p123 := eq_true p123
                      replace q123 := eq_true q123
                      refine start_ (n := 7) (S := fun w' => w'.cell? ⟨gb122, 0, none⟩ = some (.string ((rd_T48 l0_0 x21_2).f0)) ∧ w'.cell? ⟨gb122, 1, none⟩ = some (.int .i64 ((rd_T48 l0_0 x21_2).f1)) ∧ w'.cell? ⟨gb122, 2, none⟩ = some (.bool ((rd_T48 l0_0 x21_2).f2)) ∧ w'.cell? (ad123.add ((x21_2).toNat * 4)) = some (.int .i64 ((rd_T46 l1 x21_2).f0)) ∧ w'.cell? ⟨(ad123.add ((x21_2).toNat * 4)).block, (ad123.add ((x21_2).toNat * 4)).off + 1, none⟩ = some (.int .i64 ((rd_T46 l1 x21_2).f1)) ∧ w'.cell? ⟨(ad123.add ((x21_2).toNat * 4)).block, (ad123.add ((x21_2).toNat * 4)).off + 2, none⟩ = some (.string ((rd_T46 l1 x21_2).f2)) ∧ w'.cell? ⟨(ad123.add ((x21_2).toNat * 4)).block, (ad123.add ((x21_2).toNat * 4)).off + 3, none⟩ = some (.bool ((rd_T46 l1 x21_2).f3))) (ds := []) #[false, false, false, false, false, false, false] (by kernel_rfl) rfl rfl ⟨(z04 BK122.out 0).trans rfl, (z04 BK122.out 1).trans rfl, (z04 BK122.out 2).trans rfl, ((HB.out.cell (World.block_lt_of_cell? w _ hw123_0)).trans hw123_0), ((HB.out.cell (World.block_lt_of_cell? w _ hw123_1)).trans hw123_1), ((HB.out.cell (World.block_lt_of_cell? w _ hw123_2)).trans hw123_2), ((HB.out.cell (World.block_lt_of_cell? w _ hw123_3)).trans hw123_3)⟩ (fun hHeld => ?_)
                      generalize w29.drew = w30 at BK119 BK122 HB hx123_0 hx123_1 hx123_2 hx123_3 hHeld ⊢
                      refine pure_ (i := 1) (N := some 27) (v := ?_) (a' := ?_) #[false, true, false, false, false, false, false] rfl rfl (by kernel_rfl) (fun _ _ _ h => h) (Or.inl ⟨by rfl, ?_⟩) ?_ ?_
                      rotate_left
                      · intro w'
                        go_simp
                        with_reducible rfl
                      rotate_left
                      · simp only [Act.put, List.setIfInBounds_toArray, List.set_cons_zero, List.set_cons_succ, i64_w, i32_w]
                        rfl
                      refine pure_ (i := 2) (N := some 28) (v := ?_) (a' := ?_) #[false, true, true, false, false, false, false] rfl rfl (by kernel_rfl) (fun _ _ _ h => h) (Or.inl ⟨by rfl, ?_⟩) ?_ ?_
                      rotate_left
                      · intro w'
                        go_simp
                        with_reducible rfl
                      rotate_left
                      · simp only [Act.put, List.setIfInBounds_toArray, List.set_cons_zero, List.set_cons_succ, i64_w, i32_w]
                        rfl
                      refine pure_ (i := 3) (N := some 29) (v := ?_) (a' := ?_) #[false, true, true, true, false, false, false] rfl rfl (by kernel_rfl) (fun _ _ _ h => h) (Or.inl ⟨by rfl, ?_⟩) ?_ ?_
                      rotate_left
                      · intro w'
                        go_simp
                        with_reducible rfl
                      rotate_left
                      · simp only [Act.put, List.setIfInBounds_toArray, List.set_cons_zero, List.set_cons_succ, i64_w, i32_w]
                        rfl
                      refine take_ (i := 0) (N := some 26) (v := ?_) (a' := ?_) #[true, true, true, true, false, false, false] rfl rfl (by kernel_rfl) (fun _ _ _ h => h) (Or.inl ⟨by rfl, ?_⟩) hHeld ?_ ?_
                      rotate_left
                      · rintro w' ⟨s0, s1, s2, s3, s4, s5, s6⟩
                        go_simp
                        with_reducible rfl
                      rotate_left
                      · simp only [Act.put, List.setIfInBounds_toArray, List.set_cons_zero, List.set_cons_succ, i64_w, i32_w]
                        rfl
                      refine take_ (i := 4) (N := some 30) (v := ?_) (a' := ?_) #[true, true, true, true, true, false, false] rfl rfl (by kernel_rfl) (fun _ _ _ h => h) (Or.inl ⟨by rfl, ?_⟩) hHeld ?_ ?_
                      rotate_left
                      · rintro w' ⟨s0, s1, s2, s3, s4, s5, s6⟩
                        go_simp
                        with_reducible rfl
                      rotate_left
                      · simp only [Act.put, List.setIfInBounds_toArray, List.set_cons_zero, List.set_cons_succ, i64_w, i32_w]
                        rfl
                      refine one_ (i := 5) (N := some 31) #[true, true, true, true, true, true, false] rfl rfl (by kernel_rfl) (by decide) (fun K hK => ?_)
                      refine goes_ Tryd.func32 (by kernel_rfl) rfl #[.agg #[.string ((rd_T48 l0_0 x21_2).f0), .int .i64 ((rd_T48 l0_0 x21_2).f1), .bool ((rd_T48 l0_0 x21_2).f2)], .agg #[.int .i64 ((rd_T46 l1 x21_2).f0), .int .i64 ((rd_T46 l1 x21_2).f1), .string ((rd_T46 l1 x21_2).f2), .bool ((rd_T46 l1 x21_2).f3)]] (by rfl) rfl rfl (by (try simp only [List.map_toArray, List.map_cons, List.map_nil]); first | done | rfl | (simp only [List.length_drop, List.length_take]; rfl)) ?_
                      with_reducible refine (schema_fits.calls ((rd_T48 l0_0 x21_2).f0) ((rd_T48 l0_0 x21_2).f1) ((rd_T48 l0_0 x21_2).f2) ((rd_T46 l1 x21_2).f0) ((rd_T46 l1 x21_2).f1) ((rd_T46 l1 x21_2).f2) ((rd_T46 l1 x21_2).f3) false _ A18.out).mono ?_
                      rintro e w31 ⟨rfl, hb⟩
                      refine ⟨_, rfl, ?_⟩
                      have n0_ := z05.mk (blk_below (g := gb119) (o := .cells #[.slice (some ad121) l0_0.length c0_0, .int .i64 a0_1, .int .i64 a0_2, .int .i64 a0_3, .int .i64 a0_4] 24 (0, 0)) (by (with_reducible repeat (first | refine z07 ?_ _ | refine z08 ?_ | refine z06 ?_ _)); exact BK119.out) hb); have n1_ := z05.mk (blk_below (g := gb122) (o := .cells #[.string ((rd_T48 l0_0 x21_2).f0), .int .i64 ((rd_T48 l0_0 x21_2).f1), .bool ((rd_T48 l0_0 x21_2).f2)] 48 (0, 0)) (by (with_reducible repeat (first | refine z07 ?_ _ | refine z08 ?_ | refine z06 ?_ _)); exact BK122.out) hb); have n2_ := z05.mk (below_step (by repeat (first | (with_reducible first | exact HB.out | apply z02 | apply z00 | apply z03 | refine z09 ?_ GE119.out | refine z09 ?_ GE122.out) | exact HB.out)) hb); clear BK119; clear BK122; clear HB; have BK119 := n0_; have BK122 := n1_; have HB := n2_; clear n0_ n1_ n2_; (try clear hb); (try clear hb2); (try clear hk); (try clear hi)
                      refine hK.out _ _ ⟨(z04 BK122.out 0).trans rfl, (z04 BK122.out 1).trans rfl, (z04 BK122.out 2).trans rfl, ((HB.out.cell (World.block_lt_of_cell? w _ hw123_0)).trans hw123_0), ((HB.out.cell (World.block_lt_of_cell? w _ hw123_1)).trans hw123_1), ((HB.out.cell (World.block_lt_of_cell? w _ hw123_2)).trans hw123_2), ((HB.out.cell (World.block_lt_of_cell? w _ hw123_3)).trans hw123_3)⟩ (fun hHeld => ?_)
                      clear hK K
                      refine norm_ (a' := ?_) ?_ ?_
                      rotate_left
                      · show Act.put _ (some 31) _ = _
                        simp only [Act.put, List.setIfInBounds_toArray, List.set_cons_zero, List.set_cons_succ, i64_w, i32_w]
                        rfl
                      refine pure_ (i := 6) (N := some 32) (v := ?_) (a' := ?_) #[true, true, true, true, true, true, true] rfl rfl (by kernel_rfl) (fun _ _ _ h => h) (Or.inl ⟨by rfl, ?_⟩) ?_ ?_
                      rotate_left
                      · intro w'
                        go_simp
                        with_reducible rfl
                      rotate_left
                      · simp only [Act.put, List.setIfInBounds_toArray, List.set_cons_zero, List.set_cons_succ, i64_w, i32_w]
                        rfl
                      refine done_ (by kernel_rfl) ?_
                      try go_wp2
                      go_ret
                      exact ⟨by first | rfl | (simp [errW_none, errW_some] <;> rfl) | (refine congrArg (fun b_ : Bool => Ending.returned (Value.bool b_)) ?_; simp; done) | (simp [*, errW_none, errW_some] <;> rfl), by repeat (first | (with_reducible first | exact HB.out | apply z02 | apply z00 | apply z03 | refine z09 ?_ GE119.out | refine z09 ?_ GE122.out) | exact HB.out)⟩
                  · rw [if_neg c17] at H
                    exact absurd H (by simp)
                · rw [if_neg c16] at H
                  exact absurd H (by simp)
              · rw [if_neg c15] at H
                exact absurd H (by simp)
            · rw [if_neg c14] at H
              have c14b0 : decide (x21_2 < (l0_0.length : Int)) = false := decide_eq_false c14
              clear c14
              obtain rfl := Option.some.inj H
              go_wp2
              go_ret
              exact ⟨by first | rfl | (simp [errW_none, errW_some] <;> rfl) | (refine congrArg (fun b_ : Bool => Ending.returned (Value.bool b_)) ?_; simp; done) | (simp [*, errW_none, errW_some] <;> rfl), by repeat (first | (with_reducible first | exact HB.out | apply z02 | apply z00 | apply z03 | refine z09 ?_ GE119.out) | exact HB.out)⟩

end Go.Proofs.YteefchdfdgfaaaaDoor.Q
