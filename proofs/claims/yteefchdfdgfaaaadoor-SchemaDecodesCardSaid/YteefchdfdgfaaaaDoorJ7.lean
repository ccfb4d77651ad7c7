/- Chapter 07: few columns, light rows, rows that are the same. Chapter 07: what bytes are decoded to, and back, in plain words. The machine side of laws, written by wip/tools/myprint.py (the printer's way, with functions proved by hand put in); Lean checks it. Chapter 07: SchemaBack, SchemaOnly, SchemaApart answer true. What the document's Get and GetLen of layer 1 answer, in plain words. Chapter 07: what the document's functions answer. Chapter 07: SchemaTells, SchemaDecodes answer true. Chapter 07: a law's call with a schema that is read as data. What a law's arguments are, read as data: opened to rows of any kind. What the listed variables of the library give: the handle of the type error. -/
import Derived.Test.YteefchdfdgfaaaaDoorJ0
import Derived.Test.YteefchdfdgfaaaaDoorJ4
import Derived.Test.YteefchdfdgfaaaaDoorJ1
import Derived.Test.YteefchdfdgfaaaaDoorQx33
import Derived.Test.YteefchdfdgfaaaaDoorJ2
import Derived.Test.YteefchdfdgfaaaaDoorJ3
import Derived.Test.YteefchdfdgfaaaaDoorQx12
import Derived.Test.YteefchdfdgfaaaaDoorJ5
import Derived.Test.YteefchdfdgfaaaaDoorQx18
import Derived.Test.YteefchdfdgfaaaaDoorJ6
import Derived.Test.YteefchdfdgfaaaaDoorQx32
import Derived.Test.YteefchdfdgfaaaaDoorQx5
import Derived.Test.YteefchdfdgfaaaaDoorQx22
import Derived.Deep.Slices
import Derived.Deep.Fields
import Derived.ChangeSame
import Derived.OpenShut
import Derived.Test.YteefchdfdgfaaaaDoorWWords
import Derived.Test.YteefchdfdgfaaaaDoorWArr
import Derived.Test.YteefchdfdgfaaaaDoorWMore
import Derived.Test.YteefchdfdgfaaaaDoorRows
import Derived.ProofKit
import Derived.LaidMore
import Derived.Lay
import Derived.LaidLaws
import Derived.LaidHandle
import Derived.Stop.Joined
namespace Go.Proofs.YteefchdfdgfaaaaDoor.Q
open Go.RowKit Go.Proofs.YteefchdfdgfaaaaDoorW.PrintWords Go.Proofs.YteefchdfdgfaaaaDoorW.PrintLast Go.Proofs.YteefchdfdgfaaaaDoorW.PrintMore
attribute [local go_sem] max2_int min2_int max_two min_two max_three min_three max_four min_four   -- for this text's walks alone
set_option linter.unusedVariables false
set_option linter.unusedSimpArgs false

-- SAYS Chapter 07: few columns, light rows, rows that are the same.
-- FUNCS winnower/winnowerref07.Few
-- NEEDS winnowerref07_Few.f winnowerref07_Light.f winnowerref06_Same.f
-- IMPORT Derived.Test.YteefchdfdgfaaaaDoorHnum
-- IMPORT Derived.Test.YteefchdfdgfaaaaDoorHval
-- IMPORT Derived.Test.YteefchdfdgfaaaaDoorHsch07
open Go.Proofs.YteefchdfdgfaaaaDoor.Hnum Go.Proofs.YteefchdfdgfaaaaDoor.Hval
/-- Few columns, of short names. -/
def fewC (l : List S48) : Bool := decide (l.length ≤ 12) && l.all fun x => decide (x.f0.size ≤ 100)
theorem few07_go {l : List S48} (hl : l.length ≤ 12) (a1 a2 a3 a4 : Int) (q : Nat) : ∀ (d i : Nat), i + d = l.length → winnowerref07_Few.l0 (d + q + 1) (i : Int) l a1 a2 a3 a4 = some ((l.drop i).all fun x => decide (x.f0.size ≤ 100)) := by
  intro d
  induction d with
  | zero =>
    intro i hi
    rw [Nat.zero_add]
    unfold winnowerref07_Few.l0
    rw [if_neg (by omega), List.drop_of_length_le (by omega)]
    rfl
  | succ d ih =>
    intro i hi
    have hk : i < l.length := by omega
    rw [show d + 1 + q + 1 = (d + q + 1) + 1 by omega]
    unfold winnowerref07_Few.l0
    rw [if_pos (by omega), if_pos (by omega), rd48_at hk, wr1 (by omega), ih (i + 1) (by omega), List.drop_eq_getElem_cons hk, List.all_cons]
    by_cases h : (l[i].f0.size : Int) > 100
    · rw [if_pos h, decide_eq_false (show ¬ l[i].f0.size ≤ 100 by omega)]; rfl
    · rw [if_neg h, decide_eq_true (show l[i].f0.size ≤ 100 by omega)]; rfl
theorem few07_tell (l : List S48) (a1 a2 a3 a4 : Int) {k : Nat} (hk : l.length + 1 ≤ k) : winnowerref07_Few.f k l a1 a2 a3 a4 = some (fewC l) := by
  obtain ⟨q, rfl⟩ : ∃ q, k = l.length + q + 1 := ⟨k - l.length - 1, by omega⟩
  clear hk
  unfold winnowerref07_Few.f fewC
  by_cases h : (l.length : Int) > 12
  · rw [if_pos h, decide_eq_false (show ¬ l.length ≤ 12 by omega)]; rfl
  · rw [if_neg h, decide_eq_true (show l.length ≤ 12 by omega)]
    have g := few07_go (l := l) (by omega) a1 a2 a3 a4 q l.length 0 (by omega)
    exact g
/-- Are two rows the same? -/
theorem same06_one (a b : S46) : (!((a.f0 == b.f0)) || (!((a.f1 == b.f1)) || (!((a.f2.toList == b.f2.toList)) || !((a.f3 == b.f3))))) = !decide (a = b) := by
  by_cases h : a = b
  · subst h
    simp
  · rw [decide_eq_false h]
    cases a with
    | mk a0 a1 a2 a3 =>
      cases b with
      | mk b0 b1 b2 b3 =>
        by_cases e0 : a0 = b0
        · by_cases e1 : a1 = b1
          · by_cases e2 : a2.toList = b2.toList
            · by_cases e3 : a3 = b3
              · exact absurd (by rw [e0, e1, bytes_ext e2, e3]) h
              · simp [e3]
            · simp [e2]
          · simp [e1]
        · simp [e0]
theorem same06_go {a b : List S46} (hl : a.length = b.length) (h9 : a.length ≤ 1000000) (q : Nat) : ∀ (d i : Nat), i + d = a.length → winnowerref06_Same.l0 (d + q + 1) a b (i : Int) = some (decide (a.drop i = b.drop i)) := by
  intro d
  induction d with
  | zero =>
    intro i hi
    rw [Nat.zero_add]
    unfold winnowerref06_Same.l0
    rw [if_neg (by omega), List.drop_of_length_le (by omega), List.drop_of_length_le (by omega)]
    rfl
  | succ d ih =>
    intro i hi
    have hk : i < a.length := by omega
    have hk2 : i < b.length := by omega
    rw [show d + 1 + q + 1 = (d + q + 1) + 1 by omega]
    unfold winnowerref06_Same.l0
    rw [if_pos (by omega), if_pos (by omega), if_pos (by omega), rd46_at hk, rd46_at hk2, same06_one, wr1 (by omega), ih (i + 1) (by omega), List.drop_eq_getElem_cons hk, List.drop_eq_getElem_cons hk2]
    by_cases h : a[i] = b[i]
    · rw [decide_eq_true h, if_neg (by decide)]
      exact congrArg some (decide_eq_decide.2 ⟨fun e => by rw [h, e], fun e => (List.cons.inj e).2⟩)
    · rw [decide_eq_false h, if_pos (by decide)]
      exact congrArg some (decide_eq_false (fun e => h (List.cons.inj e).1)).symm
theorem same06_tell (a b : List S46) (h9 : a.length ≤ 1000000) {k : Nat} (hk : a.length + 1 ≤ k) : winnowerref06_Same.f k a b = some (decide (a = b)) := by
  obtain ⟨q, rfl⟩ : ∃ q, k = a.length + q + 1 := ⟨k - a.length - 1, by omega⟩
  clear hk
  unfold winnowerref06_Same.f
  by_cases hl : a.length = b.length
  · rw [if_pos (by omega)]
    have g := same06_go hl h9 q a.length 0 (by omega)
    exact g
  · rw [if_neg (by omega)]
    exact congrArg some (decide_eq_false (fun e => hl (by rw [e]))).symm

end Go.Proofs.YteefchdfdgfaaaaDoor.Q
namespace Go.Proofs.YteefchdfdgfaaaaDoor.Q
open Go.RowKit Go.Proofs.YteefchdfdgfaaaaDoorW.PrintWords Go.Proofs.YteefchdfdgfaaaaDoorW.PrintLast Go.Proofs.YteefchdfdgfaaaaDoorW.PrintMore
attribute [local go_sem] max2_int min2_int max_two min_two max_three min_three max_four min_four   -- for this text's walks alone
set_option linter.unusedVariables false
set_option linter.unusedSimpArgs false

-- SAYS Chapter 07: what bytes are decoded to, and back, in plain words.
-- FUNCS winnower/winnowerlaw07.SchemaBack winnower/winnowerlaw07.SchemaOnly winnower/winnowerlaw07.SchemaApart
-- NEEDS schema_Encode.f schema_Fits.f schema_May.f schema_Find.f schema_fits.f value_Get.f schema_Decode.f winnowerref01_Same.f
-- IMPORT Derived.Test.YteefchdfdgfaaaaDoorHnum
-- IMPORT Derived.Test.YteefchdfdgfaaaaDoorHval
-- IMPORT Derived.Test.YteefchdfdgfaaaaDoorHsch07
-- IMPORT Derived.Test.YteefchdfdgfaaaaDoorHsch07f
open Go.Proofs.YteefchdfdgfaaaaDoor.Hnum Go.Proofs.YteefchdfdgfaaaaDoor.Hval
/-- What a column's bytes are. -/
def colV (x : S48) (l : List Int) : Got :=
  if x.f2 = true then (if l = [] then bad 6 else if 1 < rd l 0 then bad 7 else if rd l 0 = 0 then (0, 0, ⟨#[]⟩, false, 1, 0) else fin1 1 (getV (l.drop 1) x.f1))
  else fin1 0 (getV l x.f1)
theorem Bytes.drop' {l : List Int} (hb : Bytes l) (n : Nat) : Bytes (l.drop n) := fun x hx => hb x (List.mem_of_mem_drop hx)
theorem col_tell {x : S48} {l : List Int} (hb : Bytes l) (hl : l.length ≤ 1000000) : schema_column.f x.f2 x.f1 l = some (colV x l) := by
  unfold schema_column.f colV
  split
  · split
    · rfl
    · split
      · rfl
      · split
        · rfl
        · rw [value_Get.tell (Bytes.drop' hb 1) (by rw [List.length_drop]; omega)]
          rfl
  · rw [value_Get.tell hb (by omega)]
    rfl
theorem getV_err {l : List Int} (hb : Bytes l) {kind : Int} (h1 : 1 ≤ kind) (h3 : kind ≤ 3) {e : Int} (h : getV l kind = bad e) (he : e ≠ 0) : e ≠ 1 := by
  rintro rfl
  unfold getV at h
  rw [if_neg (by omega)] at h
  split at h
  · split at h
    · simp [good, bad] at h
    · rename_i hg
      rcases getn_cases hb with ⟨e, he, h67⟩ | ⟨u, n, he, _⟩
      · rw [he] at h
        simp only [bad, Prod.mk.injEq] at h
        omega
      · rw [he] at hg
        exact absurd rfl hg
  · split at h
    · split at h
      · split at h
        · simp [bad] at h
        · split at h
          · simp [bad] at h
          · simp [good, bad] at h
      · rename_i hg
        rcases getl_cases hb with ⟨e, he, h67⟩ | ⟨u, n, he, _⟩
        · rw [he] at h
          simp only [bad, Prod.mk.injEq] at h
          omega
        · rw [he] at hg
          exact absurd rfl hg
    · split at h
      · split at h
        · simp [bad] at h
        · split at h
          · simp [bad] at h
          · simp [good, bad] at h
      · exact absurd h3 (by omega)
/-- A column of a schema that may be has a kind. -/
def kindC (x : S48) : Prop := 1 ≤ x.f1 ∧ x.f1 ≤ 3
theorem fin1_bad (h e : Int) (he : e ≠ 0) : fin1 h (bad e) = bad e := by unfold fin1; rw [if_neg he]
theorem fin1_good (h : Int) (v : V) (n : Int) : fin1 h (good v n) = good v (wrap64 (h + n)) := by unfold fin1; rw [if_pos rfl]
theorem col_cases {x : S48} (hk : kindC x) {l : List Int} (hb : Bytes l) (hl : l.length ≤ 1000000) :
    (∃ e, colV x l = bad e ∧ e ≠ 0 ∧ e ≠ 1) ∨ ∃ (v : S46) (n : Nat), colV x l = good (tv v) n ∧ fitC x v = true ∧ encV x v = l.take n ∧ n ≤ l.length ∧ i64 v.f1 := by
  unfold colV
  by_cases hn : x.f2 = true
  · rw [if_pos hn]
    by_cases h0 : l = []
    · rw [if_pos h0]; exact .inl ⟨6, rfl, by decide, by decide⟩
    · rw [if_neg h0]
      obtain ⟨y, t, rfl⟩ := List.exists_cons_of_ne_nil h0
      have hy := hb y (List.mem_cons_self ..)
      rw [show rd (y :: t) 0 = y from rfl, show List.drop 1 (y :: t) = t from rfl]
      by_cases h1 : 1 < y
      · rw [if_pos h1]; exact .inl ⟨7, rfl, by decide, by decide⟩
      · rw [if_neg h1]
        by_cases h2 : y = 0
        · rw [if_pos h2]
          refine .inr ⟨⟨0, 0, ⟨#[]⟩, false⟩, 1, rfl, ?_, ?_, by simp, by decide⟩
          · unfold fitC tv
            rw [show V.may ⟨0, 0, ⟨#[]⟩, false⟩ = true from V.may_null, hn]
            simp
          · unfold encV
            rw [if_pos hn, if_pos rfl, h2]
            rfl
        · rw [if_neg h2]
          have hy1 : y = 1 := by omega
          subst hy1
          have hb' : Bytes t := fun z hz => hb z (List.mem_cons_of_mem _ hz)
          have hl' : t.length + 1 ≤ 1000000 := hl
          rcases getV_cases hb' x.f1 with ⟨e, he, h3, h4⟩ | ⟨v, n, hv, hm, hvk, hvb, hvn, hvi⟩
          · rw [he, fin1_bad 1 e h3]
            exact .inl ⟨e, rfl, h3, getV_err hb' hk.1 hk.2 he h3⟩
          · rw [hv, fin1_good, show wrap64 (1 + (n : Int)) = ((n + 1 : Nat) : Int) by rw [Int.add_comm]; exact wr1 (by omega)]
            refine .inr ⟨⟨v.k, v.i, v.s, v.b⟩, n + 1, rfl, ?_, ?_, by simp; omega, hvi⟩
            · unfold fitC tv
              simp only
              rw [show V.may ⟨v.k, v.i, v.s, v.b⟩ = true from hm, decide_eq_true hvk]
              rfl
            · unfold encV tv
              simp only
              rw [if_pos hn, if_neg (by unfold kindC at hk; omega), show V.bytes ⟨v.k, v.i, v.s, v.b⟩ = v.bytes from rfl, hvb]
              rfl
  · rw [if_neg hn]
    rcases getV_cases hb x.f1 with ⟨e, he, h3, h4⟩ | ⟨v, n, hv, hm, hvk, hvb, hvn, hvi⟩
    · rw [he, fin1_bad 0 e h3]
      exact .inl ⟨e, rfl, h3, getV_err hb hk.1 hk.2 he h3⟩
    · rw [hv, fin1_good, show wrap64 (0 + (n : Int)) = (n : Int) by unfold wrap64; omega]
      refine .inr ⟨⟨v.k, v.i, v.s, v.b⟩, n, rfl, ?_, ?_, hvn, hvi⟩
      · unfold fitC tv
        simp only
        rw [show V.may ⟨v.k, v.i, v.s, v.b⟩ = true from hm, decide_eq_true hvk]
        rfl
      · unfold encV tv
        rw [if_neg hn]
        exact hvb
theorem decC_cons {x : S48} {t : List S48} {b : List Int} {acc : List S46} (hb : Bytes b) (hl : b.length ≤ 1000000) : decC (x :: t) b acc = if (colV x b).2.2.2.2.2 = 0 then (if 0 ≤ (colV x b).2.2.2.2.1 ∧ (colV x b).2.2.2.2.1 ≤ (b.length : Int) then decC t (b.drop (colV x b).2.2.2.2.1.toNat) (acc ++ [⟨(colV x b).1, (colV x b).2.1, (colV x b).2.2.1, (colV x b).2.2.2.1⟩]) else none) else some ([], (colV x b).2.2.2.2.2) := by
  rw [decC, col_tell hb hl, Option.bind_some]
theorem dec_cases : ∀ (l : List S48) (b : List Int) (acc : List S46), (∀ x ∈ l, kindC x) → Bytes b → b.length ≤ 1000000 →
    (∃ e, decC l b acc = some ([], e) ∧ e ≠ 0 ∧ e ≠ 1) ∨ ∃ row : List S46, row.length = l.length ∧ fitAll l row = true ∧ encS l row = b ∧ (∀ v ∈ row, i64 v.f1) ∧ decC l b acc = some (acc ++ row, 0)
  | [], b, acc, _, _, _ => by
    by_cases h : b = []
    · exact .inr ⟨[], rfl, rfl, h.symm, by simp, by rw [decC, if_pos h, List.append_nil]⟩
    · exact .inl ⟨7, by rw [decC, if_neg h], by decide, by decide⟩
  | x :: t, b, acc, hk, hb, hl => by
    rw [decC_cons hb hl]
    rcases col_cases (hk x (List.mem_cons_self ..)) hb hl with ⟨e, he, h0, h1⟩ | ⟨v, n, he, hf, hv, hn, hi⟩
    · rw [he]
      simp only
      rw [if_neg h0]
      exact .inl ⟨e, rfl, h0, h1⟩
    · rw [he]
      simp only
      rw [if_pos trivial, if_pos ⟨by omega, by omega⟩, Int.toNat_natCast]
      rcases dec_cases t (b.drop n) (acc ++ [v]) (fun y hy => hk y (List.mem_cons_of_mem _ hy)) (Bytes.drop' hb n) (by rw [List.length_drop]; omega) with ⟨e, he, h0, h1⟩ | ⟨row, r1, r2, r3, r4, r5⟩
      · exact .inl ⟨e, he, h0, h1⟩
      · refine .inr ⟨v :: row, by rw [List.length_cons, List.length_cons, r1], ?_, ?_, ?_, ?_⟩
        · unfold fitAll; rw [hf, r2]; rfl
        · unfold encS; rw [hv, r3, List.take_append_drop]
        · intro z hz
          rcases List.mem_cons.mp hz with rfl | hz
          · exact hi
          · exact r4 z hz
        · refine Eq.trans r5 ?_
          rw [List.append_assoc]
          rfl
/-- What a schema that may be says of its columns. -/
theorem colsS_kind : ∀ (L l : List S48) (i : Int), colsS L l i = true → ∀ x ∈ l, kindC x
  | _, [], _, _, x, hx => by cases hx
  | L, y :: t, i, h, x, hx => by
    unfold colsS at h
    rw [Bool.and_eq_true, Bool.and_eq_true, Bool.and_eq_true, Bool.and_eq_true, decide_eq_true_eq, decide_eq_true_eq] at h
    obtain ⟨_, h1, h3, _, ht⟩ := h
    rcases List.mem_cons.mp hx with rfl | hx
    · exact ⟨h1, h3⟩
    · exact colsS_kind L t (i + 1) ht x hx
theorem mayS_kind {l : List S48} {a1 a2 a3 a4 : Int} (h : mayS l a1 a2 a3 a4 = true) : ∀ x ∈ l, kindC x := by
  unfold mayS at h
  rw [Bool.and_eq_true] at h
  exact colsS_kind l l 0 h.1
theorem dec_tell (l : List S48) (hl : l.length ≤ 1000) (a1 a2 a3 a4 : Int) (b : List Int) : schema_Decode.f l a1 a2 a3 a4 b = if mayS l a1 a2 a3 a4 = true then decC l b [] else some ([], 1) := by
  unfold schema_Decode.f
  rw [if_pos hl]
theorem fewC_len {l : List S48} (h : fewC l = true) : l.length ≤ 12 := by
  unfold fewC at h
  rw [Bool.and_eq_true, decide_eq_true_eq] at h
  exact h.1

end Go.Proofs.YteefchdfdgfaaaaDoor.Q
namespace Go.Proofs.YteefchdfdgfaaaaDoor.Q
open Go.RowKit Go.Proofs.YteefchdfdgfaaaaDoorW.PrintWords Go.Proofs.YteefchdfdgfaaaaDoorW.PrintLast Go.Proofs.YteefchdfdgfaaaaDoorW.PrintMore
attribute [local go_sem] max2_int min2_int max_two min_two max_three min_three max_four min_four   -- for this text's walks alone
set_option linter.unusedVariables false
set_option linter.unusedSimpArgs false

/-! ### winnowerlaw07_SchemaDecodes: function 4 -/
def winnowerlaw07_SchemaDecodes.j0 : Nat → List Int → Bool → Bool → List (S48) → Int → Int → Int → Int → Option (Bool)
  | 0, _, _, _, _, _, _, _, _ => none
  | k + 1, x1, x5, x25, x394000, x394001, x394002, x394003, x394004 => if x25 = true then (some x5) else ((schema_Decode.f x394000 x394001 x394002 x394003 x394004 x1).bind fun bt396 => ((winnowerref07_Decode.f k x394000 x394001 x394002 x394003 x394004 x1).bind fun bt400 => ((winnowerref06_Same.f k bt396.1 bt400.1).bind fun t404 => (if t404 = true then (some (bt396.2 == bt400.2)) else (some false)))))
def winnowerlaw07_SchemaDecodes.f (k : Nat) (l0_0 : List (S48)) (a0_1 : Int) (a0_2 : Int) (a0_3 : Int) (a0_4 : Int) (l1 : List Int) : Option (Bool) := (winnowerlaw07_awake.f).bind fun t394 => ((winnowerref07_Few.f k l0_0 a0_1 a0_2 a0_3 a0_4).bind fun t395 => (if t394 = true then (if t395 = true then (winnowerlaw07_SchemaDecodes.j0 k l1 t394 (decide ((l1.length : Int) > 1000)) l0_0 a0_1 a0_2 a0_3 a0_4) else (winnowerlaw07_SchemaDecodes.j0 k l1 t394 true l0_0 a0_1 a0_2 a0_3 a0_4)) else (winnowerlaw07_SchemaDecodes.j0 k l1 t394 true l0_0 a0_1 a0_2 a0_3 a0_4)))
set_option maxHeartbeats 8000000 in
set_option maxRecDepth 100000 in
theorem winnowerlaw07_SchemaDecodes.calls (k : Nat) (A0_0 : Option Addr) (c0_0 : Nat) (l0_0 : List (S48)) (a0_1 : Int) (a0_2 : Int) (a0_3 : Int) (a0_4 : Int) (A1 : Option Addr) (c1 : Nat) (l1 : List Int) (r : Bool) (w : World) (hr0_0 : Kd.C k48 w A0_0 l0_0.length l0_0) (hc0_0 : l0_0.length ≤ c0_0) (hr1 : Kd.C (Kd.int .u8) w A1 l1.length l1) (hc1 : l1.length ≤ c1) (hG : Globs w) (hT_ : r = true) (h : winnowerlaw07_SchemaDecodes.f k l0_0 a0_1 a0_2 a0_3 a0_4 l1 = some r) :
    Calls Tryd.prog 4 #[.agg #[.slice A0_0 l0_0.length c0_0, .int .i64 a0_1, .int .i64 a0_2, .int .i64 a0_3, .int .i64 a0_4], .slice A1 l1.length c1] w fun e w' => e = .returned (.bool r) ∧ Below w.heap.size w w' := by
  have hu24 := Tryd.underlying24
  have HR0_0 := z05.mk hr0_0
  have HC0_0 := z05.mk hc0_0
  clear hr0_0 hc0_0
  have HR1 := z05.mk hr1
  have HC1 := z05.mk hc1
  clear hr1 hc1
  have HGL := z05.mk hG
  clear hG
  have HTRUE := z05.mk hT_
  clear hT_
  have HB := z05.mk (Below.refl w.heap.size w)
  have H : ((winnowerlaw07_awake.f).bind fun t394 => ((winnowerref07_Few.f k l0_0 a0_1 a0_2 a0_3 a0_4).bind fun t395 => (if t394 = true then (if t395 = true then (winnowerlaw07_SchemaDecodes.j0 k l1 t394 (decide ((l1.length : Int) > 1000)) l0_0 a0_1 a0_2 a0_3 a0_4) else (winnowerlaw07_SchemaDecodes.j0 k l1 t394 true l0_0 a0_1 a0_2 a0_3 a0_4)) else (winnowerlaw07_SchemaDecodes.j0 k l1 t394 true l0_0 a0_1 a0_2 a0_3 a0_4)))) = some r := h
  clear h
  replace H := Option.bind_eq_some_iff.mp H
  obtain ⟨t394, A30, H⟩ := H
  replace H : ((winnowerref07_Few.f k l0_0 a0_1 a0_2 a0_3 a0_4).bind fun t395 => (if t394 = true then (if t395 = true then (winnowerlaw07_SchemaDecodes.j0 k l1 t394 (decide ((l1.length : Int) > 1000)) l0_0 a0_1 a0_2 a0_3 a0_4) else (winnowerlaw07_SchemaDecodes.j0 k l1 t394 true l0_0 a0_1 a0_2 a0_3 a0_4)) else (winnowerlaw07_SchemaDecodes.j0 k l1 t394 true l0_0 a0_1 a0_2 a0_3 a0_4))) = some r := H
  have A3 := z05.mk A30
  clear A30
  replace H := Option.bind_eq_some_iff.mp H
  obtain ⟨t395, A40, H⟩ := H
  replace H : (if t394 = true then (if t395 = true then (winnowerlaw07_SchemaDecodes.j0 k l1 t394 (decide ((l1.length : Int) > 1000)) l0_0 a0_1 a0_2 a0_3 a0_4) else (winnowerlaw07_SchemaDecodes.j0 k l1 t394 true l0_0 a0_1 a0_2 a0_3 a0_4)) else (winnowerlaw07_SchemaDecodes.j0 k l1 t394 true l0_0 a0_1 a0_2 a0_3 a0_4)) = some r := H
  have A4 := z05.mk A40
  clear A40
  have HC5 := z05.mk H
  clear H
  go_enter Tryd.func4, Tryd.ntmps4
  go_upto_region 3 with (first | ((with_reducible refine gate_dst (N := 2) rfl ?_); (try (refine gate_guard (by rfl) ?_; dsimp only)); refine box_event ?hg (N := 2) ?hd (cs := #[.slice A0_0 l0_0.length c0_0, .int .i64 a0_1, .int .i64 a0_2, .int .i64 a0_3, .int .i64 a0_4]) (t := 24) ?hr ?_; (case hd => rfl); (case hg => rfl); (case hr => first | (go_simp; done) | (go_simp; rfl)); intro gb393 hg w6 hbox hb; have n0_ := z05.mk (below_step (by repeat (first | (with_reducible first | exact HB.out | apply z02 | apply z00 | apply z03) | exact HB.out)) hb); have n1_ := z05.mk (hbox); have n2_ := z05.mk ((by rw [hg]; exact (below_size (by repeat (first | (with_reducible first | exact HB.out | apply z02 | apply z00 | apply z03) | exact HB.out))) : w.heap.size ≤ gb393)); have n3_ := z05.mk ((by rw [hg]; exact (below_size (by repeat (first | (with_reducible first | exact HB.out | apply z02 | apply z00 | apply z03) | exact HB.out))) : w.heap.size ≤ gb393)); clear HB; have HB := n0_; have BK393 := n1_; have GW393 := n2_; have GE393 := n3_; clear n0_ n1_ n2_ n3_; clear hb hbox hg) | ((with_reducible refine gate_callee (f := 8) rfl ?_); refine goesL_ (some 12) rfl rfl Tryd.func8 (by kernel_rfl) rfl #[] rfl (by (try simp only [List.map_toArray, List.map_cons, List.map_nil]); first | done | rfl | (simp only [List.length_drop, List.length_take]; rfl)) ?_; (with_reducible refine (winnowerlaw07_awake.calls  t394 _ ?side1 A3.out).mono ?_); (case side1 => exact globs_below HGL.out (by repeat (first | (with_reducible first | exact HB.out | apply z02 | apply z00 | apply z03 | refine z09 ?_ GE393.out) | exact HB.out))); rintro e w7 ⟨rfl, hb⟩; refine ⟨_, rfl, ?_⟩; have n0_ := z05.mk (blk_below (g := gb393) (o := .cells #[.slice A0_0 l0_0.length c0_0, .int .i64 a0_1, .int .i64 a0_2, .int .i64 a0_3, .int .i64 a0_4] 24 (0, 0)) (by (with_reducible repeat (first | refine z07 ?_ _ | refine z08 ?_ | refine z06 ?_ _)); exact BK393.out) hb); have n1_ := z05.mk (below_step (by repeat (first | (with_reducible first | exact HB.out | apply z02 | apply z00 | apply z03 | refine z09 ?_ GE393.out) | exact HB.out)) hb); clear BK393; clear HB; have BK393 := n0_; have HB := n1_; clear n0_ n1_; (try clear hb); (try clear hb2); (try clear hk); (try clear hi); have hcz8_0 : w7.cell? ⟨gb393, 0, none⟩ = some (.slice A0_0 l0_0.length c0_0) := (z04 BK393.out 0).trans rfl; have hcz8_1 : w7.cell? ⟨gb393, 1, none⟩ = some (.int .i64 a0_1) := (z04 BK393.out 1).trans rfl; have hcz8_2 : w7.cell? ⟨gb393, 2, none⟩ = some (.int .i64 a0_2) := (z04 BK393.out 2).trans rfl; have hcz8_3 : w7.cell? ⟨gb393, 3, none⟩ = some (.int .i64 a0_3) := (z04 BK393.out 3).trans rfl; have hcz8_4 : w7.cell? ⟨gb393, 4, none⟩ = some (.int .i64 a0_4) := (z04 BK393.out 4).trans rfl; have hfz8_0 := z01 BK393.out 0; have hfz8_1 := z01 BK393.out 1; have hfz8_2 := z01 BK393.out 2; have hfz8_3 := z01 BK393.out 3; have hfz8_4 := z01 BK393.out 4) | ((with_reducible refine gate_callee (f := 9) rfl ?_); refine goesL_ (some 14) rfl rfl Tryd.func9 (by kernel_rfl) rfl #[.agg #[.slice A0_0 l0_0.length c0_0, .int .i64 a0_1, .int .i64 a0_2, .int .i64 a0_3, .int .i64 a0_4]] rfl (by (try simp only [List.map_toArray, List.map_cons, List.map_nil]); first | done | rfl | (simp only [List.length_drop, List.length_take]; rfl)) ?_; (with_reducible refine (winnowerref07_Few.calls k _ _ l0_0 a0_1 a0_2 a0_3 a0_4 t395 _ ?side1 ?side2 A4.out).mono ?_); (case side1 => repeat (first | exact (Kd.C_below HR0_0.out HB.out) | (with_reducible refine Kd.C_alloc ?_ _) | (with_reducible refine Kd.C_drewN ?_ _) | (with_reducible refine Kd.C_drew ?_))); (case side2 => exact HC0_0.out); rintro e w9 ⟨rfl, hb⟩; refine ⟨_, rfl, ?_⟩; have n0_ := z05.mk (blk_below (g := gb393) (o := .cells #[.slice A0_0 l0_0.length c0_0, .int .i64 a0_1, .int .i64 a0_2, .int .i64 a0_3, .int .i64 a0_4] 24 (0, 0)) (by (with_reducible repeat (first | refine z07 ?_ _ | refine z08 ?_ | refine z06 ?_ _)); exact BK393.out) hb); have n1_ := z05.mk (below_step (by repeat (first | (with_reducible first | exact HB.out | apply z02 | apply z00 | apply z03 | refine z09 ?_ GE393.out) | exact HB.out)) hb); clear BK393; clear HB; have BK393 := n0_; have HB := n1_; clear n0_ n1_; (try clear hb); (try clear hb2); (try clear hk); (try clear hi)))
  (try simp only [Act.put, List.setIfInBounds_toArray, List.set_cons_zero, List.set_cons_succ])
  go_cut [25] (fun v25 wc => ∃ (kq : Nat) (x25_4 : Bool), v25 = .bool x25_4 ∧ z05 (winnowerlaw07_SchemaDecodes.j0 kq l1 t394 x25_4 l0_0 a0_1 a0_2 a0_3 a0_4 = some r) ∧ z05 (kq ≤ k) ∧ z05 (wc.heap[gb393]? = some (.cells #[(.slice A0_0 l0_0.length c0_0), .int .i64 a0_1, .int .i64 a0_2, .int .i64 a0_3, .int .i64 a0_4] 24 (0, 0))) ∧ z05 (Below w.heap.size w wc))
  case first =>
    have H := HC5.out
    clear HC5
    by_cases c10 : t394 = true
    · subst c10
      have H1 : (if t395 = true then (winnowerlaw07_SchemaDecodes.j0 k l1 true (decide ((l1.length : Int) > 1000)) l0_0 a0_1 a0_2 a0_3 a0_4) else (winnowerlaw07_SchemaDecodes.j0 k l1 true true l0_0 a0_1 a0_2 a0_3 a0_4)) = some r := by rw [if_pos rfl] at H; exact H
      clear H
      have H := H1
      clear H1
      by_cases c11 : t395 = true
      · subst c11
        have H1 : (winnowerlaw07_SchemaDecodes.j0 k l1 true (decide ((l1.length : Int) > 1000)) l0_0 a0_1 a0_2 a0_3 a0_4) = some r := by rw [if_pos rfl] at H; exact H
        clear H
        have H := H1
        clear H1
        have H' := z05.mk H
        clear H
        go_wp2
        go_meet
        case rel => exact ⟨_, (decide ((l1.length : Int) > 1000)), (by first | rfl | (simp; done) | (simp [*]; done)), H', ⟨by first | omega | exact Nat.le_refl _⟩, ⟨by (with_reducible repeat (first | refine z07 ?_ _ | refine z08 ?_ | refine z06 ?_ _)); exact BK393.out⟩, ⟨by repeat (first | (with_reducible first | exact HB.out | apply z02 | apply z00 | apply z03 | refine z09 ?_ GE393.out) | exact HB.out)⟩⟩
      · replace c11 := Bool.eq_false_iff.mpr c11
        subst c11
        have H1 : (winnowerlaw07_SchemaDecodes.j0 k l1 true true l0_0 a0_1 a0_2 a0_3 a0_4) = some r := by rw [if_neg (show ¬ (false = true) by decide)] at H; exact H
        clear H
        have H := H1
        clear H1
        have H' := z05.mk H
        clear H
        go_wp2
        go_meet
        case rel => exact ⟨_, (true), (by first | rfl | (simp; done) | (simp [*]; done)), H', ⟨by first | omega | exact Nat.le_refl _⟩, ⟨by (with_reducible repeat (first | refine z07 ?_ _ | refine z08 ?_ | refine z06 ?_ _)); exact BK393.out⟩, ⟨by repeat (first | (with_reducible first | exact HB.out | apply z02 | apply z00 | apply z03 | refine z09 ?_ GE393.out) | exact HB.out)⟩⟩
    · replace c10 := Bool.eq_false_iff.mpr c10
      subst c10
      have H1 : (winnowerlaw07_SchemaDecodes.j0 k l1 false true l0_0 a0_1 a0_2 a0_3 a0_4) = some r := by rw [if_neg (show ¬ (false = true) by decide)] at H; exact H
      clear H
      have H := H1
      clear H1
      have H' := z05.mk H
      clear H
      go_wp2
      go_meet
      case rel => exact ⟨_, (true), (by first | rfl | (simp; done) | (simp [*]; done)), H', ⟨by first | omega | exact Nat.le_refl _⟩, ⟨by (with_reducible repeat (first | refine z07 ?_ _ | refine z08 ?_ | refine z06 ?_ _)); exact BK393.out⟩, ⟨by repeat (first | (with_reducible first | exact HB.out | apply z02 | apply z00 | apply z03 | refine z09 ?_ GE393.out) | exact HB.out)⟩⟩
  case rest =>
    clear HC5
    try clear c1
    try clear p2
    try clear c4
    try clear c8
    try clear c9
    try clear c10
    try clear c11
    try clear hcz8_0
    try clear hcz8_1
    try clear hcz8_2
    try clear hcz8_3
    try clear hcz8_4
    try clear hfz8_0
    try clear hfz8_1
    try clear hfz8_2
    try clear hfz8_3
    try clear hfz8_4
    obtain ⟨kq, x25_4, rfl, HA, HJ4, BK393, HB⟩ := hcut
    cases kq with
    | zero => exact absurd HA.out (by simp [winnowerlaw07_SchemaDecodes.j0])
    | succ kj4 =>
      have H := HA.out
      clear HA
      simp only [winnowerlaw07_SchemaDecodes.j0] at H
      by_cases c12 : x25_4 = true
      · subst c12
        have H1 : (some t394) = some r := by rw [if_pos rfl] at H; exact H
        clear H
        have H := H1
        clear H1
        obtain rfl := Option.some.inj H
        go_wp2
        go_ret
        exact ⟨by first | rfl | (simp [errW_none, errW_some] <;> rfl) | (refine congrArg (fun b_ : Bool => Ending.returned (Value.bool b_)) ?_; simp; done) | (simp [*, errW_none, errW_some] <;> rfl), by repeat (first | (with_reducible first | exact HB.out | apply z02 | apply z00 | apply z03 | refine z09 ?_ GE393.out) | exact HB.out)⟩
      · replace c12 := Bool.eq_false_iff.mpr c12
        subst c12
        have H1 : ((schema_Decode.f l0_0 a0_1 a0_2 a0_3 a0_4 l1).bind fun bt396 => ((winnowerref07_Decode.f kj4 l0_0 a0_1 a0_2 a0_3 a0_4 l1).bind fun bt400 => ((winnowerref06_Same.f kj4 bt396.1 bt400.1).bind fun t404 => (if t404 = true then (some (bt396.2 == bt400.2)) else (some false))))) = some r := by rw [if_neg (show ¬ (false = true) by decide)] at H; exact H
        clear H
        have H := H1
        clear H1
        replace H := Option.bind_eq_some_iff.mp H
        obtain ⟨⟨t396, t399⟩, A130, H⟩ := H
        replace H : ((winnowerref07_Decode.f kj4 l0_0 a0_1 a0_2 a0_3 a0_4 l1).bind fun bt400 => ((winnowerref06_Same.f kj4 t396 bt400.1).bind fun t404 => (if t404 = true then (some (t399 == bt400.2)) else (some false)))) = some r := H
        have A13 := z05.mk A130
        clear A130
        replace H := Option.bind_eq_some_iff.mp H
        obtain ⟨⟨t400, t403⟩, A140, H⟩ := H
        replace H : ((winnowerref06_Same.f kj4 t396 t400).bind fun t404 => (if t404 = true then (some (t399 == t403)) else (some false))) = some r := H
        have A14 := z05.mk A140
        clear A140
        replace H := Option.bind_eq_some_iff.mp H
        obtain ⟨t404, A150, H⟩ := H
        replace H : (if t404 = true then (some (t399 == t403)) else (some false)) = some r := H
        have A15 := z05.mk A150
        clear A150
        by_cases c16 : t404 = true
        · subst c16
          have H1 : (some (t399 == t403)) = some r := by rw [if_pos rfl] at H; exact H
          clear H
          have H := H1
          clear H1
          obtain rfl := Option.some.inj H
          have hcz17_0 : wc.cell? ⟨gb393, 0, none⟩ = some (.slice A0_0 l0_0.length c0_0) := (z04 BK393.out 0).trans rfl
          have hcz17_1 : wc.cell? ⟨gb393, 1, none⟩ = some (.int .i64 a0_1) := (z04 BK393.out 1).trans rfl
          have hcz17_2 : wc.cell? ⟨gb393, 2, none⟩ = some (.int .i64 a0_2) := (z04 BK393.out 2).trans rfl
          have hcz17_3 : wc.cell? ⟨gb393, 3, none⟩ = some (.int .i64 a0_3) := (z04 BK393.out 3).trans rfl
          have hcz17_4 : wc.cell? ⟨gb393, 4, none⟩ = some (.int .i64 a0_4) := (z04 BK393.out 4).trans rfl
          have hfz17_0 := z01 BK393.out 0
          have hfz17_1 := z01 BK393.out 1
          have hfz17_2 := z01 BK393.out 2
          have hfz17_3 := z01 BK393.out 3
          have hfz17_4 := z01 BK393.out 4
          go_wp2_with (first | ((with_reducible refine gate_callee (f := 20) rfl ?_); refine goesL_ (some 30) rfl rfl Tryd.func20 (by kernel_rfl) rfl #[.agg #[.slice A0_0 l0_0.length c0_0, .int .i64 a0_1, .int .i64 a0_2, .int .i64 a0_3, .int .i64 a0_4], .slice A1 l1.length c1] rfl (by (try simp only [List.map_toArray, List.map_cons, List.map_nil]); first | done | rfl | (simp only [List.length_drop, List.length_take]; rfl)) ?_; (with_reducible refine (schema_Decode.calls _ _ l0_0 a0_1 a0_2 a0_3 a0_4 _ _ l1 t396 t399 _ ?side1 ?side2 ?side3 ?side4 ?side5 A13.out).mono ?_); (case side1 => repeat (first | exact (Kd.C_below HR0_0.out HB.out) | (with_reducible refine Kd.C_alloc ?_ _) | (with_reducible refine Kd.C_drewN ?_ _) | (with_reducible refine Kd.C_drew ?_))); (case side2 => exact HC0_0.out); (case side3 => repeat (first | exact (Kd.C_below HR1.out HB.out) | (with_reducible refine Kd.C_alloc ?_ _) | (with_reducible refine Kd.C_drewN ?_ _) | (with_reducible refine Kd.C_drew ?_))); (case side4 => exact HC1.out); (case side5 => exact globs_below HGL.out (by repeat (first | (with_reducible first | exact HB.out | apply z02 | apply z00 | apply z03 | refine z09 ?_ GE393.out) | exact HB.out))); rintro e w18 ⟨v397, rfl, ho0, hb⟩; refine ⟨_, rfl, ?_⟩; have n0_ := z05.mk (Kd.R_lower ho0 (below_size (by repeat (first | (with_reducible first | exact HB.out | apply z02 | apply z00 | apply z03 | refine z09 ?_ GE393.out) | exact HB.out)))); have n1_ := z05.mk (blk_below (g := gb393) (o := .cells #[.slice A0_0 l0_0.length c0_0, .int .i64 a0_1, .int .i64 a0_2, .int .i64 a0_3, .int .i64 a0_4] 24 (0, 0)) (by (with_reducible repeat (first | refine z07 ?_ _ | refine z08 ?_ | refine z06 ?_ _)); exact BK393.out) hb); have n2_ := z05.mk (below_step (by repeat (first | (with_reducible first | exact HB.out | apply z02 | apply z00 | apply z03 | refine z09 ?_ GE393.out) | exact HB.out)) hb); clear BK393; clear HB; have HO398 := n0_; have BK393 := n1_; have HB := n2_; clear n0_ n1_ n2_; (try clear hb); (try clear hb2); (try clear hk); (try clear hi); (try clear ho0); have hcz19_0 : w18.cell? ⟨gb393, 0, none⟩ = some (.slice A0_0 l0_0.length c0_0) := (z04 BK393.out 0).trans rfl; have hcz19_1 : w18.cell? ⟨gb393, 1, none⟩ = some (.int .i64 a0_1) := (z04 BK393.out 1).trans rfl; have hcz19_2 : w18.cell? ⟨gb393, 2, none⟩ = some (.int .i64 a0_2) := (z04 BK393.out 2).trans rfl; have hcz19_3 : w18.cell? ⟨gb393, 3, none⟩ = some (.int .i64 a0_3) := (z04 BK393.out 3).trans rfl; have hcz19_4 : w18.cell? ⟨gb393, 4, none⟩ = some (.int .i64 a0_4) := (z04 BK393.out 4).trans rfl; have hfz19_0 := z01 BK393.out 0; have hfz19_1 := z01 BK393.out 1; have hfz19_2 := z01 BK393.out 2; have hfz19_3 := z01 BK393.out 3; have hfz19_4 := z01 BK393.out 4) | ((with_reducible refine gate_callee (f := 21) rfl ?_); refine goesL_ (some 36) rfl rfl Tryd.func21 (by kernel_rfl) rfl #[.agg #[.slice A0_0 l0_0.length c0_0, .int .i64 a0_1, .int .i64 a0_2, .int .i64 a0_3, .int .i64 a0_4], .slice A1 l1.length c1] rfl (by (try simp only [List.map_toArray, List.map_cons, List.map_nil]); first | done | rfl | (simp only [List.length_drop, List.length_take]; rfl)) ?_; (with_reducible refine (winnowerref07_Decode.calls kj4 _ _ l0_0 a0_1 a0_2 a0_3 a0_4 (fun k_ => k_ < w.heap.size) _ _ l1 t400 t403 _ ?side1 ?side2 ?side3 A14.out).mono ?_); (case side1 => repeat (first | exact (Kd.C_below HR0_0.out HB.out) | (with_reducible refine Kd.C_alloc ?_ _) | (with_reducible refine Kd.C_drewN ?_ _) | (with_reducible refine Kd.C_drew ?_))); (case side2 => exact HC0_0.out); (case side3 => exact Kd.V_mk HC1.out (Kd.F_below (Kd.C_F (Kd.heap_int .u8) HR1.out) (by repeat (first | (with_reducible first | exact HB.out | apply z02 | apply z00 | apply z03 | refine z09 ?_ GE393.out) | exact HB.out)))); rintro e w20 ⟨v401, rfl, ho0, hb⟩; refine ⟨_, rfl, ?_⟩; have n0_ := z05.mk (Kd.R_elder' (by (with_reducible repeat (first | apply Kd.R_alloc | apply Kd.R_drewN | apply Kd.R_drew)); exact HO398.out) (Kd.R_base ho0) hb); have n1_ := z05.mk (Kd.R_lower (Kd.R_new' (Kd.R_mono (ok' := fun k_ => True) ho0 (fun _ hk_ => trivial)) (Kd.R_lt (by (with_reducible repeat (first | apply Kd.R_alloc | apply Kd.R_drewN | apply Kd.R_drew)); exact HO398.out))) (below_size (by repeat (first | (with_reducible first | exact HB.out | apply z02 | apply z00 | apply z03 | refine z09 ?_ GE393.out) | exact HB.out)))); have n3_ := z05.mk (below_step (by repeat (first | (with_reducible first | exact HB.out | apply z02 | apply z00 | apply z03 | refine z09 ?_ GE393.out) | exact HB.out)) hb); clear HO398; clear BK393; clear HB; have HO398 := n0_; have HO402 := n1_; have HB := n3_; clear n0_ n1_ n3_; (try clear hb); (try clear hb2); (try clear hk); (try clear hi); (try clear ho0); obtain ⟨Ao21, co21, eo21⟩ := Kd.R_slice HO398.out; subst eo21; obtain ⟨Ao22, co22, eo22⟩ := Kd.R_slice HO402.out; subst eo22) | ((with_reducible refine gate_callee (f := 22) rfl ?_); refine goesL_ (some 41) rfl rfl Tryd.func22 (by kernel_rfl) rfl #[.slice Ao21 t396.length co21, .slice Ao22 t400.length co22] rfl (by (try simp only [List.map_toArray, List.map_cons, List.map_nil]); first | done | rfl | (simp only [List.length_drop, List.length_take]; rfl)) ?_; (with_reducible refine (winnowerref06_Same.calls kj4 _ _ t396 _ _ t400 true _ ?side1 ?side2 ?side3 ?side4 A15.out).mono ?_); (case side1 => repeat (first | exact (Kd.R_reads' HO398.out).2.2 | (with_reducible refine Kd.C_alloc ?_ _) | (with_reducible refine Kd.C_drewN ?_ _) | (with_reducible refine Kd.C_drew ?_))); (case side2 => exact (Kd.R_reads' HO398.out).2.1); (case side3 => repeat (first | exact (Kd.R_reads' HO402.out).2.2 | (with_reducible refine Kd.C_alloc ?_ _) | (with_reducible refine Kd.C_drewN ?_ _) | (with_reducible refine Kd.C_drew ?_))); (case side4 => exact (Kd.R_reads' HO402.out).2.1); rintro e w' ⟨rfl, ⟨nd, rfl⟩⟩; refine ⟨_, rfl, ?_⟩))
          go_ret
          exact ⟨by first | rfl | (simp [errW_none, errW_some] <;> rfl) | (refine congrArg (fun b_ : Bool => Ending.returned (Value.bool b_)) ?_; simp; done) | (simp [*, errW_none, errW_some] <;> rfl), by repeat (first | (with_reducible first | exact HB.out | apply z02 | apply z00 | apply z03 | refine z09 ?_ GE393.out) | exact HB.out)⟩
        · replace c16 := Bool.eq_false_iff.mpr c16
          subst c16
          have H1 : (some false) = some r := by rw [if_neg (show ¬ (false = true) by decide)] at H; exact H
          clear H
          have H := H1
          clear H1
          exact absurd (HTRUE.out.symm.trans (Option.some.inj H).symm) (by decide)

/-! ### winnowerlaw07_SchemaBack: function 5 -/

end Go.Proofs.YteefchdfdgfaaaaDoor.Q
namespace Go.Proofs.YteefchdfdgfaaaaDoor.Q
open Go.RowKit Go.Proofs.YteefchdfdgfaaaaDoorW.PrintWords Go.Proofs.YteefchdfdgfaaaaDoorW.PrintLast Go.Proofs.YteefchdfdgfaaaaDoorW.PrintMore
attribute [local go_sem] max2_int min2_int max_two min_two max_three min_three max_four min_four   -- for this text's walks alone
set_option linter.unusedVariables false
set_option linter.unusedSimpArgs false

/-! ### winnowerlaw07_SchemaOnly: function 6 -/

end Go.Proofs.YteefchdfdgfaaaaDoor.Q
namespace Go.Proofs.YteefchdfdgfaaaaDoor.Q
open Go.RowKit Go.Proofs.YteefchdfdgfaaaaDoorW.PrintWords Go.Proofs.YteefchdfdgfaaaaDoorW.PrintLast Go.Proofs.YteefchdfdgfaaaaDoorW.PrintMore
attribute [local go_sem] max2_int min2_int max_two min_two max_three min_three max_four min_four   -- for this text's walks alone
set_option linter.unusedVariables false
set_option linter.unusedSimpArgs false

/-! ### winnowerlaw07_SchemaApart: function 7 -/

end Go.Proofs.YteefchdfdgfaaaaDoor.Q
namespace Go.Proofs.YteefchdfdgfaaaaDoor.Q
open Go.RowKit Go.Proofs.YteefchdfdgfaaaaDoorW.PrintWords Go.Proofs.YteefchdfdgfaaaaDoorW.PrintLast Go.Proofs.YteefchdfdgfaaaaDoorW.PrintMore
attribute [local go_sem] max2_int min2_int max_two min_two max_three min_three max_four min_four   -- for this text's walks alone
set_option linter.unusedVariables false
set_option linter.unusedSimpArgs false

-- SAYS Chapter 07: SchemaBack, SchemaOnly, SchemaApart answer true.
-- FUNCS winnower/winnowerlaw07.SchemaBack winnower/winnowerlaw07.SchemaOnly winnower/winnowerlaw07.SchemaApart
-- NEEDS winnowerlaw07_SchemaBack.f winnowerlaw07_SchemaOnly.f winnowerlaw07_SchemaApart.f schema_Encode.f schema_Fits.f schema_May.f schema_Decode.f winnowerref01_Same.f
-- IMPORT Derived.Test.YteefchdfdgfaaaaDoorHnum
-- IMPORT Derived.Test.YteefchdfdgfaaaaDoorHval
-- IMPORT Derived.Test.YteefchdfdgfaaaaDoorHsch07
-- IMPORT Derived.Test.YteefchdfdgfaaaaDoorHsch07b
open Go.Proofs.YteefchdfdgfaaaaDoor.Hnum Go.Proofs.YteefchdfdgfaaaaDoor.Hval
theorem awake_200 : winnowerlaw07_awake.f = some true := rfl

end Go.Proofs.YteefchdfdgfaaaaDoor.Q
namespace Go.Proofs.YteefchdfdgfaaaaDoor.Q
open Go.RowKit Go.Proofs.YteefchdfdgfaaaaDoorW.PrintWords Go.Proofs.YteefchdfdgfaaaaDoorW.PrintLast Go.Proofs.YteefchdfdgfaaaaDoorW.PrintMore
attribute [local go_sem] max2_int min2_int max_two min_two max_three min_three max_four min_four   -- for this text's walks alone
set_option linter.unusedVariables false
set_option linter.unusedSimpArgs false

-- SAYS What the document's Get and GetLen of layer 1 answer, in plain words.
-- FUNCS winnower/winnowerref01.Get winnower/winnowerref01.GetLen
-- NEEDS winnowerref01_Get.f winnowerref01_GetLen.f winnowerref01_run.f winnowerref01_halves.f
-- IMPORT Derived.Test.YteefchdfdgfaaaaDoorHnum
open Go.Proofs.YteefchdfdgfaaaaDoor.Hnum
theorem getd_take {l : List Int} : ∀ {k u n : Nat}, getd k l = .ok (u, n) → getd k (l.take n) = .ok (u, n) := by
  induction l with
  | nil => intro k u n h; cases h
  | cons d t ih =>
    intro k u n h
    rw [getd] at h
    by_cases h1 : k = 9 ∧ 1 < d
    · rw [if_pos h1] at h; cases h
    · rw [if_neg h1] at h
      by_cases h2 : 128 ≤ d
      · rw [if_pos h2] at h
        cases hg : getd (k + 1) t with
        | error e => rw [hg] at h; cases h
        | ok p =>
          obtain ⟨u', n'⟩ := p
          rw [hg] at h
          simp only [Except.ok.injEq, Prod.mk.injEq] at h
          obtain ⟨rfl, rfl⟩ := h
          rw [List.take_succ_cons, getd, if_neg h1, if_pos h2, ih hg]
      · rw [if_neg h2] at h
        by_cases h3 : d = 0 ∧ 0 < k
        · rw [if_pos h3] at h; cases h
        · rw [if_neg h3] at h
          simp only [Except.ok.injEq, Prod.mk.injEq] at h
          obtain ⟨rfl, rfl⟩ := h
          rw [List.take_succ_cons, getd, if_neg h1, if_neg h2, if_neg h3]
theorem winnowerref01_halves.whole {l : List Int} (hb : Bytes l) {u n : Nat} (hg : getd 0 l = .ok (u, n)) : winnowerref01_halves.f (l.take n) = some (((u / 2 : Nat) : Int), ((u % 2 : Nat) : Int)) := by
  have hn := (getd_ok (by omega) hb hg).2.1
  unfold winnowerref01_halves.f
  rw [if_pos (hb.take n), getd_take hg, winnowerref01_halves.at, if_pos (by rw [List.length_take]; omega)]
theorem winnowerref01_Get.tell {l : List Int} (hb : Bytes l) : winnowerref01_Get.f l = some (getn l) := by
  unfold winnowerref01_Get.f winnowerref01_run.f getn
  rw [if_pos hb, Option.bind_some]
  cases hg : getd 0 l with
  | error e =>
    have := getd_error hg
    rw [show winnowerref01_run.at 0 (.error e) = (0, e) from rfl, if_neg (show ¬ ((0, e) : Int × Int).2 = 0 from by show ¬ e = 0; omega)]
  | ok p =>
    obtain ⟨u, n⟩ := p
    obtain ⟨g1, g2, _, _, g5, _⟩ := getd_ok (by omega) hb hg
    rw [Nat.pow_zero, Nat.mul_one] at g5
    rw [show winnowerref01_run.at 0 (.ok (u, n)) = ((n : Int), 0) from by simp only [winnowerref01_run.at]; rw [Nat.zero_add], if_pos (show (((n : Int), 0) : Int × Int).2 = 0 from rfl), if_pos (show 0 ≤ (((n : Int), 0) : Int × Int).1 from by show 0 ≤ (n : Int); omega),
      if_pos (show (((n : Int), 0) : Int × Int).1 ≤ (l.length : Int) from by show (n : Int) ≤ (l.length : Int); omega), show (((n : Int), 0) : Int × Int).1.toNat = n from Int.toNat_natCast n, winnowerref01_halves.whole hb hg, Option.bind_some]
    unfold back
    by_cases hu : u % 2 = 0
    · rw [if_neg (show ¬ ((((u / 2 : Nat) : Int), ((u % 2 : Nat) : Int)) : Int × Int).2 = 1 from by show ¬ ((u % 2 : Nat) : Int) = 1; omega)]
      show some (((u / 2 : Nat) : Int), (n : Int), (0 : Int)) = some (if u % 2 = 0 then ((u / 2 : Nat) : Int) else -((u / 2 : Nat) : Int) - 1, (n : Int), (0 : Int))
      rw [if_pos hu]
    · rw [if_pos (show ((((u / 2 : Nat) : Int), ((u % 2 : Nat) : Int)) : Int × Int).2 = 1 from by show ((u % 2 : Nat) : Int) = 1; omega)]
      show some (wrap64 (wrap64 (-((u / 2 : Nat) : Int)) - 1), (n : Int), (0 : Int)) = some (if u % 2 = 0 then ((u / 2 : Nat) : Int) else -((u / 2 : Nat) : Int) - 1, (n : Int), (0 : Int))
      rw [if_neg hu]
      rw [wrap_id (x := -((u / 2 : Nat) : Int)) (by omega) (by omega), wrap_id (by omega) (by omega)]
theorem winnowerref01_GetLen.tell {l : List Int} (hb : Bytes l) : winnowerref01_GetLen.f l = some (getl l) := by
  unfold winnowerref01_GetLen.f winnowerref01_run.f getl
  rw [if_pos hb, Option.bind_some]
  cases hg : getd 0 l with
  | error e =>
    have := getd_error hg
    rw [show winnowerref01_run.at 0 (.error e) = (0, e) from rfl, if_neg (show ¬ ((0, e) : Int × Int).2 = 0 from by show ¬ e = 0; omega)]
  | ok p =>
    obtain ⟨u, n⟩ := p
    obtain ⟨g1, g2, _, _, g5, _⟩ := getd_ok (by omega) hb hg
    rw [Nat.pow_zero, Nat.mul_one] at g5
    rw [show winnowerref01_run.at 0 (.ok (u, n)) = ((n : Int), 0) from by simp only [winnowerref01_run.at]; rw [Nat.zero_add], if_pos (show (((n : Int), 0) : Int × Int).2 = 0 from rfl), if_pos (show 0 ≤ (((n : Int), 0) : Int × Int).1 from by show 0 ≤ (n : Int); omega),
      if_pos (show (((n : Int), 0) : Int × Int).1 ≤ (l.length : Int) from by show (n : Int) ≤ (l.length : Int); omega), show (((n : Int), 0) : Int × Int).1.toNat = n from Int.toNat_natCast n, winnowerref01_halves.whole hb hg, Option.bind_some]
    by_cases hu : u ≤ 9223372036854775807
    · rw [if_neg (show ¬ ((((u / 2 : Nat) : Int), ((u % 2 : Nat) : Int)) : Int × Int).1 > 4611686018427387903 from by show ¬ ((u / 2 : Nat) : Int) > 4611686018427387903; omega)]
      refine Eq.trans ?_ (congrArg some (if_pos hu).symm)
      show some (wrap64 (wrap64 (2 * ((u / 2 : Nat) : Int)) + ((u % 2 : Nat) : Int)), (n : Int), (0 : Int)) = some ((u : Int), (n : Int), (0 : Int))
      have e : (2 * ((u / 2 : Nat) : Int)) + ((u % 2 : Nat) : Int) = (u : Int) := by omega
      rw [wrap_id (x := 2 * ((u / 2 : Nat) : Int)) (by omega) (by omega), e, wrap_id (by omega) (by omega)]
    · rw [if_pos (show ((((u / 2 : Nat) : Int), ((u % 2 : Nat) : Int)) : Int × Int).1 > 4611686018427387903 from by show ((u / 2 : Nat) : Int) > 4611686018427387903; omega)]
      exact congrArg some (if_neg hu).symm

end Go.Proofs.YteefchdfdgfaaaaDoor.Q
namespace Go.Proofs.YteefchdfdgfaaaaDoor.Q
open Go.RowKit Go.Proofs.YteefchdfdgfaaaaDoorW.PrintWords Go.Proofs.YteefchdfdgfaaaaDoorW.PrintLast Go.Proofs.YteefchdfdgfaaaaDoorW.PrintMore
attribute [local go_sem] max2_int min2_int max_two min_two max_three min_three max_four min_four   -- for this text's walks alone
set_option linter.unusedVariables false
set_option linter.unusedSimpArgs false

-- SAYS Chapter 07: what the document's functions answer.
-- FUNCS winnower/winnowerref07.Encode winnower/winnowerref07.Decode winnower/winnowerref07.Find
-- NEEDS schema_May.f schema_Find.f winnowerref07_May.f winnowerref07_name.f winnowerref07_whole.f winnowerref07_Fits.f winnowerref07_Encode.f winnowerref07_Find.f winnowerref07_Decode.f winnowerref06_May.f winnowerref06_Put.f winnowerref06_Get.f winnowerref01_Get.f winnowerref01_GetLen.f schema_keyed.f schema_of.f schema_name.f
-- IMPORT Derived.Test.YteefchdfdgfaaaaDoorHnum
-- IMPORT Derived.Test.YteefchdfdgfaaaaDoorHval
-- IMPORT Derived.Test.YteefchdfdgfaaaaDoorHsch07
-- IMPORT Derived.Test.YteefchdfdgfaaaaDoorHsch07b
-- IMPORT Derived.Test.YteefchdfdgfaaaaDoorHrefget
open Go.Proofs.YteefchdfdgfaaaaDoor.Hnum Go.Proofs.YteefchdfdgfaaaaDoor.Hval
/-- May a byte stand in a name? -/
def okb (b : UInt8) : Bool := (decide (97 ≤ b.toNat) && decide (b.toNat ≤ 122)) || ((decide (48 ≤ b.toNat) && decide (b.toNat ≤ 57)) || decide (b.toNat = 95))
def letters : List UInt8 := [97, 98, 99, 100, 101, 102, 103, 104, 105, 106, 107, 108, 109, 110, 111, 112, 113, 114, 115, 116, 117, 118, 119, 120, 121, 122, 48, 49, 50, 51, 52, 53, 54, 55, 56, 57, 95]
set_option maxRecDepth 100000 in
theorem okb_nat : ∀ n, n < 256 → letters.contains (UInt8.ofNat n) = okb (UInt8.ofNat n) := by decide
theorem okb_letters (b : UInt8) : letters.contains b = okb b := by
  have h := okb_nat b.toNat b.toNat_lt
  rwa [UInt8.ofNat_toNat] at h
theorem mem_dropWhile {α : Type} {p : α → Bool} {x : α} : ∀ {l : List α}, x ∈ l → p x = false → x ∈ l.dropWhile p
  | [], h, _ => by cases h
  | y :: t, h, hp => by
    rw [List.dropWhile_cons]
    cases hy : p y with
    | false => exact h
    | true =>
      rcases List.mem_cons.mp h with rfl | h
      · rw [hp] at hy; cases hy
      · exact mem_dropWhile h hp
theorem dropWhile_all {α : Type} {p : α → Bool} : ∀ {l : List α}, (∀ x ∈ l, p x = true) → l.dropWhile p = []
  | [], _ => rfl
  | y :: t, h => by
    rw [List.dropWhile_cons, if_pos (h y (List.mem_cons_self ..))]
    exact dropWhile_all fun x hx => h x (List.mem_cons_of_mem _ hx)
theorem trim_none (l cs : List UInt8) : (Lib.trimS l cs == ([] : List UInt8)) = l.all (cs.contains ·) := by
  unfold Lib.trimS Lib.trimLeftS Lib.trimRightS
  cases h : l.all (cs.contains ·) with
  | true =>
    rw [List.all_eq_true] at h
    rw [dropWhile_all (l := l.reverse) fun x hx => h x (List.mem_reverse.mp hx)]
    rfl
  | false =>
    have h2 : ∃ x ∈ l, cs.contains x = false := by
      have h3 := h
      rw [List.all_eq_false] at h3
      obtain ⟨x, hx, h4⟩ := h3
      exact ⟨x, hx, by simpa using h4⟩
    obtain ⟨x, hx, hp⟩ := h2
    have h3 := mem_dropWhile (p := (cs.contains ·)) (List.mem_reverse.mpr (mem_dropWhile (p := (cs.contains ·)) (List.mem_reverse.mpr hx) hp)) hp
    cases e : List.dropWhile (cs.contains ·) (List.dropWhile (cs.contains ·) l.reverse).reverse with
    | nil => rw [e] at h3; cases h3
    | cons a b => rfl
theorem name_all (s : ByteArray) : nameS s = (decide (1 ≤ s.size) && (decide (s.size ≤ 16) && s.data.toList.all okb)) := by
  by_cases h1 : (s.size : Int) ≥ 1
  · by_cases h2 : (s.size : Int) ≤ 16
    · rw [name_trim s h1 h2, trim_none, decide_eq_true (show 1 ≤ s.size by omega), decide_eq_true (show s.size ≤ 16 by omega)]
      show s.data.toList.all (letters.contains ·) = _
      rw [show (fun x => letters.contains x) = okb from funext okb_letters]
      rfl
    · rw [decide_eq_false (show ¬ s.size ≤ 16 by omega)]
      unfold nameS schema_name.f
      rw [if_pos h1, if_neg h2]
      simp
  · rw [decide_eq_false (show ¬ 1 ≤ s.size by omega)]
    unfold nameS schema_name.f
    rw [if_neg h1]
    rfl
theorem bt_list (s : ByteArray) {i : Nat} (h : i < s.data.toList.length) : bt s (i : Int) = ((s.data.toList[i]).toNat : Int) := by
  unfold bt
  rw [dif_pos (show ((i : Int)).toNat < s.size by rw [Int.toNat_natCast]; simpa using h)]
  rfl
theorem size_list (s : ByteArray) : s.data.toList.length = s.size := rfl
theorem name_go (s : ByteArray) (hs : s.size ≤ 16) (q : Nat) : ∀ (d i : Nat), i + d = s.size → winnowerref07_name.l0 (d + q + 1) s (i : Int) = some ((s.data.toList.drop i).all okb) := by
  intro d
  induction d with
  | zero =>
    intro i hi
    rw [Nat.zero_add]
    simp only [winnowerref07_name.l0]
    rw [if_neg (by omega), List.drop_of_length_le (by rw [size_list]; omega)]
    rfl
  | succ d ih =>
    intro i hi
    have hk : i < s.data.toList.length := by rw [size_list]; omega
    rw [show d + 1 + q + 1 = (d + q + 1) + 1 by omega]
    rw [winnowerref07_name.l0, if_pos (by omega), if_pos (by omega), wr1 (by omega), ih (i + 1) (by omega), List.drop_eq_getElem_cons hk, List.all_cons, bt_list s hk]
    generalize s.data.toList[i] = b
    generalize List.all (List.drop (i + 1) s.data.toList) okb = R
    unfold okb
    by_cases c1 : 97 ≤ b.toNat
    · rw [if_pos (by omega)]
      by_cases c2 : b.toNat ≤ 122
      · rw [if_pos (by omega), decide_eq_true c1, decide_eq_true c2]; rfl
      · rw [if_neg (by omega), if_pos (by omega), if_neg (by omega), if_neg (by omega), decide_eq_false c2, decide_eq_false (show ¬ b.toNat ≤ 57 by omega), decide_eq_false (show ¬ b.toNat = 95 by omega)]
        simp
    · rw [if_neg (by omega), decide_eq_false c1]
      by_cases c2 : 48 ≤ b.toNat
      · rw [if_pos (by omega), decide_eq_true c2]
        by_cases c3 : b.toNat ≤ 57
        · rw [if_pos (by omega), decide_eq_true c3]; simp
        · rw [if_neg (by omega), decide_eq_false c3]
          by_cases c4 : b.toNat = 95
          · rw [if_pos (by omega), decide_eq_true c4]; simp
          · rw [if_neg (by omega), decide_eq_false c4]; simp
      · rw [if_neg (by omega), decide_eq_false c2]
        by_cases c4 : b.toNat = 95
        · rw [if_pos (by omega), decide_eq_true c4]; simp
        · rw [if_neg (by omega), decide_eq_false c4]; simp
theorem name_ref (s : ByteArray) {k : Nat} (hk : 20 ≤ k) : winnowerref07_name.f k s = some (nameS s) := by
  rw [name_all]
  obtain ⟨q, rfl⟩ : ∃ q, k = q + 20 := ⟨k - 20, by omega⟩
  unfold winnowerref07_name.f
  by_cases h1 : s.size < 1
  · rw [if_pos (by omega), decide_eq_false (show ¬ 1 ≤ s.size by omega), show q + 20 = (q + 19) + 1 by omega]
    simp only [winnowerref07_name.j0]
    rfl
  · rw [if_neg (by omega), decide_eq_true (show 1 ≤ s.size by omega)]
    by_cases h2 : s.size ≤ 16
    · rw [decide_eq_false (show ¬ ((s.size : Int) > 16) by omega), decide_eq_true h2, show q + 20 = (s.size + (q + 18 - s.size) + 1) + 1 by omega, winnowerref07_name.j0, if_neg (by decide)]
      exact name_go s h2 _ s.size 0 (by omega)
    · rw [decide_eq_true (show ((s.size : Int) > 16) by omega), decide_eq_false h2, show q + 20 = (q + 19) + 1 by omega, winnowerref07_name.j0, if_pos rfl]
      rfl
theorem find_none (a : ByteArray) (x : S48) (rest : List S48) (hx : x.f0.toList = a.toList) : ∀ (pre : List S48) (k : Int), (∀ y ∈ pre, ¬ y.f0.toList = a.toList) → findC a (pre ++ x :: rest) k = k + pre.length
  | [], k, _ => by
    show findC a (x :: rest) k = _
    unfold findC
    rw [if_pos (by simpa using hx)]
    simp
  | y :: t, k, h => by
    show findC a (y :: (t ++ x :: rest)) k = _
    unfold findC
    rw [if_neg (by simpa using h y (List.mem_cons_self ..)), find_none a x rest hx t (k + 1) fun z hz => h z (List.mem_cons_of_mem _ hz), List.length_cons]
    omega
theorem find_some (a : ByteArray) (X : List S48) : ∀ (pre : List S48) (k : Int), (∃ y ∈ pre, y.f0.toList = a.toList) → findC a (pre ++ X) k < k + pre.length
  | [], k, h => by obtain ⟨y, hy, _⟩ := h; cases hy
  | y :: t, k, h => by
    show findC a (y :: (t ++ X)) k < _
    unfold findC
    by_cases e : y.f0.toList = a.toList
    · rw [if_pos (by simpa using e), List.length_cons]; omega
    · rw [if_neg (by simpa using e), List.length_cons]
      obtain ⟨z, hz, h2⟩ := h
      rcases List.mem_cons.mp hz with rfl | hz
      · exact absurd h2 e
      · have := find_some a X t (k + 1) ⟨z, hz, h2⟩
        omega
/-- Does a name stand among the columns from j up to i? -/
def dupC (l : List S48) (a : ByteArray) (j i : Nat) : Bool := ((l.take i).drop j).any fun y => decide (y.f0.toList = a.toList)
theorem find_dup (l : List S48) {i : Nat} (h : i < l.length) : decide (findC l[i].f0 l 0 = (i : Int)) = !dupC l l[i].f0 0 i := by
  have hl : l = l.take i ++ l[i] :: l.drop (i + 1) := by rw [← List.drop_eq_getElem_cons h, List.take_append_drop]
  have hlen : (l.take i).length = i := by rw [List.length_take]; omega
  cases hd : dupC l l[i].f0 0 i with
  | true =>
    unfold dupC at hd
    rw [List.drop_zero, List.any_eq_true] at hd
    obtain ⟨y, hy, e⟩ := hd
    have g := find_some l[i].f0 (l[i] :: l.drop (i + 1)) (l.take i) 0 ⟨y, hy, by simpa using e⟩
    rw [← hl, hlen] at g
    exact decide_eq_false (by omega)
  | false =>
    unfold dupC at hd
    rw [List.drop_zero, List.any_eq_false] at hd
    have g := find_none l[i].f0 l[i] (l.drop (i + 1)) rfl (l.take i) 0 (fun y hy => by simpa using hd y hy)
    rw [← hl, hlen] at g
    exact decide_eq_true (by omega)
theorem whole_cases (l : List S48) (a1 a2 a3 a4 x : Int) : (0 ≤ x ∧ x < (l.length : Int) ∧ winnowerref07_whole.f l a1 a2 a3 a4 x = some true ∧ ∀ k, schema_of.f l a1 a2 a3 a4 x k = some (if k = 0 then true else (rd_T48 l x).f1 == k)) ∨ (winnowerref07_whole.f l a1 a2 a3 a4 x = some false ∧ ∀ k, schema_of.f l a1 a2 a3 a4 x k = some false) := by
  unfold winnowerref07_whole.f schema_of.f
  by_cases h0 : x ≥ 0
  · by_cases h1 : x < (l.length : Int)
    · rw [if_pos h0, if_pos h1, if_pos h0]
      cases hn : (rd_T48 l x).f2 with
      | true => exact .inr ⟨rfl, fun k => by rw [if_pos h0, if_pos h1, if_pos h0, if_pos rfl]⟩
      | false =>
        refine .inl ⟨h0, h1, rfl, fun k => ?_⟩
        rw [if_pos h0, if_pos h1, if_pos h0, if_neg (by decide)]
        split <;> rfl
    · exact .inr ⟨by rw [if_pos h0, if_neg h1], fun k => by rw [if_pos h0, if_neg h1]⟩
  · exact .inr ⟨by rw [if_neg h0], fun k => by rw [if_neg h0]⟩
/-- What the document says of the numbers of a schema. -/
def keyR (l : List S48) (a1 a2 a3 a4 : Int) : Option Bool := if a1 = (-1) then (if a2 = (-1) then (some (a3 == (-1))) else (some false)) else ((winnowerref07_whole.f l a1 a2 a3 a4 a1).bind fun t235 => (if t235 = true then ((winnowerref07_whole.f l a1 a2 a3 a4 a2).bind fun t236 => (if t236 = true then (if 0 ≤ a2 then (if a2 < (l.length : Int) then (if ((rd_T48 l a2).f1) = 1 then (if a3 = (-1) then (some true) else ((winnowerref07_whole.f l a1 a2 a3 a4 a3).bind fun t238 => (if t238 = true then (if 0 ≤ a3 then (if a3 < (l.length : Int) then (some (((rd_T48 l a3).f1) == 3)) else (none)) else (none)) else (some false)))) else (some false)) else (none)) else (none)) else (some false))) else (some false)))
theorem key_tell (l : List S48) (a1 a2 a3 a4 : Int) : keyR l a1 a2 a3 a4 = some (keyedS l a1 a2 a3 a4) := by
  rw [← keyed_tell]
  unfold keyR schema_keyed.f
  by_cases h1 : a1 = -1
  · rw [if_pos h1, if_pos h1]
  · rw [if_neg h1, if_neg h1]
    rcases whole_cases l a1 a2 a3 a4 a1 with ⟨_, _, e1, e2⟩ | ⟨e1, e2⟩
    · rw [e1, e2, Option.bind_some, Option.bind_some, if_pos rfl, if_pos rfl, if_pos rfl]
      rcases whole_cases l a1 a2 a3 a4 a2 with ⟨b1, b2, e3, e4⟩ | ⟨e3, e4⟩
      · rw [e3, e4, Option.bind_some, Option.bind_some, if_pos rfl, if_pos b1, if_pos b2, if_neg (show ¬ ((1 : Int) = 0) by decide)]
        by_cases h2 : (rd_T48 l a2).f1 = 1
        · rw [if_pos h2, if_pos (show (((rd_T48 l a2).f1 == 1) = true) by rw [h2]; rfl)]
          by_cases h3 : a3 = -1
          · rw [if_pos h3, if_pos h3]
          · rw [if_neg h3, if_neg h3]
            rcases whole_cases l a1 a2 a3 a4 a3 with ⟨c1, c2, e5, e6⟩ | ⟨e5, e6⟩
            · rw [e5, e6, Option.bind_some, Option.bind_some, if_pos rfl, if_pos c1, if_pos c2, if_neg (show ¬ ((3 : Int) = 0) by decide)]
            · rw [e5, e6, Option.bind_some, Option.bind_some, if_neg (by decide)]
        · rw [if_neg h2, if_neg (by simpa using h2)]
      · rw [e3, e4, Option.bind_some, Option.bind_some, if_neg (by decide), if_neg (by decide)]
    · rw [e1, e2, Option.bind_some, Option.bind_some, if_neg (by decide), if_neg (by decide)]
theorem dup_step (l : List S48) (a : ByteArray) {j i : Nat} (h : j < i) (hi : i ≤ l.length) : dupC l a j i = (decide ((l[j]'(by omega)).f0.toList = a.toList) || dupC l a (j + 1) i) := by
  unfold dupC
  have hj : j < (l.take i).length := by rw [List.length_take]; omega
  rw [List.drop_eq_getElem_cons hj, List.any_cons, List.getElem_take]
theorem dup_end (l : List S48) (a : ByteArray) {i : Nat} : dupC l a i i = false := by
  unfold dupC
  rw [List.drop_of_length_le (by rw [List.length_take]; omega)]
  rfl
theorem may_in {l : List S48} (hl : l.length ≤ 8) (a1 a2 a3 a4 : Int) {i : Nat} (hi : i < l.length) (x0 : ByteArray) (x1 : Int) (x2 : Bool) (q : Nat) : ∀ (d j : Nat), j + d = i →
    ∀ r, winnowerref07_May.l0 q ((i + 1 : Nat) : Int) l a1 a2 a3 a4 = some r → winnowerref07_May.l1 (q + d + 1) (i : Int) (j : Int) l a1 a2 a3 a4 x0 x1 x2 = some (!dupC l x0 j i && r) := by
  intro d
  induction d with
  | zero =>
    intro j hj r hr
    have e : j = i := by omega
    subst e
    rw [Nat.add_zero, winnowerref07_May.l1, if_neg (by omega), wr1 (by omega), hr, dup_end]
    rfl
  | succ d ih =>
    intro j hj r hr
    rw [show q + (d + 1) + 1 = (q + d + 1) + 1 by omega, winnowerref07_May.l1, if_pos (by omega), if_pos (by omega), if_pos (by omega), rd48_at (show j < l.length by omega), wr1 (by omega), ih (j + 1) (by omega) r hr, dup_step l x0 (show j < i by omega) (by omega)]
    by_cases e : (l[j]'(by omega)).f0.toList = x0.toList
    · rw [if_pos e, decide_eq_true e]; rfl
    · rw [if_neg e, decide_eq_false e]; rfl
theorem may_ref_go {l : List S48} (hl : l.length ≤ 8) (a1 a2 a3 a4 : Int) : ∀ (d i q : Nat), i + d = l.length → winnowerref07_May.l0 (12 * d + q + 30) (i : Int) l a1 a2 a3 a4 = some (colsS l (l.drop i) (i : Int) && keyedS l a1 a2 a3 a4) := by
  intro d
  induction d with
  | zero =>
    intro i q hi
    rw [show 12 * 0 + q + 30 = (q + 29) + 1 by omega, winnowerref07_May.l0, if_neg (by omega), List.drop_of_length_le (by omega)]
    exact key_tell l a1 a2 a3 a4
  | succ d ih =>
    intro i q hi
    have hk : i < l.length := by omega
    rw [show 12 * (d + 1) + q + 30 = ((((12 * d + (q + 9 - i) + 30) + i + 1)) + 1) + 1 by omega, winnowerref07_May.l0, if_pos (by omega), if_pos (by omega), rd48_at hk, name_ref _ (by omega), Option.bind_some, List.drop_eq_getElem_cons hk]
    have h2 := may_in hl a1 a2 a3 a4 hk l[i].f0 l[i].f1 l[i].f2 _ i 0 (by omega) _ (ih (i + 1) (q + 9 - i) (by omega))
    have e : colsS l (l[i] :: l.drop (i + 1)) (i : Int) = (nameS l[i].f0 && (decide (1 ≤ l[i].f1) && (decide (l[i].f1 ≤ 3) && (!dupC l l[i].f0 0 i && colsS l (l.drop (i + 1)) ((i + 1 : Nat) : Int))))) := by
      rw [colsS, find_dup l hk]
      rfl
    rw [e]
    have bad2 : ∀ k, winnowerref07_May.j2 (k + 1) (i : Int) true l a1 a2 a3 a4 l[i].f0 l[i].f1 l[i].f2 = some false := fun k => by rw [winnowerref07_May.j2, if_pos rfl]
    cases nameS l[i].f0 with
    | false => rw [if_neg (by decide), bad2]; rfl
    | true =>
      rw [if_pos rfl]
      by_cases c1 : l[i].f1 < 1
      · rw [if_pos c1, bad2, decide_eq_false (show ¬ 1 ≤ l[i].f1 by omega)]; rfl
      · rw [if_neg c1, decide_eq_true (show 1 ≤ l[i].f1 by omega)]
        by_cases c3 : l[i].f1 > 3
        · rw [decide_eq_true c3, bad2, decide_eq_false (show ¬ l[i].f1 ≤ 3 by omega)]; rfl
        · rw [decide_eq_false c3, decide_eq_true (show l[i].f1 ≤ 3 by omega), winnowerref07_May.j2, if_neg (by decide)]
          refine h2.trans ?_
          simp only [Bool.true_and, Bool.and_assoc]
theorem may_ref {l : List S48} (a1 a2 a3 a4 : Int) {k : Nat} (hk : 150 ≤ k) : winnowerref07_May.f k l a1 a2 a3 a4 = some (mayS l a1 a2 a3 a4) := by
  obtain ⟨q, rfl⟩ : ∃ q, k = q + 150 := ⟨k - 150, by omega⟩
  have yes : winnowerref07_May.j0 (q + 150) true l a1 a2 a3 a4 = some false := by rw [show q + 150 = (q + 149) + 1 by omega, winnowerref07_May.j0, if_pos rfl]
  unfold winnowerref07_May.f
  unfold mayS
  by_cases h1 : (l.length : Int) < 1
  · rw [if_pos h1, yes, decide_eq_false (show ¬ 1 ≤ l.length by omega)]
    simp
  · rw [if_neg h1]
    by_cases h8 : (l.length : Int) > 8
    · rw [if_pos h8, yes, decide_eq_false (show ¬ l.length ≤ 8 by omega)]
      simp
    · rw [if_neg h8]
      by_cases h4 : a4 < -1
      · rw [if_pos h4, yes, decide_eq_false (show ¬ -1 ≤ a4 by omega)]
        simp
      · rw [if_neg h4]
        by_cases h5 : a4 ≥ (l.length : Int)
        · rw [decide_eq_true h5, yes, decide_eq_false (show ¬ a4 < (l.length : Int) by omega)]
          simp
        · rw [decide_eq_false h5, show q + 150 = (12 * l.length + (q + 119 - 12 * l.length) + 30) + 1 by omega, winnowerref07_May.j0, if_neg (by decide)]
          have g := may_ref_go (l := l) (by omega) a1 a2 a3 a4 l.length 0 (q + 119 - 12 * l.length) (by omega)
          rw [decide_eq_true (show 1 ≤ l.length by omega), decide_eq_true (show l.length ≤ 8 by omega), decide_eq_true (show -1 ≤ a4 by omega), decide_eq_true (show a4 < (l.length : Int) by omega)]
          refine g.trans ?_
          rw [List.drop_zero]
          simp
theorem winnowerref06_Get.tell {l : List Int} (hb : Bytes l) (hl : l.length ≤ 1000000000) (kind : Int) : winnowerref06_Get.f l kind = some (getV l kind) := by
  unfold winnowerref06_Get.f getV
  by_cases c0 : kind = 0
  · rw [if_pos c0, if_pos c0] <;> rfl
  · rw [if_neg c0, if_neg c0]
    by_cases c1 : kind = 1
    · rw [if_pos c1, if_pos c1, winnowerref01_Get.tell hb, Option.bind_some]
      split <;> rfl
    · rw [if_neg c1, if_neg c1]
      by_cases c2 : kind = 2
      · rw [if_pos c2, if_pos c2]
        rw [winnowerref01_GetLen.tell hb, Option.bind_some]
        rcases getl_cases hb with ⟨e, hg, he⟩ | ⟨u, n, hg, h1, h2, h3, h4⟩
        · rw [hg]
          simp only
          rw [if_neg (by omega), if_neg (by omega)] <;> rfl
        · rw [hg]
          simp only
          rw [if_pos trivial, if_pos trivial]
          by_cases c3 : (u : Int) > 64
          · rw [if_pos c3, if_pos c3] <;> rfl
          · rw [if_neg c3, if_neg c3, wrap_id (x := (n : Int) + (u : Int)) (by omega) (by omega)]
            by_cases c4 : (n : Int) + (u : Int) > (l.length : Int)
            · rw [if_pos (by omega), if_pos c4] <;> rfl
            · rw [if_neg (by omega), if_neg c4, if_pos (by omega), if_pos (by omega), if_pos (by omega)] <;> rfl
      · rw [if_neg c2, if_neg c2]
        by_cases c3 : kind = 3
        · rw [if_pos c3, if_pos c3]
          by_cases c4 : l.length = 0
          · rw [if_pos (by omega), if_pos c4] <;> rfl
          · rw [if_neg (by omega), if_neg c4, if_pos (by omega)]
            split <;> rfl
        · rw [if_neg c3, if_neg c3] <;> rfl
theorem dec_ref_go {l : List S48} (hl : l.length ≤ 1000) (a1 a2 a3 a4 : Int) (q : Nat) : ∀ (d i : Nat) (b : List Int) (acc : List S46), i + d = l.length → Bytes b → b.length ≤ 999999 → acc.length ≤ i →
    winnowerref07_Decode.l0 (d + q + 1) b acc (i : Int) l a1 a2 a3 a4 = decC (l.drop i) b acc := by
  intro d
  induction d with
  | zero =>
    intro i b acc hid hb hbl hacc
    rw [Nat.zero_add, winnowerref07_Decode.l0, if_neg (by omega), List.drop_of_length_le (by omega), decC]
    by_cases h : b = []
    · subst h; rfl
    · have : b.length ≠ 0 := fun e => h (List.length_eq_zero_iff.mp e)
      rw [if_pos (by omega), if_neg h]
  | succ d ih =>
    intro i b acc hid hb hbl hacc
    have hk : i < l.length := by omega
    rw [List.drop_eq_getElem_cons hk, decC_cons hb (by omega), show d + 1 + q + 1 = (d + q + 1) + 1 by omega, winnowerref07_Decode.l0, if_pos (by omega), if_pos (by omega), rd48_at hk, wr1 (by omega)]
    have hget : ∀ (y : List Int) (h : Int), Bytes y → y.length + 1 ≤ 1000000 → (h = 0 ∧ y = b ∨ h = 1 ∧ y = b.drop 1 ∧ 1 ≤ b.length) →
        ((winnowerref06_Get.f y l[i].f1).bind fun bt360 => (if bt360.2.2.2.2.2 = 0 then (if acc.length < 3518437208883 then (if 0 ≤ bt360.2.2.2.2.1 then (if bt360.2.2.2.2.1 ≤ (y.length : Int) then (winnowerref07_Decode.l0 (d + q + 1) (y.drop (bt360.2.2.2.2.1 : Int).toNat) (acc ++ [(⟨bt360.1, bt360.2.1, bt360.2.2.1, bt360.2.2.2.1⟩ : S46)]) ((i + 1 : Nat) : Int) l a1 a2 a3 a4) else (none)) else (none)) else (none)) else (some (([] : List (S46)), bt360.2.2.2.2.2)))) =
        (if (fin1 h (getV y l[i].f1)).2.2.2.2.2 = 0 then (if 0 ≤ (fin1 h (getV y l[i].f1)).2.2.2.2.1 ∧ (fin1 h (getV y l[i].f1)).2.2.2.2.1 ≤ (b.length : Int) then decC (l.drop (i + 1)) (b.drop (fin1 h (getV y l[i].f1)).2.2.2.2.1.toNat) (acc ++ [⟨(fin1 h (getV y l[i].f1)).1, (fin1 h (getV y l[i].f1)).2.1, (fin1 h (getV y l[i].f1)).2.2.1, (fin1 h (getV y l[i].f1)).2.2.2.1⟩]) else none) else some ([], (fin1 h (getV y l[i].f1)).2.2.2.2.2)) := by
      intro y h hy hyl hh
      rw [winnowerref06_Get.tell hy (by omega), Option.bind_some]
      rcases getV_cases hy l[i].f1 with ⟨e, he, h3, h4⟩ | ⟨v, n, hv, hm, hvk, hvb, hvn, hvi⟩
      · rw [he, fin1_bad h e h3]
        dsimp only
        rw [if_neg h3, if_neg h3]
      · have hw : wrap64 (h + (n : Int)) = h + n := by
          unfold wrap64
          rcases hh with ⟨rfl, rfl⟩ | ⟨rfl, rfl, _⟩ <;> omega
        rw [hv, fin1_good, hw]
        dsimp only
        rw [if_pos rfl, if_pos (by omega), if_pos (by omega), if_pos (by omega), if_pos rfl, Int.toNat_natCast, ih (i + 1) _ _ (by omega) (Bytes.drop' hy n) (by rw [List.length_drop]; omega) (by rw [List.length_append]; simp only [List.length_cons, List.length_nil]; omega)]
        rcases hh with ⟨rfl, rfl⟩ | ⟨rfl, rfl, h1⟩
        · rw [if_pos ⟨by omega, by omega⟩, Int.zero_add, Int.toNat_natCast]
        · rw [List.length_drop] at hvn
          rw [if_pos ⟨by omega, by omega⟩, List.drop_drop, show ((1 : Int) + (n : Int)).toNat = 1 + n by omega]
    unfold colV
    by_cases hn : l[i].f2 = true
    · rw [if_pos hn]
      simp only [if_pos hn]
      by_cases h0 : b = []
      · rw [if_pos (by rw [h0]; rfl)]
        simp only [if_pos h0]
        rfl
      · have hl0 : b.length ≠ 0 := fun e => h0 (List.length_eq_zero_iff.mp e)
        rw [if_neg (by omega), if_pos (by omega)]
        simp only [if_neg h0]
        by_cases h1 : rd b 0 > 1
        · rw [if_pos h1]
          simp only [if_pos h1]
          rfl
        · rw [if_neg h1, if_pos (by omega), Option.bind_some]
          simp only [if_neg h1]
          by_cases h2 : rd b 0 = 0
          · rw [if_pos h2, if_pos (by omega)]
            simp only [if_pos h2]
            rw [if_pos trivial, if_pos ⟨by decide, by omega⟩, ih (i + 1) _ _ (by omega) (Bytes.drop' hb 1) (by rw [List.length_drop]; omega) (by rw [List.length_append]; simp only [List.length_cons, List.length_nil]; omega)]
            rfl
          · rw [if_neg h2]
            simp only [if_neg h2]
            exact hget (b.drop 1) 1 (Bytes.drop' hb 1) (by rw [List.length_drop]; omega) (.inr ⟨rfl, rfl, by omega⟩)
    · rw [if_neg hn]
      simp only [if_neg hn]
      exact hget b 0 hb (by omega) (.inl ⟨rfl, rfl⟩)
theorem dec_ref {l : List S48} (hl : l.length ≤ 12) (a1 a2 a3 a4 : Int) {b : List Int} (hb : Bytes b) (hbl : b.length ≤ 900000) {k : Nat} (hk : 190 ≤ k) : winnowerref07_Decode.f k l a1 a2 a3 a4 b = schema_Decode.f l a1 a2 a3 a4 b := by
  unfold winnowerref07_Decode.f
  rw [dec_tell l (by omega), may_ref a1 a2 a3 a4 (by omega), Option.bind_some]
  cases h : mayS l a1 a2 a3 a4 with
  | false => rfl
  | true =>
    rw [if_pos rfl, if_pos rfl]
    obtain ⟨q, rfl⟩ : ∃ q, k = l.length + q + 1 := ⟨k - l.length - 1, by omega⟩
    exact dec_ref_go (by omega) a1 a2 a3 a4 q l.length 0 b [] (by omega) hb (by omega) (by simp)

end Go.Proofs.YteefchdfdgfaaaaDoor.Q
namespace Go.Proofs.YteefchdfdgfaaaaDoor.Q
open Go.RowKit Go.Proofs.YteefchdfdgfaaaaDoorW.PrintWords Go.Proofs.YteefchdfdgfaaaaDoorW.PrintLast Go.Proofs.YteefchdfdgfaaaaDoorW.PrintMore
attribute [local go_sem] max2_int min2_int max_two min_two max_three min_three max_four min_four   -- for this text's walks alone
set_option linter.unusedVariables false
set_option linter.unusedSimpArgs false

-- SAYS Chapter 07: SchemaTells, SchemaDecodes answer true.
-- FUNCS winnower/winnowerlaw07.SchemaTells winnower/winnowerlaw07.SchemaDecodes
-- NEEDS winnowerlaw07_SchemaTells.f winnowerlaw07_SchemaDecodes.f schema_Encode.f schema_Fits.f schema_May.f schema_Decode.f schema_Find.f winnowerref01_Same.f
-- IMPORT Derived.Test.YteefchdfdgfaaaaDoorHnum
-- IMPORT Derived.Test.YteefchdfdgfaaaaDoorHval
-- IMPORT Derived.Test.YteefchdfdgfaaaaDoorHsch07
-- IMPORT Derived.Test.YteefchdfdgfaaaaDoorHsch07b
-- IMPORT Derived.Test.YteefchdfdgfaaaaDoorHsch07c
-- IMPORT Derived.Test.YteefchdfdgfaaaaDoorHsch07d
open Go.Proofs.YteefchdfdgfaaaaDoor.Hnum Go.Proofs.YteefchdfdgfaaaaDoor.Hval
theorem few_ge (l : List S48) (a1 a2 a3 a4 : Int) {k : Nat} (hk : 200 ≤ k) : winnowerref07_Few.f k l a1 a2 a3 a4 = some (fewC l) := by
  by_cases h : l.length ≤ 12
  · exact few07_tell l a1 a2 a3 a4 (by omega)
  · unfold winnowerref07_Few.f fewC
    rw [if_pos (by omega), decide_eq_false h]
    rfl
theorem decodes07 {l : List S48} {a1 a2 a3 a4 : Int} {b : List Int} (hb : Bytes b) : winnowerlaw07_SchemaDecodes.f 300 l a1 a2 a3 a4 b = some true := by
  have skip : ∀ k, winnowerlaw07_SchemaDecodes.j0 (k + 1) b true true l a1 a2 a3 a4 = some true := fun k => by rw [winnowerlaw07_SchemaDecodes.j0, if_pos rfl]
  unfold winnowerlaw07_SchemaDecodes.f
  rw [awake_200, Option.bind_some, few_ge _ _ _ _ _ (by decide), Option.bind_some, if_pos rfl]
  cases hf : fewC l with
  | false => rw [if_neg (by decide)]; exact skip 299
  | true =>
    rw [if_pos rfl]
    have hl := fewC_len hf
    by_cases h1 : (b.length : Int) > 1000
    · rw [decide_eq_true h1]; exact skip 299
    · rw [decide_eq_false h1, winnowerlaw07_SchemaDecodes.j0, if_neg (by decide), dec_ref hl a1 a2 a3 a4 hb (by omega) (by decide)]
      have hd : ∃ r e, schema_Decode.f l a1 a2 a3 a4 b = some (r, e) ∧ r.length ≤ 12 := by
        rw [dec_tell l (by omega)]
        cases hm : mayS l a1 a2 a3 a4 with
        | false => exact ⟨[], 1, rfl, by simp⟩
        | true =>
          rw [if_pos rfl]
          rcases dec_cases l b [] (mayS_kind hm) hb (by omega) with ⟨e, he, _⟩ | ⟨row, r1, _, _, _, r5⟩
          · exact ⟨[], e, he, by simp⟩
          · exact ⟨row, 0, r5, by omega⟩
      obtain ⟨r, e, hr, hlen⟩ := hd
      rw [hr, Option.bind_some, Option.bind_some]
      dsimp only
      rw [same06_tell r r (by omega) (by omega), Option.bind_some, decide_eq_true rfl, if_pos rfl]
      simp

end Go.Proofs.YteefchdfdgfaaaaDoor.Q
namespace Go.Proofs.YteefchdfdgfaaaaDoor.Q
open Go.RowKit Go.Proofs.YteefchdfdgfaaaaDoorW.PrintWords Go.Proofs.YteefchdfdgfaaaaDoorW.PrintLast Go.Proofs.YteefchdfdgfaaaaDoorW.PrintMore
attribute [local go_sem] max2_int min2_int max_two min_two max_three min_three max_four min_four   -- for this text's walks alone
set_option linter.unusedVariables false
set_option linter.unusedSimpArgs false

-- SAYS Chapter 07: a law's call with a schema that is read as data.
-- FUNCS winnower/winnowerlaw07.SchemaTells winnower/winnowerlaw07.SchemaDecodes winnower/winnowerlaw07.SchemaBack winnower/winnowerlaw07.SchemaOnly winnower/winnowerlaw07.SchemaApart
-- NEEDS Globs winnowerlaw07_SchemaTells.f winnowerlaw07_SchemaDecodes.f winnowerlaw07_SchemaBack.f winnowerlaw07_SchemaOnly.f winnowerlaw07_SchemaApart.f
-- IMPORT Derived.Test.YteefchdfdgfaaaaDoorHnum
-- IMPORT Derived.Test.YteefchdfdgfaaaaDoorHval
-- IMPORT Derived.Test.YteefchdfdgfaaaaDoorHsch07c
-- IMPORT Derived.Test.YteefchdfdgfaaaaDoorHsch07e
open Go.Proofs.YteefchdfdgfaaaaDoor.Hnum Go.Proofs.YteefchdfdgfaaaaDoor.Hval
/-- A schema as it is read: its columns and four numbers. -/
abbrev SchV := List S48 × Int × Int × Int × Int
abbrev kSch : Kd SchV := Kd.pair (Kd.slice 48 k48) (Kd.pair (Kd.int .i64) (Kd.pair (Kd.int .i64) (Kd.pair (Kd.int .i64) (Kd.int .i64))))
theorem sch_open {W : World} {x : SchV} {cs : List Value} (h : kSch.K W x cs) : ∃ A c, Value.agg cs.toArray = .agg #[.slice A x.1.length c, .int .i64 x.2.1, .int .i64 x.2.2.1, .int .i64 x.2.2.2.1, .int .i64 x.2.2.2.2] ∧ x.1.length ≤ c ∧ Kd.C k48 W A x.1.length x.1 := by
  obtain ⟨c1, c2, rfl, ⟨A, c, rfl, hl, hC⟩, c3, c4, rfl, h3, c5, c6, rfl, h5, c7, c8, rfl, h7, h8⟩ := h
  obtain rfl : c3 = [.int .i64 x.2.1] := h3
  obtain rfl : c5 = [.int .i64 x.2.2.1] := h5
  obtain rfl : c7 = [.int .i64 x.2.2.2.1] := h7
  obtain rfl : c8 = [.int .i64 x.2.2.2.2] := h8
  exact ⟨A, c, rfl, hl, hC⟩
theorem schemaDecodes_call {x : SchV} {cs : List Value} (A1 : Option Addr) (c1 : Nat) (l1 : List Int) (W : World) (hk : kSch.K W x cs) (hr1 : Kd.C (Kd.int .u8) W A1 l1.length l1) (hc1 : l1.length ≤ c1) (hb : Bytes l1) (hG : Globs W) :
    Calls Tryd.prog 4 #[.agg cs.toArray, .slice A1 l1.length c1] W fun e w' => e = .returned (.bool true) ∧ Below W.heap.size W w' := by
  obtain ⟨A, c, e, hl, hC⟩ := sch_open hk
  rw [e]
  exact winnowerlaw07_SchemaDecodes.calls 300 A c x.1 _ _ _ _ A1 c1 l1 true W hC hl hr1 hc1 hG rfl (decodes07 hb)

end Go.Proofs.YteefchdfdgfaaaaDoor.Q
namespace Go.Proofs.YteefchdfdgfaaaaDoor.Hopen
open Go.RowKit Go.Deep Go.ChangeShapes Go.WideShapes Go.Proofs.YteefchdfdgfaaaaDoorW.PrintWords Go.Proofs.YteefchdfdgfaaaaDoorW.PrintLast Go.Proofs.YteefchdfdgfaaaaDoorW.PrintMore
set_option linter.unusedVariables false
set_option linter.unusedSectionVars false

/-- Whatever reads as data of type t is of kind d, and so well formed. -/
def Opens {α : Type} (P : Program) (w : World) (t : TypeId) (d : Kd α) (ok : α → Prop) : Prop :=
  P.cellsOf t = d.sz ∧ ∀ (H : Type) (enc : TypeId × Value → H) (fuel : Nat) (cs : List Value) (x : DataW H × List MemPlace), DataW.trod enc P w 0 (fun _ => true) true fuel t cs = some x → ∃ a, d.K w a cs ∧ ok a
variable {P : Program} {w : World} {t e : TypeId} {α β : Type} {d : Kd α} {ok : α → Prop}
theorem Opens.int {k : IntKind} (ht : P.underlying t = some (.int k)) (hc : P.cellsOf t = 1) : Opens P w t (Kd.int k) (fun n => (Lit.int k n).wf = true) := by
  refine ⟨hc, fun H enc fuel cs x hx => ?_⟩
  obtain ⟨n, rfl, _, hw⟩ := DataW.trod_int ht hx
  exact ⟨n, rfl, hw⟩
theorem Opens.string (ht : P.underlying t = some .string) (hc : P.cellsOf t = 1) : Opens P w t Kd.string (fun s => s.size ≤ maxLen) := by
  refine ⟨hc, fun H enc fuel cs x hx => ?_⟩
  obtain ⟨s, rfl, _, hw⟩ := DataW.trod_string ht hx
  exact ⟨s, rfl, hw⟩
theorem Opens.bool (ht : P.underlying t = some .bool) (hc : P.cellsOf t = 1) : Opens P w t Kd.bool (fun _ => True) := by
  refine ⟨hc, fun H enc fuel cs x hx => ?_⟩
  obtain ⟨b, rfl, _⟩ := DataW.trod_bool ht hx
  exact ⟨b, rfl, trivial⟩
theorem list_of {p : Nat → α → Prop} (n : Nat) (h : ∀ i, i < n → ∃ x, p i x) : ∃ xs : List α, xs.length = n ∧ ∀ i x, xs[i]? = some x → p i x := by
  induction n with
  | zero => exact ⟨[], rfl, fun i x hx => by simp at hx⟩
  | succ n ih =>
    obtain ⟨xs, hl, hp⟩ := ih (fun i hi => h i (by omega))
    obtain ⟨y, hy⟩ := h n (by omega)
    refine ⟨xs ++ [y], by simp [hl], fun i x hx => ?_⟩
    rcases Nat.lt_or_ge i xs.length with hi | hi
    · rw [List.getElem?_append_left hi] at hx; exact hp i x hx
    · have hlt := (List.getElem?_eq_some_iff.1 hx).1
      rw [List.length_append, List.length_singleton] at hlt
      obtain rfl : i = n := by omega
      rw [List.getElem?_append_right (by omega), hl, Nat.sub_self] at hx
      simp at hx; rw [← hx]; exact hy
theorem C_nil (d : Kd α) (w : World) (A : Option Addr) : d.C w A 0 [] := ⟨rfl, by omega, fun h => by omega⟩
theorem Opens.slice {e' : Nat} (h : Opens P w e d ok) (ht : P.underlying t = some (.slice e)) (hc : P.cellsOf t = 1) : Opens P w t (Kd.slice e' d) (fun xs => xs.length ≤ maxLen ∧ ∀ x ∈ xs, ok x) := by
  refine ⟨hc, fun H enc fuel cs x hx => ?_⟩
  rcases open_slice ht hx with ⟨rfl, _⟩ | ⟨a, len, cap, m, n, D, Pl, rfl, _, hl, hm, hmm, _, hi⟩
  · exact ⟨[], ⟨none, 0, rfl, Nat.le_refl _, C_nil d w none⟩, by simp, fun x hx => by cases hx⟩
  · have hmc : m = cap := by simpa using hmm
    subst hmc
    obtain ⟨xs, hxl, hxs⟩ := list_of (p := fun i y => ∃ cs', w.cells? 0 (a.add (i * P.cellsOf e)) (P.cellsOf e) = some cs' ∧ d.K w y cs' ∧ ok y) len (fun i hlt => by
      obtain ⟨cs', h1, h2⟩ := hi i (by omega)
      obtain ⟨y, hy, ho⟩ := h.2 H enc n cs' _ h2
      exact ⟨y, cs', h1, hy, ho⟩)
    subst hxl
    refine ⟨xs, ⟨some a, m, rfl, hl, rfl, by unfold maxLen at hm; omega, fun _ => ⟨a, rfl, fun j p hj => ?_⟩⟩, by omega, fun y hy => ?_⟩
    · obtain ⟨cs', h1, h2, _⟩ := hxs j p hj
      obtain ⟨_, hcl, hat⟩ := World.cells?_some h1
      rw [h.1] at hcl hat
      refine ⟨cs', hcl, h2, fun i u hu => ?_⟩
      have hlt := (List.getElem?_eq_some_iff.1 hu).1
      rw [← Go.Deep.add_add, hat i (by omega), hu]
    · obtain ⟨i, hi⟩ := List.mem_iff_getElem?.1 hy
      exact (hxs i y hi).choose_spec.2.2
/-- So the fields from a place on. -/
def OpensF {α : Type} (P : Program) (w : World) (l : List Field) (off : Nat) (d : Kd α) (ok : α → Prop) : Prop :=
  ∀ (H : Type) (enc : TypeId × Value → H) (cs : List Value), (∀ f ∈ l, ∃ fuel y, DataW.trod enc P w 0 (fun _ => true) true fuel f.type ((cs.drop f.offset).take (P.cellsOf f.type)) = some y) → ∃ a, d.K w a ((cs.drop off).take d.sz) ∧ ok a
theorem OpensF.last {f : Field} {off : Nat} (h : Opens P w f.type d ok) (ho : f.offset = off) : OpensF P w [f] off d ok := by
  intro H enc cs hf
  obtain ⟨fuel, y, hy⟩ := hf f (List.mem_singleton.2 rfl)
  rw [ho, h.1] at hy
  exact h.2 H enc fuel _ y hy
theorem OpensF.cons {f : Field} {l : List Field} {off : Nat} {d2 : Kd β} {ok2 : β → Prop} (h : Opens P w f.type d ok) (ho : f.offset = off) (h2 : OpensF P w l (off + d.sz) d2 ok2) : OpensF P w (f :: l) off (Kd.pair d d2) (fun a => ok a.1 ∧ ok2 a.2) := by
  intro H enc cs hf
  obtain ⟨fuel, y, hy⟩ := hf f (List.mem_cons_self ..)
  rw [ho, h.1] at hy
  obtain ⟨a, ha, oa⟩ := h.2 H enc fuel _ y hy
  obtain ⟨b, hb, ob⟩ := h2 H enc cs (fun g hg => hf g (List.mem_cons_of_mem _ hg))
  refine ⟨(a, b), ⟨_, _, ?_, ha, hb⟩, oa, ob⟩
  show (cs.drop off).take (d.sz + d2.sz) = _
  rw [← List.drop_drop, List.take_add]
theorem Opens.struct {fs : Array Field} (h : OpensF P w fs.toList 0 d ok) (ht : P.underlying t = some (.struct fs)) (hc : P.cellsOf t = d.sz) : Opens P w t d ok := by
  refine ⟨hc, fun H enc fuel cs x hx => ?_⟩
  obtain ⟨xs, n, _, _, hl, hxl, hf⟩ := DataW.trod_struct ht hx
  obtain ⟨a, ha, oa⟩ := h H enc cs (fun f hm => by
    obtain ⟨i, hi⟩ := List.mem_iff_getElem?.1 hm
    have hi' : fs[i]? = some f := by simpa using hi
    have := hf i f hi'
    have hlt : i < xs.length := by have := (Array.getElem?_eq_some_iff.1 hi').1; omega
    exact ⟨n, _, this.trans (List.getElem?_eq_getElem hlt)⟩)
  rw [List.drop_zero, ← hc, ← hl, List.take_length] at ha
  exact ⟨a, ha, oa⟩
theorem Opens.iso (h : Opens P w t d ok) (f : β → α) (g : α → β) (hfg : ∀ a, f (g a) = a) : Opens P w t (Kd.iso d f) (fun b => ok (f b)) := by
  refine ⟨h.1, fun H enc fuel cs x hx => ?_⟩
  obtain ⟨a, ha, oa⟩ := h.2 H enc fuel cs x hx
  exact ⟨g a, by show d.K w (f (g a)) cs; rw [hfg]; exact ha, by show ok (f (g a)); rw [hfg]; exact oa⟩
/-- An argument. -/
theorem Opens.arg (h : Opens P w t d ok) {H : Type} {enc : TypeId × Value → H} {v : Value} {x : DataW H} {p : List MemPlace} (ht : DataW.Trod enc P w 0 (fun _ => true) true t v x p) : ∃ a, d.K w a v.cells.toList ∧ ok a := by
  obtain ⟨fuel, hf⟩ := ht
  exact h.2 H enc fuel _ _ hf
/-- An argument that is a slice. -/
theorem Opens.sliceArg (h : Opens P w e d ok) (ht : P.underlying t = some (.slice e)) (hc : P.cellsOf t = 1) {r : Reach} {b0 : Nat} {H : Type} {enc : TypeId × Value → H} {v : Value} {x : DataW H} {p : List MemPlace} (hv : Value.okWide P w r b0 t v) (hx : DataW.Trod enc P w 0 (fun _ => true) true t v x p) :
    ∃ (xs : List α) (A : Option Addr) (c : Nat), v = .slice A xs.length c ∧ xs.length ≤ c ∧ d.C w A xs.length xs ∧ xs.length ≤ maxLen ∧ ∀ y ∈ xs, ok y := by
  obtain ⟨A, len, cap, rfl⟩ := okWide_slice ht hv
  obtain ⟨xs, ⟨A', c, hcs, hl, hC⟩, h1, h2⟩ := (Opens.slice (e' := 0) h ht hc).arg hx
  have hcs' : [Value.slice A len cap] = [Value.slice A' xs.length c] := hcs
  simp only [List.cons.injEq, Value.slice.injEq, and_true] at hcs'
  obtain ⟨rfl, rfl, rfl⟩ := hcs'
  exact ⟨xs, A, cap, rfl, hl, hC, h1, h2⟩
/-- An argument that is a struct. -/
theorem Opens.structArg (h : Opens P w t d ok) {fs : Array Field} (ht : P.underlying t = some (.struct fs)) {r : Reach} {b0 : Nat} {H : Type} {enc : TypeId × Value → H} {v : Value} {x : DataW H} {p : List MemPlace} (hv : Value.okWide P w r b0 t v) (hx : DataW.Trod enc P w 0 (fun _ => true) true t v x p) :
    ∃ (a : α) (cs : List Value), v = .agg cs.toArray ∧ d.K w a cs ∧ ok a := by
  obtain ⟨cs, rfl, hsz⟩ := okWide_struct ht hv
  obtain ⟨a, ha, oa⟩ := h.arg hx
  exact ⟨a, cs.toList, by simp, ha, oa⟩
end Go.Proofs.YteefchdfdgfaaaaDoor.Hopen
namespace Go.Proofs.YteefchdfdgfaaaaDoor.Q
open Go.RowKit Go.Proofs.YteefchdfdgfaaaaDoorW.PrintWords Go.Proofs.YteefchdfdgfaaaaDoorW.PrintLast Go.Proofs.YteefchdfdgfaaaaDoorW.PrintMore
attribute [local go_sem] max2_int min2_int max_two min_two max_three min_three max_four min_four   -- for this text's walks alone
set_option linter.unusedVariables false
set_option linter.unusedSimpArgs false

-- SAYS What the listed variables of the library give: the handle of the type error.
-- FUNCS winnower/schema.Decode
-- NEEDS Globs
-- IMPORT Derived.Test.YteefchdfdgfaaaaDoorRows
-- IMPORT Derived.ProofKit
-- IMPORT Derived.LaidMore
-- IMPORT Derived.Lay
-- IMPORT Derived.LaidLaws
-- IMPORT Derived.LaidHandle
-- IMPORT Derived.OpenShut
-- IMPORT Derived.Stop.Joined
namespace Laid
open Go.ChangeShapes Go.WideShapes Go.ChangeAt Go.WideMaps Go.WideElems
def three : List (String × DataW Unit) := [("unicode/utf8.acceptRanges", Rows.laid_unicode_utf8_acceptRanges), ("errors.errorType", Rows.laid_errors_errorType), ("unicode/utf8.first", Rows.laid_unicode_utf8_first)]
theorem gErr : Tryd.prog.globalNamed "errors.errorType" = some 0 := by kernel_rfl
theorem rtErr : (Tryd.prog.cutTypes.find? (·.1 == "internal/reflectlite.rtype")).map (·.2) = some 117 := by kernel_rfl
theorem sizeT : Tryd.prog.types.size = 174 := by kernel_rfl
theorem oneRow : ((List.range 174).filter fun t => Tryd.prog.rowNamed t [101, 114, 114, 111, 114]) = [58] := by kernel_rfl
def two : List (String × DataW Unit) := [("unicode/utf8.acceptRanges", Rows.laid_unicode_utf8_acceptRanges), ("unicode/utf8.first", Rows.laid_unicode_utf8_first)]
/-- A start that reads as listed: the one that the door's own run leaves, Go's two tables laid. -/
noncomputable def start (os : Os) : World := (World.doorLaid Tryd.prog 400 os).layVars Tryd.prog two
theorem start_os (os : Os) : (start os).os = os := (World.layVars_os _ _ _).trans rfl
theorem start_shaped (os : Os) (args : Array Value) : ((start os).forCall (fun _ _ => 0) ⟨#[], args, []⟩).Shaped Tryd.prog := World.shaped_of_ZipB (by kernel_rfl) (by kernel_rfl)
theorem two_met (os : Os) (args : Array Value) : laidMet Tryd.prog (three.filter fun x => x.2.handleName?.isNone) ((start os).forCall (fun _ _ => 0) ⟨#[], args, []⟩).memory := by
  have e0 : (three.filter fun x => x.2.handleName?.isNone) = two := by kernel_rfl
  have e1 : (two.filter fun x => (["unicode/utf8.acceptRanges", "unicode/utf8.first"] : List String).contains x.1) = two := by kernel_rfl
  have e2 : (two.filter fun x => !(["unicode/utf8.acceptRanges", "unicode/utf8.first"] : List String).contains x.1) = [] := by kernel_rfl
  rw [e0]
  have h : laidMet Tryd.prog two (start os) := laidMet_layVars (w0 := World.doorLaid Tryd.prog 400 os) ["unicode/utf8.acceptRanges", "unicode/utf8.first"] [] (by rw [e1]; rfl) (by rw [e1]; kernel_rfl) (by rw [e1]; kernel_rfl) (by rw [e2]; exact LaidIn.none)
  exact h.of_heap (by simp [World.memory, World.forCall, Input.heap])
theorem door_met (os : Os) (args : Array Value) : laidMetH Tryd.prog three ((start os).forCall (fun _ _ => 0) ⟨#[], args, []⟩).memory :=
  laidMetH_of_parts3 (fuel := 8) (two_met os args) (by kernel_rfl) (by kernel_rfl)
theorem globs_of_laid {W : World} (h : laidMetH Tryd.prog three W) : Globs W := by
  have h' : handlesMet Tryd.prog [("errors.errorType", Rows.laid_errors_errorType)] W := h.2
  obtain ⟨name, u, ty, e1, e2, e3, e4, e5⟩ := h' _ (List.mem_singleton.2 rfl)
  have en : name = [101, 114, 114, 111, 114] := (Option.some.inj e1).symm
  subst en
  obtain rfl := Option.some.inj (rtErr.symm.trans e2)
  have hm : ty ∈ (List.range 174).filter fun t => Tryd.prog.rowNamed t [101, 114, 114, 111, 114] := List.mem_filter.2 ⟨List.mem_range.2 (by rw [← sizeT]; exact e3), e4⟩
  rw [oneRow] at hm
  obtain rfl := List.mem_singleton.1 hm
  unfold Globs
  have hh : Value.iface 117 (.agg #[typeHandle Tryd.prog 58]) = RT 58 := by kernel_rfl
  rw [← hh]
  simpa using World.var?_cell gErr e5 0
end Laid

end Go.Proofs.YteefchdfdgfaaaaDoor.Q
