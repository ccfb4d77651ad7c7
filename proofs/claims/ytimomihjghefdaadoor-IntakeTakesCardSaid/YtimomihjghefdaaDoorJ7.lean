/- Chapter 22: what decoding by a schema answers, in plain words. The machine side of laws, written by wip/tools/myprint.py (the printer's way, with functions proved by hand put in); Lean checks it. -/
import Derived.Test.YtimomihjghefdaaDoorJ0
import Derived.Test.YtimomihjghefdaaDoorJ2
import Derived.Test.YtimomihjghefdaaDoorJ4
import Derived.Test.YtimomihjghefdaaDoorJ1
import Derived.Test.YtimomihjghefdaaDoorQx6
import Derived.Test.YtimomihjghefdaaDoorJ5
import Derived.Test.YtimomihjghefdaaDoorQx11
import Derived.Test.YtimomihjghefdaaDoorJ6
import Derived.Test.YtimomihjghefdaaDoorQx17
import Derived.Test.YtimomihjghefdaaDoorQx22
import Derived.Test.YtimomihjghefdaaDoorQx23
import Derived.Test.YtimomihjghefdaaDoorQx24
namespace Go.Proofs.YtimomihjghefdaaDoor.Q
open Go.RowKit Go.Proofs.YtimomihjghefdaaDoorW.PrintWords Go.Proofs.YtimomihjghefdaaDoorW.PrintLast Go.Proofs.YtimomihjghefdaaDoorW.PrintMore
attribute [local go_sem] z0y z0v z0z z10 z0s z0t z0w z0x   -- for this text's walks alone
set_option linter.unusedVariables false
set_option linter.unusedSimpArgs false

-- SAYS Chapter 22: what decoding by a schema answers, in plain words.
-- FUNCS winnower/intake.Take
-- NEEDS schema_Decode.f schema_column.f schema_keyed.f schema_name.f schema_of.f strings_Trim.f value_Get.f value_text.f winnowerref06_Get.f winnowerref06_Same.f winnowerref07_Decode.f winnowerref07_Few.f winnowerref07_May.f winnowerref07_name.f winnowerref07_whole.f
-- IMPORT Derived.Test.YtimomihjghefdaaDoorHnum
-- IMPORT Derived.Test.YtimomihjghefdaaDoorHval
-- IMPORT Derived.Test.YtimomihjghefdaaDoorHnumget
-- IMPORT Derived.Test.YtimomihjghefdaaDoorHnumgetl
-- IMPORT Derived.Test.YtimomihjghefdaaDoorHrefget
open Go.Proofs.YtimomihjghefdaaDoor.Hnum Go.Proofs.YtimomihjghefdaaDoor.Hval
theorem value_Get.tell {l : List Int} (hb : Bytes l) (hl : l.length ≤ 1000000000) (kind : Int) : value_Get.f l kind = some (getV l kind) := by
  unfold value_Get.f getV
  by_cases c0 : kind = 0
  · rw [if_pos c0, if_pos c0] <;> rfl
  · rw [if_neg c0, if_neg c0]
    by_cases c1 : kind = 1
    · rw [if_pos c1, if_pos c1, num_Get.tell hb, Option.bind_some]
      split <;> rfl
    · rw [if_neg c1, if_neg c1]
      by_cases c2 : kind = 2
      · rw [if_pos c2, if_pos c2]
        unfold value_text.f
        rw [num_GetLen.tell hb, Option.bind_some]
        rcases z27 hb with ⟨e, hg, he⟩ | ⟨u, n, hg, h1, h2, h3, h4⟩
        · rw [hg]
          simp only
          rw [if_neg (by omega), if_neg (by omega)] <;> rfl
        · rw [hg]
          simp only
          rw [if_pos trivial, if_pos trivial]
          by_cases c3 : (u : Int) > 64
          · rw [if_pos c3, if_pos c3] <;> rfl
          · rw [if_neg c3, if_neg c3, z1c (x := (l.length : Int) - (n : Int)) (by omega) (by omega), z1c (x := (n : Int) + (u : Int)) (by omega) (by omega)]
            by_cases c4 : (n : Int) + (u : Int) > (l.length : Int)
            · rw [if_pos (by omega), if_pos c4] <;> rfl
            · rw [if_neg (by omega), if_neg c4, if_pos (by omega), if_pos (by omega), if_pos (by omega)] <;> rfl
      · rw [if_neg c2, if_neg c2]
        by_cases c3 : kind = 3
        · rw [if_pos c3, if_pos c3]
          by_cases c4 : l.length = 0
          · rw [if_pos (by omega), if_pos c4] <;> rfl
          · rw [if_neg (by omega), if_neg c4, if_pos (by omega)]
            split <;> rfl
        · rw [if_neg c3, if_neg c3] <;> rfl
theorem z7a {l : List S63} {i : Nat} (h : i < l.length) : z14 l (i : Int) = l[i] := by
  unfold z14
  rw [Int.toNat_natCast, List.getD_eq_getElem?_getD, List.getElem?_eq_getElem h]
  rfl
theorem z3z {l : List S45} {i : Nat} (h : i < l.length) : z0f l (i : Int) = l[i] := by
  unfold z0f
  rw [Int.toNat_natCast, List.getD_eq_getElem?_getD, List.getElem?_eq_getElem h]
  rfl
theorem wr1 {i : Nat} (h : i ≤ 1000000000) : wrap64 ((i : Int) + 1) = ((i + 1 : Nat) : Int) := by unfold wrap64; omega
instance eq46 : DecidableEq S63 := fun a b => decidable_of_iff (a.f0 = b.f0 ∧ a.f1 = b.f1 ∧ a.f2.toList = b.f2.toList ∧ a.f3 = b.f3) ⟨fun h => by
    cases a; cases b
    obtain ⟨h0, h1, h2, h3⟩ := h
    simp only at h0 h1 h2 h3
    rw [h0, h1, Go.Proofs.YtimomihjghefdaaDoor.Hval.bytes_ext h2, h3], fun h => by subst h; exact ⟨rfl, rfl, rfl, rfl⟩⟩
def tv (v : S63) : V := ⟨v.f0, v.f1, v.f2, v.f3⟩
/-- Does a value fit a column? -/
def fitC (x : S45) (v : S63) : Bool := V.may (tv v) && (decide (v.f0 = x.f1) || (decide (v.f0 = 0) && x.f2))
def z5x : List S45 → List S63 → Bool
  | [], _ => true
  | _ :: _, [] => false
  | x :: t, v :: r => fitC x v && z5x t r
/-- The bytes of a value in its column, and of a row. -/
def encV (x : S45) (v : S63) : List Int := if x.f2 = true then (if v.f0 = 0 then [0] else 1 :: V.bytes (tv v)) else V.bytes (tv v)
def encS : List S45 → List S63 → List Int
  | x :: t, v :: r => encV x v ++ encS t r
  | _, _ => []
def z1i : List S45 := [⟨⟨#[107]⟩, 1, false⟩, ⟨⟨#[118]⟩, 2, true⟩]
theorem toL (l : List UInt8) : (⟨l.toArray⟩ : ByteArray).toList = l := by rw [ByteArray.toList_eq]
theorem z34 (s : ByteArray) (h1 : (s.size : Int) ≥ 1) (h2 : (s.size : Int) ≤ 16) : nameS s = (Lib.trimS s.data.toList [97, 98, 99, 100, 101, 102, 103, 104, 105, 106, 107, 108, 109, 110, 111, 112, 113, 114, 115, 116, 117, 118, 119, 120, 121, 122, 48, 49, 50, 51, 52, 53, 54, 55, 56, 57, 95] == ([] : List UInt8)) := by
  unfold nameS schema_name.f strings_Trim.f
  rw [if_pos h1, if_pos h2, if_pos ⟨by omega, by decide, by decide⟩, Option.bind_some, toL]
  rfl
theorem z4v : nameS ⟨#[107]⟩ = true := by
  rw [z34 _ (by decide) (by decide)]
  decide
theorem z4x : nameS ⟨#[118]⟩ = true := by
  rw [z34 _ (by decide) (by decide)]
  decide
theorem z4p : findC ⟨#[107]⟩ z1i 0 = 0 := by
  unfold z1i findC
  rw [toL [107]]
  rfl
theorem z4s : findC ⟨#[118]⟩ z1i 0 = 1 := by
  unfold z1i findC findC
  rw [toL [107], toL [118]]
  rfl
theorem z2y : mayS z1i (-1) (-1) (-1) (-1) = true := by
  have hc : colsS z1i z1i 0 = true := by
    show (nameS ⟨#[107]⟩ && (decide ((1 : Int) ≤ 1) && (decide ((1 : Int) ≤ 3) && (decide (findC ⟨#[107]⟩ z1i 0 = 0) && (nameS ⟨#[118]⟩ && (decide ((1 : Int) ≤ 2) && (decide ((2 : Int) ≤ 3) && (decide (findC ⟨#[118]⟩ z1i 0 = 0 + 1) && true)))))))) = true
    rw [z4v, z4x, z4p, z4s]
    rfl
  unfold mayS
  rw [hc]
  rfl
theorem b10 : V.bytes ⟨1, 5, ⟨#[]⟩, false⟩ = [10] := by
  unfold V.bytes
  rw [if_pos rfl, show fold 5 = 10 from rfl, z2g (by decide)]
  rfl
theorem z7j : V.may ⟨1, 5, ⟨#[]⟩, false⟩ = true := by
  unfold V.may
  rw [if_pos rfl, toL []]
  rfl
theorem z6u : value_Get.f [10, 0] 1 = some (1, 5, ⟨#[]⟩, false, 1, 0) := by
  rw [value_Get.tell (by intro x hx; simp only [List.mem_cons, List.not_mem_nil, or_false] at hx; rcases hx with rfl | rfl <;> decide) (by decide)]
  have h := z3m z7j (by decide) [0]
  rw [b10] at h
  exact congrArg some h
theorem z77 : decC z1i [10, 0] [] = some ([⟨1, 5, ⟨#[]⟩, false⟩, ⟨0, 0, ⟨#[]⟩, false⟩], 0) := by
  have c1 : schema_column.f false 1 [10, 0] = some (1, 5, ⟨#[]⟩, false, 1, 0) := by
    unfold schema_column.f
    rw [if_neg (by decide), z6u, Option.map_some]
    unfold fin1
    simp only
    rw [show wrap64 (0 + 1) = 1 from by unfold wrap64; omega]
    first | rfl | simp
  have c2 : schema_column.f true 2 [0] = some (0, 0, ⟨#[]⟩, false, 1, 0) := by
    unfold schema_column.f
    rw [if_pos rfl, if_neg (by simp), if_neg (by decide), if_pos (by rfl)]
  unfold z1i
  simp only [decC]
  rw [c1, Option.bind_some]
  simp only
  rw [if_pos trivial, if_pos (by decide), show List.drop (Int.toNat 1) [(10 : Int), 0] = [0] from rfl, c2, Option.bind_some]
  simp only
  rw [if_pos trivial, if_pos (by decide), show List.drop (Int.toNat 1) [(0 : Int)] = [] from rfl, if_pos rfl]
  rfl
/-- Few columns, of short names. -/
def fewC (l : List S45) : Bool := decide (l.length ≤ 12) && l.all fun x => decide (x.f0.size ≤ 100)
theorem z7f {l : List S45} (hl : l.length ≤ 12) (a1 a2 a3 a4 : Int) (q : Nat) : ∀ (d i : Nat), i + d = l.length → winnowerref07_Few.l0 (d + q + 1) (i : Int) l a1 a2 a3 a4 = some ((l.drop i).all fun x => decide (x.f0.size ≤ 100)) := by
  intro d
  induction d with
  | zero =>
    intro i hi
    rw [Nat.zero_add]
    unfold winnowerref07_Few.l0
    rw [if_neg (by omega), List.drop_of_length_le (by omega)]
    rfl
  | succ d ih =>
    intro i hi
    have hk : i < l.length := by omega
    rw [show d + 1 + q + 1 = (d + q + 1) + 1 by omega]
    unfold winnowerref07_Few.l0
    rw [if_pos (by omega), if_pos (by omega), z3z hk, wr1 (by omega), ih (i + 1) (by omega), List.drop_eq_getElem_cons hk, List.all_cons]
    by_cases h : (l[i].f0.size : Int) > 100
    · rw [if_pos h, decide_eq_false (show ¬ l[i].f0.size ≤ 100 by omega)]; rfl
    · rw [if_neg h, decide_eq_true (show l[i].f0.size ≤ 100 by omega)]; rfl
theorem z5k (l : List S45) (a1 a2 a3 a4 : Int) {k : Nat} (hk : l.length + 1 ≤ k) : winnowerref07_Few.f k l a1 a2 a3 a4 = some (fewC l) := by
  obtain ⟨q, rfl⟩ : ∃ q, k = l.length + q + 1 := ⟨k - l.length - 1, by omega⟩
  clear hk
  unfold winnowerref07_Few.f fewC
  by_cases h : (l.length : Int) > 12
  · rw [if_pos h, decide_eq_false (show ¬ l.length ≤ 12 by omega)]; rfl
  · rw [if_neg h, decide_eq_true (show l.length ≤ 12 by omega)]
    have g := z7f (l := l) (by omega) a1 a2 a3 a4 q l.length 0 (by omega)
    exact g
/-- Are two rows the same? -/
theorem z5n (a b : S63) : (!((a.f0 == b.f0)) || (!((a.f1 == b.f1)) || (!((a.f2.toList == b.f2.toList)) || !((a.f3 == b.f3))))) = !decide (a = b) := by
  by_cases h : a = b
  · subst h
    simp
  · rw [decide_eq_false h]
    cases a with
    | mk a0 a1 a2 a3 =>
      cases b with
      | mk b0 b1 b2 b3 =>
        by_cases e0 : a0 = b0
        · by_cases e1 : a1 = b1
          · by_cases e2 : a2.toList = b2.toList
            · by_cases e3 : a3 = b3
              · exact absurd (by rw [e0, e1, bytes_ext e2, e3]) h
              · simp [e3]
            · simp [e2]
          · simp [e1]
        · simp [e0]
theorem z6z {a b : List S63} (hl : a.length = b.length) (h9 : a.length ≤ 1000000) (q : Nat) : ∀ (d i : Nat), i + d = a.length → winnowerref06_Same.l0 (d + q + 1) a b (i : Int) = some (decide (a.drop i = b.drop i)) := by
  intro d
  induction d with
  | zero =>
    intro i hi
    rw [Nat.zero_add]
    unfold winnowerref06_Same.l0
    rw [if_neg (by omega), List.drop_of_length_le (by omega), List.drop_of_length_le (by omega)]
    rfl
  | succ d ih =>
    intro i hi
    have hk : i < a.length := by omega
    have hk2 : i < b.length := by omega
    rw [show d + 1 + q + 1 = (d + q + 1) + 1 by omega]
    unfold winnowerref06_Same.l0
    rw [if_pos (by omega), if_pos (by omega), if_pos (by omega), z7a hk, z7a hk2, z5n, wr1 (by omega), ih (i + 1) (by omega), List.drop_eq_getElem_cons hk, List.drop_eq_getElem_cons hk2]
    by_cases h : a[i] = b[i]
    · rw [decide_eq_true h, if_neg (by decide)]
      exact congrArg some (decide_eq_decide.2 ⟨fun e => by rw [h, e], fun e => (List.cons.inj e).2⟩)
    · rw [decide_eq_false h, if_pos (by decide)]
      exact congrArg some (decide_eq_false (fun e => h (List.cons.inj e).1)).symm
theorem z4w (a b : List S63) (h9 : a.length ≤ 1000000) {k : Nat} (hk : a.length + 1 ≤ k) : winnowerref06_Same.f k a b = some (decide (a = b)) := by
  obtain ⟨q, rfl⟩ : ∃ q, k = a.length + q + 1 := ⟨k - a.length - 1, by omega⟩
  clear hk
  unfold winnowerref06_Same.f
  by_cases hl : a.length = b.length
  · rw [if_pos (by omega)]
    have g := z6z hl h9 q a.length 0 (by omega)
    exact g
  · rw [if_neg (by omega)]
    exact congrArg some (decide_eq_false (fun e => hl (by rw [e]))).symm
/-- What a column's bytes are. -/
def colV (x : S45) (l : List Int) : Got :=
  if x.f2 = true then (if l = [] then bad 6 else if 1 < rd l 0 then bad 7 else if rd l 0 = 0 then (0, 0, ⟨#[]⟩, false, 1, 0) else fin1 1 (getV (l.drop 1) x.f1))
  else fin1 0 (getV l x.f1)
theorem Bytes.drop' {l : List Int} (hb : Bytes l) (n : Nat) : Bytes (l.drop n) := fun x hx => hb x (List.mem_of_mem_drop hx)
theorem z7n {x : S45} {l : List Int} (hb : Bytes l) (hl : l.length ≤ 1000000) : schema_column.f x.f2 x.f1 l = some (colV x l) := by
  unfold schema_column.f colV
  split
  · split
    · rfl
    · split
      · rfl
      · split
        · rfl
        · rw [value_Get.tell (Bytes.drop' hb 1) (by rw [List.length_drop]; omega)]
          rfl
  · rw [value_Get.tell hb (by omega)]
    rfl
theorem z5d {l : List Int} (hb : Bytes l) {kind : Int} (h1 : 1 ≤ kind) (h3 : kind ≤ 3) {e : Int} (h : getV l kind = bad e) (he : e ≠ 0) : e ≠ 1 := by
  rintro rfl
  unfold getV at h
  rw [if_neg (by omega)] at h
  split at h
  · split at h
    · simp [good, bad] at h
    · rename_i hg
      rcases z3o hb with ⟨e, he, h67⟩ | ⟨u, n, he, _⟩
      · rw [he] at h
        simp only [bad, Prod.mk.injEq] at h
        omega
      · rw [he] at hg
        exact absurd rfl hg
  · split at h
    · split at h
      · split at h
        · simp [bad] at h
        · split at h
          · simp [bad] at h
          · simp [good, bad] at h
      · rename_i hg
        rcases z27 hb with ⟨e, he, h67⟩ | ⟨u, n, he, _⟩
        · rw [he] at h
          simp only [bad, Prod.mk.injEq] at h
          omega
        · rw [he] at hg
          exact absurd rfl hg
    · split at h
      · split at h
        · simp [bad] at h
        · split at h
          · simp [bad] at h
          · simp [good, bad] at h
      · exact absurd h3 (by omega)
/-- A column of a schema that may be has a kind. -/
def kindC (x : S45) : Prop := 1 ≤ x.f1 ∧ x.f1 ≤ 3
theorem z3x (h e : Int) (he : e ≠ 0) : fin1 h (bad e) = bad e := by unfold fin1; rw [if_neg he]
theorem z30 (h : Int) (v : V) (n : Int) : fin1 h (good v n) = good v (wrap64 (h + n)) := by unfold fin1; rw [if_pos rfl]
theorem z6k {x : S45} (hk : kindC x) {l : List Int} (hb : Bytes l) (hl : l.length ≤ 1000000) :
    (∃ e, colV x l = bad e ∧ e ≠ 0 ∧ e ≠ 1) ∨ ∃ (v : S63) (n : Nat), colV x l = good (tv v) n ∧ fitC x v = true ∧ encV x v = l.take n ∧ n ≤ l.length ∧ i64 v.f1 := by
  unfold colV
  by_cases hn : x.f2 = true
  · rw [if_pos hn]
    by_cases h0 : l = []
    · rw [if_pos h0]; exact .inl ⟨6, rfl, by decide, by decide⟩
    · rw [if_neg h0]
      obtain ⟨y, t, rfl⟩ := List.exists_cons_of_ne_nil h0
      have hy := hb y (List.mem_cons_self ..)
      rw [show rd (y :: t) 0 = y from rfl, show List.drop 1 (y :: t) = t from rfl]
      by_cases h1 : 1 < y
      · rw [if_pos h1]; exact .inl ⟨7, rfl, by decide, by decide⟩
      · rw [if_neg h1]
        by_cases h2 : y = 0
        · rw [if_pos h2]
          refine .inr ⟨⟨0, 0, ⟨#[]⟩, false⟩, 1, rfl, ?_, ?_, by simp, by decide⟩
          · unfold fitC tv
            rw [show V.may ⟨0, 0, ⟨#[]⟩, false⟩ = true from V.may_null, hn]
            simp
          · unfold encV
            rw [if_pos hn, if_pos rfl, h2]
            rfl
        · rw [if_neg h2]
          have hy1 : y = 1 := by omega
          subst hy1
          have hb' : Bytes t := fun z hz => hb z (List.mem_cons_of_mem _ hz)
          have hl' : t.length + 1 ≤ 1000000 := hl
          rcases z2l hb' x.f1 with ⟨e, he, h3, h4⟩ | ⟨v, n, hv, hm, hvk, hvb, hvn, hvi⟩
          · rw [he, z3x 1 e h3]
            exact .inl ⟨e, rfl, h3, z5d hb' hk.1 hk.2 he h3⟩
          · rw [hv, z30, show wrap64 (1 + (n : Int)) = ((n + 1 : Nat) : Int) by rw [Int.add_comm]; exact wr1 (by omega)]
            refine .inr ⟨⟨v.k, v.i, v.s, v.b⟩, n + 1, rfl, ?_, ?_, by simp; omega, hvi⟩
            · unfold fitC tv
              simp only
              rw [show V.may ⟨v.k, v.i, v.s, v.b⟩ = true from hm, decide_eq_true hvk]
              rfl
            · unfold encV tv
              simp only
              rw [if_pos hn, if_neg (by unfold kindC at hk; omega), show V.bytes ⟨v.k, v.i, v.s, v.b⟩ = v.bytes from rfl, hvb]
              rfl
  · rw [if_neg hn]
    rcases z2l hb x.f1 with ⟨e, he, h3, h4⟩ | ⟨v, n, hv, hm, hvk, hvb, hvn, hvi⟩
    · rw [he, z3x 0 e h3]
      exact .inl ⟨e, rfl, h3, z5d hb hk.1 hk.2 he h3⟩
    · rw [hv, z30, show wrap64 (0 + (n : Int)) = (n : Int) by unfold wrap64; omega]
      refine .inr ⟨⟨v.k, v.i, v.s, v.b⟩, n, rfl, ?_, ?_, hvn, hvi⟩
      · unfold fitC tv
        simp only
        rw [show V.may ⟨v.k, v.i, v.s, v.b⟩ = true from hm, decide_eq_true hvk]
        rfl
      · unfold encV tv
        rw [if_neg hn]
        exact hvb
theorem z4f {x : S45} {t : List S45} {b : List Int} {acc : List S63} (hb : Bytes b) (hl : b.length ≤ 1000000) : decC (x :: t) b acc = if (colV x b).2.2.2.2.2 = 0 then (if 0 ≤ (colV x b).2.2.2.2.1 ∧ (colV x b).2.2.2.2.1 ≤ (b.length : Int) then decC t (b.drop (colV x b).2.2.2.2.1.toNat) (acc ++ [⟨(colV x b).1, (colV x b).2.1, (colV x b).2.2.1, (colV x b).2.2.2.1⟩]) else none) else some ([], (colV x b).2.2.2.2.2) := by
  rw [decC, z7n hb hl, Option.bind_some]
theorem z4j : ∀ (l : List S45) (b : List Int) (acc : List S63), (∀ x ∈ l, kindC x) → Bytes b → b.length ≤ 1000000 →
    (∃ e, decC l b acc = some ([], e) ∧ e ≠ 0 ∧ e ≠ 1) ∨ ∃ row : List S63, row.length = l.length ∧ z5x l row = true ∧ encS l row = b ∧ (∀ v ∈ row, i64 v.f1) ∧ decC l b acc = some (acc ++ row, 0)
  | [], b, acc, _, _, _ => by
    by_cases h : b = []
    · exact .inr ⟨[], rfl, rfl, h.symm, by simp, by rw [decC, if_pos h, List.append_nil]⟩
    · exact .inl ⟨7, by rw [decC, if_neg h], by decide, by decide⟩
  | x :: t, b, acc, hk, hb, hl => by
    rw [z4f hb hl]
    rcases z6k (hk x (List.mem_cons_self ..)) hb hl with ⟨e, he, h0, h1⟩ | ⟨v, n, he, hf, hv, hn, hi⟩
    · rw [he]
      simp only
      rw [if_neg h0]
      exact .inl ⟨e, rfl, h0, h1⟩
    · rw [he]
      simp only
      rw [if_pos trivial, if_pos ⟨by omega, by omega⟩, Int.toNat_natCast]
      rcases z4j t (b.drop n) (acc ++ [v]) (fun y hy => hk y (List.mem_cons_of_mem _ hy)) (Bytes.drop' hb n) (by rw [List.length_drop]; omega) with ⟨e, he, h0, h1⟩ | ⟨row, r1, r2, r3, r4, r5⟩
      · exact .inl ⟨e, he, h0, h1⟩
      · refine .inr ⟨v :: row, by rw [List.length_cons, List.length_cons, r1], ?_, ?_, ?_, ?_⟩
        · unfold z5x; rw [hf, r2]; rfl
        · unfold encS; rw [hv, r3, List.take_append_drop]
        · intro z hz
          rcases List.mem_cons.mp hz with rfl | hz
          · exact hi
          · exact r4 z hz
        · refine Eq.trans r5 ?_
          rw [List.append_assoc]
          rfl
/-- What a schema that may be says of its columns. -/
theorem z3n : ∀ (L l : List S45) (i : Int), colsS L l i = true → ∀ x ∈ l, kindC x
  | _, [], _, _, x, hx => by cases hx
  | L, y :: t, i, h, x, hx => by
    unfold colsS at h
    rw [Bool.and_eq_true, Bool.and_eq_true, Bool.and_eq_true, Bool.and_eq_true, decide_eq_true_eq, decide_eq_true_eq] at h
    obtain ⟨_, h1, h3, _, ht⟩ := h
    rcases List.mem_cons.mp hx with rfl | hx
    · exact ⟨h1, h3⟩
    · exact z3n L t (i + 1) ht x hx
theorem z69 {l : List S45} {a1 a2 a3 a4 : Int} (h : mayS l a1 a2 a3 a4 = true) : ∀ x ∈ l, kindC x := by
  unfold mayS at h
  rw [Bool.and_eq_true] at h
  exact z3n l l 0 h.1
theorem z2v (l : List S45) (hl : l.length ≤ 1000) (a1 a2 a3 a4 : Int) (b : List Int) : schema_Decode.f l a1 a2 a3 a4 b = if mayS l a1 a2 a3 a4 = true then decC l b [] else some ([], 1) := by
  unfold schema_Decode.f
  rw [if_pos hl]
theorem z7z {l : List S45} (h : fewC l = true) : l.length ≤ 12 := by
  unfold fewC at h
  rw [Bool.and_eq_true, decide_eq_true_eq] at h
  exact h.1
/-- May a byte stand in a name? -/
def okb (b : UInt8) : Bool := (decide (97 ≤ b.toNat) && decide (b.toNat ≤ 122)) || ((decide (48 ≤ b.toNat) && decide (b.toNat ≤ 57)) || decide (b.toNat = 95))
def letters : List UInt8 := [97, 98, 99, 100, 101, 102, 103, 104, 105, 106, 107, 108, 109, 110, 111, 112, 113, 114, 115, 116, 117, 118, 119, 120, 121, 122, 48, 49, 50, 51, 52, 53, 54, 55, 56, 57, 95]
set_option maxRecDepth 100000 in
theorem z9c : ∀ n, n < 256 → letters.contains (UInt8.ofNat n) = okb (UInt8.ofNat n) := by decide
theorem z51 (b : UInt8) : letters.contains b = okb b := by
  have h := z9c b.toNat b.toNat_lt
  rwa [UInt8.ofNat_toNat] at h
theorem z1y {α : Type} {p : α → Bool} {x : α} : ∀ {l : List α}, x ∈ l → p x = false → x ∈ l.dropWhile p
  | [], h, _ => by cases h
  | y :: t, h, hp => by
    rw [List.dropWhile_cons]
    cases hy : p y with
    | false => exact h
    | true =>
      rcases List.mem_cons.mp h with rfl | h
      · rw [hp] at hy; cases hy
      · exact z1y h hp
theorem z2c {α : Type} {p : α → Bool} : ∀ {l : List α}, (∀ x ∈ l, p x = true) → l.dropWhile p = []
  | [], _ => rfl
  | y :: t, h => by
    rw [List.dropWhile_cons, if_pos (h y (List.mem_cons_self ..))]
    exact z2c fun x hx => h x (List.mem_cons_of_mem _ hx)
theorem z70 (l cs : List UInt8) : (Lib.trimS l cs == ([] : List UInt8)) = l.all (cs.contains ·) := by
  unfold Lib.trimS Lib.trimLeftS Lib.trimRightS
  cases h : l.all (cs.contains ·) with
  | true =>
    rw [List.all_eq_true] at h
    rw [z2c (l := l.reverse) fun x hx => h x (List.mem_reverse.mp hx)]
    rfl
  | false =>
    have h2 : ∃ x ∈ l, cs.contains x = false := by
      have h3 := h
      rw [List.all_eq_false] at h3
      obtain ⟨x, hx, h4⟩ := h3
      exact ⟨x, hx, by simpa using h4⟩
    obtain ⟨x, hx, hp⟩ := h2
    have h3 := z1y (p := (cs.contains ·)) (List.mem_reverse.mpr (z1y (p := (cs.contains ·)) (List.mem_reverse.mpr hx) hp)) hp
    cases e : List.dropWhile (cs.contains ·) (List.dropWhile (cs.contains ·) l.reverse).reverse with
    | nil => rw [e] at h3; cases h3
    | cons a b => rfl
theorem z7s (s : ByteArray) : nameS s = (decide (1 ≤ s.size) && (decide (s.size ≤ 16) && s.data.toList.all okb)) := by
  by_cases h1 : (s.size : Int) ≥ 1
  · by_cases h2 : (s.size : Int) ≤ 16
    · rw [z34 s h1 h2, z70, decide_eq_true (show 1 ≤ s.size by omega), decide_eq_true (show s.size ≤ 16 by omega)]
      show s.data.toList.all (letters.contains ·) = _
      rw [show (fun x => letters.contains x) = okb from funext z51]
      rfl
    · rw [decide_eq_false (show ¬ s.size ≤ 16 by omega)]
      unfold nameS schema_name.f
      rw [if_pos h1, if_neg h2]
      simp
  · rw [decide_eq_false (show ¬ 1 ≤ s.size by omega)]
    unfold nameS schema_name.f
    rw [if_neg h1]
    rfl
theorem z8n (s : ByteArray) {i : Nat} (h : i < s.data.toList.length) : bt s (i : Int) = ((s.data.toList[i]).toNat : Int) := by
  unfold bt
  rw [dif_pos (show ((i : Int)).toNat < s.size by rw [Int.toNat_natCast]; simpa using h)]
  rfl
theorem z4a (s : ByteArray) : s.data.toList.length = s.size := rfl
theorem z8k (s : ByteArray) (hs : s.size ≤ 16) (q : Nat) : ∀ (d i : Nat), i + d = s.size → winnowerref07_name.l0 (d + q + 1) s (i : Int) = some ((s.data.toList.drop i).all okb) := by
  intro d
  induction d with
  | zero =>
    intro i hi
    rw [Nat.zero_add]
    simp only [winnowerref07_name.l0]
    rw [if_neg (by omega), List.drop_of_length_le (by rw [z4a]; omega)]
    rfl
  | succ d ih =>
    intro i hi
    have hk : i < s.data.toList.length := by rw [z4a]; omega
    rw [show d + 1 + q + 1 = (d + q + 1) + 1 by omega]
    rw [winnowerref07_name.l0, if_pos (by omega), if_pos (by omega), wr1 (by omega), ih (i + 1) (by omega), List.drop_eq_getElem_cons hk, List.all_cons, z8n s hk]
    generalize s.data.toList[i] = b
    generalize List.all (List.drop (i + 1) s.data.toList) okb = R
    unfold okb
    by_cases c1 : 97 ≤ b.toNat
    · rw [if_pos (by omega)]
      by_cases c2 : b.toNat ≤ 122
      · rw [if_pos (by omega), decide_eq_true c1, decide_eq_true c2]; rfl
      · rw [if_neg (by omega), if_pos (by omega), if_neg (by omega), if_neg (by omega), decide_eq_false c2, decide_eq_false (show ¬ b.toNat ≤ 57 by omega), decide_eq_false (show ¬ b.toNat = 95 by omega)]
        simp
    · rw [if_neg (by omega), decide_eq_false c1]
      by_cases c2 : 48 ≤ b.toNat
      · rw [if_pos (by omega), decide_eq_true c2]
        by_cases c3 : b.toNat ≤ 57
        · rw [if_pos (by omega), decide_eq_true c3]; simp
        · rw [if_neg (by omega), decide_eq_false c3]
          by_cases c4 : b.toNat = 95
          · rw [if_pos (by omega), decide_eq_true c4]; simp
          · rw [if_neg (by omega), decide_eq_false c4]; simp
      · rw [if_neg (by omega), decide_eq_false c2]
        by_cases c4 : b.toNat = 95
        · rw [if_pos (by omega), decide_eq_true c4]; simp
        · rw [if_neg (by omega), decide_eq_false c4]; simp
theorem z7t (s : ByteArray) {k : Nat} (hk : 20 ≤ k) : winnowerref07_name.f k s = some (nameS s) := by
  rw [z7s]
  obtain ⟨q, rfl⟩ : ∃ q, k = q + 20 := ⟨k - 20, by omega⟩
  unfold winnowerref07_name.f
  by_cases h1 : s.size < 1
  · rw [if_pos (by omega), decide_eq_false (show ¬ 1 ≤ s.size by omega), show q + 20 = (q + 19) + 1 by omega]
    simp only [winnowerref07_name.j0]
    rfl
  · rw [if_neg (by omega), decide_eq_true (show 1 ≤ s.size by omega)]
    by_cases h2 : s.size ≤ 16
    · rw [decide_eq_false (show ¬ ((s.size : Int) > 16) by omega), decide_eq_true h2, show q + 20 = (s.size + (q + 18 - s.size) + 1) + 1 by omega, winnowerref07_name.j0, if_neg (by decide)]
      exact z8k s h2 _ s.size 0 (by omega)
    · rw [decide_eq_true (show ((s.size : Int) > 16) by omega), decide_eq_false h2, show q + 20 = (q + 19) + 1 by omega, winnowerref07_name.j0, if_pos rfl]
      rfl
theorem z49 (a : ByteArray) (x : S45) (rest : List S45) (hx : x.f0.toList = a.toList) : ∀ (pre : List S45) (k : Int), (∀ y ∈ pre, ¬ y.f0.toList = a.toList) → findC a (pre ++ x :: rest) k = k + pre.length
  | [], k, _ => by
    show findC a (x :: rest) k = _
    unfold findC
    rw [if_pos (by simpa using hx)]
    simp
  | y :: t, k, h => by
    show findC a (y :: (t ++ x :: rest)) k = _
    unfold findC
    rw [if_neg (by simpa using h y (List.mem_cons_self ..)), z49 a x rest hx t (k + 1) fun z hz => h z (List.mem_cons_of_mem _ hz), List.length_cons]
    omega
theorem z4h (a : ByteArray) (X : List S45) : ∀ (pre : List S45) (k : Int), (∃ y ∈ pre, y.f0.toList = a.toList) → findC a (pre ++ X) k < k + pre.length
  | [], k, h => by obtain ⟨y, hy, _⟩ := h; cases hy
  | y :: t, k, h => by
    show findC a (y :: (t ++ X)) k < _
    unfold findC
    by_cases e : y.f0.toList = a.toList
    · rw [if_pos (by simpa using e), List.length_cons]; omega
    · rw [if_neg (by simpa using e), List.length_cons]
      obtain ⟨z, hz, h2⟩ := h
      rcases List.mem_cons.mp hz with rfl | hz
      · exact absurd h2 e
      · have := z4h a X t (k + 1) ⟨z, hz, h2⟩
        omega
/-- Does a name stand among the columns from j up to i? -/
def dupC (l : List S45) (a : ByteArray) (j i : Nat) : Bool := ((l.take i).drop j).any fun y => decide (y.f0.toList = a.toList)
theorem z7v (l : List S45) {i : Nat} (h : i < l.length) : decide (findC l[i].f0 l 0 = (i : Int)) = !dupC l l[i].f0 0 i := by
  have hl : l = l.take i ++ l[i] :: l.drop (i + 1) := by rw [← List.drop_eq_getElem_cons h, List.take_append_drop]
  have hlen : (l.take i).length = i := by rw [List.length_take]; omega
  cases hd : dupC l l[i].f0 0 i with
  | true =>
    unfold dupC at hd
    rw [List.drop_zero, List.any_eq_true] at hd
    obtain ⟨y, hy, e⟩ := hd
    have g := z4h l[i].f0 (l[i] :: l.drop (i + 1)) (l.take i) 0 ⟨y, hy, by simpa using e⟩
    rw [← hl, hlen] at g
    exact decide_eq_false (by omega)
  | false =>
    unfold dupC at hd
    rw [List.drop_zero, List.any_eq_false] at hd
    have g := z49 l[i].f0 l[i] (l.drop (i + 1)) rfl (l.take i) 0 (fun y hy => by simpa using hd y hy)
    rw [← hl, hlen] at g
    exact decide_eq_true (by omega)
theorem z28 (l : List S45) (a1 a2 a3 a4 x : Int) : (0 ≤ x ∧ x < (l.length : Int) ∧ winnowerref07_whole.f l a1 a2 a3 a4 x = some true ∧ ∀ k, schema_of.f l a1 a2 a3 a4 x k = some (if k = 0 then true else (z0f l x).f1 == k)) ∨ (winnowerref07_whole.f l a1 a2 a3 a4 x = some false ∧ ∀ k, schema_of.f l a1 a2 a3 a4 x k = some false) := by
  unfold winnowerref07_whole.f schema_of.f
  by_cases h0 : x ≥ 0
  · by_cases h1 : x < (l.length : Int)
    · rw [if_pos h0, if_pos h1, if_pos h0]
      cases hn : (z0f l x).f2 with
      | true => exact .inr ⟨rfl, fun k => by rw [if_pos h0, if_pos h1, if_pos h0, if_pos rfl]⟩
      | false =>
        refine .inl ⟨h0, h1, rfl, fun k => ?_⟩
        rw [if_pos h0, if_pos h1, if_pos h0, if_neg (by decide)]
        split <;> rfl
    · exact .inr ⟨by rw [if_pos h0, if_neg h1], fun k => by rw [if_pos h0, if_neg h1]⟩
  · exact .inr ⟨by rw [if_neg h0], fun k => by rw [if_neg h0]⟩
/-- What the document says of the numbers of a schema. -/
def keyR (l : List S45) (a1 a2 a3 a4 : Int) : Option Bool := if a1 = (-1) then (if a2 = (-1) then (some (a3 == (-1))) else (some false)) else ((winnowerref07_whole.f l a1 a2 a3 a4 a1).bind fun t235 => (if t235 = true then ((winnowerref07_whole.f l a1 a2 a3 a4 a2).bind fun t236 => (if t236 = true then (if 0 ≤ a2 then (if a2 < (l.length : Int) then (if ((z0f l a2).f1) = 1 then (if a3 = (-1) then (some true) else ((winnowerref07_whole.f l a1 a2 a3 a4 a3).bind fun t238 => (if t238 = true then (if 0 ≤ a3 then (if a3 < (l.length : Int) then (some (((z0f l a3).f1) == 3)) else (none)) else (none)) else (some false)))) else (some false)) else (none)) else (none)) else (some false))) else (some false)))
theorem z7y (l : List S45) (a1 a2 a3 a4 : Int) : keyR l a1 a2 a3 a4 = some (z37 l a1 a2 a3 a4) := by
  rw [← z3k]
  unfold keyR schema_keyed.f
  by_cases h1 : a1 = -1
  · rw [if_pos h1, if_pos h1]
  · rw [if_neg h1, if_neg h1]
    rcases z28 l a1 a2 a3 a4 a1 with ⟨_, _, e1, e2⟩ | ⟨e1, e2⟩
    · rw [e1, e2, Option.bind_some, Option.bind_some, if_pos rfl, if_pos rfl, if_pos rfl]
      rcases z28 l a1 a2 a3 a4 a2 with ⟨b1, b2, e3, e4⟩ | ⟨e3, e4⟩
      · rw [e3, e4, Option.bind_some, Option.bind_some, if_pos rfl, if_pos b1, if_pos b2, if_neg (show ¬ ((1 : Int) = 0) by decide)]
        by_cases h2 : (z0f l a2).f1 = 1
        · rw [if_pos h2, if_pos (show (((z0f l a2).f1 == 1) = true) by rw [h2]; rfl)]
          by_cases h3 : a3 = -1
          · rw [if_pos h3, if_pos h3]
          · rw [if_neg h3, if_neg h3]
            rcases z28 l a1 a2 a3 a4 a3 with ⟨c1, c2, e5, e6⟩ | ⟨e5, e6⟩
            · rw [e5, e6, Option.bind_some, Option.bind_some, if_pos rfl, if_pos c1, if_pos c2, if_neg (show ¬ ((3 : Int) = 0) by decide)]
            · rw [e5, e6, Option.bind_some, Option.bind_some, if_neg (by decide)]
        · rw [if_neg h2, if_neg (by simpa using h2)]
      · rw [e3, e4, Option.bind_some, Option.bind_some, if_neg (by decide), if_neg (by decide)]
    · rw [e1, e2, Option.bind_some, Option.bind_some, if_neg (by decide), if_neg (by decide)]
theorem z7r (l : List S45) (a : ByteArray) {j i : Nat} (h : j < i) (hi : i ≤ l.length) : dupC l a j i = (decide ((l[j]'(by omega)).f0.toList = a.toList) || dupC l a (j + 1) i) := by
  unfold dupC
  have hj : j < (l.take i).length := by rw [List.length_take]; omega
  rw [List.drop_eq_getElem_cons hj, List.any_cons, List.getElem_take]
theorem z8w (l : List S45) (a : ByteArray) {i : Nat} : dupC l a i i = false := by
  unfold dupC
  rw [List.drop_of_length_le (by rw [List.length_take]; omega)]
  rfl
theorem z9z {l : List S45} (hl : l.length ≤ 8) (a1 a2 a3 a4 : Int) {i : Nat} (hi : i < l.length) (x0 : ByteArray) (x1 : Int) (x2 : Bool) (q : Nat) : ∀ (d j : Nat), j + d = i →
    ∀ r, winnowerref07_May.l0 q ((i + 1 : Nat) : Int) l a1 a2 a3 a4 = some r → winnowerref07_May.l1 (q + d + 1) (i : Int) (j : Int) l a1 a2 a3 a4 x0 x1 x2 = some (!dupC l x0 j i && r) := by
  intro d
  induction d with
  | zero =>
    intro j hj r hr
    have e : j = i := by omega
    subst e
    rw [Nat.add_zero, winnowerref07_May.l1, if_neg (by omega), wr1 (by omega), hr, z8w]
    rfl
  | succ d ih =>
    intro j hj r hr
    rw [show q + (d + 1) + 1 = (q + d + 1) + 1 by omega, winnowerref07_May.l1, if_pos (by omega), if_pos (by omega), if_pos (by omega), z3z (show j < l.length by omega), wr1 (by omega), ih (j + 1) (by omega) r hr, z7r l x0 (show j < i by omega) (by omega)]
    by_cases e : (l[j]'(by omega)).f0.toList = x0.toList
    · rw [if_pos e, decide_eq_true e]; rfl
    · rw [if_neg e, decide_eq_false e]; rfl
theorem z5p {l : List S45} (hl : l.length ≤ 8) (a1 a2 a3 a4 : Int) : ∀ (d i q : Nat), i + d = l.length → winnowerref07_May.l0 (12 * d + q + 30) (i : Int) l a1 a2 a3 a4 = some (colsS l (l.drop i) (i : Int) && z37 l a1 a2 a3 a4) := by
  intro d
  induction d with
  | zero =>
    intro i q hi
    rw [show 12 * 0 + q + 30 = (q + 29) + 1 by omega, winnowerref07_May.l0, if_neg (by omega), List.drop_of_length_le (by omega)]
    exact z7y l a1 a2 a3 a4
  | succ d ih =>
    intro i q hi
    have hk : i < l.length := by omega
    rw [show 12 * (d + 1) + q + 30 = ((((12 * d + (q + 9 - i) + 30) + i + 1)) + 1) + 1 by omega, winnowerref07_May.l0, if_pos (by omega), if_pos (by omega), z3z hk, z7t _ (by omega), Option.bind_some, List.drop_eq_getElem_cons hk]
    have h2 := z9z hl a1 a2 a3 a4 hk l[i].f0 l[i].f1 l[i].f2 _ i 0 (by omega) _ (ih (i + 1) (q + 9 - i) (by omega))
    have e : colsS l (l[i] :: l.drop (i + 1)) (i : Int) = (nameS l[i].f0 && (decide (1 ≤ l[i].f1) && (decide (l[i].f1 ≤ 3) && (!dupC l l[i].f0 0 i && colsS l (l.drop (i + 1)) ((i + 1 : Nat) : Int))))) := by
      rw [colsS, z7v l hk]
      rfl
    rw [e]
    have bad2 : ∀ k, winnowerref07_May.j2 (k + 1) (i : Int) true l a1 a2 a3 a4 l[i].f0 l[i].f1 l[i].f2 = some false := fun k => by rw [winnowerref07_May.j2, if_pos rfl]
    cases nameS l[i].f0 with
    | false => rw [if_neg (by decide), bad2]; rfl
    | true =>
      rw [if_pos rfl]
      by_cases c1 : l[i].f1 < 1
      · rw [if_pos c1, bad2, decide_eq_false (show ¬ 1 ≤ l[i].f1 by omega)]; rfl
      · rw [if_neg c1, decide_eq_true (show 1 ≤ l[i].f1 by omega)]
        by_cases c3 : l[i].f1 > 3
        · rw [decide_eq_true c3, bad2, decide_eq_false (show ¬ l[i].f1 ≤ 3 by omega)]; rfl
        · rw [decide_eq_false c3, decide_eq_true (show l[i].f1 ≤ 3 by omega), winnowerref07_May.j2, if_neg (by decide)]
          refine h2.trans ?_
          simp only [Bool.true_and, Bool.and_assoc]
theorem z6e {l : List S45} (a1 a2 a3 a4 : Int) {k : Nat} (hk : 150 ≤ k) : winnowerref07_May.f k l a1 a2 a3 a4 = some (mayS l a1 a2 a3 a4) := by
  obtain ⟨q, rfl⟩ : ∃ q, k = q + 150 := ⟨k - 150, by omega⟩
  have yes : winnowerref07_May.j0 (q + 150) true l a1 a2 a3 a4 = some false := by rw [show q + 150 = (q + 149) + 1 by omega, winnowerref07_May.j0, if_pos rfl]
  unfold winnowerref07_May.f
  unfold mayS
  by_cases h1 : (l.length : Int) < 1
  · rw [if_pos h1, yes, decide_eq_false (show ¬ 1 ≤ l.length by omega)]
    simp
  · rw [if_neg h1]
    by_cases h8 : (l.length : Int) > 8
    · rw [if_pos h8, yes, decide_eq_false (show ¬ l.length ≤ 8 by omega)]
      simp
    · rw [if_neg h8]
      by_cases h4 : a4 < -1
      · rw [if_pos h4, yes, decide_eq_false (show ¬ -1 ≤ a4 by omega)]
        simp
      · rw [if_neg h4]
        by_cases h5 : a4 ≥ (l.length : Int)
        · rw [decide_eq_true h5, yes, decide_eq_false (show ¬ a4 < (l.length : Int) by omega)]
          simp
        · rw [decide_eq_false h5, show q + 150 = (12 * l.length + (q + 119 - 12 * l.length) + 30) + 1 by omega, winnowerref07_May.j0, if_neg (by decide)]
          have g := z5p (l := l) (by omega) a1 a2 a3 a4 l.length 0 (q + 119 - 12 * l.length) (by omega)
          rw [decide_eq_true (show 1 ≤ l.length by omega), decide_eq_true (show l.length ≤ 8 by omega), decide_eq_true (show -1 ≤ a4 by omega), decide_eq_true (show a4 < (l.length : Int) by omega)]
          refine g.trans ?_
          rw [List.drop_zero]
          simp
theorem winnowerref06_Get.tell {l : List Int} (hb : Bytes l) (hl : l.length ≤ 1000000000) (kind : Int) : winnowerref06_Get.f l kind = some (getV l kind) := by
  unfold winnowerref06_Get.f getV
  by_cases c0 : kind = 0
  · rw [if_pos c0, if_pos c0] <;> rfl
  · rw [if_neg c0, if_neg c0]
    by_cases c1 : kind = 1
    · rw [if_pos c1, if_pos c1, winnowerref01_Get.tell hb, Option.bind_some]
      split <;> rfl
    · rw [if_neg c1, if_neg c1]
      by_cases c2 : kind = 2
      · rw [if_pos c2, if_pos c2]
        rw [winnowerref01_GetLen.tell hb, Option.bind_some]
        rcases z27 hb with ⟨e, hg, he⟩ | ⟨u, n, hg, h1, h2, h3, h4⟩
        · rw [hg]
          simp only
          rw [if_neg (by omega), if_neg (by omega)] <;> rfl
        · rw [hg]
          simp only
          rw [if_pos trivial, if_pos trivial]
          by_cases c3 : (u : Int) > 64
          · rw [if_pos c3, if_pos c3] <;> rfl
          · rw [if_neg c3, if_neg c3, z1c (x := (n : Int) + (u : Int)) (by omega) (by omega)]
            by_cases c4 : (n : Int) + (u : Int) > (l.length : Int)
            · rw [if_pos (by omega), if_pos c4] <;> rfl
            · rw [if_neg (by omega), if_neg c4, if_pos (by omega), if_pos (by omega), if_pos (by omega)] <;> rfl
      · rw [if_neg c2, if_neg c2]
        by_cases c3 : kind = 3
        · rw [if_pos c3, if_pos c3]
          by_cases c4 : l.length = 0
          · rw [if_pos (by omega), if_pos c4] <;> rfl
          · rw [if_neg (by omega), if_neg c4, if_pos (by omega)]
            split <;> rfl
        · rw [if_neg c3, if_neg c3] <;> rfl
theorem z5h {l : List S45} (hl : l.length ≤ 1000) (a1 a2 a3 a4 : Int) (q : Nat) : ∀ (d i : Nat) (b : List Int) (acc : List S63), i + d = l.length → Bytes b → b.length ≤ 999999 → acc.length ≤ i →
    winnowerref07_Decode.l0 (d + q + 1) b acc (i : Int) l a1 a2 a3 a4 = decC (l.drop i) b acc := by
  intro d
  induction d with
  | zero =>
    intro i b acc hid hb hbl hacc
    rw [Nat.zero_add, winnowerref07_Decode.l0, if_neg (by omega), List.drop_of_length_le (by omega), decC]
    by_cases h : b = []
    · subst h; rfl
    · have : b.length ≠ 0 := fun e => h (List.length_eq_zero_iff.mp e)
      rw [if_pos (by omega), if_neg h]
  | succ d ih =>
    intro i b acc hid hb hbl hacc
    have hk : i < l.length := by omega
    rw [List.drop_eq_getElem_cons hk, z4f hb (by omega), show d + 1 + q + 1 = (d + q + 1) + 1 by omega, winnowerref07_Decode.l0, if_pos (by omega), if_pos (by omega), z3z hk, wr1 (by omega)]
    have hget : ∀ (y : List Int) (h : Int), Bytes y → y.length + 1 ≤ 1000000 → (h = 0 ∧ y = b ∨ h = 1 ∧ y = b.drop 1 ∧ 1 ≤ b.length) →
        ((winnowerref06_Get.f y l[i].f1).bind fun bt360 => (if bt360.2.2.2.2.2 = 0 then (if acc.length < 3518437208883 then (if 0 ≤ bt360.2.2.2.2.1 then (if bt360.2.2.2.2.1 ≤ (y.length : Int) then (winnowerref07_Decode.l0 (d + q + 1) (y.drop (bt360.2.2.2.2.1 : Int).toNat) (acc ++ [(⟨bt360.1, bt360.2.1, bt360.2.2.1, bt360.2.2.2.1⟩ : S63)]) ((i + 1 : Nat) : Int) l a1 a2 a3 a4) else (none)) else (none)) else (none)) else (some (([] : List (S63)), bt360.2.2.2.2.2)))) =
        (if (fin1 h (getV y l[i].f1)).2.2.2.2.2 = 0 then (if 0 ≤ (fin1 h (getV y l[i].f1)).2.2.2.2.1 ∧ (fin1 h (getV y l[i].f1)).2.2.2.2.1 ≤ (b.length : Int) then decC (l.drop (i + 1)) (b.drop (fin1 h (getV y l[i].f1)).2.2.2.2.1.toNat) (acc ++ [⟨(fin1 h (getV y l[i].f1)).1, (fin1 h (getV y l[i].f1)).2.1, (fin1 h (getV y l[i].f1)).2.2.1, (fin1 h (getV y l[i].f1)).2.2.2.1⟩]) else none) else some ([], (fin1 h (getV y l[i].f1)).2.2.2.2.2)) := by
      intro y h hy hyl hh
      rw [winnowerref06_Get.tell hy (by omega), Option.bind_some]
      rcases z2l hy l[i].f1 with ⟨e, he, h3, h4⟩ | ⟨v, n, hv, hm, hvk, hvb, hvn, hvi⟩
      · rw [he, z3x h e h3]
        dsimp only
        rw [if_neg h3, if_neg h3]
      · have hw : wrap64 (h + (n : Int)) = h + n := by
          unfold wrap64
          rcases hh with ⟨rfl, rfl⟩ | ⟨rfl, rfl, _⟩ <;> omega
        rw [hv, z30, hw]
        dsimp only
        rw [if_pos rfl, if_pos (by omega), if_pos (by omega), if_pos (by omega), if_pos rfl, Int.toNat_natCast, ih (i + 1) _ _ (by omega) (Bytes.drop' hy n) (by rw [List.length_drop]; omega) (by rw [List.length_append]; simp only [List.length_cons, List.length_nil]; omega)]
        rcases hh with ⟨rfl, rfl⟩ | ⟨rfl, rfl, h1⟩
        · rw [if_pos ⟨by omega, by omega⟩, Int.zero_add, Int.toNat_natCast]
        · rw [List.length_drop] at hvn
          rw [if_pos ⟨by omega, by omega⟩, List.drop_drop, show ((1 : Int) + (n : Int)).toNat = 1 + n by omega]
    unfold colV
    by_cases hn : l[i].f2 = true
    · rw [if_pos hn]
      simp only [if_pos hn]
      by_cases h0 : b = []
      · rw [if_pos (by rw [h0]; rfl)]
        simp only [if_pos h0]
        rfl
      · have hl0 : b.length ≠ 0 := fun e => h0 (List.length_eq_zero_iff.mp e)
        rw [if_neg (by omega), if_pos (by omega)]
        simp only [if_neg h0]
        by_cases h1 : rd b 0 > 1
        · rw [if_pos h1]
          simp only [if_pos h1]
          rfl
        · rw [if_neg h1, if_pos (by omega), Option.bind_some]
          simp only [if_neg h1]
          by_cases h2 : rd b 0 = 0
          · rw [if_pos h2, if_pos (by omega)]
            simp only [if_pos h2]
            rw [if_pos trivial, if_pos ⟨by decide, by omega⟩, ih (i + 1) _ _ (by omega) (Bytes.drop' hb 1) (by rw [List.length_drop]; omega) (by rw [List.length_append]; simp only [List.length_cons, List.length_nil]; omega)]
            rfl
          · rw [if_neg h2]
            simp only [if_neg h2]
            exact hget (b.drop 1) 1 (Bytes.drop' hb 1) (by rw [List.length_drop]; omega) (.inr ⟨rfl, rfl, by omega⟩)
    · rw [if_neg hn]
      simp only [if_neg hn]
      exact hget b 0 hb (by omega) (.inl ⟨rfl, rfl⟩)
theorem z9g {l : List S45} (hl : l.length ≤ 12) (a1 a2 a3 a4 : Int) {b : List Int} (hb : Bytes b) (hbl : b.length ≤ 900000) {k : Nat} (hk : 190 ≤ k) : winnowerref07_Decode.f k l a1 a2 a3 a4 b = schema_Decode.f l a1 a2 a3 a4 b := by
  unfold winnowerref07_Decode.f
  rw [z2v l (by omega), z6e a1 a2 a3 a4 (by omega), Option.bind_some]
  cases h : mayS l a1 a2 a3 a4 with
  | false => rfl
  | true =>
    rw [if_pos rfl, if_pos rfl]
    obtain ⟨q, rfl⟩ : ∃ q, k = l.length + q + 1 := ⟨k - l.length - 1, by omega⟩
    exact z5h (by omega) a1 a2 a3 a4 q l.length 0 b [] (by omega) hb (by omega) (by simp)
theorem za0 (l : List S45) (a1 a2 a3 a4 : Int) {k : Nat} (hk : 200 ≤ k) : winnowerref07_Few.f k l a1 a2 a3 a4 = some (fewC l) := by
  by_cases h : l.length ≤ 12
  · exact z5k l a1 a2 a3 a4 (by omega)
  · unfold winnowerref07_Few.f fewC
    rw [if_pos (by omega), decide_eq_false h]
    rfl

end Go.Proofs.YtimomihjghefdaaDoor.Q
namespace Go.Proofs.YtimomihjghefdaaDoor.Q
open Go.RowKit Go.Proofs.YtimomihjghefdaaDoorW.PrintWords Go.Proofs.YtimomihjghefdaaDoorW.PrintLast Go.Proofs.YtimomihjghefdaaDoorW.PrintMore
attribute [local go_sem] z0y z0v z0z z10 z0s z0t z0w z0x   -- for this text's walks alone
set_option linter.unusedVariables false
set_option linter.unusedSimpArgs false

/-! ### intake_in: function 22 -/
def intake_in.f (a0 : Int) (a1 : Int) : Option (Bool) := if a0 ≥ 0 then (some (decide (a0 ≤ a1))) else (some false)
set_option maxHeartbeats 8000000 in
set_option maxRecDepth 100000 in
theorem intake_in.calls (a0 : Int) (a1 : Int) (r : Bool) (w : World) (h : intake_in.f a0 a1 = some r) :
    Calls Tryd.prog 22 #[.int .i64 a0, .int .i64 a1] w fun e w' => e = .returned (.bool r) ∧ z0k w w' := by
  have H : (if a0 ≥ 0 then (some (decide (a0 ≤ a1))) else (some false)) = some r := h
  clear h
  by_cases c3 : a0 ≥ 0
  · rw [if_pos c3] at H
    have c3b0 : decide (0 ≤ a0) = true := decide_eq_true c3
    clear c3
    obtain rfl := Option.some.inj H
    go_enter Tryd.func22, Tryd.ntmps22
    go_wp2
    go_ret
    exact ⟨by first | rfl | (simp; done) | (simp [*]; done), by repeat (first | exact z0k.refl _ | apply z0k.step)⟩
  · rw [if_neg c3] at H
    have c3b0 : decide (0 ≤ a0) = false := decide_eq_false c3
    clear c3
    obtain rfl := Option.some.inj H
    go_enter Tryd.func22, Tryd.ntmps22
    go_wp2
    go_ret
    exact ⟨by first | rfl | (simp; done) | (simp [*]; done), by repeat (first | exact z0k.refl _ | apply z0k.step)⟩

/-! ### intake_Check: function 11 -/
mutual
def intake_Check.j0 : Nat → Int → Bool → Int → Int → List (List Int) → Option (Int)
  | 0, _, _, _, _, _ => none
  | k + 1, x0, x5, x102000, x102001, x102002 => if x5 = true then (some 1) else (if (x102002.length : Int) > 1024 then (intake_Check.j1 k x0 (decide ((x102002.length : Int) > 1024)) x102000 x102001 x102002) else (intake_Check.j1 k x0 (decide ((wrap64 (x102001 + (x102002.length : Int))) > 1099511627776)) x102000 x102001 x102002))
def intake_Check.j1 : Nat → Int → Bool → Int → Int → List (List Int) → Option (Int)
  | 0, _, _, _, _, _ => none
  | k + 1, x0, x17, x102000, x102001, x102002 => if x17 = true then (some 2) else (if x102001 > x0 then (some 11) else (some 0))
end
def intake_Check.f (k : Nat) (a0 : Int) (a1_0 : Int) (a1_1 : Int) (l1_2 : List (List Int)) : Option (Int) := (intake_in.f a0 1099511627776).bind fun t102 => (if t102 = true then ((intake_in.f a1_1 1099511627776).bind fun t103 => (if t103 = true then ((intake_in.f a1_0 3).bind fun t104 => (intake_Check.j0 k a0 (!t104) a1_0 a1_1 l1_2)) else (intake_Check.j0 k a0 (!t103) a1_0 a1_1 l1_2))) else (intake_Check.j0 k a0 (!t102) a1_0 a1_1 l1_2))
set_option maxHeartbeats 8000000 in
set_option maxRecDepth 100000 in
theorem intake_Check.calls (k : Nat) (a0 : Int) (a1_0 : Int) (a1_1 : Int) (A1_2 : Option Addr) (c1_2 : Nat) (l1_2 : List (List Int)) (r : Int) (w : World) (hr1_2 : Kd.C (Kd.slice 5 (Kd.int .u8)) w A1_2 l1_2.length l1_2) (hc1_2 : l1_2.length ≤ c1_2) (h : intake_Check.f k a0 a1_0 a1_1 l1_2 = some r) :
    Calls Tryd.prog 11 #[.int .i64 a0, .agg #[.int .i64 a1_0, .int .i64 a1_1, .slice A1_2 l1_2.length c1_2]] w fun e w' => e = .returned (.int .i64 r) ∧ Below w.heap.size w w' := by
  have hu27 := Tryd.underlying27
  have HR1_2 := z05.mk hr1_2
  have HC1_2 := z05.mk hc1_2
  clear hr1_2 hc1_2
  have HB := z05.mk (Below.refl w.heap.size w)
  have H : ((intake_in.f a0 1099511627776).bind fun t102 => (if t102 = true then ((intake_in.f a1_1 1099511627776).bind fun t103 => (if t103 = true then ((intake_in.f a1_0 3).bind fun t104 => (intake_Check.j0 k a0 (!t104) a1_0 a1_1 l1_2)) else (intake_Check.j0 k a0 (!t103) a1_0 a1_1 l1_2))) else (intake_Check.j0 k a0 (!t102) a1_0 a1_1 l1_2))) = some r := h
  clear h
  replace H := Option.bind_eq_some_iff.mp H
  obtain ⟨t102, A30, H⟩ := H
  replace H : (if t102 = true then ((intake_in.f a1_1 1099511627776).bind fun t103 => (if t103 = true then ((intake_in.f a1_0 3).bind fun t104 => (intake_Check.j0 k a0 (!t104) a1_0 a1_1 l1_2)) else (intake_Check.j0 k a0 (!t103) a1_0 a1_1 l1_2))) else (intake_Check.j0 k a0 (!t102) a1_0 a1_1 l1_2)) = some r := H
  have A3 := z05.mk A30
  clear A30
  have HC4 := z05.mk H
  clear H
  go_enter Tryd.func11, Tryd.ntmps11
  go_upto_if 5 with (first | ((with_reducible refine z0h (N := 3) rfl ?_); refine z0g ?hg (N := 3) ?hd (cs := #[.int .i64 a1_0, .int .i64 a1_1, .slice A1_2 l1_2.length c1_2]) (t := 27) ?hr ?_; (case hd => rfl); (case hg => rfl); (case hr => first | (go_simp; done) | (go_simp; rfl)); intro gb101 hg w5 hbox hb; have n0_ := z05.mk (z0a (by repeat (first | (with_reducible first | exact HB.out | apply z02 | apply z00 | apply z03) | exact HB.out)) hb); have n1_ := z05.mk (hbox); have n2_ := z05.mk ((by rw [hg]; exact (z0b (by repeat (first | (with_reducible first | exact HB.out | apply z02 | apply z00 | apply z03) | exact HB.out))) : w.heap.size ≤ gb101)); have n3_ := z05.mk ((by rw [hg]; exact (z0b (by repeat (first | (with_reducible first | exact HB.out | apply z02 | apply z00 | apply z03) | exact HB.out))) : w.heap.size ≤ gb101)); clear HB; have HB := n0_; have BK101 := n1_; have GW101 := n2_; have GE101 := n3_; clear n0_ n1_ n2_ n3_; clear hb hbox hg) | ((with_reducible refine z0j (f := 22) rfl ?_); refine z0u (some 7) rfl rfl Tryd.func22 (by kernel_rfl) rfl #[.int .i64 a0, .int .i64 1099511627776] rfl (by (try simp only [List.map_toArray, List.map_cons, List.map_nil]); first | done | rfl | (simp only [List.length_drop, List.length_take]; rfl)) ?_; (with_reducible refine (intake_in.calls a0 1099511627776 t102 _ A3.out).mono ?_); rintro e w' ⟨rfl, ⟨nd, rfl⟩⟩; refine ⟨_, rfl, ?_⟩))
  (try simp only [Act.put, List.setIfInBounds_toArray, List.set_cons_zero, List.set_cons_succ])
  go_cut [5] (fun v5 wc => ∃ (kq : Nat) (x5_3 : Bool), v5 = .bool x5_3 ∧ z05 (intake_Check.j0 kq a0 x5_3 a1_0 a1_1 l1_2 = some r) ∧ z05 (kq ≤ k) ∧ z05 (wc.heap[gb101]? = some (.cells #[.int .i64 a1_0, .int .i64 a1_1, (.slice A1_2 l1_2.length c1_2)] 27 (0, 0))) ∧ z05 (Below w.heap.size w wc))
  case first =>
    have H := HC4.out
    clear HC4
    by_cases c6 : t102 = true
    · subst c6
      have H1 : ((intake_in.f a1_1 1099511627776).bind fun t103 => (if t103 = true then ((intake_in.f a1_0 3).bind fun t104 => (intake_Check.j0 k a0 (!t104) a1_0 a1_1 l1_2)) else (intake_Check.j0 k a0 (!t103) a1_0 a1_1 l1_2))) = some r := by rw [if_pos rfl] at H; exact H
      clear H
      have H := H1
      clear H1
      replace H := Option.bind_eq_some_iff.mp H
      obtain ⟨t103, A70, H⟩ := H
      replace H : (if t103 = true then ((intake_in.f a1_0 3).bind fun t104 => (intake_Check.j0 k a0 (!t104) a1_0 a1_1 l1_2)) else (intake_Check.j0 k a0 (!t103) a1_0 a1_1 l1_2)) = some r := H
      have A7 := z05.mk A70
      clear A70
      by_cases c8 : t103 = true
      · subst c8
        have H1 : ((intake_in.f a1_0 3).bind fun t104 => (intake_Check.j0 k a0 (!t104) a1_0 a1_1 l1_2)) = some r := by rw [if_pos rfl] at H; exact H
        clear H
        have H := H1
        clear H1
        replace H := Option.bind_eq_some_iff.mp H
        obtain ⟨t104, A90, H⟩ := H
        replace H : (intake_Check.j0 k a0 (!t104) a1_0 a1_1 l1_2) = some r := H
        have A9 := z05.mk A90
        clear A90
        have H' := z05.mk H
        clear H
        have hcz10_0 : w5.cell? ⟨gb101, 0, none⟩ = some (.int .i64 a1_0) := (z04 BK101.out 0).trans rfl
        have hcz10_1 : w5.cell? ⟨gb101, 1, none⟩ = some (.int .i64 a1_1) := (z04 BK101.out 1).trans rfl
        have hcz10_2 : w5.cell? ⟨gb101, 2, none⟩ = some (.slice A1_2 l1_2.length c1_2) := (z04 BK101.out 2).trans rfl
        have hfz10_0 := z01 BK101.out 0
        have hfz10_1 := z01 BK101.out 1
        have hfz10_2 := z01 BK101.out 2
        go_wp2_with (first | ((with_reducible refine z0j (f := 22) rfl ?_); refine z0u (some 11) rfl rfl Tryd.func22 (by kernel_rfl) rfl #[.int .i64 a1_1, .int .i64 1099511627776] rfl (by (try simp only [List.map_toArray, List.map_cons, List.map_nil]); first | done | rfl | (simp only [List.length_drop, List.length_take]; rfl)) ?_; (with_reducible refine (intake_in.calls a1_1 1099511627776 true _ A7.out).mono ?_); rintro e w' ⟨rfl, ⟨nd, rfl⟩⟩; refine ⟨_, rfl, ?_⟩) | ((with_reducible refine z0j (f := 22) rfl ?_); refine z0u (some 15) rfl rfl Tryd.func22 (by kernel_rfl) rfl #[.int .i64 a1_0, .int .i64 3] rfl (by (try simp only [List.map_toArray, List.map_cons, List.map_nil]); first | done | rfl | (simp only [List.length_drop, List.length_take]; rfl)) ?_; (with_reducible refine (intake_in.calls a1_0 3 t104 _ A9.out).mono ?_); rintro e w' ⟨rfl, ⟨nd, rfl⟩⟩; refine ⟨_, rfl, ?_⟩))
        go_meet
        case rel => exact ⟨_, (!t104), (by first | rfl | (simp; done) | (simp [*]; done)), H', ⟨by first | omega | exact Nat.le_refl _⟩, ⟨by (with_reducible repeat (first | refine z07 ?_ _ | refine z08 ?_ | refine z06 ?_ _)); exact BK101.out⟩, ⟨by repeat (first | (with_reducible first | exact HB.out | apply z02 | apply z00 | apply z03 | refine z09 ?_ GE101.out) | exact HB.out)⟩⟩
      · replace c8 := Bool.eq_false_iff.mpr c8
        subst c8
        have H1 : (intake_Check.j0 k a0 (!false) a1_0 a1_1 l1_2) = some r := by rw [if_neg (show ¬ (false = true) by decide)] at H; exact H
        clear H
        have H := H1
        clear H1
        have H' := z05.mk H
        clear H
        have hcz11_0 : w5.cell? ⟨gb101, 0, none⟩ = some (.int .i64 a1_0) := (z04 BK101.out 0).trans rfl
        have hcz11_1 : w5.cell? ⟨gb101, 1, none⟩ = some (.int .i64 a1_1) := (z04 BK101.out 1).trans rfl
        have hcz11_2 : w5.cell? ⟨gb101, 2, none⟩ = some (.slice A1_2 l1_2.length c1_2) := (z04 BK101.out 2).trans rfl
        have hfz11_0 := z01 BK101.out 0
        have hfz11_1 := z01 BK101.out 1
        have hfz11_2 := z01 BK101.out 2
        go_wp2_with (first | ((with_reducible refine z0j (f := 22) rfl ?_); refine z0u (some 11) rfl rfl Tryd.func22 (by kernel_rfl) rfl #[.int .i64 a1_1, .int .i64 1099511627776] rfl (by (try simp only [List.map_toArray, List.map_cons, List.map_nil]); first | done | rfl | (simp only [List.length_drop, List.length_take]; rfl)) ?_; (with_reducible refine (intake_in.calls a1_1 1099511627776 false _ A7.out).mono ?_); rintro e w' ⟨rfl, ⟨nd, rfl⟩⟩; refine ⟨_, rfl, ?_⟩))
        go_meet
        case rel => exact ⟨_, (!false), (by first | rfl | (simp; done) | (simp [*]; done)), H', ⟨by first | omega | exact Nat.le_refl _⟩, ⟨by (with_reducible repeat (first | refine z07 ?_ _ | refine z08 ?_ | refine z06 ?_ _)); exact BK101.out⟩, ⟨by repeat (first | (with_reducible first | exact HB.out | apply z02 | apply z00 | apply z03 | refine z09 ?_ GE101.out) | exact HB.out)⟩⟩
    · replace c6 := Bool.eq_false_iff.mpr c6
      subst c6
      have H1 : (intake_Check.j0 k a0 (!false) a1_0 a1_1 l1_2) = some r := by rw [if_neg (show ¬ (false = true) by decide)] at H; exact H
      clear H
      have H := H1
      clear H1
      have H' := z05.mk H
      clear H
      go_wp2
      go_meet
      case rel => exact ⟨_, (!false), (by first | rfl | (simp; done) | (simp [*]; done)), H', ⟨by first | omega | exact Nat.le_refl _⟩, ⟨by (with_reducible repeat (first | refine z07 ?_ _ | refine z08 ?_ | refine z06 ?_ _)); exact BK101.out⟩, ⟨by repeat (first | (with_reducible first | exact HB.out | apply z02 | apply z00 | apply z03 | refine z09 ?_ GE101.out) | exact HB.out)⟩⟩
  case rest =>
    clear HC4
    try clear c1
    try clear c2
    try clear p2
    try clear c6
    try clear c8
    try clear c11
    try clear hcz10_0
    try clear hcz10_1
    try clear hcz10_2
    try clear hcz11_0
    try clear hcz11_1
    try clear hcz11_2
    try clear hfz10_0
    try clear hfz10_1
    try clear hfz10_2
    try clear hfz11_0
    try clear hfz11_1
    try clear hfz11_2
    obtain ⟨kq, x5_3, rfl, HA, HJ3, BK101, HB⟩ := hcut
    cases kq with
    | zero => exact absurd HA.out (by simp [intake_Check.j0])
    | succ kj3 =>
      have H := HA.out
      clear HA
      simp only [intake_Check.j0] at H
      by_cases c12 : x5_3 = true
      · subst c12
        have H1 : (some 1) = some r := by rw [if_pos rfl] at H; exact H
        clear H
        have H := H1
        clear H1
        obtain rfl := Option.some.inj H
        go_wp2
        go_ret
        exact ⟨by first | rfl | (simp [z0d, z0c] <;> rfl) | (refine congrArg (fun b_ : Bool => Ending.returned (Value.bool b_)) ?_; simp; done) | (simp [*, z0d, z0c] <;> rfl), by repeat (first | (with_reducible first | exact HB.out | apply z02 | apply z00 | apply z03 | refine z09 ?_ GE101.out) | exact HB.out)⟩
      · replace c12 := Bool.eq_false_iff.mpr c12
        subst c12
        have H1 : (if (l1_2.length : Int) > 1024 then (intake_Check.j1 kj3 a0 (decide ((l1_2.length : Int) > 1024)) a1_0 a1_1 l1_2) else (intake_Check.j1 kj3 a0 (decide ((wrap64 (a1_1 + (l1_2.length : Int))) > 1099511627776)) a1_0 a1_1 l1_2)) = some r := by rw [if_neg (show ¬ (false = true) by decide)] at H; exact H
        clear H
        have H := H1
        clear H1
        have HC13 := z05.mk H
        clear H
        have hcz14_0 : wc.cell? ⟨gb101, 0, none⟩ = some (.int .i64 a1_0) := (z04 BK101.out 0).trans rfl
        have hcz14_1 : wc.cell? ⟨gb101, 1, none⟩ = some (.int .i64 a1_1) := (z04 BK101.out 1).trans rfl
        have hcz14_2 : wc.cell? ⟨gb101, 2, none⟩ = some (.slice A1_2 l1_2.length c1_2) := (z04 BK101.out 2).trans rfl
        have hfz14_0 := z01 BK101.out 0
        have hfz14_1 := z01 BK101.out 1
        have hfz14_2 := z01 BK101.out 2
        go_upto_if 17 with (fail)
        go_cut [17] (fun v17 wc => ∃ (kq : Nat) (x17_12 : Bool), v17 = .bool x17_12 ∧ z05 (intake_Check.j1 kq a0 x17_12 a1_0 a1_1 l1_2 = some r) ∧ z05 (kq ≤ kj3) ∧ z05 (wc.heap[gb101]? = some (.cells #[.int .i64 a1_0, .int .i64 a1_1, (.slice A1_2 l1_2.length c1_2)] 27 (0, 0))) ∧ z05 (Below w.heap.size w wc))
        case first =>
          have H := HC13.out
          clear HC13
          by_cases c15 : (l1_2.length : Int) > 1024
          · rw [if_pos c15] at H
            have c15b0 : decide (1024 < (l1_2.length : Int)) = true := decide_eq_true c15
            have c15b1 : decide (1024 < l1_2.length) = true := decide_eq_true (by omega)
            clear c15
            (first | rw [c15b0] | (simp only [i64_w, i32_w]; rw [c15b0]) | skip)
            have H' := z05.mk H
            clear H
            go_wp2
            go_meet
            case rel => exact ⟨_, (decide ((l1_2.length : Int) > 1024)), (by first | rfl | (simp; done) | (simp [*]; done)), H', ⟨by have := HJ3.out; first | omega | exact Nat.le_refl _⟩, ⟨by (with_reducible repeat (first | refine z07 ?_ _ | refine z08 ?_ | refine z06 ?_ _)); exact BK101.out⟩, ⟨by repeat (first | (with_reducible first | exact HB.out | apply z02 | apply z00 | apply z03 | refine z09 ?_ GE101.out) | exact HB.out)⟩⟩
          · rw [if_neg c15] at H
            have c15b0 : decide (1024 < (l1_2.length : Int)) = false := decide_eq_false c15
            have c15b1 : decide (1024 < l1_2.length) = false := decide_eq_false (by omega)
            clear c15
            (first | rw [c15b0] | (simp only [i64_w, i32_w]; rw [c15b0]) | skip)
            have H' := z05.mk H
            clear H
            have hcz16_0 : wc.cell? ⟨gb101, 0, none⟩ = some (.int .i64 a1_0) := (z04 BK101.out 0).trans rfl
            have hcz16_1 : wc.cell? ⟨gb101, 1, none⟩ = some (.int .i64 a1_1) := (z04 BK101.out 1).trans rfl
            have hcz16_2 : wc.cell? ⟨gb101, 2, none⟩ = some (.slice A1_2 l1_2.length c1_2) := (z04 BK101.out 2).trans rfl
            have hfz16_0 := z01 BK101.out 0
            have hfz16_1 := z01 BK101.out 1
            have hfz16_2 := z01 BK101.out 2
            go_wp2
            go_meet
            case rel => exact ⟨_, (decide ((wrap64 (a1_1 + (l1_2.length : Int))) > 1099511627776)), (by first | rfl | (simp; done) | (simp [*]; done)), H', ⟨by have := HJ3.out; first | omega | exact Nat.le_refl _⟩, ⟨by (with_reducible repeat (first | refine z07 ?_ _ | refine z08 ?_ | refine z06 ?_ _)); exact BK101.out⟩, ⟨by repeat (first | (with_reducible first | exact HB.out | apply z02 | apply z00 | apply z03 | refine z09 ?_ GE101.out) | exact HB.out)⟩⟩
        case rest =>
          clear HC13
          try clear c1
          try clear c2
          try clear p2
          try clear c6
          try clear p6
          try clear c8
          try clear c11
          try clear c12
          try clear c15
          try clear c15b0
          try clear c15b1
          try clear hcz10_0
          try clear hcz10_1
          try clear hcz10_2
          try clear hcz11_0
          try clear hcz11_1
          try clear hcz11_2
          try clear hcz14_0
          try clear hcz14_1
          try clear hcz14_2
          try clear hcz16_0
          try clear hcz16_1
          try clear hcz16_2
          try clear hfz10_0
          try clear hfz10_1
          try clear hfz10_2
          try clear hfz11_0
          try clear hfz11_1
          try clear hfz11_2
          try clear hfz14_0
          try clear hfz14_1
          try clear hfz14_2
          try clear hfz16_0
          try clear hfz16_1
          try clear hfz16_2
          try clear p2
          obtain ⟨kq, x17_12, rfl, HA, HJ12, BK101, HB⟩ := hcut
          cases kq with
          | zero => exact absurd HA.out (by simp [intake_Check.j1])
          | succ kj12 =>
            have H := HA.out
            clear HA
            simp only [intake_Check.j1] at H
            by_cases c17 : x17_12 = true
            · subst c17
              have H1 : (some 2) = some r := by rw [if_pos rfl] at H; exact H
              clear H
              have H := H1
              clear H1
              obtain rfl := Option.some.inj H
              go_wp2
              go_ret
              exact ⟨by first | rfl | (simp [z0d, z0c] <;> rfl) | (refine congrArg (fun b_ : Bool => Ending.returned (Value.bool b_)) ?_; simp; done) | (simp [*, z0d, z0c] <;> rfl), by repeat (first | (with_reducible first | exact HB.out | apply z02 | apply z00 | apply z03 | refine z09 ?_ GE101.out) | exact HB.out)⟩
            · replace c17 := Bool.eq_false_iff.mpr c17
              subst c17
              have H1 : (if a1_1 > a0 then (some 11) else (some 0)) = some r := by rw [if_neg (show ¬ (false = true) by decide)] at H; exact H
              clear H
              have H := H1
              clear H1
              by_cases c18 : a1_1 > a0
              · rw [if_pos c18] at H
                have c18b0 : decide (a0 < a1_1) = true := decide_eq_true c18
                clear c18
                obtain rfl := Option.some.inj H
                have hcz19_0 : wc.cell? ⟨gb101, 0, none⟩ = some (.int .i64 a1_0) := (z04 BK101.out 0).trans rfl
                have hcz19_1 : wc.cell? ⟨gb101, 1, none⟩ = some (.int .i64 a1_1) := (z04 BK101.out 1).trans rfl
                have hcz19_2 : wc.cell? ⟨gb101, 2, none⟩ = some (.slice A1_2 l1_2.length c1_2) := (z04 BK101.out 2).trans rfl
                have hfz19_0 := z01 BK101.out 0
                have hfz19_1 := z01 BK101.out 1
                have hfz19_2 := z01 BK101.out 2
                go_wp2
                go_ret
                exact ⟨by first | rfl | (simp [z0d, z0c] <;> rfl) | (refine congrArg (fun b_ : Bool => Ending.returned (Value.bool b_)) ?_; simp; done) | (simp [*, z0d, z0c] <;> rfl), by repeat (first | (with_reducible first | exact HB.out | apply z02 | apply z00 | apply z03 | refine z09 ?_ GE101.out) | exact HB.out)⟩
              · rw [if_neg c18] at H
                have c18b0 : decide (a0 < a1_1) = false := decide_eq_false c18
                clear c18
                obtain rfl := Option.some.inj H
                have hcz20_0 : wc.cell? ⟨gb101, 0, none⟩ = some (.int .i64 a1_0) := (z04 BK101.out 0).trans rfl
                have hcz20_1 : wc.cell? ⟨gb101, 1, none⟩ = some (.int .i64 a1_1) := (z04 BK101.out 1).trans rfl
                have hcz20_2 : wc.cell? ⟨gb101, 2, none⟩ = some (.slice A1_2 l1_2.length c1_2) := (z04 BK101.out 2).trans rfl
                have hfz20_0 := z01 BK101.out 0
                have hfz20_1 := z01 BK101.out 1
                have hfz20_2 := z01 BK101.out 2
                go_wp2
                go_ret
                exact ⟨by first | rfl | (simp [z0d, z0c] <;> rfl) | (refine congrArg (fun b_ : Bool => Ending.returned (Value.bool b_)) ?_; simp; done) | (simp [*, z0d, z0c] <;> rfl), by repeat (first | (with_reducible first | exact HB.out | apply z02 | apply z00 | apply z03 | refine z09 ?_ GE101.out) | exact HB.out)⟩

/-! ### strings_trimLeftByte: function 41 -/

/-! ### strings_trimRightByte: function 42 -/

-- NOT PRINTED: function 43 (strings_makeASCIISet)

-- NOT PRINTED: function 57 (strings_asciiSet_contains)

-- NOT PRINTED: function 44 (strings_trimLeftASCII)

-- NOT PRINTED: function 45 (strings_trimRightASCII)

-- NOT PRINTED: function 65 (utf8_decodeRuneInStringSlow)

-- NOT PRINTED: function 58 (utf8_DecodeRuneInString)

-- NOT PRINTED: function 76 (bytealg_IndexByteString)

-- NOT PRINTED: function 75 (stringslite_IndexByte)

-- NOT PRINTED: function 71 (strings_IndexByte)

/-! ### utf8_ValidRune: function 72 -/

/-! ### bytealg_Cutover: function 73 -/

-- NOT PRINTED: function 74 (bytealg_IndexString)

-- NOT PRINTED: function 66 (strings_IndexRune)

-- NOT PRINTED: function 59 (strings_ContainsRune)

-- NOT PRINTED: function 46 (strings_trimLeftUnicode)

/-! ### utf8_RuneStart: function 67 -/

-- NOT PRINTED: function 60 (utf8_DecodeLastRuneInString)

-- NOT PRINTED: function 47 (strings_trimRightUnicode)

end Go.Proofs.YtimomihjghefdaaDoor.Q
