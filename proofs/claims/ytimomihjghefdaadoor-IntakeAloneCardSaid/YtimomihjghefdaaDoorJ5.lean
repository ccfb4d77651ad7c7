/- Chapter 22: what decoding by a schema answers, in plain words. The machine side of laws, written by wip/tools/myprint.py (the printer's way, with functions proved by hand put in); Lean checks it. -/
import Derived.Test.YtimomihjghefdaaDoorJ0
import Derived.Test.YtimomihjghefdaaDoorJ2
import Derived.Test.YtimomihjghefdaaDoorJ1
import Derived.Test.YtimomihjghefdaaDoorQx5
import Derived.Test.YtimomihjghefdaaDoorQx6
import Derived.Test.YtimomihjghefdaaDoorJ3
import Derived.Test.YtimomihjghefdaaDoorQx11
import Derived.Test.YtimomihjghefdaaDoorJ4
import Derived.Lib.SliceRun
import Derived.LoopIn
import Derived.LoopNIn
import Derived.Maps.AppendAt
import Derived.OwnWalkIn
import Derived.RangeFuncBound
import Derived.RangeFuncCalls
import Derived.RangeFuncLeaves
import Derived.RangeFuncNested
import Derived.Shelf.Abstract
import Derived.Shelf.AbstractIn
import Derived.Shelf.RegionOpen
import Derived.Sort.LoopGhostIn
import Derived.Sort.QuietIn
import Derived.TacticsInMore
namespace Go.Proofs.YtimomihjghefdaaDoor.Q
open Go.RowKit Go.Proofs.YtimomihjghefdaaDoorW.PrintWords Go.Proofs.YtimomihjghefdaaDoorW.PrintLast Go.Proofs.YtimomihjghefdaaDoorW.PrintMore
attribute [local go_sem] max2_int min2_int max_two min_two max_three min_three max_four min_four   -- for this text's walks alone
set_option linter.unusedVariables false
set_option linter.unusedSimpArgs false

-- SAYS Chapter 22: what decoding by a schema answers, in plain words.
-- FUNCS winnower/intake.Take
-- NEEDS schema_Decode.f schema_column.f schema_keyed.f schema_name.f schema_of.f strings_Trim.f value_Get.f value_text.f winnowerref06_Get.f winnowerref06_Same.f winnowerref07_Decode.f winnowerref07_Few.f winnowerref07_May.f winnowerref07_name.f winnowerref07_whole.f
-- IMPORT Derived.Test.YtimomihjghefdaaDoorHnum
-- IMPORT Derived.Test.YtimomihjghefdaaDoorHval
-- IMPORT Derived.Test.YtimomihjghefdaaDoorHnumget
-- IMPORT Derived.Test.YtimomihjghefdaaDoorHnumgetl
-- IMPORT Derived.Test.YtimomihjghefdaaDoorHrefget
open Go.Proofs.YtimomihjghefdaaDoor.Hnum Go.Proofs.YtimomihjghefdaaDoor.Hval
theorem value_Get.tell {l : List Int} (hb : Bytes l) (hl : l.length ≤ 1000000000) (kind : Int) : value_Get.f l kind = some (getV l kind) := by
  unfold value_Get.f getV
  by_cases c0 : kind = 0
  · rw [if_pos c0, if_pos c0] <;> rfl
  · rw [if_neg c0, if_neg c0]
    by_cases c1 : kind = 1
    · rw [if_pos c1, if_pos c1, num_Get.tell hb, Option.bind_some]
      split <;> rfl
    · rw [if_neg c1, if_neg c1]
      by_cases c2 : kind = 2
      · rw [if_pos c2, if_pos c2]
        unfold value_text.f
        rw [num_GetLen.tell hb, Option.bind_some]
        rcases getl_cases hb with ⟨e, hg, he⟩ | ⟨u, n, hg, h1, h2, h3, h4⟩
        · rw [hg]
          simp only
          rw [if_neg (by omega), if_neg (by omega)] <;> rfl
        · rw [hg]
          simp only
          rw [if_pos trivial, if_pos trivial]
          by_cases c3 : (u : Int) > 64
          · rw [if_pos c3, if_pos c3] <;> rfl
          · rw [if_neg c3, if_neg c3, wrap_id (x := (l.length : Int) - (n : Int)) (by omega) (by omega), wrap_id (x := (n : Int) + (u : Int)) (by omega) (by omega)]
            by_cases c4 : (n : Int) + (u : Int) > (l.length : Int)
            · rw [if_pos (by omega), if_pos c4] <;> rfl
            · rw [if_neg (by omega), if_neg c4, if_pos (by omega), if_pos (by omega), if_pos (by omega)] <;> rfl
      · rw [if_neg c2, if_neg c2]
        by_cases c3 : kind = 3
        · rw [if_pos c3, if_pos c3]
          by_cases c4 : l.length = 0
          · rw [if_pos (by omega), if_pos c4] <;> rfl
          · rw [if_neg (by omega), if_neg c4, if_pos (by omega)]
            split <;> rfl
        · rw [if_neg c3, if_neg c3] <;> rfl
theorem rd46_at {l : List S63} {i : Nat} (h : i < l.length) : rd_T63 l (i : Int) = l[i] := by
  unfold rd_T63
  rw [Int.toNat_natCast, List.getD_eq_getElem?_getD, List.getElem?_eq_getElem h]
  rfl
theorem rd48_at {l : List S45} {i : Nat} (h : i < l.length) : rd_T45 l (i : Int) = l[i] := by
  unfold rd_T45
  rw [Int.toNat_natCast, List.getD_eq_getElem?_getD, List.getElem?_eq_getElem h]
  rfl
theorem wr1 {i : Nat} (h : i ≤ 1000000000) : wrap64 ((i : Int) + 1) = ((i + 1 : Nat) : Int) := by unfold wrap64; omega
instance eq46 : DecidableEq S63 := fun a b => decidable_of_iff (a.f0 = b.f0 ∧ a.f1 = b.f1 ∧ a.f2.toList = b.f2.toList ∧ a.f3 = b.f3) ⟨fun h => by
    cases a; cases b
    obtain ⟨h0, h1, h2, h3⟩ := h
    simp only at h0 h1 h2 h3
    rw [h0, h1, Go.Proofs.YtimomihjghefdaaDoor.Hval.bytes_ext h2, h3], fun h => by subst h; exact ⟨rfl, rfl, rfl, rfl⟩⟩
def tv (v : S63) : V := ⟨v.f0, v.f1, v.f2, v.f3⟩
/-- Does a value fit a column? -/
def fitC (x : S45) (v : S63) : Bool := V.may (tv v) && (decide (v.f0 = x.f1) || (decide (v.f0 = 0) && x.f2))
def fitAll : List S45 → List S63 → Bool
  | [], _ => true
  | _ :: _, [] => false
  | x :: t, v :: r => fitC x v && fitAll t r
/-- The bytes of a value in its column, and of a row. -/
def encV (x : S45) (v : S63) : List Int := if x.f2 = true then (if v.f0 = 0 then [0] else 1 :: V.bytes (tv v)) else V.bytes (tv v)
def encS : List S45 → List S63 → List Int
  | x :: t, v :: r => encV x v ++ encS t r
  | _, _ => []
def smallC : List S45 := [⟨⟨#[107]⟩, 1, false⟩, ⟨⟨#[118]⟩, 2, true⟩]
theorem toL (l : List UInt8) : (⟨l.toArray⟩ : ByteArray).toList = l := by rw [ByteArray.toList_eq]
theorem name_trim (s : ByteArray) (h1 : (s.size : Int) ≥ 1) (h2 : (s.size : Int) ≤ 16) : nameS s = (Lib.trimS s.data.toList [97, 98, 99, 100, 101, 102, 103, 104, 105, 106, 107, 108, 109, 110, 111, 112, 113, 114, 115, 116, 117, 118, 119, 120, 121, 122, 48, 49, 50, 51, 52, 53, 54, 55, 56, 57, 95] == ([] : List UInt8)) := by
  unfold nameS schema_name.f strings_Trim.f
  rw [if_pos h1, if_pos h2, if_pos ⟨by omega, by decide, by decide⟩, Option.bind_some, toL]
  rfl
theorem small_name1 : nameS ⟨#[107]⟩ = true := by
  rw [name_trim _ (by decide) (by decide)]
  decide
theorem small_name2 : nameS ⟨#[118]⟩ = true := by
  rw [name_trim _ (by decide) (by decide)]
  decide
theorem small_find1 : findC ⟨#[107]⟩ smallC 0 = 0 := by
  unfold smallC findC
  rw [toL [107]]
  rfl
theorem small_find2 : findC ⟨#[118]⟩ smallC 0 = 1 := by
  unfold smallC findC findC
  rw [toL [107], toL [118]]
  rfl
theorem small_may : mayS smallC (-1) (-1) (-1) (-1) = true := by
  have hc : colsS smallC smallC 0 = true := by
    show (nameS ⟨#[107]⟩ && (decide ((1 : Int) ≤ 1) && (decide ((1 : Int) ≤ 3) && (decide (findC ⟨#[107]⟩ smallC 0 = 0) && (nameS ⟨#[118]⟩ && (decide ((1 : Int) ≤ 2) && (decide ((2 : Int) ≤ 3) && (decide (findC ⟨#[118]⟩ smallC 0 = 0 + 1) && true)))))))) = true
    rw [small_name1, small_name2, small_find1, small_find2]
    rfl
  unfold mayS
  rw [hc]
  rfl
theorem b10 : V.bytes ⟨1, 5, ⟨#[]⟩, false⟩ = [10] := by
  unfold V.bytes
  rw [if_pos rfl, show fold 5 = 10 from rfl, digs_last (by decide)]
  rfl
theorem small_v1 : V.may ⟨1, 5, ⟨#[]⟩, false⟩ = true := by
  unfold V.may
  rw [if_pos rfl, toL []]
  rfl
theorem small_get : value_Get.f [10, 0] 1 = some (1, 5, ⟨#[]⟩, false, 1, 0) := by
  rw [value_Get.tell (by intro x hx; simp only [List.mem_cons, List.not_mem_nil, or_false] at hx; rcases hx with rfl | rfl <;> decide) (by decide)]
  have h := getV_bytes small_v1 (by decide) [0]
  rw [b10] at h
  exact congrArg some h
theorem small_dec : decC smallC [10, 0] [] = some ([⟨1, 5, ⟨#[]⟩, false⟩, ⟨0, 0, ⟨#[]⟩, false⟩], 0) := by
  have c1 : schema_column.f false 1 [10, 0] = some (1, 5, ⟨#[]⟩, false, 1, 0) := by
    unfold schema_column.f
    rw [if_neg (by decide), small_get, Option.map_some]
    unfold fin1
    simp only
    rw [show wrap64 (0 + 1) = 1 from by unfold wrap64; omega]
    first | rfl | simp
  have c2 : schema_column.f true 2 [0] = some (0, 0, ⟨#[]⟩, false, 1, 0) := by
    unfold schema_column.f
    rw [if_pos rfl, if_neg (by simp), if_neg (by decide), if_pos (by rfl)]
  unfold smallC
  simp only [decC]
  rw [c1, Option.bind_some]
  simp only
  rw [if_pos trivial, if_pos (by decide), show List.drop (Int.toNat 1) [(10 : Int), 0] = [0] from rfl, c2, Option.bind_some]
  simp only
  rw [if_pos trivial, if_pos (by decide), show List.drop (Int.toNat 1) [(0 : Int)] = [] from rfl, if_pos rfl]
  rfl
/-- Few columns, of short names. -/
def fewC (l : List S45) : Bool := decide (l.length ≤ 12) && l.all fun x => decide (x.f0.size ≤ 100)
theorem few07_go {l : List S45} (hl : l.length ≤ 12) (a1 a2 a3 a4 : Int) (q : Nat) : ∀ (d i : Nat), i + d = l.length → winnowerref07_Few.l0 (d + q + 1) (i : Int) l a1 a2 a3 a4 = some ((l.drop i).all fun x => decide (x.f0.size ≤ 100)) := by
  intro d
  induction d with
  | zero =>
    intro i hi
    rw [Nat.zero_add]
    unfold winnowerref07_Few.l0
    rw [if_neg (by omega), List.drop_of_length_le (by omega)]
    rfl
  | succ d ih =>
    intro i hi
    have hk : i < l.length := by omega
    rw [show d + 1 + q + 1 = (d + q + 1) + 1 by omega]
    unfold winnowerref07_Few.l0
    rw [if_pos (by omega), if_pos (by omega), rd48_at hk, wr1 (by omega), ih (i + 1) (by omega), List.drop_eq_getElem_cons hk, List.all_cons]
    by_cases h : (l[i].f0.size : Int) > 100
    · rw [if_pos h, decide_eq_false (show ¬ l[i].f0.size ≤ 100 by omega)]; rfl
    · rw [if_neg h, decide_eq_true (show l[i].f0.size ≤ 100 by omega)]; rfl
theorem few07_tell (l : List S45) (a1 a2 a3 a4 : Int) {k : Nat} (hk : l.length + 1 ≤ k) : winnowerref07_Few.f k l a1 a2 a3 a4 = some (fewC l) := by
  obtain ⟨q, rfl⟩ : ∃ q, k = l.length + q + 1 := ⟨k - l.length - 1, by omega⟩
  clear hk
  unfold winnowerref07_Few.f fewC
  by_cases h : (l.length : Int) > 12
  · rw [if_pos h, decide_eq_false (show ¬ l.length ≤ 12 by omega)]; rfl
  · rw [if_neg h, decide_eq_true (show l.length ≤ 12 by omega)]
    have g := few07_go (l := l) (by omega) a1 a2 a3 a4 q l.length 0 (by omega)
    exact g
/-- Are two rows the same? -/
theorem same06_one (a b : S63) : (!((a.f0 == b.f0)) || (!((a.f1 == b.f1)) || (!((a.f2.toList == b.f2.toList)) || !((a.f3 == b.f3))))) = !decide (a = b) := by
  by_cases h : a = b
  · subst h
    simp
  · rw [decide_eq_false h]
    cases a with
    | mk a0 a1 a2 a3 =>
      cases b with
      | mk b0 b1 b2 b3 =>
        by_cases e0 : a0 = b0
        · by_cases e1 : a1 = b1
          · by_cases e2 : a2.toList = b2.toList
            · by_cases e3 : a3 = b3
              · exact absurd (by rw [e0, e1, bytes_ext e2, e3]) h
              · simp [e3]
            · simp [e2]
          · simp [e1]
        · simp [e0]
theorem same06_go {a b : List S63} (hl : a.length = b.length) (h9 : a.length ≤ 1000000) (q : Nat) : ∀ (d i : Nat), i + d = a.length → winnowerref06_Same.l0 (d + q + 1) a b (i : Int) = some (decide (a.drop i = b.drop i)) := by
  intro d
  induction d with
  | zero =>
    intro i hi
    rw [Nat.zero_add]
    unfold winnowerref06_Same.l0
    rw [if_neg (by omega), List.drop_of_length_le (by omega), List.drop_of_length_le (by omega)]
    rfl
  | succ d ih =>
    intro i hi
    have hk : i < a.length := by omega
    have hk2 : i < b.length := by omega
    rw [show d + 1 + q + 1 = (d + q + 1) + 1 by omega]
    unfold winnowerref06_Same.l0
    rw [if_pos (by omega), if_pos (by omega), if_pos (by omega), rd46_at hk, rd46_at hk2, same06_one, wr1 (by omega), ih (i + 1) (by omega), List.drop_eq_getElem_cons hk, List.drop_eq_getElem_cons hk2]
    by_cases h : a[i] = b[i]
    · rw [decide_eq_true h, if_neg (by decide)]
      exact congrArg some (decide_eq_decide.2 ⟨fun e => by rw [h, e], fun e => (List.cons.inj e).2⟩)
    · rw [decide_eq_false h, if_pos (by decide)]
      exact congrArg some (decide_eq_false (fun e => h (List.cons.inj e).1)).symm
theorem same06_tell (a b : List S63) (h9 : a.length ≤ 1000000) {k : Nat} (hk : a.length + 1 ≤ k) : winnowerref06_Same.f k a b = some (decide (a = b)) := by
  obtain ⟨q, rfl⟩ : ∃ q, k = a.length + q + 1 := ⟨k - a.length - 1, by omega⟩
  clear hk
  unfold winnowerref06_Same.f
  by_cases hl : a.length = b.length
  · rw [if_pos (by omega)]
    have g := same06_go hl h9 q a.length 0 (by omega)
    exact g
  · rw [if_neg (by omega)]
    exact congrArg some (decide_eq_false (fun e => hl (by rw [e]))).symm
/-- What a column's bytes are. -/
def colV (x : S45) (l : List Int) : Got :=
  if x.f2 = true then (if l = [] then bad 6 else if 1 < rd l 0 then bad 7 else if rd l 0 = 0 then (0, 0, ⟨#[]⟩, false, 1, 0) else fin1 1 (getV (l.drop 1) x.f1))
  else fin1 0 (getV l x.f1)
theorem Bytes.drop' {l : List Int} (hb : Bytes l) (n : Nat) : Bytes (l.drop n) := fun x hx => hb x (List.mem_of_mem_drop hx)
theorem col_tell {x : S45} {l : List Int} (hb : Bytes l) (hl : l.length ≤ 1000000) : schema_column.f x.f2 x.f1 l = some (colV x l) := by
  unfold schema_column.f colV
  split
  · split
    · rfl
    · split
      · rfl
      · split
        · rfl
        · rw [value_Get.tell (Bytes.drop' hb 1) (by rw [List.length_drop]; omega)]
          rfl
  · rw [value_Get.tell hb (by omega)]
    rfl
theorem getV_err {l : List Int} (hb : Bytes l) {kind : Int} (h1 : 1 ≤ kind) (h3 : kind ≤ 3) {e : Int} (h : getV l kind = bad e) (he : e ≠ 0) : e ≠ 1 := by
  rintro rfl
  unfold getV at h
  rw [if_neg (by omega)] at h
  split at h
  · split at h
    · simp [good, bad] at h
    · rename_i hg
      rcases getn_cases hb with ⟨e, he, h67⟩ | ⟨u, n, he, _⟩
      · rw [he] at h
        simp only [bad, Prod.mk.injEq] at h
        omega
      · rw [he] at hg
        exact absurd rfl hg
  · split at h
    · split at h
      · split at h
        · simp [bad] at h
        · split at h
          · simp [bad] at h
          · simp [good, bad] at h
      · rename_i hg
        rcases getl_cases hb with ⟨e, he, h67⟩ | ⟨u, n, he, _⟩
        · rw [he] at h
          simp only [bad, Prod.mk.injEq] at h
          omega
        · rw [he] at hg
          exact absurd rfl hg
    · split at h
      · split at h
        · simp [bad] at h
        · split at h
          · simp [bad] at h
          · simp [good, bad] at h
      · exact absurd h3 (by omega)
/-- A column of a schema that may be has a kind. -/
def kindC (x : S45) : Prop := 1 ≤ x.f1 ∧ x.f1 ≤ 3
theorem fin1_bad (h e : Int) (he : e ≠ 0) : fin1 h (bad e) = bad e := by unfold fin1; rw [if_neg he]
theorem fin1_good (h : Int) (v : V) (n : Int) : fin1 h (good v n) = good v (wrap64 (h + n)) := by unfold fin1; rw [if_pos rfl]
theorem col_cases {x : S45} (hk : kindC x) {l : List Int} (hb : Bytes l) (hl : l.length ≤ 1000000) :
    (∃ e, colV x l = bad e ∧ e ≠ 0 ∧ e ≠ 1) ∨ ∃ (v : S63) (n : Nat), colV x l = good (tv v) n ∧ fitC x v = true ∧ encV x v = l.take n ∧ n ≤ l.length ∧ i64 v.f1 := by
  unfold colV
  by_cases hn : x.f2 = true
  · rw [if_pos hn]
    by_cases h0 : l = []
    · rw [if_pos h0]; exact .inl ⟨6, rfl, by decide, by decide⟩
    · rw [if_neg h0]
      obtain ⟨y, t, rfl⟩ := List.exists_cons_of_ne_nil h0
      have hy := hb y (List.mem_cons_self ..)
      rw [show rd (y :: t) 0 = y from rfl, show List.drop 1 (y :: t) = t from rfl]
      by_cases h1 : 1 < y
      · rw [if_pos h1]; exact .inl ⟨7, rfl, by decide, by decide⟩
      · rw [if_neg h1]
        by_cases h2 : y = 0
        · rw [if_pos h2]
          refine .inr ⟨⟨0, 0, ⟨#[]⟩, false⟩, 1, rfl, ?_, ?_, by simp, by decide⟩
          · unfold fitC tv
            rw [show V.may ⟨0, 0, ⟨#[]⟩, false⟩ = true from V.may_null, hn]
            simp
          · unfold encV
            rw [if_pos hn, if_pos rfl, h2]
            rfl
        · rw [if_neg h2]
          have hy1 : y = 1 := by omega
          subst hy1
          have hb' : Bytes t := fun z hz => hb z (List.mem_cons_of_mem _ hz)
          have hl' : t.length + 1 ≤ 1000000 := hl
          rcases getV_cases hb' x.f1 with ⟨e, he, h3, h4⟩ | ⟨v, n, hv, hm, hvk, hvb, hvn, hvi⟩
          · rw [he, fin1_bad 1 e h3]
            exact .inl ⟨e, rfl, h3, getV_err hb' hk.1 hk.2 he h3⟩
          · rw [hv, fin1_good, show wrap64 (1 + (n : Int)) = ((n + 1 : Nat) : Int) by rw [Int.add_comm]; exact wr1 (by omega)]
            refine .inr ⟨⟨v.k, v.i, v.s, v.b⟩, n + 1, rfl, ?_, ?_, by simp; omega, hvi⟩
            · unfold fitC tv
              simp only
              rw [show V.may ⟨v.k, v.i, v.s, v.b⟩ = true from hm, decide_eq_true hvk]
              rfl
            · unfold encV tv
              simp only
              rw [if_pos hn, if_neg (by unfold kindC at hk; omega), show V.bytes ⟨v.k, v.i, v.s, v.b⟩ = v.bytes from rfl, hvb]
              rfl
  · rw [if_neg hn]
    rcases getV_cases hb x.f1 with ⟨e, he, h3, h4⟩ | ⟨v, n, hv, hm, hvk, hvb, hvn, hvi⟩
    · rw [he, fin1_bad 0 e h3]
      exact .inl ⟨e, rfl, h3, getV_err hb hk.1 hk.2 he h3⟩
    · rw [hv, fin1_good, show wrap64 (0 + (n : Int)) = (n : Int) by unfold wrap64; omega]
      refine .inr ⟨⟨v.k, v.i, v.s, v.b⟩, n, rfl, ?_, ?_, hvn, hvi⟩
      · unfold fitC tv
        simp only
        rw [show V.may ⟨v.k, v.i, v.s, v.b⟩ = true from hm, decide_eq_true hvk]
        rfl
      · unfold encV tv
        rw [if_neg hn]
        exact hvb
theorem decC_cons {x : S45} {t : List S45} {b : List Int} {acc : List S63} (hb : Bytes b) (hl : b.length ≤ 1000000) : decC (x :: t) b acc = if (colV x b).2.2.2.2.2 = 0 then (if 0 ≤ (colV x b).2.2.2.2.1 ∧ (colV x b).2.2.2.2.1 ≤ (b.length : Int) then decC t (b.drop (colV x b).2.2.2.2.1.toNat) (acc ++ [⟨(colV x b).1, (colV x b).2.1, (colV x b).2.2.1, (colV x b).2.2.2.1⟩]) else none) else some ([], (colV x b).2.2.2.2.2) := by
  rw [decC, col_tell hb hl, Option.bind_some]
theorem dec_cases : ∀ (l : List S45) (b : List Int) (acc : List S63), (∀ x ∈ l, kindC x) → Bytes b → b.length ≤ 1000000 →
    (∃ e, decC l b acc = some ([], e) ∧ e ≠ 0 ∧ e ≠ 1) ∨ ∃ row : List S63, row.length = l.length ∧ fitAll l row = true ∧ encS l row = b ∧ (∀ v ∈ row, i64 v.f1) ∧ decC l b acc = some (acc ++ row, 0)
  | [], b, acc, _, _, _ => by
    by_cases h : b = []
    · exact .inr ⟨[], rfl, rfl, h.symm, by simp, by rw [decC, if_pos h, List.append_nil]⟩
    · exact .inl ⟨7, by rw [decC, if_neg h], by decide, by decide⟩
  | x :: t, b, acc, hk, hb, hl => by
    rw [decC_cons hb hl]
    rcases col_cases (hk x (List.mem_cons_self ..)) hb hl with ⟨e, he, h0, h1⟩ | ⟨v, n, he, hf, hv, hn, hi⟩
    · rw [he]
      simp only
      rw [if_neg h0]
      exact .inl ⟨e, rfl, h0, h1⟩
    · rw [he]
      simp only
      rw [if_pos trivial, if_pos ⟨by omega, by omega⟩, Int.toNat_natCast]
      rcases dec_cases t (b.drop n) (acc ++ [v]) (fun y hy => hk y (List.mem_cons_of_mem _ hy)) (Bytes.drop' hb n) (by rw [List.length_drop]; omega) with ⟨e, he, h0, h1⟩ | ⟨row, r1, r2, r3, r4, r5⟩
      · exact .inl ⟨e, he, h0, h1⟩
      · refine .inr ⟨v :: row, by rw [List.length_cons, List.length_cons, r1], ?_, ?_, ?_, ?_⟩
        · unfold fitAll; rw [hf, r2]; rfl
        · unfold encS; rw [hv, r3, List.take_append_drop]
        · intro z hz
          rcases List.mem_cons.mp hz with rfl | hz
          · exact hi
          · exact r4 z hz
        · refine Eq.trans r5 ?_
          rw [List.append_assoc]
          rfl
/-- What a schema that may be says of its columns. -/
theorem colsS_kind : ∀ (L l : List S45) (i : Int), colsS L l i = true → ∀ x ∈ l, kindC x
  | _, [], _, _, x, hx => by cases hx
  | L, y :: t, i, h, x, hx => by
    unfold colsS at h
    rw [Bool.and_eq_true, Bool.and_eq_true, Bool.and_eq_true, Bool.and_eq_true, decide_eq_true_eq, decide_eq_true_eq] at h
    obtain ⟨_, h1, h3, _, ht⟩ := h
    rcases List.mem_cons.mp hx with rfl | hx
    · exact ⟨h1, h3⟩
    · exact colsS_kind L t (i + 1) ht x hx
theorem mayS_kind {l : List S45} {a1 a2 a3 a4 : Int} (h : mayS l a1 a2 a3 a4 = true) : ∀ x ∈ l, kindC x := by
  unfold mayS at h
  rw [Bool.and_eq_true] at h
  exact colsS_kind l l 0 h.1
theorem dec_tell (l : List S45) (hl : l.length ≤ 1000) (a1 a2 a3 a4 : Int) (b : List Int) : schema_Decode.f l a1 a2 a3 a4 b = if mayS l a1 a2 a3 a4 = true then decC l b [] else some ([], 1) := by
  unfold schema_Decode.f
  rw [if_pos hl]
theorem fewC_len {l : List S45} (h : fewC l = true) : l.length ≤ 12 := by
  unfold fewC at h
  rw [Bool.and_eq_true, decide_eq_true_eq] at h
  exact h.1
def letters : List UInt8 := [97, 98, 99, 100, 101, 102, 103, 104, 105, 106, 107, 108, 109, 110, 111, 112, 113, 114, 115, 116, 117, 118, 119, 120, 121, 122, 48, 49, 50, 51, 52, 53, 54, 55, 56, 57, 95]
theorem few_ge (l : List S45) (a1 a2 a3 a4 : Int) {k : Nat} (hk : 200 ≤ k) : winnowerref07_Few.f k l a1 a2 a3 a4 = some (fewC l) := by
  by_cases h : l.length ≤ 12
  · exact few07_tell l a1 a2 a3 a4 (by omega)
  · unfold winnowerref07_Few.f fewC
    rw [if_pos (by omega), decide_eq_false h]
    rfl

end Go.Proofs.YtimomihjghefdaaDoor.Q
namespace Go.Proofs.YtimomihjghefdaaDoor.Q
open Go.RowKit Go.Proofs.YtimomihjghefdaaDoorW.PrintWords Go.Proofs.YtimomihjghefdaaDoorW.PrintLast Go.Proofs.YtimomihjghefdaaDoorW.PrintMore
attribute [local go_sem] max2_int min2_int max_two min_two max_three min_three max_four min_four   -- for this text's walks alone
set_option linter.unusedVariables false
set_option linter.unusedSimpArgs false

/-! ### intake_in: function 22 -/
def intake_in.f (a0 : Int) (a1 : Int) : Option (Bool) := if a0 ≥ 0 then (some (decide (a0 ≤ a1))) else (some false)
set_option maxHeartbeats 8000000 in
set_option maxRecDepth 100000 in
theorem intake_in.calls (a0 : Int) (a1 : Int) (r : Bool) (w : World) (h : intake_in.f a0 a1 = some r) :
    Calls Tryd.prog 22 #[.int .i64 a0, .int .i64 a1] w fun e w' => e = .returned (.bool r) ∧ Drawn0 w w' := by
  have H : (if a0 ≥ 0 then (some (decide (a0 ≤ a1))) else (some false)) = some r := h
  clear h
  by_cases c3 : a0 ≥ 0
  · rw [if_pos c3] at H
    have c3b0 : decide (0 ≤ a0) = true := decide_eq_true c3
    clear c3
    obtain rfl := Option.some.inj H
    go_enter Tryd.func22, Tryd.ntmps22
    go_wp2
    go_ret
    exact ⟨by first | rfl | (simp; done) | (simp [*]; done), by repeat (first | exact Drawn0.refl _ | apply Drawn0.step)⟩
  · rw [if_neg c3] at H
    have c3b0 : decide (0 ≤ a0) = false := decide_eq_false c3
    clear c3
    obtain rfl := Option.some.inj H
    go_enter Tryd.func22, Tryd.ntmps22
    go_wp2
    go_ret
    exact ⟨by first | rfl | (simp; done) | (simp [*]; done), by repeat (first | exact Drawn0.refl _ | apply Drawn0.step)⟩

/-! ### intake_Check: function 11 -/
mutual
def intake_Check.j0 : Nat → Int → Bool → Int → Int → List (List Int) → Option (Int)
  | 0, _, _, _, _, _ => none
  | k + 1, x0, x5, x102000, x102001, x102002 => if x5 = true then (some 1) else (if (x102002.length : Int) > 1024 then (intake_Check.j1 k x0 (decide ((x102002.length : Int) > 1024)) x102000 x102001 x102002) else (intake_Check.j1 k x0 (decide ((wrap64 (x102001 + (x102002.length : Int))) > 1099511627776)) x102000 x102001 x102002))
def intake_Check.j1 : Nat → Int → Bool → Int → Int → List (List Int) → Option (Int)
  | 0, _, _, _, _, _ => none
  | k + 1, x0, x17, x102000, x102001, x102002 => if x17 = true then (some 2) else (if x102001 > x0 then (some 11) else (some 0))
end
def intake_Check.f (k : Nat) (a0 : Int) (a1_0 : Int) (a1_1 : Int) (l1_2 : List (List Int)) : Option (Int) := (intake_in.f a0 1099511627776).bind fun t102 => (if t102 = true then ((intake_in.f a1_1 1099511627776).bind fun t103 => (if t103 = true then ((intake_in.f a1_0 3).bind fun t104 => (intake_Check.j0 k a0 (!t104) a1_0 a1_1 l1_2)) else (intake_Check.j0 k a0 (!t103) a1_0 a1_1 l1_2))) else (intake_Check.j0 k a0 (!t102) a1_0 a1_1 l1_2))
set_option maxHeartbeats 8000000 in
set_option maxRecDepth 100000 in
theorem intake_Check.calls (k : Nat) (a0 : Int) (a1_0 : Int) (a1_1 : Int) (A1_2 : Option Addr) (c1_2 : Nat) (l1_2 : List (List Int)) (r : Int) (w : World) (hr1_2 : Kd.C (Kd.slice 5 (Kd.int .u8)) w A1_2 l1_2.length l1_2) (hc1_2 : l1_2.length ≤ c1_2) (h : intake_Check.f k a0 a1_0 a1_1 l1_2 = some r) :
    Calls Tryd.prog 11 #[.int .i64 a0, .agg #[.int .i64 a1_0, .int .i64 a1_1, .slice A1_2 l1_2.length c1_2]] w fun e w' => e = .returned (.int .i64 r) ∧ Below w.heap.size w w' := by
  have hu27 := Tryd.underlying27
  have HR1_2 := Aside0.mk hr1_2
  have HC1_2 := Aside0.mk hc1_2
  clear hr1_2 hc1_2
  have HB := Aside0.mk (Below.refl w.heap.size w)
  have H : ((intake_in.f a0 1099511627776).bind fun t102 => (if t102 = true then ((intake_in.f a1_1 1099511627776).bind fun t103 => (if t103 = true then ((intake_in.f a1_0 3).bind fun t104 => (intake_Check.j0 k a0 (!t104) a1_0 a1_1 l1_2)) else (intake_Check.j0 k a0 (!t103) a1_0 a1_1 l1_2))) else (intake_Check.j0 k a0 (!t102) a1_0 a1_1 l1_2))) = some r := h
  clear h
  replace H := Option.bind_eq_some_iff.mp H
  obtain ⟨t102, A30, H⟩ := H
  replace H : (if t102 = true then ((intake_in.f a1_1 1099511627776).bind fun t103 => (if t103 = true then ((intake_in.f a1_0 3).bind fun t104 => (intake_Check.j0 k a0 (!t104) a1_0 a1_1 l1_2)) else (intake_Check.j0 k a0 (!t103) a1_0 a1_1 l1_2))) else (intake_Check.j0 k a0 (!t102) a1_0 a1_1 l1_2)) = some r := H
  have A3 := Aside0.mk A30
  clear A30
  have HC4 := Aside0.mk H
  clear H
  go_enter Tryd.func11, Tryd.ntmps11
  go_upto_if 5 with (first | ((with_reducible refine gate_dst (N := 3) rfl ?_); refine box_event ?hg (N := 3) ?hd (cs := #[.int .i64 a1_0, .int .i64 a1_1, .slice A1_2 l1_2.length c1_2]) (t := 27) ?hr ?_; (case hd => rfl); (case hg => rfl); (case hr => first | (go_simp; done) | (go_simp; rfl)); intro gb101 hg w5 hbox hb; have n0_ := Aside0.mk (below_step (by repeat (first | (with_reducible first | exact HB.out | apply below_alloc | apply pw_below_drewN | apply below_drew1) | exact HB.out)) hb); have n1_ := Aside0.mk (hbox); have n2_ := Aside0.mk ((by rw [hg]; exact (below_size (by repeat (first | (with_reducible first | exact HB.out | apply below_alloc | apply pw_below_drewN | apply below_drew1) | exact HB.out))) : w.heap.size ≤ gb101)); have n3_ := Aside0.mk ((by rw [hg]; exact (below_size (by repeat (first | (with_reducible first | exact HB.out | apply below_alloc | apply pw_below_drewN | apply below_drew1) | exact HB.out))) : w.heap.size ≤ gb101)); clear HB; have HB := n0_; have BK101 := n1_; have GW101 := n2_; have GE101 := n3_; clear n0_ n1_ n2_ n3_; clear hb hbox hg) | ((with_reducible refine gate_callee (f := 22) rfl ?_); refine goesL_ (some 7) rfl rfl Tryd.func22 (by kernel_rfl) rfl #[.int .i64 a0, .int .i64 1099511627776] rfl (by (try simp only [List.map_toArray, List.map_cons, List.map_nil]); first | done | rfl | (simp only [List.length_drop, List.length_take]; rfl)) ?_; (with_reducible refine (intake_in.calls a0 1099511627776 t102 _ A3.out).mono ?_); rintro e w' ⟨rfl, ⟨nd, rfl⟩⟩; refine ⟨_, rfl, ?_⟩))
  (try simp only [Act.put, List.setIfInBounds_toArray, List.set_cons_zero, List.set_cons_succ])
  go_cut [5] (fun v5 wc => ∃ (kq : Nat) (x5_3 : Bool), v5 = .bool x5_3 ∧ Aside0 (intake_Check.j0 kq a0 x5_3 a1_0 a1_1 l1_2 = some r) ∧ Aside0 (kq ≤ k) ∧ Aside0 (wc.heap[gb101]? = some (.cells #[.int .i64 a1_0, .int .i64 a1_1, (.slice A1_2 l1_2.length c1_2)] 27 (0, 0))) ∧ Aside0 (Below w.heap.size w wc))
  case first =>
    have H := HC4.out
    clear HC4
    by_cases c6 : t102 = true
    · subst c6
      have H1 : ((intake_in.f a1_1 1099511627776).bind fun t103 => (if t103 = true then ((intake_in.f a1_0 3).bind fun t104 => (intake_Check.j0 k a0 (!t104) a1_0 a1_1 l1_2)) else (intake_Check.j0 k a0 (!t103) a1_0 a1_1 l1_2))) = some r := by rw [if_pos rfl] at H; exact H
      clear H
      have H := H1
      clear H1
      replace H := Option.bind_eq_some_iff.mp H
      obtain ⟨t103, A70, H⟩ := H
      replace H : (if t103 = true then ((intake_in.f a1_0 3).bind fun t104 => (intake_Check.j0 k a0 (!t104) a1_0 a1_1 l1_2)) else (intake_Check.j0 k a0 (!t103) a1_0 a1_1 l1_2)) = some r := H
      have A7 := Aside0.mk A70
      clear A70
      by_cases c8 : t103 = true
      · subst c8
        have H1 : ((intake_in.f a1_0 3).bind fun t104 => (intake_Check.j0 k a0 (!t104) a1_0 a1_1 l1_2)) = some r := by rw [if_pos rfl] at H; exact H
        clear H
        have H := H1
        clear H1
        replace H := Option.bind_eq_some_iff.mp H
        obtain ⟨t104, A90, H⟩ := H
        replace H : (intake_Check.j0 k a0 (!t104) a1_0 a1_1 l1_2) = some r := H
        have A9 := Aside0.mk A90
        clear A90
        have H' := Aside0.mk H
        clear H
        have hcz10_0 : w5.cell? ⟨gb101, 0, none⟩ = some (.int .i64 a1_0) := (blk_cell BK101.out 0).trans rfl
        have hcz10_1 : w5.cell? ⟨gb101, 1, none⟩ = some (.int .i64 a1_1) := (blk_cell BK101.out 1).trans rfl
        have hcz10_2 : w5.cell? ⟨gb101, 2, none⟩ = some (.slice A1_2 l1_2.length c1_2) := (blk_cell BK101.out 2).trans rfl
        have hfz10_0 := blk_frozen BK101.out 0
        have hfz10_1 := blk_frozen BK101.out 1
        have hfz10_2 := blk_frozen BK101.out 2
        go_wp2_with (first | ((with_reducible refine gate_callee (f := 22) rfl ?_); refine goesL_ (some 11) rfl rfl Tryd.func22 (by kernel_rfl) rfl #[.int .i64 a1_1, .int .i64 1099511627776] rfl (by (try simp only [List.map_toArray, List.map_cons, List.map_nil]); first | done | rfl | (simp only [List.length_drop, List.length_take]; rfl)) ?_; (with_reducible refine (intake_in.calls a1_1 1099511627776 true _ A7.out).mono ?_); rintro e w' ⟨rfl, ⟨nd, rfl⟩⟩; refine ⟨_, rfl, ?_⟩) | ((with_reducible refine gate_callee (f := 22) rfl ?_); refine goesL_ (some 15) rfl rfl Tryd.func22 (by kernel_rfl) rfl #[.int .i64 a1_0, .int .i64 3] rfl (by (try simp only [List.map_toArray, List.map_cons, List.map_nil]); first | done | rfl | (simp only [List.length_drop, List.length_take]; rfl)) ?_; (with_reducible refine (intake_in.calls a1_0 3 t104 _ A9.out).mono ?_); rintro e w' ⟨rfl, ⟨nd, rfl⟩⟩; refine ⟨_, rfl, ?_⟩))
        go_meet
        case rel => exact ⟨_, (!t104), (by first | rfl | (simp; done) | (simp [*]; done)), H', ⟨by first | omega | exact Nat.le_refl _⟩, ⟨by (with_reducible repeat (first | refine blk_drewN ?_ _ | refine blk_drew ?_ | refine blk_alloc ?_ _)); exact BK101.out⟩, ⟨by repeat (first | (with_reducible first | exact HB.out | apply below_alloc | apply pw_below_drewN | apply below_drew1 | refine below_set ?_ GE101.out) | exact HB.out)⟩⟩
      · replace c8 := Bool.eq_false_iff.mpr c8
        subst c8
        have H1 : (intake_Check.j0 k a0 (!false) a1_0 a1_1 l1_2) = some r := by rw [if_neg (show ¬ (false = true) by decide)] at H; exact H
        clear H
        have H := H1
        clear H1
        have H' := Aside0.mk H
        clear H
        have hcz11_0 : w5.cell? ⟨gb101, 0, none⟩ = some (.int .i64 a1_0) := (blk_cell BK101.out 0).trans rfl
        have hcz11_1 : w5.cell? ⟨gb101, 1, none⟩ = some (.int .i64 a1_1) := (blk_cell BK101.out 1).trans rfl
        have hcz11_2 : w5.cell? ⟨gb101, 2, none⟩ = some (.slice A1_2 l1_2.length c1_2) := (blk_cell BK101.out 2).trans rfl
        have hfz11_0 := blk_frozen BK101.out 0
        have hfz11_1 := blk_frozen BK101.out 1
        have hfz11_2 := blk_frozen BK101.out 2
        go_wp2_with (first | ((with_reducible refine gate_callee (f := 22) rfl ?_); refine goesL_ (some 11) rfl rfl Tryd.func22 (by kernel_rfl) rfl #[.int .i64 a1_1, .int .i64 1099511627776] rfl (by (try simp only [List.map_toArray, List.map_cons, List.map_nil]); first | done | rfl | (simp only [List.length_drop, List.length_take]; rfl)) ?_; (with_reducible refine (intake_in.calls a1_1 1099511627776 false _ A7.out).mono ?_); rintro e w' ⟨rfl, ⟨nd, rfl⟩⟩; refine ⟨_, rfl, ?_⟩))
        go_meet
        case rel => exact ⟨_, (!false), (by first | rfl | (simp; done) | (simp [*]; done)), H', ⟨by first | omega | exact Nat.le_refl _⟩, ⟨by (with_reducible repeat (first | refine blk_drewN ?_ _ | refine blk_drew ?_ | refine blk_alloc ?_ _)); exact BK101.out⟩, ⟨by repeat (first | (with_reducible first | exact HB.out | apply below_alloc | apply pw_below_drewN | apply below_drew1 | refine below_set ?_ GE101.out) | exact HB.out)⟩⟩
    · replace c6 := Bool.eq_false_iff.mpr c6
      subst c6
      have H1 : (intake_Check.j0 k a0 (!false) a1_0 a1_1 l1_2) = some r := by rw [if_neg (show ¬ (false = true) by decide)] at H; exact H
      clear H
      have H := H1
      clear H1
      have H' := Aside0.mk H
      clear H
      go_wp2
      go_meet
      case rel => exact ⟨_, (!false), (by first | rfl | (simp; done) | (simp [*]; done)), H', ⟨by first | omega | exact Nat.le_refl _⟩, ⟨by (with_reducible repeat (first | refine blk_drewN ?_ _ | refine blk_drew ?_ | refine blk_alloc ?_ _)); exact BK101.out⟩, ⟨by repeat (first | (with_reducible first | exact HB.out | apply below_alloc | apply pw_below_drewN | apply below_drew1 | refine below_set ?_ GE101.out) | exact HB.out)⟩⟩
  case rest =>
    clear HC4
    try clear c1
    try clear c2
    try clear p2
    try clear c6
    try clear c8
    try clear c11
    try clear hcz10_0
    try clear hcz10_1
    try clear hcz10_2
    try clear hcz11_0
    try clear hcz11_1
    try clear hcz11_2
    try clear hfz10_0
    try clear hfz10_1
    try clear hfz10_2
    try clear hfz11_0
    try clear hfz11_1
    try clear hfz11_2
    obtain ⟨kq, x5_3, rfl, HA, HJ3, BK101, HB⟩ := hcut
    cases kq with
    | zero => exact absurd HA.out (by simp [intake_Check.j0])
    | succ kj3 =>
      have H := HA.out
      clear HA
      simp only [intake_Check.j0] at H
      by_cases c12 : x5_3 = true
      · subst c12
        have H1 : (some 1) = some r := by rw [if_pos rfl] at H; exact H
        clear H
        have H := H1
        clear H1
        obtain rfl := Option.some.inj H
        go_wp2
        go_ret
        exact ⟨by first | rfl | (simp [errW_none, errW_some] <;> rfl) | (refine congrArg (fun b_ : Bool => Ending.returned (Value.bool b_)) ?_; simp; done) | (simp [*, errW_none, errW_some] <;> rfl), by repeat (first | (with_reducible first | exact HB.out | apply below_alloc | apply pw_below_drewN | apply below_drew1 | refine below_set ?_ GE101.out) | exact HB.out)⟩
      · replace c12 := Bool.eq_false_iff.mpr c12
        subst c12
        have H1 : (if (l1_2.length : Int) > 1024 then (intake_Check.j1 kj3 a0 (decide ((l1_2.length : Int) > 1024)) a1_0 a1_1 l1_2) else (intake_Check.j1 kj3 a0 (decide ((wrap64 (a1_1 + (l1_2.length : Int))) > 1099511627776)) a1_0 a1_1 l1_2)) = some r := by rw [if_neg (show ¬ (false = true) by decide)] at H; exact H
        clear H
        have H := H1
        clear H1
        have HC13 := Aside0.mk H
        clear H
        have hcz14_0 : wc.cell? ⟨gb101, 0, none⟩ = some (.int .i64 a1_0) := (blk_cell BK101.out 0).trans rfl
        have hcz14_1 : wc.cell? ⟨gb101, 1, none⟩ = some (.int .i64 a1_1) := (blk_cell BK101.out 1).trans rfl
        have hcz14_2 : wc.cell? ⟨gb101, 2, none⟩ = some (.slice A1_2 l1_2.length c1_2) := (blk_cell BK101.out 2).trans rfl
        have hfz14_0 := blk_frozen BK101.out 0
        have hfz14_1 := blk_frozen BK101.out 1
        have hfz14_2 := blk_frozen BK101.out 2
        go_upto_if 17 with (fail)
        go_cut [17] (fun v17 wc => ∃ (kq : Nat) (x17_12 : Bool), v17 = .bool x17_12 ∧ Aside0 (intake_Check.j1 kq a0 x17_12 a1_0 a1_1 l1_2 = some r) ∧ Aside0 (kq ≤ kj3) ∧ Aside0 (wc.heap[gb101]? = some (.cells #[.int .i64 a1_0, .int .i64 a1_1, (.slice A1_2 l1_2.length c1_2)] 27 (0, 0))) ∧ Aside0 (Below w.heap.size w wc))
        case first =>
          have H := HC13.out
          clear HC13
          by_cases c15 : (l1_2.length : Int) > 1024
          · rw [if_pos c15] at H
            have c15b0 : decide (1024 < (l1_2.length : Int)) = true := decide_eq_true c15
            have c15b1 : decide (1024 < l1_2.length) = true := decide_eq_true (by omega)
            clear c15
            (first | rw [c15b0] | (simp only [i64_w, i32_w]; rw [c15b0]) | skip)
            have H' := Aside0.mk H
            clear H
            go_wp2
            go_meet
            case rel => exact ⟨_, (decide ((l1_2.length : Int) > 1024)), (by first | rfl | (simp; done) | (simp [*]; done)), H', ⟨by have := HJ3.out; first | omega | exact Nat.le_refl _⟩, ⟨by (with_reducible repeat (first | refine blk_drewN ?_ _ | refine blk_drew ?_ | refine blk_alloc ?_ _)); exact BK101.out⟩, ⟨by repeat (first | (with_reducible first | exact HB.out | apply below_alloc | apply pw_below_drewN | apply below_drew1 | refine below_set ?_ GE101.out) | exact HB.out)⟩⟩
          · rw [if_neg c15] at H
            have c15b0 : decide (1024 < (l1_2.length : Int)) = false := decide_eq_false c15
            have c15b1 : decide (1024 < l1_2.length) = false := decide_eq_false (by omega)
            clear c15
            (first | rw [c15b0] | (simp only [i64_w, i32_w]; rw [c15b0]) | skip)
            have H' := Aside0.mk H
            clear H
            have hcz16_0 : wc.cell? ⟨gb101, 0, none⟩ = some (.int .i64 a1_0) := (blk_cell BK101.out 0).trans rfl
            have hcz16_1 : wc.cell? ⟨gb101, 1, none⟩ = some (.int .i64 a1_1) := (blk_cell BK101.out 1).trans rfl
            have hcz16_2 : wc.cell? ⟨gb101, 2, none⟩ = some (.slice A1_2 l1_2.length c1_2) := (blk_cell BK101.out 2).trans rfl
            have hfz16_0 := blk_frozen BK101.out 0
            have hfz16_1 := blk_frozen BK101.out 1
            have hfz16_2 := blk_frozen BK101.out 2
            go_wp2
            go_meet
            case rel => exact ⟨_, (decide ((wrap64 (a1_1 + (l1_2.length : Int))) > 1099511627776)), (by first | rfl | (simp; done) | (simp [*]; done)), H', ⟨by have := HJ3.out; first | omega | exact Nat.le_refl _⟩, ⟨by (with_reducible repeat (first | refine blk_drewN ?_ _ | refine blk_drew ?_ | refine blk_alloc ?_ _)); exact BK101.out⟩, ⟨by repeat (first | (with_reducible first | exact HB.out | apply below_alloc | apply pw_below_drewN | apply below_drew1 | refine below_set ?_ GE101.out) | exact HB.out)⟩⟩
        case rest =>
          clear HC13
          try clear c1
          try clear c2
          try clear p2
          try clear c6
          try clear p6
          try clear c8
          try clear c11
          try clear c12
          try clear c15
          try clear c15b0
          try clear c15b1
          try clear hcz10_0
          try clear hcz10_1
          try clear hcz10_2
          try clear hcz11_0
          try clear hcz11_1
          try clear hcz11_2
          try clear hcz14_0
          try clear hcz14_1
          try clear hcz14_2
          try clear hcz16_0
          try clear hcz16_1
          try clear hcz16_2
          try clear hfz10_0
          try clear hfz10_1
          try clear hfz10_2
          try clear hfz11_0
          try clear hfz11_1
          try clear hfz11_2
          try clear hfz14_0
          try clear hfz14_1
          try clear hfz14_2
          try clear hfz16_0
          try clear hfz16_1
          try clear hfz16_2
          try clear p2
          obtain ⟨kq, x17_12, rfl, HA, HJ12, BK101, HB⟩ := hcut
          cases kq with
          | zero => exact absurd HA.out (by simp [intake_Check.j1])
          | succ kj12 =>
            have H := HA.out
            clear HA
            simp only [intake_Check.j1] at H
            by_cases c17 : x17_12 = true
            · subst c17
              have H1 : (some 2) = some r := by rw [if_pos rfl] at H; exact H
              clear H
              have H := H1
              clear H1
              obtain rfl := Option.some.inj H
              go_wp2
              go_ret
              exact ⟨by first | rfl | (simp [errW_none, errW_some] <;> rfl) | (refine congrArg (fun b_ : Bool => Ending.returned (Value.bool b_)) ?_; simp; done) | (simp [*, errW_none, errW_some] <;> rfl), by repeat (first | (with_reducible first | exact HB.out | apply below_alloc | apply pw_below_drewN | apply below_drew1 | refine below_set ?_ GE101.out) | exact HB.out)⟩
            · replace c17 := Bool.eq_false_iff.mpr c17
              subst c17
              have H1 : (if a1_1 > a0 then (some 11) else (some 0)) = some r := by rw [if_neg (show ¬ (false = true) by decide)] at H; exact H
              clear H
              have H := H1
              clear H1
              by_cases c18 : a1_1 > a0
              · rw [if_pos c18] at H
                have c18b0 : decide (a0 < a1_1) = true := decide_eq_true c18
                clear c18
                obtain rfl := Option.some.inj H
                have hcz19_0 : wc.cell? ⟨gb101, 0, none⟩ = some (.int .i64 a1_0) := (blk_cell BK101.out 0).trans rfl
                have hcz19_1 : wc.cell? ⟨gb101, 1, none⟩ = some (.int .i64 a1_1) := (blk_cell BK101.out 1).trans rfl
                have hcz19_2 : wc.cell? ⟨gb101, 2, none⟩ = some (.slice A1_2 l1_2.length c1_2) := (blk_cell BK101.out 2).trans rfl
                have hfz19_0 := blk_frozen BK101.out 0
                have hfz19_1 := blk_frozen BK101.out 1
                have hfz19_2 := blk_frozen BK101.out 2
                go_wp2
                go_ret
                exact ⟨by first | rfl | (simp [errW_none, errW_some] <;> rfl) | (refine congrArg (fun b_ : Bool => Ending.returned (Value.bool b_)) ?_; simp; done) | (simp [*, errW_none, errW_some] <;> rfl), by repeat (first | (with_reducible first | exact HB.out | apply below_alloc | apply pw_below_drewN | apply below_drew1 | refine below_set ?_ GE101.out) | exact HB.out)⟩
              · rw [if_neg c18] at H
                have c18b0 : decide (a0 < a1_1) = false := decide_eq_false c18
                clear c18
                obtain rfl := Option.some.inj H
                have hcz20_0 : wc.cell? ⟨gb101, 0, none⟩ = some (.int .i64 a1_0) := (blk_cell BK101.out 0).trans rfl
                have hcz20_1 : wc.cell? ⟨gb101, 1, none⟩ = some (.int .i64 a1_1) := (blk_cell BK101.out 1).trans rfl
                have hcz20_2 : wc.cell? ⟨gb101, 2, none⟩ = some (.slice A1_2 l1_2.length c1_2) := (blk_cell BK101.out 2).trans rfl
                have hfz20_0 := blk_frozen BK101.out 0
                have hfz20_1 := blk_frozen BK101.out 1
                have hfz20_2 := blk_frozen BK101.out 2
                go_wp2
                go_ret
                exact ⟨by first | rfl | (simp [errW_none, errW_some] <;> rfl) | (refine congrArg (fun b_ : Bool => Ending.returned (Value.bool b_)) ?_; simp; done) | (simp [*, errW_none, errW_some] <;> rfl), by repeat (first | (with_reducible first | exact HB.out | apply below_alloc | apply pw_below_drewN | apply below_drew1 | refine below_set ?_ GE101.out) | exact HB.out)⟩

/-! ### strings_trimLeftByte: function 41 -/

/-! ### strings_trimRightByte: function 42 -/

-- NOT PRINTED: function 43 (strings_makeASCIISet)

-- NOT PRINTED: function 57 (strings_asciiSet_contains)

-- NOT PRINTED: function 44 (strings_trimLeftASCII)

-- NOT PRINTED: function 45 (strings_trimRightASCII)

-- NOT PRINTED: function 65 (utf8_decodeRuneInStringSlow)

-- NOT PRINTED: function 58 (utf8_DecodeRuneInString)

-- NOT PRINTED: function 76 (bytealg_IndexByteString)

-- NOT PRINTED: function 75 (stringslite_IndexByte)

-- NOT PRINTED: function 71 (strings_IndexByte)

/-! ### utf8_ValidRune: function 72 -/

/-! ### bytealg_Cutover: function 73 -/

-- NOT PRINTED: function 74 (bytealg_IndexString)

-- NOT PRINTED: function 66 (strings_IndexRune)

-- NOT PRINTED: function 59 (strings_ContainsRune)

-- NOT PRINTED: function 46 (strings_trimLeftUnicode)

/-! ### utf8_RuneStart: function 67 -/

-- NOT PRINTED: function 60 (utf8_DecodeLastRuneInString)

-- NOT PRINTED: function 47 (strings_trimRightUnicode)

end Go.Proofs.YtimomihjghefdaaDoor.Q
namespace Go.Proofs.YtimomihjghefdaaDoor.Q
open Go.RowKit Go.Proofs.YtimomihjghefdaaDoorW.PrintWords Go.Proofs.YtimomihjghefdaaDoorW.PrintLast Go.Proofs.YtimomihjghefdaaDoorW.PrintMore
attribute [local go_sem] max2_int min2_int max_two min_two max_three min_three max_four min_four   -- for this text's walks alone
set_option linter.unusedVariables false
set_option linter.unusedSimpArgs false

-- BY HAND: Derived.Test.YtimomihjghefdaaDoorHnum,Derived.RangeFuncNested,Derived.RangeFuncBound,Derived.RangeFuncCalls,Derived.RangeFuncLeaves,Derived.Shelf.Abstract,Derived.Shelf.AbstractIn,Derived.Shelf.RegionOpen,Derived.OwnWalkIn,Derived.TacticsInMore,Derived.LoopNIn,Derived.LoopIn,Derived.Sort.LoopGhostIn,Derived.Sort.QuietIn,Derived.Maps.AppendAt,Derived.Lib.SliceRun
/-! ### intake_Take: function 8 -/
-- HAND winnower/intake.Take making glob
-- SKIP winnower/intake.fresh winnower/intake.fresh$1
-- IMPORT Derived.Test.YtimomihjghefdaaDoorHnum
-- IMPORT Derived.RangeFuncNested
-- IMPORT Derived.RangeFuncBound
-- IMPORT Derived.RangeFuncCalls
-- IMPORT Derived.RangeFuncLeaves
-- IMPORT Derived.Shelf.Abstract
-- IMPORT Derived.Shelf.AbstractIn
-- IMPORT Derived.Shelf.RegionOpen
-- IMPORT Derived.OwnWalkIn
-- IMPORT Derived.TacticsInMore
-- IMPORT Derived.LoopNIn
-- IMPORT Derived.LoopIn
-- IMPORT Derived.Sort.LoopGhostIn
-- IMPORT Derived.Sort.QuietIn
-- IMPORT Derived.Maps.AppendAt
-- IMPORT Derived.Lib.SliceRun
-- USES intake_Check schema_May schema_Decode
open Go.Proofs.YtimomihjghefdaaDoor.Hnum Go.Shelf
attribute [local go_sem] Oper.semAt_some
/-- The records that are new, each with its offset. -/
def newR (n s : Int) : List (List Int) → Nat → List (Int × List Int)
  | [], _ => []
  | b :: t, i => if n ≤ wrap64 (s + (i : Int)) then (wrap64 (s + (i : Int)), b) :: newR n s t (i + 1) else newR n s t (i + 1)
/-- What they tell. -/
def recR (l : List S45) (a1 a2 a3 a4 : Int) : List (Int × List Int) → Option (List S41)
  | [] => some []
  | x :: t => (schema_Decode.f l a1 a2 a3 a4 x.2).bind fun r => (recR l a1 a2 a3 a4 t).bind fun q => some ((⟨x.1, (r.2 == 0), r.1⟩ : S41) :: q)
def intake_Take.f (l0_0 : List S45) (a0_1 a0_2 a0_3 a0_4 : Int) (a1 a2_0 a2_1 : Int) (l2_2 : List (List Int)) : Option (List S41 × Int) :=
  (schema_May.f l0_0 a0_1 a0_2 a0_3 a0_4).bind fun m => if m = true then ((intake_Check.f 9 a1 a2_0 a2_1 l2_2).bind fun e => if e = 0 then (if l2_2.length ≤ 1000000 then (recR l0_0 a0_1 a0_2 a0_3 a0_4 (newR a1 a2_1 l2_2 0)).bind fun q => some (q, 0) else none) else some ([], e)) else some ([], 1)
theorem intake_fresh.calls (n p s : Int) (A : Option Addr) (m c : Nat) (w : World) :
    Calls Tryd.prog 17 #[.int .i64 n, .agg #[.int .i64 p, .int .i64 s, .slice A m c]] w fun e w' => e = .returned (.func (.func 26) #[] #[.pointer (some ⟨w.heap.size + 1, 0, none⟩), .pointer (some ⟨w.heap.size, 0, none⟩)]) ∧ (w.alloc (.cells #[.int .i64 n] 3)).alloc (.cells #[.int .i64 p, .int .i64 s, .slice A m c] 27) = w' := by
  have hu27 := Tryd.underlying27
  go_enter Tryd.func17, Tryd.ntmps17
  go_wp2
  go_ret
  exact ⟨by simp, rfl⟩
/-- A record that is new: its offset, its bytes, and where these lie. -/
abbrev NwT : Type := Int × List Int × Option Addr × Nat
abbrev Nw (w₀ : World) (P : List Int → Prop) : Type := {x : NwT // Kd.C (Kd.int .u8) w₀ x.2.2.1 x.2.1.length x.2.1 ∧ x.2.1.length ≤ x.2.2.2 ∧ P x.2.1}
def encN (w₀ : World) (P : List Int → Prop) (x : Nw w₀ P) : Array Value := #[.int .i64 x.1.1, .slice x.1.2.2.1 x.1.2.1.length x.1.2.2.2]
def recN {w₀ : World} {P : List Int → Prop} (xs : List (Nw w₀ P)) : List (Int × List Int) := xs.map fun x => (x.1.1, x.1.2.1)
def KeepN (n₀ B1 B2 : Nat) (W W' : World) : Prop := Below n₀ W W' ∧ W'.heap[B1]? = W.heap[B1]? ∧ W'.heap[B2]? = W.heap[B2]?
theorem KeepN.trans {n₀ B1 B2 : Nat} {X Y Z : World} (h : KeepN n₀ B1 B2 X Y) (k : KeepN n₀ B1 B2 Y Z) : KeepN n₀ B1 B2 X Z := ⟨h.1.trans k.1, k.2.1.trans h.2.1, k.2.2.trans h.2.2⟩
theorem newR_some {n s : Int} {l : List (List Int)} {x : Int} (h0 : 0 ≤ x) (h1 : x < (l.length : Int)) : newR n s (l.drop x.toNat) x.toNat = if n ≤ wrap64 (s + x) then (wrap64 (s + x), rd_L1 l x) :: newR n s (l.drop (x + 1).toNat) (x + 1).toNat else newR n s (l.drop (x + 1).toNat) (x + 1).toNat := by
  have hlt : x.toNat < l.length := by omega
  have e1 : ((x.toNat : Nat) : Int) = x := by omega
  have e2 : (x + 1).toNat = x.toNat + 1 := by omega
  have e3 : rd_L1 l x = l[x.toNat] := by
    unfold rd_L1
    rw [List.getD_eq_getElem?_getD, List.getElem?_eq_getElem hlt]; rfl
  rw [List.drop_eq_getElem_cons hlt, newR, e1, e2, e3]
theorem newR_none {n s : Int} {l : List (List Int)} {x : Int} (h1 : ¬ x < (l.length : Int)) : newR n s (l.drop x.toNat) x.toNat = [] := by
  rw [List.drop_eq_nil_of_le (by omega)]; rfl
theorem yieldOr {e : Ending} {X Y : Prop} (h : (e = .returned (.bool true) ∧ X) ∨ (e = .returned (.bool false) ∧ Y)) : ∃ b : Bool, e = .returned (.bool b) ∧ ((b = true ∧ X) ∨ (b = false ∧ Y)) := by
  rcases h with ⟨h, x⟩ | ⟨h, y⟩
  · exact ⟨true, h, .inl ⟨rfl, x⟩⟩
  · exact ⟨false, h, .inr ⟨rfl, y⟩⟩
set_option maxRecDepth 100000 in
set_option maxHeartbeats 8000000 in
theorem fresh_1.stops (nf : Nat) (hn : 1 ≤ nf) (n p s : Int) (A0 : Option Addr) (c0 : Nat) (l : List (List Int)) (w₀ w : World) (Bn Bf : Nat) (hb0 : Below w₀.heap.size w₀ w) (hBn : Bn < w.heap.size) (hBf : Bf < w.heap.size)
    (hBox : w.heap[Bn]? = some (.cells #[.int .i64 n] 3 (0, 0))) (hBoxf : w.heap[Bf]? = some (.cells #[.int .i64 p, .int .i64 s, .slice A0 l.length c0] 27 (0, 0)))
    (hC : Kd.C (Kd.slice 5 (Kd.int .u8)) w₀ A0 l.length l) (hl : l.length ≤ 1000000) (P : List Int → Prop) (hP : ∀ y ∈ newR n s l 0, P y.2) :
    SeqStopsK Fence.wide nf Tryd.prog 26 #[.pointer (some ⟨Bf, 0, none⟩), .pointer (some ⟨Bn, 0, none⟩)] (encN w₀ P) (KeepN w₀.heap.size Bn Bf) (fun xs => recN xs = newR n s l 0) (fun _ => True) (l.length + 1) w := by
  intro l' J Jx W hW hJ hJx hY h0
  have HAb := Aside0.mk hJ
  have HC := Aside0.mk hC
  have HY := Aside0.mk hY
  have HB := Aside0.mk (hb0.trans (hW.mono hb0.size))
  have HBox := Aside0.mk ((hW.block Bn hBn).trans hBox)
  have HBoxf := Aside0.mk ((hW.block Bf hBf).trans hBoxf)
  have H0 := Aside0.mk h0
  clear hY hW hb0 hBox hBoxf hJ hJx h0 hC
  refine callsIn_of_wp Tryd.func26 rfl trivial ?_ rfl
  simp only [Tryd.ntmps26, List.size_toArray, List.length_cons, List.length_nil, Nat.reduceAdd, Nat.reduceSub, Array.replicate_succ, Array.replicate_zero, List.push_toArray, List.append_toArray, List.nil_append, List.cons_append]
  have hu27 := Tryd.underlying27
  have cF : W.cell? ⟨Bf, 2, none⟩ = some (.slice A0 l.length c0) := (blk_cell HBoxf.out 2).trans rfl
  gi_wp2
  gi_loopg [9] l.length (fun m v9 wr => ∃ (x : Int) (xs : List (Nw w₀ P)), 0 ≤ x ∧ x.toNat + m = l.length ∧ v9 = .int .i64 x ∧ Aside0 (J xs wr ∧ Below w₀.heap.size w₀ wr ∧ wr.heap[Bn]? = some (.cells #[.int .i64 n] 3 (0, 0)) ∧ wr.heap[Bf]? = some (.cells #[.int .i64 p, .int .i64 s, .slice A0 l.length c0] 27 (0, 0)) ∧ xs.length ≤ x.toNat ∧
    recN xs ++ newR n s (l.drop x.toNat) x.toNat = newR n s l 0))
  case atStart => exact ⟨0, [], by omega, by simp, rfl, ⟨⟨H0.out, HB.out, HBox.out, HBoxf.out, by simp, by simp [recN]⟩⟩⟩
  case round =>
    obtain ⟨x, xs, hx0, hxm, rfl, HA⟩ := hrel
    have cF2 : wr.cell? ⟨Bf, 2, none⟩ = some (.slice A0 l.length c0) := (blk_cell HA.out.2.2.2.1 2).trans rfl
    have cF1 : wr.cell? ⟨Bf, 1, none⟩ = some (.int .i64 s) := (blk_cell HA.out.2.2.2.1 1).trans rfl
    have cN : wr.cell? ⟨Bn, 0, none⟩ = some (.int .i64 n) := (blk_cell HA.out.2.2.1 0).trans rfl
    have HX0 := Aside0.mk hx0
    have HXM := Aside0.mk hxm
    clear hx0 hxm cF
    by_cases hlt : x < (l.length : Int)
    · have hd1 : decide (x < (l.length : Int)) = true := decide_eq_true hlt
      obtain ⟨ad, A1, c1, e, hx1, hl1, hi1⟩ := at_L1 HC.out x HX0.out hlt
      cases e
      have hx2 := (HA.out.2.1.cell (World.block_lt_of_cell? w₀ _ hx1)).trans hx1
      have HC1 := Aside0.mk hi1
      have HC1' := Aside0.mk hl1
      have HLT := Aside0.mk hlt
      clear hi1 hl1 hx1
      have p1 : (0 ≤ x) = True := eq_true HX0.out
      have q1 : (x < (l.length : Int)) = True := eq_true hlt
      clear hlt
      have HN := Aside0.mk (newR_some (n := n) (s := s) HX0.out HLT.out)
      by_cases h2 : n ≤ wrap64 (s + x)
      · have hd2 : decide (n ≤ wrap64 (s + x)) = true := decide_eq_true h2
        have hd2' : decide (wrap64 (s + x) ≥ n) = true := decide_eq_true h2
        have HN2 := Aside0.mk (HN.out.trans (if_pos h2))
        clear h2
        have HP := Aside0.mk (hP (wrap64 (s + x), rd_L1 l x) (by rw [← HA.out.2.2.2.2.2, HN2.out]; simp))
        obtain ⟨fn, tmps, assign, body, hy2, hR⟩ := HY.out xs ⟨(wrap64 (s + x), rd_L1 l x, A1, c1), HC1.out, HC1'.out, HP.out⟩ wr HA.out.1 (by have h_ := HA.out.2.2.2.2.1; have h2_ := HXM.out; have h3_ := HLT.out; omega)
        have HRR := Aside0.mk hR
        clear hR
        dsimp only [encN] at hy2
        gi_wp2
        refine HRR.out.mono ?_
        rintro e W' hh
        obtain ⟨yb, rfl, hyb⟩ := yieldOr hh
        rcases hyb with ⟨rfl, hJ', hk⟩ | ⟨rfl, hJx'⟩
        · have HJ2 := Aside0.mk hJ'
          have HK2 := Aside0.mk hk
          clear hJ' hk
          gi_wp2
          gi_roundg (gk - 1)
          case measure => have h_ := HXM.out; have h2_ := HLT.out; have h3_ := HX0.out; omega
          case rel =>
            have h_ := HXM.out
            have h2_ := HLT.out
            have h3_ := HX0.out
            refine ⟨x + 1, xs ++ [⟨(wrap64 (s + x), rd_L1 l x, A1, c1), HC1.out, HC1'.out, HP.out⟩], by omega, by omega, congrArg _ (wrap_id (by omega) (by omega)), ⟨HJ2.out, HA.out.2.1.trans HK2.out.1, HK2.out.2.1.trans HA.out.2.2.1, HK2.out.2.2.trans HA.out.2.2.2.1, by have h4_ := HA.out.2.2.2.2.1; rw [List.length_append]; simp only [List.length_cons, List.length_nil]; omega, ?_⟩⟩
            rw [← HA.out.2.2.2.2.2, HN2.out]
            simp [recN]
        · gi_wp2
          refine bodyPost_ret (results_none rfl _ _ _) rfl ?_
          exact ⟨⟨_, rfl⟩, .inr ⟨_, trivial, hJx'⟩⟩
      · have hd2 : decide (n ≤ wrap64 (s + x)) = false := decide_eq_false h2
        have hd2' : decide (wrap64 (s + x) ≥ n) = false := decide_eq_false h2
        have HN2 := Aside0.mk (HN.out.trans (if_neg h2))
        clear h2
        gi_wp2
        refine ⟨fun _ h_ => (by cases h_), ?_⟩
        gi_wp2
        gi_roundg (gk - 1)
        case measure => have h_ := HXM.out; have h2_ := HLT.out; have h3_ := HX0.out; omega
        case rel =>
          have h_ := HXM.out
          have h2_ := HLT.out
          have h3_ := HX0.out
          refine ⟨x + 1, xs, by omega, by omega, congrArg _ (wrap_id (by omega) (by omega)), ⟨HA.out.1, HA.out.2.1, HA.out.2.2.1, HA.out.2.2.2.1, by have h4_ := HA.out.2.2.2.2.1; omega, ?_⟩⟩
          rw [← HA.out.2.2.2.2.2, HN2.out]
    · have hd1 : decide (x < (l.length : Int)) = false := decide_eq_false hlt
      have HN2 := Aside0.mk (newR_none (n := n) (s := s) hlt)
      clear hlt
      gi_wp2
      refine bodyPost_end (results_none rfl _ _ _) rfl ?_
      refine ⟨⟨_, rfl⟩, .inl ⟨xs, ?_, HA.out.1⟩⟩
      rw [← HA.out.2.2.2.2.2, HN2.out, List.append_nil]
/-- The record that a new record's bytes tell. -/
def recD (l : List S45) (a1 a2 a3 a4 : Int) (y : Int × List Int) : S41 := ⟨y.1, (((schema_Decode.f l a1 a2 a3 a4 y.2).getD ([], 0)).2 == 0), ((schema_Decode.f l a1 a2 a3 a4 y.2).getD ([], 0)).1⟩
theorem recR_all {l : List S45} {a1 a2 a3 a4 : Int} : ∀ {ys : List (Int × List Int)} {q : List S41}, recR l a1 a2 a3 a4 ys = some q → (∀ y ∈ ys, ∃ r, schema_Decode.f l a1 a2 a3 a4 y.2 = some r) ∧ q = ys.map (recD l a1 a2 a3 a4)
  | [], q, h => by
    simp only [recR, Option.some.injEq] at h
    subst h
    exact ⟨fun y hy => (by cases hy), rfl⟩
  | y :: t, q, h => by
    unfold recR at h
    obtain ⟨r, hr, h⟩ := Option.bind_eq_some_iff.mp h
    obtain ⟨q', hq, h⟩ := Option.bind_eq_some_iff.mp h
    obtain ⟨i1, i2⟩ := recR_all hq
    cases h
    refine ⟨fun z hz => ?_, ?_⟩
    · rcases List.mem_cons.mp hz with rfl | hz
      · exact ⟨r, hr⟩
      · exact i1 z hz
    · rw [List.map_cons, i2, recD, hr]; rfl
/-- One more record behind records. -/
theorem append_rec {w0 W : World} (base : Nat) {v v2 : Value} {xs : List S41} {x : S41} {ok okp : Nat → Prop} (hp : k63.R 63 W base okp v2 x.f2) (hokp : ∀ k, okp k → ok k ∧ some k ≠ v.ownBlock) (hfresh : ∀ k, W.heap.size ≤ k → ok k)
    (HO : Kd.S k41 41 W base (fun k => ok k ∧ ¬ okp k) v xs) (HB : Below base w0 W) (hbase : base ≤ W.heap.size) (hl : xs.length ≤ 1000000) :
    ∃ v1 w1, (Builtin.append_ #[31, 31] 31 #[v, .slice (some ⟨W.heap.size, 0, none⟩) 1 1]).run Tryd.prog (W.alloc (.cells #[.int .i64 x.f0, .bool x.f1, v2] 41)) = .ok v1 w1 ∧
      Kd.S k41 41 w1 base ok v1 (xs ++ [x]) ∧ Below base w0 w1 ∧ W.grownBy w1 v.ownBlock := by
  obtain ⟨i0, hi, hz0, hz1, hz2⟩ := info_parts info41
  have hpM : k41.M W base okp x [.int .i64 x.f0, .bool x.f1, v2] := k41_mkM W base okp x hp
  obtain ⟨f, hf, hR⟩ := Kd.S_tag HO xs.length okp (fun _ hk h2 => h2.2 hk)
  obtain ⟨h0, inner, hown, hr⟩ := Kd.R_mono hR (fun _ hk => hk.1)
  have hpM' : (Kd.tag f k41).M W base okp (x, xs.length) [.int .i64 x.f0, .bool x.f1, v2] := k41.M_mono (fun k hk => ⟨hk, hf k hk⟩) hpM
  rw [List.length_zipIdx] at hown
  have hone : ∀ u ∈ [.int .i64 x.f0, .bool x.f1, v2], u.oneCell' = true := k41.K_one (k41.K_of_M hpM)
  obtain ⟨v1, w1, hrun, hown1, hg, _, hat⟩ := run_append_own_at (P := Tryd.prog) (W.alloc (.cells #[.int .i64 x.f0, .bool x.f1, v2] 41)) base 31 31 41 i0 (.agg #[(.int .i64 0), (.bool false), (.slice none 0 0)]) 3 40 Tryd.underlying31 hi hz0 hz1 hz2 rfl (by omega) v xs.length inner (hown.alloc _) ⟨W.heap.size, 0, none⟩ 1 1 [.int .i64 x.f0, .bool x.f1, v2] rfl
    (by simpa using World.news_of_block (cs := #[.int .i64 x.f0, .bool x.f1, v2]) (t := 41) (fr := (0, 0)) (World.alloc_heap_new W (.cells #[.int .i64 x.f0, .bool x.f1, v2] 41))) hone (by have : maxLen = 9223372036854775807 := rfl; omega) (by omega) (by simp; omega)
  have hg' := World.grownBy.trans (World.grownBy_alloc W _ _) hg
  have hat' : v1.ownBlock = v.ownBlock ∨ ∃ b, v1.ownBlock = some b ∧ W.heap.size ≤ b := by
    rcases hat with hat | hat
    · exact .inl hat
    · exact .inr ⟨_, hat, by simp⟩
  refine ⟨v1, w1, hrun, ⟨f, ?_⟩, (HB.alloc hbase _).grown hg (by simp; omega) (own_base hown), hg'⟩
  rw [Kd.zip_snoc]
  exact Kd.R_appended h0 hr hpM' hokp hfresh (by rw [List.length_zipIdx]; exact hown1) hg' hat'
theorem append_In {F : Fence} {n : Nat} {o : Oper} {a : Act} {W w1 : World} {v v1 y : Value} {K : Act → World → Prop} {Q : Exit → Act → World → Prop} (s x : Operand) (ho : o.op = .call { callee := .builtin .append, args := #[s, x], argTypes := #[31, 31] }) (hty : o.type = 31) (hs : a.eval s = v) (hx : a.eval x = y)
    (hr : (Builtin.append_ #[31, 31] 31 #[v, y]).run Tryd.prog W = .ok v1 w1) (hk : K (a.put o.dst v1) w1) : Oper.wpIn F n Tryd.prog o a W K Q := by
  unfold Oper.wpIn
  refine ⟨?_, ?_⟩
  · simp [Oper.about, ho, resolve, Target.leads, Sem.run_pure]
  · rw [Oper.semAt_plain F _ _ (by rw [ho]; intro c hc'; cases hc')]
    simp [execOp, ho, resolve, invoke, builtin, hs, hx, hty, hr, Result.andThen]
    exact hk
/-- A row of records, in blocks of cells from B on. -/
def rowR (B : Nat) (W : World) (v : Value) (xs : List S41) : Prop :=
  ∃ ok : Nat → Prop, (∀ k, ok k → B ≤ k ∧ ∃ cs t, W.heap[k]? = some (.cells cs t (0, 0))) ∧ Kd.S k41 41 W B ok v xs
theorem rowR.own {β : Type} {b t B : Nat} (f : β → List S41) : OwnFrom B (fun s W => ∃ v, Boxed W b t v ∧ rowR B W v (f s)) := by
  rintro s X Y row ⟨v, hv, ok, h1, h2⟩ hg hrow
  have hne : ∀ k, ok k → some k ≠ row := by
    intro k hk e
    obtain ⟨hB, o, ho, hc⟩ := hrow k e.symm
    obtain ⟨_, cs, t', h⟩ := h1 k hk
    rw [h] at ho; cases ho; cases hc
  refine ⟨v, hv.kept hg (fun e' => ?_), ok, fun k hk => ?_, Kd.S_grown h2 hg hne⟩
  · obtain ⟨_, o, ho, hc⟩ := hrow b e'.symm
    rw [show X.heap[b]? = _ from hv] at ho; cases ho; cases hc
  · obtain ⟨hB, cs, t', h⟩ := h1 k hk
    exact ⟨hB, cs, t', (hg.block k (Array.getElem?_eq_some_iff.1 h).1 (hne k hk)).trans h⟩
theorem rowR.of_S {B : Nat} {ok : Nat → Prop} {W : World} {v : Value} {xs : List S41} (h : Kd.S k41 41 W B ok v xs) : rowR B W v xs := by
  refine ⟨_, fun k hk => ?_, Kd.S_bound h⟩
  obtain ⟨_, h1, _, q, _, cs, hc⟩ := hk
  exact ⟨h1, cs, q, hc⟩
theorem rowR.set {B b : Nat} {W : World} {v : Value} {xs : List S41} (h : rowR B W v xs) (h2 : b < B) (u : Value) : rowR B (W.setCell ⟨b, 0, none⟩ u) v xs := by
  obtain ⟨ok, ho, hv⟩ := h
  have hne : ∀ k, ok k → k ≠ b := by
    intro k hk
    have := (ho k hk).1
    omega
  refine ⟨ok, fun k hk => ?_, Kd.S_far hv hne u⟩
  obtain ⟨hB, cs, t', h⟩ := ho k hk
  exact ⟨hB, cs, t', (Below.heap_setCell W ⟨b, 0, none⟩ u k (hne k hk)).trans h⟩
theorem blk_own {β : Type} (B b t : Nat) (cs : Array Value) : OwnFrom B (fun (_ : β) W => W.heap[b]? = some (.cells cs t (0, 0))) := by
  rintro s X Y row hs hg hrow
  refine (hg.block b (Array.getElem?_eq_some_iff.1 hs).1 (fun e => ?_)).trans hs
  obtain ⟨_, o, ho, hc⟩ := hrow b e.symm
  rw [hs] at ho; cases ho; cases hc
theorem keepN_b {w W0 : World} {B1 B2 : Nat} (hw : w.heap.size ≤ W0.heap.size) (h1 : B1 < W0.heap.size) (h2 : B2 < W0.heap.size) (W : World) (l : Nat) (o o' : Obj) (hl : W0.heap.size ≤ l) (h : W.heap[l]? = some o) (h3 : o.isCells = false) (h4 : o.isWalk = false) : KeepN w.heap.size B1 B2 W (W.putObj l o') :=
  ⟨belowK_b (w := w) (Nat.le_refl _) W l o o' (by omega) h h3 h4, World.putObj_heap_other (by omega), World.putObj_heap_other (by omega)⟩
/-- What a round of Take leaves. -/
theorem take_fin {n g B : Nat} {w W w3 w1 : World} {v v1 : Value} {sb nb fb : Obj} {zs ys : List S41} {ok : Nat → Prop} (hBg : B = g + 3) (hng : n < g) (hB : Below n w W) (hv : Boxed W g 31 v) (hs : W.heap[n]? = some sb) (hn : W.heap[g + 1]? = some nb) (hf : W.heap[g + 1 + 1]? = some fb) (hBW : B ≤ W.heap.size)
    (hb3 : Below W.heap.size W w3) (hg : w3.grownBy w1 v.ownBlock) (hS : Kd.S k41 41 W B ok v zs) (hB1 : Below B W w1) (hS1 : Kd.S k41 41 w1 B (fun _ => True) v1 ys) :
    KeepsFrom B W (w1.setCell ⟨g, 0, none⟩ v1) ∧ KeepN n (g + 1) (g + 1 + 1) W (w1.setCell ⟨g, 0, none⟩ v1) ∧
      (((∃ v, Boxed (w1.setCell ⟨g, 0, none⟩ v1) g 31 v ∧ rowR B (w1.setCell ⟨g, 0, none⟩ v1) v ys) ∧ (w1.setCell ⟨g, 0, none⟩ v1).heap[n]? = some sb) ∧ ((w1.setCell ⟨g, 0, none⟩ v1).heap[g + 1]? = some nb ∧ (w1.setCell ⟨g, 0, none⟩ v1).heap[g + 1 + 1]? = some fb)) ∧
      Below n w (w1.setCell ⟨g, 0, none⟩ v1) := by
  have hv1 : Boxed w1 g 31 v := (hB1.block g (by omega)).trans hv
  have hv2 := hv1.set v1
  have keep : ∀ {b : Nat} {o : Obj}, b < B → b ≠ g → W.heap[b]? = some o → (w1.setCell ⟨g, 0, none⟩ v1).heap[b]? = some o := fun {b o} h1 h2 h3 => (Below.heap_setCell w1 ⟨g, 0, none⟩ v1 b (by show b ≠ g; exact h2)).trans ((hB1.block b h1).trans h3)
  have hlow : Below n W (w1.setCell ⟨g, 0, none⟩ v1) := (hB1.mono (show n ≤ B by omega)).setCell (p := ⟨g, 0, none⟩) (Nat.le_of_lt hng) v1
  refine ⟨⟨hlow.size, fun k o hBk hk hc => ?_⟩, ⟨hlow, (keep (by omega) (by omega) hn).trans hn.symm, (keep (by omega) (by omega) hf).trans hf.symm⟩, ⟨⟨⟨v1, hv2, (rowR.of_S hS1).set (by omega) v1⟩, keep (by omega) (by omega) hs⟩, keep (by omega) (by omega) hn, keep (by omega) (by omega) hf⟩, hB.trans hlow⟩
  have hlt := (Array.getElem?_eq_some_iff.1 hk).1
  have hne : some k ≠ v.ownBlock := by
    intro e
    obtain ⟨cs, h⟩ := Kd.S_typed hS k e.symm
    rw [h] at hk; cases hk; cases hc
  refine (Below.heap_setCell w1 ⟨g, 0, none⟩ v1 k (by show k ≠ g; omega)).trans ?_
  exact (hg.block k (Nat.lt_of_lt_of_le hlt hb3.size) hne).trans ((hb3.block k hlt).trans hk)
theorem boxedBelow {W w1 : World} {b t : Nat} {v : Value} (h : Below W.heap.size W w1) (hv : Boxed W b t v) : Boxed w1 b t v := (h.block b hv.lt).trans hv
theorem append_ListIn {F : Fence} {n : Nat} {ops : Array Oper} {rest : List Oper} {o : Oper} {a : Act} {W w1 : World} {v v1 y : Value} {Q : Exit → Act → World → Prop} (hg : o.guard = none) (s x : Operand) (ho : o.op = .call { callee := .builtin .append, args := #[s, x], argTypes := #[31, 31] }) (hty : o.type = 31) (hs : a.eval s = v) (hx : a.eval x = y)
    (hr : (Builtin.append_ #[31, 31] 31 #[v, y]).run Tryd.prog W = .ok v1 w1) (hk : wpListIn F n Tryd.prog ops Q rest (a.put o.dst v1) w1) : wpListIn F n Tryd.prog ops Q (o :: rest) a W :=
  wpListIn_plain hg fun K hK => append_In s x ho hty hs hx hr (hK _ _ hk)
theorem blk_alloc' {W : World} {b : Nat} {o : Obj} (h : W.heap[b]? = some o) (o' : Obj) : (W.alloc o').heap[b]? = some o := (Below.heap_alloc W o' b (Array.getElem?_eq_some_iff.1 h).1).trans h
theorem blk_new' (W : World) (o : Obj) {b : Nat} (hb : b = W.heap.size) : (W.alloc o).heap[b]? = some o := by subst hb; exact World.alloc_heap_new W o
set_option maxRecDepth 100000 in
set_option maxHeartbeats 8000000 in
theorem intake_Take.calls (A0_0 : Option Addr) (c0_0 : Nat) (l0_0 : List S45) (a0_1 a0_2 a0_3 a0_4 : Int) (a1 a2_0 a2_1 : Int) (A2_2 : Option Addr) (c2_2 : Nat) (l2_2 : List (List Int)) (r1 : List S41) (r2 : Int) (w : World) (hr0_0 : Kd.C k45 w A0_0 l0_0.length l0_0) (hc0_0 : l0_0.length ≤ c0_0) (hr2_2 : Kd.C (Kd.slice 5 (Kd.int .u8)) w A2_2 l2_2.length l2_2) (hc2_2 : l2_2.length ≤ c2_2) (hG : Globs w) (h : intake_Take.f l0_0 a0_1 a0_2 a0_3 a0_4 a1 a2_0 a2_1 l2_2 = some (r1, r2)) :
    Calls Tryd.prog 8 #[.agg #[.slice A0_0 l0_0.length c0_0, .int .i64 a0_1, .int .i64 a0_2, .int .i64 a0_3, .int .i64 a0_4], .int .i64 a1, .agg #[.int .i64 a2_0, .int .i64 a2_1, .slice A2_2 l2_2.length c2_2]] w fun e w' => ∃ v0_ : Value, e = .returned (.tuple #[v0_, .int .i64 r2]) ∧ Kd.S k41 41 w' w.heap.size (fun _ => True) v0_ r1 ∧ Below w.heap.size w w' := by
  have HR0 := Aside0.mk hr0_0
  have HC0 := Aside0.mk hc0_0
  have HR2 := Aside0.mk hr2_2
  have HC2 := Aside0.mk hc2_2
  have HG := Aside0.mk hG
  clear hr0_0 hc0_0 hr2_2 hc2_2 hG
  unfold intake_Take.f at h
  obtain ⟨m, hm, h⟩ := Option.bind_eq_some_iff.mp h
  have HM := Aside0.mk hm
  clear hm
  have h1 : 1 ≤ 7 := by omega
  refine (callsIn_wide (n := 7)).1 ?_
  refine callsIn_of_wp_marks Tryd.func8 rfl trivial ?_ rfl
  simp only [Tryd.ntmps8, List.size_toArray, List.length_cons, List.length_nil, Nat.reduceAdd, Nat.reduceSub, Array.replicate_succ, Array.replicate_zero, List.push_toArray, List.append_toArray, List.nil_append, List.cons_append]
  have hu24 := Tryd.underlying24
  have hu27 := Tryd.underlying27
  have hf16 : Fence.wide.fn 16 := trivial
  have hf11 : Fence.wide.fn 11 := trivial
  have hf17 : Fence.wide.fn 17 := trivial
  have hmx : Tryd.prog.follows .mixedOrders = true := by kernel_rfl
  obtain ⟨W1, hW1⟩ : ∃ W1, (w.alloc (.cells #[.slice A0_0 l0_0.length c0_0, .int .i64 a0_1, .int .i64 a0_2, .int .i64 a0_3, .int .i64 a0_4] 24)).alloc (.cells #[.int .i64 a2_0, .int .i64 a2_1, .slice A2_2 l2_2.length c2_2] 27) = W1 := ⟨_, rfl⟩
  have hB1 : Below w.heap.size w W1 := by rw [← hW1]; exact ((Below.refl _ w).alloc (Nat.le_refl _) _).alloc (by simp) _
  have hs1 : W1.heap[w.heap.size]? = some (.cells #[.slice A0_0 l0_0.length c0_0, .int .i64 a0_1, .int .i64 a0_2, .int .i64 a0_3, .int .i64 a0_4] 24 (0, 0)) := by rw [← hW1]; exact blk_alloc' (blk_new' _ _ rfl) _
  have hf1 : W1.heap[w.heap.size + 1]? = some (.cells #[.int .i64 a2_0, .int .i64 a2_1, .slice A2_2 l2_2.length c2_2] 27 (0, 0)) := by rw [← hW1]; exact blk_new' _ _ (by simp)
  have hz1 : W1.heap.size = w.heap.size + 2 := by rw [← hW1]; simp
  have ps0 : W1.cell? ⟨w.heap.size, 0, none⟩ = some (.slice A0_0 l0_0.length c0_0) := (blk_cell hs1 0).trans rfl
  have ps1 : W1.cell? ⟨w.heap.size, 1, none⟩ = some (.int .i64 a0_1) := (blk_cell hs1 1).trans rfl
  have ps2 : W1.cell? ⟨w.heap.size, 2, none⟩ = some (.int .i64 a0_2) := (blk_cell hs1 2).trans rfl
  have ps3 : W1.cell? ⟨w.heap.size, 3, none⟩ = some (.int .i64 a0_3) := (blk_cell hs1 3).trans rfl
  have ps4 : W1.cell? ⟨w.heap.size, 4, none⟩ = some (.int .i64 a0_4) := (blk_cell hs1 4).trans rfl
  have pf0 : W1.cell? ⟨w.heap.size + 1, 0, none⟩ = some (.int .i64 a2_0) := (blk_cell hf1 0).trans rfl
  have pf1 : W1.cell? ⟨w.heap.size + 1, 1, none⟩ = some (.int .i64 a2_1) := (blk_cell hf1 1).trans rfl
  have pf2 : W1.cell? ⟨w.heap.size + 1, 2, none⟩ = some (.slice A2_2 l2_2.length c2_2) := (blk_cell hf1 2).trans rfl
  cases m with
  | false =>
    cases (show some (([] : List S41), (1 : Int)) = some (r1, r2) from h)
    gi_wp2_with (gi_at_call 16; refine ((callsIn_wide (n := 6)).2 (schema_May.calls A0_0 c0_0 l0_0 a0_1 a0_2 a0_3 a0_4 false _ (Kd.C_below HR0.out hB1) HC0.out HM.out)).mono ?_; rintro e w2 ⟨rfl, hb2⟩)
    have hd2 := hB1.trans (hb2.mono (by omega))
    exact ⟨_, results_tmp2 rfl _ _ _, _, rfl, Kd.S_nil _ _ _ _ _, hd2⟩
  | true =>
    replace h : ((intake_Check.f 9 a1 a2_0 a2_1 l2_2).bind fun e => if e = 0 then (if l2_2.length ≤ 1000000 then (recR l0_0 a0_1 a0_2 a0_3 a0_4 (newR a1 a2_1 l2_2 0)).bind fun q => some (q, 0) else none) else some ([], e)) = some (r1, r2) := h
    obtain ⟨ce, hce, h⟩ := Option.bind_eq_some_iff.mp h
    have HCE := Aside0.mk hce
    clear hce
    by_cases he : ce = 0
    · subst he
      rw [if_pos rfl] at h
      by_cases hl : l2_2.length ≤ 1000000
      · rw [if_pos hl] at h
        obtain ⟨q, hq, h⟩ := Option.bind_eq_some_iff.mp h
        cases h
        have HQ := Aside0.mk (recR_all hq)
        clear hq
        gi_wp2_with (first | (gi_at_call 16; refine ((callsIn_wide (n := 6)).2 (schema_May.calls A0_0 c0_0 l0_0 a0_1 a0_2 a0_3 a0_4 true _ (Kd.C_below HR0.out hB1) HC0.out HM.out)).mono ?_; rintro e w2 ⟨rfl, hb2⟩; have hs2 := (hb2.block _ (by omega : w.heap.size < W1.heap.size)).trans hs1; have hf2 := (hb2.block _ (by omega : w.heap.size + 1 < W1.heap.size)).trans hf1; have hB2 := hB1.trans (hb2.mono (by omega)); have hz2 := hb2.size; have qs0 : w2.cell? ⟨w.heap.size, 0, none⟩ = some (.slice A0_0 l0_0.length c0_0) := (blk_cell hs2 0).trans rfl; have qs1 : w2.cell? ⟨w.heap.size, 1, none⟩ = some (.int .i64 a0_1) := (blk_cell hs2 1).trans rfl; have qs2 : w2.cell? ⟨w.heap.size, 2, none⟩ = some (.int .i64 a0_2) := (blk_cell hs2 2).trans rfl; have qs3 : w2.cell? ⟨w.heap.size, 3, none⟩ = some (.int .i64 a0_3) := (blk_cell hs2 3).trans rfl; have qs4 : w2.cell? ⟨w.heap.size, 4, none⟩ = some (.int .i64 a0_4) := (blk_cell hs2 4).trans rfl; have qf0 : w2.cell? ⟨w.heap.size + 1, 0, none⟩ = some (.int .i64 a2_0) := (blk_cell hf2 0).trans rfl; have qf1 : w2.cell? ⟨w.heap.size + 1, 1, none⟩ = some (.int .i64 a2_1) := (blk_cell hf2 1).trans rfl; have qf2 : w2.cell? ⟨w.heap.size + 1, 2, none⟩ = some (.slice A2_2 l2_2.length c2_2) := (blk_cell hf2 2).trans rfl) | (gi_at_call 11; refine ((callsIn_wide (n := 6)).2 (intake_Check.calls 9 a1 a2_0 a2_1 A2_2 c2_2 l2_2 0 _ (Kd.C_below HR2.out hB2) HC2.out HCE.out)).mono ?_; rintro e w3 ⟨rfl, hb3⟩; have hs3 := (hb3.block _ (by omega : w.heap.size < w2.heap.size)).trans hs2; have hf3 := (hb3.block _ (by omega : w.heap.size + 1 < w2.heap.size)).trans hf2; have hB3 := hB2.trans (hb3.mono (by omega)); have hz3 := hb3.size; obtain ⟨W4, hW4⟩ : ∃ W4, w3.alloc (.cells #[.slice none 0 0] 31) = W4 := ⟨_, rfl⟩; have hs4 := blk_alloc' hs3 (.cells #[.slice none 0 0] 31); rw [hW4] at hs4; have hf4 := blk_alloc' hf3 (.cells #[.slice none 0 0] 31); rw [hW4] at hf4; have bO4 : Boxed W4 w3.heap.size 31 (.slice none 0 0) := (by rw [← hW4]; exact Boxed.new _ _ _); have hB4 : Below w.heap.size w W4 := (by rw [← hW4]; exact hB3.alloc hB3.size _); have hz4 : W4.heap.size = w3.heap.size + 1 := (by rw [← hW4]; simp); have rs0 : w3.cell? ⟨w.heap.size, 0, none⟩ = some (.slice A0_0 l0_0.length c0_0) := (blk_cell hs3 0).trans rfl; have rs1 : w3.cell? ⟨w.heap.size, 1, none⟩ = some (.int .i64 a0_1) := (blk_cell hs3 1).trans rfl; have rs2 : w3.cell? ⟨w.heap.size, 2, none⟩ = some (.int .i64 a0_2) := (blk_cell hs3 2).trans rfl; have rs3 : w3.cell? ⟨w.heap.size, 3, none⟩ = some (.int .i64 a0_3) := (blk_cell hs3 3).trans rfl; have rs4 : w3.cell? ⟨w.heap.size, 4, none⟩ = some (.int .i64 a0_4) := (blk_cell hs3 4).trans rfl; have rf0 : w3.cell? ⟨w.heap.size + 1, 0, none⟩ = some (.int .i64 a2_0) := (blk_cell hf3 0).trans rfl; have rf1 : w3.cell? ⟨w.heap.size + 1, 1, none⟩ = some (.int .i64 a2_1) := (blk_cell hf3 1).trans rfl; have rf2 : w3.cell? ⟨w.heap.size + 1, 2, none⟩ = some (.slice A2_2 l2_2.length c2_2) := (blk_cell hf3 2).trans rfl; have ts0 : W4.cell? ⟨w.heap.size, 0, none⟩ = some (.slice A0_0 l0_0.length c0_0) := (blk_cell hs4 0).trans rfl; have ts1 : W4.cell? ⟨w.heap.size, 1, none⟩ = some (.int .i64 a0_1) := (blk_cell hs4 1).trans rfl; have ts2 : W4.cell? ⟨w.heap.size, 2, none⟩ = some (.int .i64 a0_2) := (blk_cell hs4 2).trans rfl; have ts3 : W4.cell? ⟨w.heap.size, 3, none⟩ = some (.int .i64 a0_3) := (blk_cell hs4 3).trans rfl; have ts4 : W4.cell? ⟨w.heap.size, 4, none⟩ = some (.int .i64 a0_4) := (blk_cell hs4 4).trans rfl; have tf0 : W4.cell? ⟨w.heap.size + 1, 0, none⟩ = some (.int .i64 a2_0) := (blk_cell hf4 0).trans rfl; have tf1 : W4.cell? ⟨w.heap.size + 1, 1, none⟩ = some (.int .i64 a2_1) := (blk_cell hf4 1).trans rfl; have tf2 : W4.cell? ⟨w.heap.size + 1, 2, none⟩ = some (.slice A2_2 l2_2.length c2_2) := (blk_cell hf4 2).trans rfl) | (gi_at_call 17; refine ((callsIn_wide (n := 6)).2 (intake_fresh.calls a1 a2_0 a2_1 A2_2 l2_2.length c2_2 _)).mono ?_; rintro e w' ⟨rfl, rfl⟩))
        obtain ⟨W0, hW0⟩ : ∃ W0, (W4.alloc (.cells #[.int .i64 a1] 3)).alloc (.cells #[.int .i64 a2_0, .int .i64 a2_1, .slice A2_2 l2_2.length c2_2] 27) = W0 := ⟨_, rfl⟩
        have bO : Boxed W0 w3.heap.size 31 (.slice none 0 0) := by rw [← hW0]; exact (bO4.alloc _).alloc _
        have hN0 : W0.heap[w3.heap.size + 1]? = some (.cells #[.int .i64 a1] 3 (0, 0)) := by rw [← hW0]; exact blk_alloc' (blk_new' _ _ hz4.symm) _
        have hF0 : W0.heap[w3.heap.size + 1 + 1]? = some (.cells #[.int .i64 a2_0, .int .i64 a2_1, .slice A2_2 l2_2.length c2_2] 27 (0, 0)) := by rw [← hW0]; exact blk_new' _ _ (by simp; omega)
        have hS0 : W0.heap[w.heap.size]? = some (.cells #[.slice A0_0 l0_0.length c0_0, .int .i64 a0_1, .int .i64 a0_2, .int .i64 a0_3, .int .i64 a0_4] 24 (0, 0)) := by rw [← hW0]; exact blk_alloc' (blk_alloc' hs4 _) _
        have hB0 : Below w.heap.size w W0 := by rw [← hW0]; exact (hB4.alloc hB4.size _).alloc (by have := hB4.size; simp; omega) _
        have hsz : W0.heap.size = w3.heap.size + 3 := by rw [← hW0]; simp; omega
        have hwz : w.heap.size < w3.heap.size := by omega
        rw [hW0]
        clear hW0 hW4 hW1
        refine wpIn_rangeFunc_ownH rfl h1 (gf := 26) (lb := #[.pointer (some ⟨w3.heap.size + 1 + 1, 0, none⟩), .pointer (some ⟨w3.heap.size + 1, 0, none⟩)]) rfl trivial (enters_of Tryd.func26 (by kernel_rfl) rfl)
          (fresh_1.stops (7 - 1) (by omega) a1 a2_0 a2_1 A2_2 c2_2 l2_2 w W0 (w3.heap.size + 1) (w3.heap.size + 1 + 1) hB0 (by omega) (by omega) hN0 hF0 HR2.out hl (fun b => ∃ r, schema_Decode.f l0_0 a0_1 a0_2 a0_3 a0_4 b = some r) HQ.out.1) KeepN.trans (keepN_b (by omega) (by omega) (by omega)) (Below.refl _ _) (fun _ => rfl)
          (fun (pre : List (Nw w (fun b => ∃ r, schema_Decode.f l0_0 a0_1 a0_2 a0_3 a0_4 b = some r))) W => (((∃ v, Boxed W w3.heap.size 31 v ∧ rowR W0.heap.size W v ((recN pre).map (recD l0_0 a0_1 a0_2 a0_3 a0_4))) ∧ W.heap[w.heap.size]? = some (.cells #[.slice A0_0 l0_0.length c0_0, .int .i64 a0_1, .int .i64 a0_2, .int .i64 a0_3, .int .i64 a0_4] 24 (0, 0))) ∧ (W.heap[w3.heap.size + 1]? = some (.cells #[.int .i64 a1] 3 (0, 0)) ∧ W.heap[w3.heap.size + 1 + 1]? = some (.cells #[.int .i64 a2_0, .int .i64 a2_1, .slice A2_2 l2_2.length c2_2] 27 (0, 0)))) ∧ Below w.heap.size w W)
          (fun _ _ _ => False)
          (OwnFrom.and (OwnFrom.and (OwnFrom.and (rowR.own (fun pre => (recN pre).map (recD l0_0 a0_1 a0_2 a0_3 a0_4))) (blk_own _ _ _ _)) (OwnFrom.and (blk_own _ _ _ _) (blk_own _ _ _ _))) (ownFrom_below (Nat.le_refl _) (by omega)))
          (fun _ _ _ _ _ hs _ _ => hs)
          ⟨⟨⟨⟨_, bO, rowR.of_S (Kd.S_nil _ _ _ _ (fun _ => True))⟩, hS0⟩, hN0, hF0⟩, hB0⟩
          (fun (x : Nw w (fun b => ∃ r, schema_Decode.f l0_0 a0_1 a0_2 a0_3 a0_4 b = some r)) a' W => a' = { tmps := #[.agg #[.slice A0_0 l0_0.length c0_0, .int .i64 a0_1, .int .i64 a0_2, .int .i64 a0_3, .int .i64 a0_4], .int .i64 a1, .agg #[.int .i64 a2_0, .int .i64 a2_1, .slice A2_2 l2_2.length c2_2], .pointer (some ⟨w.heap.size, 0, none⟩), undef, .pointer (some ⟨w.heap.size + 1, 0, none⟩), .slice none 0 0, .int .i64 0, .int .i64 0, .pointer (some ⟨w3.heap.size, 0, none⟩), .int .i64 x.1.1, .slice x.1.2.2.1 x.1.2.1.length x.1.2.2.2, undef, undef,
            .agg #[.slice A0_0 l0_0.length c0_0, .int .i64 a0_1, .int .i64 a0_2, .int .i64 a0_3, .int .i64 a0_4], .bool true, .bool false, .int .i64 a1, .agg #[.int .i64 a2_0, .int .i64 a2_1, .slice A2_2 l2_2.length c2_2], .int .i64 0, .int .i64 0, .bool false, undef, .int .i64 a1, .agg #[.int .i64 a2_0, .int .i64 a2_1, .slice A2_2 l2_2.length c2_2], .func (.func 26) #[] #[.pointer (some ⟨w3.heap.size + 1 + 1, 0, none⟩), .pointer (some ⟨w3.heap.size + 1, 0, none⟩)], .int .i64 x.1.1, .slice x.1.2.2.1 x.1.2.1.length x.1.2.2.2, undef, undef, undef, undef, undef, undef, undef, undef, undef, undef, undef, undef, undef, undef, undef], defers := [] })
          (fun x a' _ X Y row hs hg hr => hs)
          ?assign ?body ?done ?stop
        case assign =>
          rintro l pre x W K hI hK
          simp only [encN]
          gi_wp2
          exact hK _ _ (KeepsFrom.refl _ _) ⟨Below.refl _ _, rfl, rfl⟩ hI rfl
        case body =>
          rintro l pre x a' W hlW ⟨rr, hL⟩ ⟨⟨⟨⟨v, hv, hrow⟩, hs⟩, hn, hf⟩, hB⟩ rfl hlt
          have hWs : W0.heap.size ≤ W.heap.size := Nat.le_of_lt (Nat.lt_of_le_of_lt hlW (Array.getElem?_eq_some_iff.1 hL).1)
          obtain ⟨ok, hok, hS⟩ := hrow
          obtain ⟨A, c, rfl⟩ := Kd.S_slice hS
          have hpl : ((recN pre).map (recD l0_0 a0_1 a0_2 a0_3 a0_4)).length ≤ 1000000 := by rw [List.length_map, recN, List.length_map]; omega
          obtain ⟨zs, hzs⟩ : ∃ zs, zs = (recN pre).map (recD l0_0 a0_1 a0_2 a0_3 a0_4) := ⟨_, rfl⟩
          rw [← hzs] at hS hpl hv
          have HS := Aside0.mk hS
          have HZ := Aside0.mk hzs
          clear hzs
          obtain ⟨⟨off, b, A2, c2⟩, hx⟩ := x
          obtain ⟨⟨rw_, rg⟩, hrz⟩ := hx.2.2
          have hf18 : Fence.wide.fn 18 := trivial
          have HV := Aside0.mk hv
          have us0 : W.cell? ⟨w.heap.size, 0, none⟩ = some (.slice A0_0 l0_0.length c0_0) := (blk_cell hs 0).trans rfl; have us1 : W.cell? ⟨w.heap.size, 1, none⟩ = some (.int .i64 a0_1) := (blk_cell hs 1).trans rfl; have us2 : W.cell? ⟨w.heap.size, 2, none⟩ = some (.int .i64 a0_2) := (blk_cell hs 2).trans rfl; have us3 : W.cell? ⟨w.heap.size, 3, none⟩ = some (.int .i64 a0_3) := (blk_cell hs 3).trans rfl; have us4 : W.cell? ⟨w.heap.size, 4, none⟩ = some (.int .i64 a0_4) := (blk_cell hs 4).trans rfl
          clear hS hok
          gi_wp2_with (first | (gi_at_call 18; refine (CallsIn.inRound l ((callsIn_wide (n := 4)).2 (schema_Decode.calls A0_0 c0_0 l0_0 a0_1 a0_2 a0_3 a0_4 A2 c2 b rw_ rg _ (Kd.C_below HR0.out hB) HC0.out (Kd.C_below hx.1 hB) hx.2.1 (globs_below HG.out hB) hrz))).mono ?_; rintro e w5 ⟨v5, rfl, ho5, hb5⟩; obtain ⟨A5, c5, rfl⟩ := Kd.R_slice ho5; have HO5 := Aside0.mk ho5; have HB5 := Aside0.mk hb5; have cO5 : w5.cell? ⟨w3.heap.size, 0, none⟩ = some (.slice A zs.length c) := (boxedBelow hb5 hv).cell; clear ho5 hb5; obtain ⟨v1, w1, hrun, hS1, hB1_, hg1⟩ := append_rec (w0 := W) W0.heap.size (v := .slice A zs.length c) (v2 := .slice A5 rw_.length c5) (xs := zs) (x := ⟨off, (rg == 0), rw_⟩) (ok := fun _ => True) (okp := fun k => W.heap.size ≤ k) (Kd.R_lower (Kd.R_mono (Kd.R_bound HO5.out) (fun k hk => hk.2.1)) hWs) (fun k hk => ⟨trivial, fun e => by have := Kd.S_lt HS.out k e.symm; omega⟩) (fun _ _ => trivial) (Kd.S_below (Kd.S_mono (Kd.S_bound HS.out) (fun k hk => ⟨trivial, by have := hk.2.2.1; omega⟩)) HB5.out) (HB5.out.mono hWs) (Nat.le_trans hWs HB5.out.size) hpl; obtain ⟨A7, n7, c7, rfl⟩ : ∃ A7 n7 c7, v1 = .slice A7 n7 c7 := (by obtain ⟨A7, c7, e⟩ := Kd.S_slice hS1; exact ⟨_, _, _, e⟩); have HF := Aside0.mk (take_fin hsz hwz hB hv hs hn hf hWs HB5.out hg1 HS.out hB1_ hS1); have hv1 : Boxed w1 w3.heap.size 31 (.slice A zs.length c) := (hB1_.block w3.heap.size (by omega)).trans hv; have HV1 := Aside0.mk hv1; clear hS1 hB1_ hg1 hv1) | (gi_at_builtin; go_loud (refine append_ListIn rfl (.tmp 34) (.tmp 40) rfl rfl rfl rfl hrun ?_); have hcv := HV1.out.cell; have hfv := HV1.out.frozen))
          have hz : zs ++ [(⟨off, (rg == 0), rw_⟩ : S41)] = (recN (pre ++ [(⟨(off, b, A2, c2), hx⟩ : Nw w (fun b => ∃ r, schema_Decode.f l0_0 a0_1 a0_2 a0_3 a0_4 b = some r))])).map (recD l0_0 a0_1 a0_2 a0_3 a0_4) := by rw [HZ.out]; simp [recN, recD, hrz]
          have hF := HF.out
          rw [hz, hsz] at hF
          exact hF
        case done =>
          rintro D ys W hD hys ⟨⟨⟨⟨v, hv, hrow⟩, hs⟩, hn, hf⟩, hB⟩ hK
          rw [hys, ← HQ.out.2] at hrow
          have hc := hv.cell
          obtain ⟨ok, hok, hS⟩ := hrow
          obtain ⟨A, c, rfl⟩ := Kd.S_slice hS
          have HS := Aside0.mk hS
          have HOK := Aside0.mk hok
          have HK := Aside0.mk hK
          clear hS hok hK
          gi_wp2
          refine ⟨by simp, .inl ⟨_, _, rfl, run_takeDeferred HK.out, ?_⟩⟩
          refine ⟨_, results_tmp2 rfl _ _ _, _, rfl, ?_, hB.trans (belowK_b (w := w) (Nat.le_refl _) W D _ _ (by omega) HK.out rfl rfl)⟩
          refine Kd.S_mono (Kd.S_lower (Kd.S_grown HS.out (grownBy_putObj' W D _) (fun k hk e => ?_)) hB0.size) (fun _ _ => trivial)
          cases e
          obtain ⟨_, cs, t', h⟩ := HOK.out _ hk
          have h2 := HK.out
          rw [h] at h2; cases h2
        case stop =>
          rintro D c pre W _ _ h _
          exact h.elim
      · rw [if_neg hl] at h; cases h
    · rw [if_neg he] at h
      have hne : (ce != 0) = true := bne_iff_ne.mpr he
      have HH := Aside0.mk h
      clear h
      gi_wp2_with (first | (gi_at_call 16; refine ((callsIn_wide (n := 6)).2 (schema_May.calls A0_0 c0_0 l0_0 a0_1 a0_2 a0_3 a0_4 true _ (Kd.C_below HR0.out hB1) HC0.out HM.out)).mono ?_; rintro e w2 ⟨rfl, hb2⟩; have hs2 := (hb2.block _ (by omega : w.heap.size < W1.heap.size)).trans hs1; have hf2 := (hb2.block _ (by omega : w.heap.size + 1 < W1.heap.size)).trans hf1; have hB2 := hB1.trans (hb2.mono (by omega)); have hz2 := hb2.size; have qs0 : w2.cell? ⟨w.heap.size, 0, none⟩ = some (.slice A0_0 l0_0.length c0_0) := (blk_cell hs2 0).trans rfl; have qs1 : w2.cell? ⟨w.heap.size, 1, none⟩ = some (.int .i64 a0_1) := (blk_cell hs2 1).trans rfl; have qs2 : w2.cell? ⟨w.heap.size, 2, none⟩ = some (.int .i64 a0_2) := (blk_cell hs2 2).trans rfl; have qs3 : w2.cell? ⟨w.heap.size, 3, none⟩ = some (.int .i64 a0_3) := (blk_cell hs2 3).trans rfl; have qs4 : w2.cell? ⟨w.heap.size, 4, none⟩ = some (.int .i64 a0_4) := (blk_cell hs2 4).trans rfl; have qf0 : w2.cell? ⟨w.heap.size + 1, 0, none⟩ = some (.int .i64 a2_0) := (blk_cell hf2 0).trans rfl; have qf1 : w2.cell? ⟨w.heap.size + 1, 1, none⟩ = some (.int .i64 a2_1) := (blk_cell hf2 1).trans rfl; have qf2 : w2.cell? ⟨w.heap.size + 1, 2, none⟩ = some (.slice A2_2 l2_2.length c2_2) := (blk_cell hf2 2).trans rfl) | (gi_at_call 11; refine ((callsIn_wide (n := 6)).2 (intake_Check.calls 9 a1 a2_0 a2_1 A2_2 c2_2 l2_2 ce _ (Kd.C_below HR2.out hB2) HC2.out HCE.out)).mono ?_; rintro e w3 ⟨rfl, hb3⟩; have hB3 := hB2.trans (hb3.mono (by omega))))
      cases HH.out
      exact ⟨_, results_tmp2 rfl _ _ _, _, rfl, Kd.S_nil _ _ _ _ _, hB3⟩

end Go.Proofs.YtimomihjghefdaaDoor.Q
