/- Chapter 07: what the schema's functions answer, in plain words. The machine side of laws, written by wip/tools/myprint.py (the printer's way, with functions proved by hand put in); Lean checks it. -/
import Derived.Test.YteefchdfdgfaaaaDoorJ0
import Derived.Test.YteefchdfdgfaaaaDoorJ1
import Derived.Test.YteefchdfdgfaaaaDoorJ2
import Derived.Test.YteefchdfdgfaaaaDoorQx5
import Derived.Test.YteefchdfdgfaaaaDoorJ3
import Derived.Test.YteefchdfdgfaaaaDoorQx12
import Derived.Test.YteefchdfdgfaaaaDoorQx18
namespace Go.Proofs.YteefchdfdgfaaaaDoor.Q
open Go.RowKit Go.Proofs.YteefchdfdgfaaaaDoorW.PrintWords Go.Proofs.YteefchdfdgfaaaaDoorW.PrintLast Go.Proofs.YteefchdfdgfaaaaDoorW.PrintMore
attribute [local go_sem] max2_int min2_int max_two min_two max_three min_three max_four min_four   -- for this text's walks alone
set_option linter.unusedVariables false
set_option linter.unusedSimpArgs false

-- SAYS Chapter 07: what the schema's functions answer, in plain words.
-- FUNCS winnower/schema.Encode winnower/schema.Decode
-- NEEDS schema_Encode.f schema_Fits.f schema_May.f schema_Find.f schema_fits.f value_Put.f value_May.f value_truth.f num_Put.f num_PutLen.f num_put.f num_fold.f value_Get.f value_text.f num_Get.f num_GetLen.f schema_Decode.f
-- IMPORT Derived.Test.YteefchdfdgfaaaaDoorHnum
-- IMPORT Derived.Test.YteefchdfdgfaaaaDoorHval
-- IMPORT Derived.Test.YteefchdfdgfaaaaDoorHnumput
-- IMPORT Derived.Test.YteefchdfdgfaaaaDoorHnumget
-- IMPORT Derived.Test.YteefchdfdgfaaaaDoorHnumgetl
open Go.Proofs.YteefchdfdgfaaaaDoor.Hnum Go.Proofs.YteefchdfdgfaaaaDoor.Hval
theorem value_May.tell (k i : Int) (s : ByteArray) (b : Bool) : value_May.f k i s b = some (V.may ⟨k, i, s, b⟩) := by
  unfold value_May.f V.may
  simp only
  split
  · rfl
  · split
    · split <;> rfl
    · split
      · rfl
      · split <;> rfl
theorem value_truth.tell (b : Bool) : value_truth.f b = some (tr b) := by unfold value_truth.f tr; split <;> rfl
theorem value_Put.tell {l : List Int} {k i : Int} {s : ByteArray} {b : Bool} (hl : l.length < 1000000000) (hi : i64 i) : value_Put.f l k i s b = some (V.put ⟨k, i, s, b⟩ l) := by
  unfold value_Put.f V.put
  rw [value_May.tell, Option.bind_some]
  by_cases hm : V.may ⟨k, i, s, b⟩ = true
  · rw [if_pos hm, if_pos hm]
    unfold V.bytes
    simp only
    by_cases c1 : k = 1
    · rw [if_pos c1, if_pos c1, num_Put.tell hi (by omega), Option.bind_some]
    · rw [if_neg c1, if_neg c1]
      by_cases c2 : k = 2
      · have hs : s.size ≤ 64 := by
          unfold V.may at hm
          simp only at hm
          rw [if_neg c1, if_pos c2] at hm
          by_cases h : (s.size : Int) > 64
          · rw [if_pos h] at hm; cases hm
          · omega
        have hd := digs_le_ten (u := s.size) (by omega)
        rw [if_pos c2, if_pos c2, num_PutLen.tell (by omega) (by omega), Option.bind_some, if_pos (by rw [List.length_append]; omega), List.append_assoc]
      · rw [if_neg c2, if_neg c2]
        by_cases c3 : k = 3
        · rw [if_pos c3, if_pos c3, value_truth.tell, Option.bind_some, if_pos (by omega)]
          have : tr b % 256 = tr b := by unfold tr; split <;> rfl
          rw [this]
        · rw [if_neg c3, if_neg c3, List.append_nil]
  · rw [if_neg hm, if_neg hm]
theorem value_Get.tell {l : List Int} (hb : Bytes l) (hl : l.length ≤ 1000000000) (kind : Int) : value_Get.f l kind = some (getV l kind) := by
  unfold value_Get.f getV
  by_cases c0 : kind = 0
  · rw [if_pos c0, if_pos c0] <;> rfl
  · rw [if_neg c0, if_neg c0]
    by_cases c1 : kind = 1
    · rw [if_pos c1, if_pos c1, num_Get.tell hb, Option.bind_some]
      split <;> rfl
    · rw [if_neg c1, if_neg c1]
      by_cases c2 : kind = 2
      · rw [if_pos c2, if_pos c2]
        unfold value_text.f
        rw [num_GetLen.tell hb, Option.bind_some]
        rcases getl_cases hb with ⟨e, hg, he⟩ | ⟨u, n, hg, h1, h2, h3, h4⟩
        · rw [hg]
          simp only
          rw [if_neg (by omega), if_neg (by omega)] <;> rfl
        · rw [hg]
          simp only
          rw [if_pos trivial, if_pos trivial]
          by_cases c3 : (u : Int) > 64
          · rw [if_pos c3, if_pos c3] <;> rfl
          · rw [if_neg c3, if_neg c3, wrap_id (x := (l.length : Int) - (n : Int)) (by omega) (by omega), wrap_id (x := (n : Int) + (u : Int)) (by omega) (by omega)]
            by_cases c4 : (n : Int) + (u : Int) > (l.length : Int)
            · rw [if_pos (by omega), if_pos c4] <;> rfl
            · rw [if_neg (by omega), if_neg c4, if_pos (by omega), if_pos (by omega), if_pos (by omega)] <;> rfl
      · rw [if_neg c2, if_neg c2]
        by_cases c3 : kind = 3
        · rw [if_pos c3, if_pos c3]
          by_cases c4 : l.length = 0
          · rw [if_pos (by omega), if_pos c4] <;> rfl
          · rw [if_neg (by omega), if_neg c4, if_pos (by omega)]
            split <;> rfl
        · rw [if_neg c3, if_neg c3] <;> rfl
theorem rd46_at {l : List S46} {i : Nat} (h : i < l.length) : rd_T46 l (i : Int) = l[i] := by
  unfold rd_T46
  rw [Int.toNat_natCast, List.getD_eq_getElem?_getD, List.getElem?_eq_getElem h]
  rfl
theorem rd48_at {l : List S48} {i : Nat} (h : i < l.length) : rd_T48 l (i : Int) = l[i] := by
  unfold rd_T48
  rw [Int.toNat_natCast, List.getD_eq_getElem?_getD, List.getElem?_eq_getElem h]
  rfl
theorem wr1 {i : Nat} (h : i ≤ 1000000000) : wrap64 ((i : Int) + 1) = ((i + 1 : Nat) : Int) := by unfold wrap64; omega
instance eq46 : DecidableEq S46 := fun a b => decidable_of_iff (a.f0 = b.f0 ∧ a.f1 = b.f1 ∧ a.f2.toList = b.f2.toList ∧ a.f3 = b.f3) ⟨fun h => by
    cases a; cases b
    obtain ⟨h0, h1, h2, h3⟩ := h
    simp only at h0 h1 h2 h3
    rw [h0, h1, Go.Proofs.YteefchdfdgfaaaaDoor.Hval.bytes_ext h2, h3], fun h => by subst h; exact ⟨rfl, rfl, rfl, rfl⟩⟩
def tv (v : S46) : V := ⟨v.f0, v.f1, v.f2, v.f3⟩
/-- Does a value fit a column? -/
def fitC (x : S48) (v : S46) : Bool := V.may (tv v) && (decide (v.f0 = x.f1) || (decide (v.f0 = 0) && x.f2))
theorem fits1_tell (x : S48) (v : S46) : schema_fits.f x.f0 x.f1 x.f2 v.f0 v.f1 v.f2 v.f3 = some (fitC x v) := by
  unfold schema_fits.f fitC
  rw [value_May.tell, Option.bind_some]
  show (if V.may (tv v) = true then _ else _) = _
  cases V.may (tv v) with
  | false => rfl
  | true =>
    rw [if_pos rfl]
    by_cases h1 : v.f0 = x.f1
    · rw [if_pos h1, decide_eq_true h1]; rfl
    · rw [if_neg h1, decide_eq_false h1]
      by_cases h2 : v.f0 = 0
      · rw [if_pos h2, decide_eq_true h2]; rfl
      · rw [if_neg h2, decide_eq_false h2]; rfl
def fitAll : List S48 → List S46 → Bool
  | [], _ => true
  | _ :: _, [] => false
  | x :: t, v :: r => fitC x v && fitAll t r
theorem fits_go {l : List S48} {row : List S46} (hl : l.length ≤ 1000000) (hr : row.length = l.length) (q : Nat) : ∀ (d i : Nat), i + d = l.length → schema_Fits.l0 (d + q + 1) row l (l.length : Int) (i : Int) = some (fitAll (l.drop i) (row.drop i)) := by
  intro d
  induction d with
  | zero =>
    intro i hi
    rw [Nat.zero_add]
    unfold schema_Fits.l0
    rw [if_neg (by omega), List.drop_of_length_le (by omega)]
    rfl
  | succ d ih =>
    intro i hi
    have hk : i < l.length := by omega
    have hk2 : i < row.length := by omega
    rw [show d + 1 + q + 1 = (d + q + 1) + 1 by omega]
    unfold schema_Fits.l0
    rw [if_pos (by omega), if_pos (by omega), if_pos (by omega), if_pos (by omega), rd48_at hk, rd46_at hk2, fits1_tell, Option.bind_some, wr1 (by omega), ih (i + 1) (by omega), List.drop_eq_getElem_cons hk, List.drop_eq_getElem_cons hk2]
    unfold fitAll
    cases fitC l[i] row[i] with
    | false => rfl
    | true =>
      rw [if_pos rfl, Bool.true_and]
      cases (List.drop (i + 1) l) <;> cases (List.drop (i + 1) row) <;> rfl
/-- Does a row fit a schema? -/
def fitsS (l : List S48) (a1 a2 a3 a4 : Int) (row : List S46) : Bool := mayS l a1 a2 a3 a4 && (decide (row.length = l.length) && fitAll l row)
theorem fits_tell {l : List S48} (hl : l.length ≤ 1000000) (a1 a2 a3 a4 : Int) (row : List S46) {k : Nat} (hk : l.length + 2 ≤ k) : schema_Fits.f k l a1 a2 a3 a4 row = some (fitsS l a1 a2 a3 a4 row) := by
  obtain ⟨q, rfl⟩ : ∃ q, k = (l.length + q + 1) + 1 := ⟨k - l.length - 2, by omega⟩
  clear hk
  unfold schema_Fits.f fitsS
  rw [show schema_May.f l a1 a2 a3 a4 = some (mayS l a1 a2 a3 a4) by unfold schema_May.f; rw [if_pos hl], Option.bind_some]
  cases mayS l a1 a2 a3 a4 with
  | false =>
    rw [if_neg (by decide)]
    simp only [schema_Fits.j0]
    rw [if_pos trivial]
    rfl
  | true =>
    rw [if_pos rfl]
    simp only [schema_Fits.j0]
    by_cases hr : row.length = l.length
    · rw [if_neg (by rw [hr]; simp), decide_eq_true hr]
      have g := fits_go hl hr q l.length 0 (by omega)
      exact g
    · rw [if_pos (by rw [bne_iff_ne]; omega), decide_eq_false hr]
      rfl
/-- The bytes of a value in its column, and of a row. -/
def encV (x : S48) (v : S46) : List Int := if x.f2 = true then (if v.f0 = 0 then [0] else 1 :: V.bytes (tv v)) else V.bytes (tv v)
def encS : List S48 → List S46 → List Int
  | x :: t, v :: r => encV x v ++ encS t r
  | _, _ => []
theorem encV_short {x : S48} {v : S46} (hm : V.may (tv v) = true) (hi : i64 v.f1) : (encV x v).length ≤ 101 := by
  have := bytes_short (v := tv v) hm hi
  unfold encV
  split
  · split
    · simp
    · simp only [List.length_cons]; omega
  · omega
theorem fitC_may {x : S48} {v : S46} (h : fitC x v = true) : V.may (tv v) = true := by
  unfold fitC at h
  rw [Bool.and_eq_true] at h
  exact h.1
theorem put_may {l : List Int} {v : S46} (hl : l.length < 1000000000) (hi : i64 v.f1) (hm : V.may (tv v) = true) : value_Put.f l v.f0 v.f1 v.f2 v.f3 = some (l ++ V.bytes (tv v), 0) := by
  rw [value_Put.tell hl hi]
  unfold V.put
  rw [if_pos (show V.may ⟨v.f0, v.f1, v.f2, v.f3⟩ = true from hm)]
  rfl
theorem enc_go {l : List S48} {row : List S46} (hl : l.length ≤ 1000) (hr : row.length = l.length) (hi : ∀ v ∈ row, i64 v.f1) (hf : fitAll l row = true) (q : Nat) : ∀ (d i : Nat) (acc : List Int), i + d = l.length → fitAll (l.drop i) (row.drop i) = true → acc.length ≤ 101 * i →
    schema_Encode.l0 (2 * d + q + 1) row acc l (l.length : Int) (i : Int) = some (acc ++ encS (l.drop i) (row.drop i), 0) := by
  intro d
  induction d with
  | zero =>
    intro i acc hid hfi hacc
    rw [show 2 * 0 + q + 1 = q + 1 by omega]
    simp only [schema_Encode.l0]
    rw [if_neg (by omega), List.drop_of_length_le (by omega)]
    simp [encS]
  | succ d ih =>
    intro i acc hid hfi hacc
    have hk : i < l.length := by omega
    have hk2 : i < row.length := by omega
    rw [List.drop_eq_getElem_cons hk, List.drop_eq_getElem_cons hk2] at hfi ⊢
    unfold fitAll at hfi
    rw [Bool.and_eq_true] at hfi
    have hm := fitC_may hfi.1
    have hiv := hi _ (List.getElem_mem hk2)
    have hsh := encV_short (x := l[i]) hm hiv
    rw [show 2 * (d + 1) + q + 1 = ((2 * d + q + 1) + 1) + 1 by omega]
    simp only [schema_Encode.l0]
    rw [if_pos (by omega), if_pos (by omega), if_pos (by omega), if_pos (by omega), rd48_at hk, rd46_at hk2]
    have step : ∀ acc' : List Int, acc' = acc ++ encV l[i] row[i] → schema_Encode.l0 (2 * d + q + 1) row acc' l (l.length : Int) (wrap64 ((i : Int) + 1)) = some (acc ++ encS (l[i] :: l.drop (i + 1)) (row[i] :: row.drop (i + 1)), 0) := by
      intro acc' e
      subst e
      rw [wr1 (by omega), ih (i + 1) _ (by omega) hfi.2 (by rw [List.length_append]; omega)]
      unfold encS
      rw [List.append_assoc]
      cases (List.drop (i + 1) l) <;> cases (List.drop (i + 1) row) <;> rfl
    by_cases hn : l[i].f2 = true
    · rw [if_pos hn]
      simp only [schema_Encode.j1]
      by_cases h0 : row[i].f0 = 0
      · rw [if_pos (by rw [h0]; rfl), if_pos (by omega)]
        exact step _ (by unfold encV; rw [if_pos hn, if_pos h0])
      · rw [if_neg (by simpa using h0), if_pos hn, if_pos (by omega), put_may (by rw [List.length_append]; simp only [List.length_cons, List.length_nil]; omega) hiv hm, Option.bind_some]
        exact step _ (by unfold encV; rw [if_pos hn, if_neg h0, List.append_assoc]; rfl)
    · rw [if_neg hn]
      simp only [schema_Encode.j1]
      rw [if_neg (by decide), if_neg hn, put_may (by omega) hiv hm, Option.bind_some]
      exact step _ (by unfold encV; rw [if_neg hn])
theorem fitsS_len {l : List S48} {a1 a2 a3 a4 : Int} {row : List S46} (h : fitsS l a1 a2 a3 a4 row = true) : row.length = l.length ∧ fitAll l row = true := by
  unfold fitsS at h
  rw [Bool.and_eq_true, Bool.and_eq_true, decide_eq_true_eq] at h
  exact h.2
theorem enc_tell {l : List S48} (hl : l.length ≤ 1000) (a1 a2 a3 a4 : Int) {row : List S46} (hi : ∀ v ∈ row, i64 v.f1) {k : Nat} (hk : 2 * l.length + 2 ≤ k) : schema_Encode.f k l a1 a2 a3 a4 row = some (if fitsS l a1 a2 a3 a4 row = true then (encS l row, 0) else ([], 1)) := by
  unfold schema_Encode.f
  rw [fits_tell (by omega) a1 a2 a3 a4 row (by omega), Option.bind_some]
  cases h : fitsS l a1 a2 a3 a4 row with
  | false => rfl
  | true =>
    rw [if_pos rfl, if_pos rfl]
    obtain ⟨h1, h2⟩ := fitsS_len h
    obtain ⟨q, rfl⟩ : ∃ q, k = 2 * l.length + q + 1 := ⟨k - 2 * l.length - 1, by omega⟩
    have g := enc_go hl h1 hi h2 q l.length 0 [] (by omega) (by simpa using h2) (by simp)
    exact g
def smallC : List S48 := [⟨⟨#[107]⟩, 1, false⟩, ⟨⟨#[118]⟩, 2, true⟩]
def smallR : List S46 := [⟨1, 5, ⟨#[]⟩, false⟩, ⟨2, 0, ⟨#[97]⟩, false⟩]
theorem toL (l : List UInt8) : (⟨l.toArray⟩ : ByteArray).toList = l := by rw [ByteArray.toList_eq]
theorem name_trim (s : ByteArray) (h1 : (s.size : Int) ≥ 1) (h2 : (s.size : Int) ≤ 16) : nameS s = (Lib.trimS s.data.toList [97, 98, 99, 100, 101, 102, 103, 104, 105, 106, 107, 108, 109, 110, 111, 112, 113, 114, 115, 116, 117, 118, 119, 120, 121, 122, 48, 49, 50, 51, 52, 53, 54, 55, 56, 57, 95] == ([] : List UInt8)) := by
  unfold nameS schema_name.f strings_Trim.f
  rw [if_pos h1, if_pos h2, if_pos ⟨by omega, by decide, by decide⟩, Option.bind_some, toL]
  rfl
theorem small_name1 : nameS ⟨#[107]⟩ = true := by
  rw [name_trim _ (by decide) (by decide)]
  decide
theorem small_name2 : nameS ⟨#[118]⟩ = true := by
  rw [name_trim _ (by decide) (by decide)]
  decide
theorem small_find1 : findC ⟨#[107]⟩ smallC 0 = 0 := by
  unfold smallC findC
  rw [toL [107]]
  rfl
theorem small_find2 : findC ⟨#[118]⟩ smallC 0 = 1 := by
  unfold smallC findC findC
  rw [toL [107], toL [118]]
  rfl
theorem small_may : mayS smallC (-1) (-1) (-1) (-1) = true := by
  have hc : colsS smallC smallC 0 = true := by
    show (nameS ⟨#[107]⟩ && (decide ((1 : Int) ≤ 1) && (decide ((1 : Int) ≤ 3) && (decide (findC ⟨#[107]⟩ smallC 0 = 0) && (nameS ⟨#[118]⟩ && (decide ((1 : Int) ≤ 2) && (decide ((2 : Int) ≤ 3) && (decide (findC ⟨#[118]⟩ smallC 0 = 0 + 1) && true)))))))) = true
    rw [small_name1, small_name2, small_find1, small_find2]
    rfl
  unfold mayS
  rw [hc]
  rfl
theorem b10 : V.bytes ⟨1, 5, ⟨#[]⟩, false⟩ = [10] := by
  unfold V.bytes
  rw [if_pos rfl, show fold 5 = 10 from rfl, digs_last (by decide)]
  rfl
theorem bytesOf1 : bytesOf ⟨#[97]⟩ = [97] := by
  unfold bytesOf
  rfl
theorem b97 : V.bytes ⟨2, 0, ⟨#[97]⟩, false⟩ = [1, 97] := by
  unfold V.bytes
  simp only
  rw [if_neg (by decide), if_pos trivial, bytesOf1, show (⟨#[97]⟩ : ByteArray).size = 1 from rfl, digs_last (by decide)]
  rfl
theorem small_v1 : V.may ⟨1, 5, ⟨#[]⟩, false⟩ = true := by
  unfold V.may
  rw [if_pos rfl, toL []]
  rfl
theorem small_v2 : V.may ⟨2, 0, ⟨#[97]⟩, false⟩ = true := by
  unfold V.may
  simp only
  rw [if_neg (by decide), if_pos trivial, if_neg (by decide)]
  rfl
theorem small_fits : fitsS smallC (-1) (-1) (-1) (-1) smallR = true := by
  unfold fitsS
  rw [small_may]
  show (true && (true && (fitC ⟨⟨#[107]⟩, 1, false⟩ ⟨1, 5, ⟨#[]⟩, false⟩ && (fitC ⟨⟨#[118]⟩, 2, true⟩ ⟨2, 0, ⟨#[97]⟩, false⟩ && true)))) = true
  unfold fitC tv
  rw [small_v1, small_v2]
  rfl
theorem small_enc : encS smallC smallR = [10, 1, 1, 97] := by
  show encV ⟨⟨#[107]⟩, 1, false⟩ ⟨1, 5, ⟨#[]⟩, false⟩ ++ (encV ⟨⟨#[118]⟩, 2, true⟩ ⟨2, 0, ⟨#[97]⟩, false⟩ ++ []) = _
  unfold encV tv
  simp only
  rw [if_neg (by decide), if_pos trivial, if_neg (by decide), b10, b97]
  rfl
theorem small_get : value_Get.f [10, 0] 1 = some (1, 5, ⟨#[]⟩, false, 1, 0) := by
  rw [value_Get.tell (by intro x hx; simp only [List.mem_cons, List.not_mem_nil, or_false] at hx; rcases hx with rfl | rfl <;> decide) (by decide)]
  have h := getV_bytes small_v1 (by decide) [0]
  rw [b10] at h
  exact congrArg some h
theorem small_dec : decC smallC [10, 0] [] = some ([⟨1, 5, ⟨#[]⟩, false⟩, ⟨0, 0, ⟨#[]⟩, false⟩], 0) := by
  have c1 : schema_column.f false 1 [10, 0] = some (1, 5, ⟨#[]⟩, false, 1, 0) := by
    unfold schema_column.f
    rw [if_neg (by decide), small_get, Option.map_some]
    unfold fin1
    simp only
    rw [show wrap64 (0 + 1) = 1 from by unfold wrap64; omega]
    first | rfl | simp
  have c2 : schema_column.f true 2 [0] = some (0, 0, ⟨#[]⟩, false, 1, 0) := by
    unfold schema_column.f
    rw [if_pos rfl, if_neg (by simp), if_neg (by decide), if_pos (by rfl)]
  unfold smallC
  simp only [decC]
  rw [c1, Option.bind_some]
  simp only
  rw [if_pos trivial, if_pos (by decide), show List.drop (Int.toNat 1) [(10 : Int), 0] = [0] from rfl, c2, Option.bind_some]
  simp only
  rw [if_pos trivial, if_pos (by decide), show List.drop (Int.toNat 1) [(0 : Int)] = [] from rfl, if_pos rfl]
  rfl
end Go.Proofs.YteefchdfdgfaaaaDoor.Q
namespace Go.Proofs.YteefchdfdgfaaaaDoor.Q
open Go.RowKit Go.Proofs.YteefchdfdgfaaaaDoorW.PrintWords Go.Proofs.YteefchdfdgfaaaaDoorW.PrintLast Go.Proofs.YteefchdfdgfaaaaDoorW.PrintMore
attribute [local go_sem] max2_int min2_int max_two min_two max_three min_three max_four min_four   -- for this text's walks alone
set_option linter.unusedVariables false
set_option linter.unusedSimpArgs false

/-! ### winnowerref07_Few: function 9 -/
def winnowerref07_Few.l0 : Nat → Int → List (S48) → Int → Int → Int → Int → Option (Bool)
  | 0, _, _, _, _, _, _ => none
  | k + 1, x3, x226000, x226001, x226002, x226003, x226004 => if x3 < (x226000.length : Int) then (if 0 ≤ x3 then (if (((rd_T48 x226000 x3).f0).size : Int) > 100 then (some false) else (winnowerref07_Few.l0 k (wrap64 (x3 + 1)) x226000 x226001 x226002 x226003 x226004)) else (none)) else (some true)
def winnowerref07_Few.f (k : Nat) (l0_0 : List (S48)) (a0_1 : Int) (a0_2 : Int) (a0_3 : Int) (a0_4 : Int) : Option (Bool) := if (l0_0.length : Int) > 12 then (some false) else (winnowerref07_Few.l0 k 0 l0_0 a0_1 a0_2 a0_3 a0_4)
set_option maxHeartbeats 8000000 in
set_option maxRecDepth 100000 in
theorem winnowerref07_Few.calls (k : Nat) (A0_0 : Option Addr) (c0_0 : Nat) (l0_0 : List (S48)) (a0_1 : Int) (a0_2 : Int) (a0_3 : Int) (a0_4 : Int) (r : Bool) (w : World) (hr0_0 : Kd.C k48 w A0_0 l0_0.length l0_0) (hc0_0 : l0_0.length ≤ c0_0) (h : winnowerref07_Few.f k l0_0 a0_1 a0_2 a0_3 a0_4 = some r) :
    Calls Tryd.prog 9 #[.agg #[.slice A0_0 l0_0.length c0_0, .int .i64 a0_1, .int .i64 a0_2, .int .i64 a0_3, .int .i64 a0_4]] w fun e w' => e = .returned (.bool r) ∧ Below w.heap.size w w' := by
  have hu24 := Tryd.underlying24
  have HR0_0 := z05.mk hr0_0
  have HC0_0 := z05.mk hc0_0
  clear hr0_0 hc0_0
  have HB := z05.mk (Below.refl w.heap.size w)
  have H : (if (l0_0.length : Int) > 12 then (some false) else (winnowerref07_Few.l0 k 0 l0_0 a0_1 a0_2 a0_3 a0_4)) = some r := h
  clear h
  by_cases c2 : (l0_0.length : Int) > 12
  · rw [if_pos c2] at H
    have c2b0 : decide (12 < (l0_0.length : Int)) = true := decide_eq_true c2
    have c2b1 : decide (12 < l0_0.length) = true := decide_eq_true (by omega)
    clear c2
    obtain rfl := Option.some.inj H
    go_enter Tryd.func9, Tryd.ntmps9
    go_wp2_with (first | ((with_reducible refine gate_dst (N := 1) rfl ?_); refine box_event ?hg (N := 1) ?hd (cs := #[.slice A0_0 l0_0.length c0_0, .int .i64 a0_1, .int .i64 a0_2, .int .i64 a0_3, .int .i64 a0_4]) (t := 24) ?hr ?_; (case hd => rfl); (case hg => rfl); (case hr => first | (go_simp; done) | (go_simp; rfl)); intro gb225 hg w3 hbox hb; have n0_ := z05.mk (below_step (by repeat (first | (with_reducible first | exact HB.out | apply z02 | apply z00 | apply z03) | exact HB.out)) hb); have n1_ := z05.mk (hbox); have n2_ := z05.mk ((by rw [hg]; exact (below_size (by repeat (first | (with_reducible first | exact HB.out | apply z02 | apply z00 | apply z03) | exact HB.out))) : w.heap.size ≤ gb225)); have n3_ := z05.mk ((by rw [hg]; exact (below_size (by repeat (first | (with_reducible first | exact HB.out | apply z02 | apply z00 | apply z03) | exact HB.out))) : w.heap.size ≤ gb225)); clear HB; have HB := n0_; have BK225 := n1_; have GW225 := n2_; have GE225 := n3_; clear n0_ n1_ n2_ n3_; clear hb hbox hg; have hcz4_0 : w3.cell? ⟨gb225, 0, none⟩ = some (.slice A0_0 l0_0.length c0_0) := (z04 BK225.out 0).trans rfl; have hcz4_1 : w3.cell? ⟨gb225, 1, none⟩ = some (.int .i64 a0_1) := (z04 BK225.out 1).trans rfl; have hcz4_2 : w3.cell? ⟨gb225, 2, none⟩ = some (.int .i64 a0_2) := (z04 BK225.out 2).trans rfl; have hcz4_3 : w3.cell? ⟨gb225, 3, none⟩ = some (.int .i64 a0_3) := (z04 BK225.out 3).trans rfl; have hcz4_4 : w3.cell? ⟨gb225, 4, none⟩ = some (.int .i64 a0_4) := (z04 BK225.out 4).trans rfl; have hfz4_0 := z01 BK225.out 0; have hfz4_1 := z01 BK225.out 1; have hfz4_2 := z01 BK225.out 2; have hfz4_3 := z01 BK225.out 3; have hfz4_4 := z01 BK225.out 4))
    go_ret
    exact ⟨by first | rfl | (simp [errW_none, errW_some] <;> rfl) | (refine congrArg (fun b_ : Bool => Ending.returned (Value.bool b_)) ?_; simp; done) | (simp [*, errW_none, errW_some] <;> rfl), by repeat (first | (with_reducible first | exact HB.out | apply z02 | apply z00 | apply z03 | refine z09 ?_ GE225.out) | exact HB.out)⟩
  · rw [if_neg c2] at H
    have c2b0 : decide (12 < (l0_0.length : Int)) = false := decide_eq_false c2
    have c2b1 : decide (12 < l0_0.length) = false := decide_eq_false (by omega)
    clear c2
    have H' := z05.mk H
    clear H
    go_enter Tryd.func9, Tryd.ntmps9
    go_wp2_with (first | ((with_reducible refine gate_dst (N := 1) rfl ?_); refine box_event ?hg (N := 1) ?hd (cs := #[.slice A0_0 l0_0.length c0_0, .int .i64 a0_1, .int .i64 a0_2, .int .i64 a0_3, .int .i64 a0_4]) (t := 24) ?hr ?_; (case hd => rfl); (case hg => rfl); (case hr => first | (go_simp; done) | (go_simp; rfl)); intro gb225 hg w5 hbox hb; have n0_ := z05.mk (below_step (by repeat (first | (with_reducible first | exact HB.out | apply z02 | apply z00 | apply z03) | exact HB.out)) hb); have n1_ := z05.mk (hbox); have n2_ := z05.mk ((by rw [hg]; exact (below_size (by repeat (first | (with_reducible first | exact HB.out | apply z02 | apply z00 | apply z03) | exact HB.out))) : w.heap.size ≤ gb225)); have n3_ := z05.mk ((by rw [hg]; exact (below_size (by repeat (first | (with_reducible first | exact HB.out | apply z02 | apply z00 | apply z03) | exact HB.out))) : w.heap.size ≤ gb225)); clear HB; have HB := n0_; have BK225 := n1_; have GW225 := n2_; have GE225 := n3_; clear n0_ n1_ n2_ n3_; clear hb hbox hg; have hcz6_0 : w5.cell? ⟨gb225, 0, none⟩ = some (.slice A0_0 l0_0.length c0_0) := (z04 BK225.out 0).trans rfl; have hcz6_1 : w5.cell? ⟨gb225, 1, none⟩ = some (.int .i64 a0_1) := (z04 BK225.out 1).trans rfl; have hcz6_2 : w5.cell? ⟨gb225, 2, none⟩ = some (.int .i64 a0_2) := (z04 BK225.out 2).trans rfl; have hcz6_3 : w5.cell? ⟨gb225, 3, none⟩ = some (.int .i64 a0_3) := (z04 BK225.out 3).trans rfl; have hcz6_4 : w5.cell? ⟨gb225, 4, none⟩ = some (.int .i64 a0_4) := (z04 BK225.out 4).trans rfl; have hfz6_0 := z01 BK225.out 0; have hfz6_1 := z01 BK225.out 1; have hfz6_2 := z01 BK225.out 2; have hfz6_3 := z01 BK225.out 3; have hfz6_4 := z01 BK225.out 4))
    go_loopg [3] k (fun kq v3 w' => ∃ (x3_1 : Int), v3 = .int .i64 x3_1 ∧ z05 (winnowerref07_Few.l0 kq x3_1 l0_0 a0_1 a0_2 a0_3 a0_4 = some r) ∧ z05 (kq ≤ k) ∧ z05 (w'.heap[gb225]? = some (.cells #[(.slice A0_0 l0_0.length c0_0), .int .i64 a0_1, .int .i64 a0_2, .int .i64 a0_3, .int .i64 a0_4] 24 (0, 0))) ∧ z05 (Below w.heap.size w w'))
    case atStart => exact ⟨(0), (by first | rfl | (simp; done) | (simp [*]; done)), H', ⟨Nat.le_refl _⟩, ⟨by (with_reducible repeat (first | refine z07 ?_ _ | refine z08 ?_ | refine z06 ?_ _)); exact BK225.out⟩, ⟨by repeat (first | (with_reducible first | exact HB.out | apply z02 | apply z00 | apply z03 | refine z09 ?_ GE225.out) | exact HB.out)⟩⟩
    case round =>
      clear H'
      try clear c2
      try clear c2b0
      try clear c2b1
      try clear p2
      try clear hcz4_0
      try clear hcz4_1
      try clear hcz4_2
      try clear hcz4_3
      try clear hcz4_4
      try clear hcz6_0
      try clear hcz6_1
      try clear hcz6_2
      try clear hcz6_3
      try clear hcz6_4
      try clear hfz4_0
      try clear hfz4_1
      try clear hfz4_2
      try clear hfz4_3
      try clear hfz4_4
      try clear hfz6_0
      try clear hfz6_1
      try clear hfz6_2
      try clear hfz6_3
      try clear hfz6_4
      obtain ⟨x3_1, rfl, HA, HK1, BK225, HB⟩ := hrel
      cases gk with
      | zero => exact absurd HA.out (by simp [winnowerref07_Few.l0])
      | succ k1 =>
        have H := HA.out
        clear HA
        simp only [winnowerref07_Few.l0] at H
        by_cases c7 : x3_1 < (l0_0.length : Int)
        · rw [if_pos c7] at H
          have c7b0 : decide (x3_1 < (l0_0.length : Int)) = true := decide_eq_true c7
          clear c7
          by_cases c8 : 0 ≤ x3_1
          · rw [if_pos c8] at H
            have c8b0 : decide (0 ≤ x3_1) = true := decide_eq_true c8
            clear c8
            by_cases c9 : (((rd_T48 l0_0 x3_1).f0).size : Int) > 100
            · rw [if_pos c9] at H
              have c9b0 : decide (100 < (((rd_T48 l0_0 x3_1).f0).size : Int)) = true := decide_eq_true c9
              have c9b1 : decide (100 < ((rd_T48 l0_0 x3_1).f0).size) = true := decide_eq_true (by omega)
              clear c9
              obtain rfl := Option.some.inj H
              have hcz10_0 : wr.cell? ⟨gb225, 0, none⟩ = some (.slice A0_0 l0_0.length c0_0) := (z04 BK225.out 0).trans rfl
              have hcz10_1 : wr.cell? ⟨gb225, 1, none⟩ = some (.int .i64 a0_1) := (z04 BK225.out 1).trans rfl
              have hcz10_2 : wr.cell? ⟨gb225, 2, none⟩ = some (.int .i64 a0_2) := (z04 BK225.out 2).trans rfl
              have hcz10_3 : wr.cell? ⟨gb225, 3, none⟩ = some (.int .i64 a0_3) := (z04 BK225.out 3).trans rfl
              have hcz10_4 : wr.cell? ⟨gb225, 4, none⟩ = some (.int .i64 a0_4) := (z04 BK225.out 4).trans rfl
              have hfz10_0 := z01 BK225.out 0
              have hfz10_1 := z01 BK225.out 1
              have hfz10_2 := z01 BK225.out 2
              have hfz10_3 := z01 BK225.out 3
              have hfz10_4 := z01 BK225.out 4
              have p226 : 0 ≤ (x3_1 : Int) := of_decide_eq_true (by first | (with_reducible assumption) | assumption)
              have q226 : x3_1 < (l0_0.length : Int) := of_decide_eq_true (by first | (with_reducible assumption) | assumption)
              obtain ⟨ad226, e226, hx226_0, hx226_1, hx226_2⟩ := at_T48 HR0_0.out x3_1 p226 q226
              cases e226
              replace hx226_0 := (HB.out.cell (World.block_lt_of_cell? w _ hx226_0)).trans hx226_0
              replace hx226_1 := (HB.out.cell (World.block_lt_of_cell? w _ hx226_1)).trans hx226_1
              replace hx226_2 := (HB.out.cell (World.block_lt_of_cell? w _ hx226_2)).trans hx226_2
              replace p226 := eq_true p226
              replace q226 := eq_true q226
              go_wp2
              go_ret
              exact ⟨by first | rfl | (simp [errW_none, errW_some] <;> rfl) | (refine congrArg (fun b_ : Bool => Ending.returned (Value.bool b_)) ?_; simp; done) | (simp [*, errW_none, errW_some] <;> rfl), by repeat (first | (with_reducible first | exact HB.out | apply z02 | apply z00 | apply z03 | refine z09 ?_ GE225.out) | exact HB.out)⟩
            · rw [if_neg c9] at H
              have c9b0 : decide (100 < (((rd_T48 l0_0 x3_1).f0).size : Int)) = false := decide_eq_false c9
              have c9b1 : decide (100 < ((rd_T48 l0_0 x3_1).f0).size) = false := decide_eq_false (by omega)
              clear c9
              have H' := z05.mk H
              clear H
              have hcz11_0 : wr.cell? ⟨gb225, 0, none⟩ = some (.slice A0_0 l0_0.length c0_0) := (z04 BK225.out 0).trans rfl
              have hcz11_1 : wr.cell? ⟨gb225, 1, none⟩ = some (.int .i64 a0_1) := (z04 BK225.out 1).trans rfl
              have hcz11_2 : wr.cell? ⟨gb225, 2, none⟩ = some (.int .i64 a0_2) := (z04 BK225.out 2).trans rfl
              have hcz11_3 : wr.cell? ⟨gb225, 3, none⟩ = some (.int .i64 a0_3) := (z04 BK225.out 3).trans rfl
              have hcz11_4 : wr.cell? ⟨gb225, 4, none⟩ = some (.int .i64 a0_4) := (z04 BK225.out 4).trans rfl
              have hfz11_0 := z01 BK225.out 0
              have hfz11_1 := z01 BK225.out 1
              have hfz11_2 := z01 BK225.out 2
              have hfz11_3 := z01 BK225.out 3
              have hfz11_4 := z01 BK225.out 4
              have p226 : 0 ≤ (x3_1 : Int) := of_decide_eq_true (by first | (with_reducible assumption) | assumption)
              have q226 : x3_1 < (l0_0.length : Int) := of_decide_eq_true (by first | (with_reducible assumption) | assumption)
              obtain ⟨ad226, e226, hx226_0, hx226_1, hx226_2⟩ := at_T48 HR0_0.out x3_1 p226 q226
              cases e226
              replace hx226_0 := (HB.out.cell (World.block_lt_of_cell? w _ hx226_0)).trans hx226_0
              replace hx226_1 := (HB.out.cell (World.block_lt_of_cell? w _ hx226_1)).trans hx226_1
              replace hx226_2 := (HB.out.cell (World.block_lt_of_cell? w _ hx226_2)).trans hx226_2
              replace p226 := eq_true p226
              replace q226 := eq_true q226
              go_wp2
              go_roundg k1
              case measure => have := HK1.out; omega
              case rel => exact ⟨(wrap64 (x3_1 + 1)), (by first | rfl | (simp; done) | (simp [*]; done)), H', ⟨by have := HK1.out; omega⟩, ⟨by (with_reducible repeat (first | refine z07 ?_ _ | refine z08 ?_ | refine z06 ?_ _)); exact BK225.out⟩, ⟨by repeat (first | (with_reducible first | exact HB.out | apply z02 | apply z00 | apply z03 | refine z09 ?_ GE225.out) | exact HB.out)⟩⟩
          · rw [if_neg c8] at H
            exact absurd H (by simp)
        · rw [if_neg c7] at H
          have c7b0 : decide (x3_1 < (l0_0.length : Int)) = false := decide_eq_false c7
          clear c7
          obtain rfl := Option.some.inj H
          have hcz12_0 : wr.cell? ⟨gb225, 0, none⟩ = some (.slice A0_0 l0_0.length c0_0) := (z04 BK225.out 0).trans rfl
          have hcz12_1 : wr.cell? ⟨gb225, 1, none⟩ = some (.int .i64 a0_1) := (z04 BK225.out 1).trans rfl
          have hcz12_2 : wr.cell? ⟨gb225, 2, none⟩ = some (.int .i64 a0_2) := (z04 BK225.out 2).trans rfl
          have hcz12_3 : wr.cell? ⟨gb225, 3, none⟩ = some (.int .i64 a0_3) := (z04 BK225.out 3).trans rfl
          have hcz12_4 : wr.cell? ⟨gb225, 4, none⟩ = some (.int .i64 a0_4) := (z04 BK225.out 4).trans rfl
          have hfz12_0 := z01 BK225.out 0
          have hfz12_1 := z01 BK225.out 1
          have hfz12_2 := z01 BK225.out 2
          have hfz12_3 := z01 BK225.out 3
          have hfz12_4 := z01 BK225.out 4
          go_wp2
          go_ret
          exact ⟨by first | rfl | (simp [errW_none, errW_some] <;> rfl) | (refine congrArg (fun b_ : Bool => Ending.returned (Value.bool b_)) ?_; simp; done) | (simp [*, errW_none, errW_some] <;> rfl), by repeat (first | (with_reducible first | exact HB.out | apply z02 | apply z00 | apply z03 | refine z09 ?_ GE225.out) | exact HB.out)⟩

/-! ### winnowerref07_Light: function 10 -/

/-! ### winnowerref07_name: function 28 -/
mutual
def winnowerref07_name.j0 : Nat → ByteArray → Bool → Option (Bool)
  | 0, _, _ => none
  | k + 1, x0, x12 => if x12 = true then (some false) else (winnowerref07_name.l0 k x0 0)
def winnowerref07_name.l0 : Nat → ByteArray → Int → Option (Bool)
  | 0, _, _ => none
  | k + 1, x0, x3 => if x3 < (x0.size : Int) then (if 0 ≤ x3 then (if (bt x0 x3) ≥ 97 then (if (bt x0 x3) ≤ 122 then (winnowerref07_name.l0 k x0 (wrap64 (x3 + 1))) else (if (bt x0 x3) ≥ 48 then (if (bt x0 x3) ≤ 57 then (winnowerref07_name.l0 k x0 (wrap64 (x3 + 1))) else (if ((bt x0 x3) = 95) then (winnowerref07_name.l0 k x0 (wrap64 (x3 + 1))) else (some false))) else (if ((bt x0 x3) = 95) then (winnowerref07_name.l0 k x0 (wrap64 (x3 + 1))) else (some false)))) else (if (bt x0 x3) ≥ 48 then (if (bt x0 x3) ≤ 57 then (winnowerref07_name.l0 k x0 (wrap64 (x3 + 1))) else (if ((bt x0 x3) = 95) then (winnowerref07_name.l0 k x0 (wrap64 (x3 + 1))) else (some false))) else (if ((bt x0 x3) = 95) then (winnowerref07_name.l0 k x0 (wrap64 (x3 + 1))) else (some false)))) else (none)) else (some true)
end
def winnowerref07_name.f (k : Nat) (a0 : ByteArray) : Option (Bool) := if (a0.size : Int) < 1 then (winnowerref07_name.j0 k a0 true) else (winnowerref07_name.j0 k a0 (decide ((a0.size : Int) > 16)))
set_option maxHeartbeats 8000000 in
set_option maxRecDepth 100000 in
theorem winnowerref07_name.calls (k : Nat) (a0 : ByteArray) (r : Bool) (w : World) (h : winnowerref07_name.f k a0 = some r) :
    Calls Tryd.prog 28 #[.string a0] w fun e w' => e = .returned (.bool r) ∧ Drawn0 w w' := by
  have H : (if (a0.size : Int) < 1 then (winnowerref07_name.j0 k a0 true) else (winnowerref07_name.j0 k a0 (decide ((a0.size : Int) > 16)))) = some r := h
  clear h
  have HC2 := z05.mk H
  clear H
  go_enter Tryd.func28, Tryd.ntmps28
  go_upto_region 1 with (fail)
  go_cut [12] (fun v12 wc => ∃ (kq : Nat) (x12_1 : Bool), v12 = .bool x12_1 ∧ z05 (winnowerref07_name.j0 kq a0 x12_1 = some r) ∧ z05 (kq ≤ k) ∧ Drawn0 w wc)
  case first =>
    have H := HC2.out
    clear HC2
    by_cases c3 : (a0.size : Int) < 1
    · rw [if_pos c3] at H
      have c3b0 : decide ((a0.size : Int) < 1) = true := decide_eq_true c3
      have c3b1 : decide (a0.size < 1) = true := decide_eq_true (by omega)
      clear c3
      (first | rw [c3b0] | (simp only [i64_w, i32_w]; rw [c3b0]) | skip)
      have H' := z05.mk H
      clear H
      go_wp2
      go_meet
      case rel => exact ⟨_, (true), (by first | rfl | (simp; done) | (simp [*]; done)), H', ⟨by first | omega | exact Nat.le_refl _⟩, by repeat (first | exact Drawn0.refl _ | apply Drawn0.step)⟩
    · rw [if_neg c3] at H
      have c3b0 : decide ((a0.size : Int) < 1) = false := decide_eq_false c3
      have c3b1 : decide (a0.size < 1) = false := decide_eq_false (by omega)
      clear c3
      (first | rw [c3b0] | (simp only [i64_w, i32_w]; rw [c3b0]) | skip)
      have H' := z05.mk H
      clear H
      go_wp2
      go_meet
      case rel => exact ⟨_, (decide ((a0.size : Int) > 16)), (by first | rfl | (simp; done) | (simp [*]; done)), H', ⟨by first | omega | exact Nat.le_refl _⟩, by repeat (first | exact Drawn0.refl _ | apply Drawn0.step)⟩
  case rest =>
    clear HC2
    try clear c2
    try clear p2
    try clear c3
    try clear c3b0
    try clear c3b1
    obtain ⟨kq, x12_1, rfl, HA, HJ1, ⟨mc1, rfl⟩⟩ := hcut
    cases kq with
    | zero => exact absurd HA.out (by simp [winnowerref07_name.j0])
    | succ kj1 =>
      have H := HA.out
      clear HA
      simp only [winnowerref07_name.j0] at H
      by_cases c4 : x12_1 = true
      · subst c4
        have H1 : (some false) = some r := by rw [if_pos rfl] at H; exact H
        clear H
        have H := H1
        clear H1
        obtain rfl := Option.some.inj H
        go_wp2
        go_ret
        exact ⟨by first | rfl | (simp; done) | (simp [*]; done), by repeat (first | exact Drawn0.refl _ | apply Drawn0.step)⟩
      · replace c4 := Bool.eq_false_iff.mpr c4
        subst c4
        have H1 : (winnowerref07_name.l0 kj1 a0 0) = some r := by rw [if_neg (show ¬ (false = true) by decide)] at H; exact H
        clear H
        have H := H1
        clear H1
        have H' := z05.mk H
        clear H
        go_wp2
        go_loopg [3] kj1 (fun kq v3 w' => ∃ (x3_2 : Int), v3 = .int .i64 x3_2 ∧ z05 (winnowerref07_name.l0 kq a0 x3_2 = some r) ∧ z05 (kq ≤ kj1) ∧ Drawn0 w w')
        case atStart => exact ⟨(0), (by first | rfl | (simp; done) | (simp [*]; done)), H', ⟨Nat.le_refl _⟩, by repeat (first | exact Drawn0.refl _ | apply Drawn0.step)⟩
        case round =>
          clear H'
          try clear c1
          try clear c2
          try clear p2
          try clear c3
          try clear c3b0
          try clear c3b1
          try clear c4
          try clear p2
          obtain ⟨x3_2, rfl, HA, HK2, ⟨m2, rfl⟩⟩ := hrel
          cases gk with
          | zero => exact absurd HA.out (by simp [winnowerref07_name.l0])
          | succ k2 =>
            have H := HA.out
            clear HA
            simp only [winnowerref07_name.l0] at H
            by_cases c5 : x3_2 < (a0.size : Int)
            · rw [if_pos c5] at H
              have c5b0 : decide (x3_2 < (a0.size : Int)) = true := decide_eq_true c5
              clear c5
              by_cases c6 : 0 ≤ x3_2
              · rw [if_pos c6] at H
                have c6b0 : decide (0 ≤ x3_2) = true := decide_eq_true c6
                clear c6
                by_cases c8 : (bt a0 x3_2) ≥ 97
                · rw [if_pos c8] at H
                  have c8b0 : decide (97 ≤ (bt a0 x3_2)) = true := decide_eq_true c8
                  clear c8
                  by_cases c9 : (bt a0 x3_2) ≤ 122
                  · rw [if_pos c9] at H
                    have c9b0 : decide ((bt a0 x3_2) ≤ 122) = true := decide_eq_true c9
                    clear c9
                    have H' := z05.mk H
                    clear H
                    have p7 : 0 ≤ (x3_2 : Int) := of_decide_eq_true (by first | (with_reducible assumption) | assumption)
                    have q7 : x3_2 < (a0.size : Int) := of_decide_eq_true (by first | (with_reducible assumption) | assumption)
                    have hx7 := bt_at a0 x3_2
                    replace p7 := eq_true p7
                    replace q7 := eq_true q7
                    go_wp2
                    go_roundg k2
                    case measure => have := HJ1.out; have := HK2.out; omega
                    case rel => exact ⟨(wrap64 (x3_2 + 1)), (by first | rfl | (simp; done) | (simp [*]; done)), H', ⟨by have := HJ1.out; have := HK2.out; omega⟩, by repeat (first | exact Drawn0.refl _ | apply Drawn0.step)⟩
                  · rw [if_neg c9] at H
                    have c9b0 : decide ((bt a0 x3_2) ≤ 122) = false := decide_eq_false c9
                    clear c9
                    by_cases c10 : (bt a0 x3_2) ≥ 48
                    · rw [if_pos c10] at H
                      have c10b0 : decide (48 ≤ (bt a0 x3_2)) = true := decide_eq_true c10
                      clear c10
                      by_cases c11 : (bt a0 x3_2) ≤ 57
                      · rw [if_pos c11] at H
                        have c11b0 : decide ((bt a0 x3_2) ≤ 57) = true := decide_eq_true c11
                        clear c11
                        have H' := z05.mk H
                        clear H
                        have p7 : 0 ≤ (x3_2 : Int) := of_decide_eq_true (by first | (with_reducible assumption) | assumption)
                        have q7 : x3_2 < (a0.size : Int) := of_decide_eq_true (by first | (with_reducible assumption) | assumption)
                        have hx7 := bt_at a0 x3_2
                        replace p7 := eq_true p7
                        replace q7 := eq_true q7
                        go_wp2
                        go_roundg k2
                        case measure => have := HJ1.out; have := HK2.out; omega
                        case rel => exact ⟨(wrap64 (x3_2 + 1)), (by first | rfl | (simp; done) | (simp [*]; done)), H', ⟨by have := HJ1.out; have := HK2.out; omega⟩, by repeat (first | exact Drawn0.refl _ | apply Drawn0.step)⟩
                      · rw [if_neg c11] at H
                        have c11b0 : decide ((bt a0 x3_2) ≤ 57) = false := decide_eq_false c11
                        clear c11
                        by_cases c12 : ((bt a0 x3_2) = 95)
                        · rw [if_pos c12] at H
                          have c12b0 : ((bt a0 x3_2) == 95) = true := beq_iff_eq.mpr c12
                          have c12b1 : ((bt a0 x3_2) != 95) = false := bne_eq_false_iff_eq.mpr c12
                          clear c12
                          have H' := z05.mk H
                          clear H
                          have p7 : 0 ≤ (x3_2 : Int) := of_decide_eq_true (by first | (with_reducible assumption) | assumption)
                          have q7 : x3_2 < (a0.size : Int) := of_decide_eq_true (by first | (with_reducible assumption) | assumption)
                          have hx7 := bt_at a0 x3_2
                          replace p7 := eq_true p7
                          replace q7 := eq_true q7
                          go_wp2
                          go_roundg k2
                          case measure => have := HJ1.out; have := HK2.out; omega
                          case rel => exact ⟨(wrap64 (x3_2 + 1)), (by first | rfl | (simp; done) | (simp [*]; done)), H', ⟨by have := HJ1.out; have := HK2.out; omega⟩, by repeat (first | exact Drawn0.refl _ | apply Drawn0.step)⟩
                        · rw [if_neg c12] at H
                          have c12b0 : ((bt a0 x3_2) == 95) = false := beq_eq_false_iff_ne.mpr c12
                          have c12b1 : ((bt a0 x3_2) != 95) = true := bne_iff_ne.mpr c12
                          obtain rfl := Option.some.inj H
                          have p7 : 0 ≤ (x3_2 : Int) := of_decide_eq_true (by first | (with_reducible assumption) | assumption)
                          have q7 : x3_2 < (a0.size : Int) := of_decide_eq_true (by first | (with_reducible assumption) | assumption)
                          have hx7 := bt_at a0 x3_2
                          replace p7 := eq_true p7
                          replace q7 := eq_true q7
                          go_wp2
                          go_ret
                          exact ⟨by first | rfl | (simp; done) | (simp [*]; done), by repeat (first | exact Drawn0.refl _ | apply Drawn0.step)⟩
                    · rw [if_neg c10] at H
                      have c10b0 : decide (48 ≤ (bt a0 x3_2)) = false := decide_eq_false c10
                      clear c10
                      by_cases c13 : ((bt a0 x3_2) = 95)
                      · rw [if_pos c13] at H
                        have c13b0 : ((bt a0 x3_2) == 95) = true := beq_iff_eq.mpr c13
                        have c13b1 : ((bt a0 x3_2) != 95) = false := bne_eq_false_iff_eq.mpr c13
                        clear c13
                        have H' := z05.mk H
                        clear H
                        have p7 : 0 ≤ (x3_2 : Int) := of_decide_eq_true (by first | (with_reducible assumption) | assumption)
                        have q7 : x3_2 < (a0.size : Int) := of_decide_eq_true (by first | (with_reducible assumption) | assumption)
                        have hx7 := bt_at a0 x3_2
                        replace p7 := eq_true p7
                        replace q7 := eq_true q7
                        go_wp2
                        go_roundg k2
                        case measure => have := HJ1.out; have := HK2.out; omega
                        case rel => exact ⟨(wrap64 (x3_2 + 1)), (by first | rfl | (simp; done) | (simp [*]; done)), H', ⟨by have := HJ1.out; have := HK2.out; omega⟩, by repeat (first | exact Drawn0.refl _ | apply Drawn0.step)⟩
                      · rw [if_neg c13] at H
                        have c13b0 : ((bt a0 x3_2) == 95) = false := beq_eq_false_iff_ne.mpr c13
                        have c13b1 : ((bt a0 x3_2) != 95) = true := bne_iff_ne.mpr c13
                        obtain rfl := Option.some.inj H
                        have p7 : 0 ≤ (x3_2 : Int) := of_decide_eq_true (by first | (with_reducible assumption) | assumption)
                        have q7 : x3_2 < (a0.size : Int) := of_decide_eq_true (by first | (with_reducible assumption) | assumption)
                        have hx7 := bt_at a0 x3_2
                        replace p7 := eq_true p7
                        replace q7 := eq_true q7
                        go_wp2
                        go_ret
                        exact ⟨by first | rfl | (simp; done) | (simp [*]; done), by repeat (first | exact Drawn0.refl _ | apply Drawn0.step)⟩
                · rw [if_neg c8] at H
                  have c8b0 : decide (97 ≤ (bt a0 x3_2)) = false := decide_eq_false c8
                  clear c8
                  by_cases c14 : (bt a0 x3_2) ≥ 48
                  · rw [if_pos c14] at H
                    have c14b0 : decide (48 ≤ (bt a0 x3_2)) = true := decide_eq_true c14
                    clear c14
                    by_cases c15 : (bt a0 x3_2) ≤ 57
                    · rw [if_pos c15] at H
                      have c15b0 : decide ((bt a0 x3_2) ≤ 57) = true := decide_eq_true c15
                      clear c15
                      have H' := z05.mk H
                      clear H
                      have p7 : 0 ≤ (x3_2 : Int) := of_decide_eq_true (by first | (with_reducible assumption) | assumption)
                      have q7 : x3_2 < (a0.size : Int) := of_decide_eq_true (by first | (with_reducible assumption) | assumption)
                      have hx7 := bt_at a0 x3_2
                      replace p7 := eq_true p7
                      replace q7 := eq_true q7
                      go_wp2
                      go_roundg k2
                      case measure => have := HJ1.out; have := HK2.out; omega
                      case rel => exact ⟨(wrap64 (x3_2 + 1)), (by first | rfl | (simp; done) | (simp [*]; done)), H', ⟨by have := HJ1.out; have := HK2.out; omega⟩, by repeat (first | exact Drawn0.refl _ | apply Drawn0.step)⟩
                    · rw [if_neg c15] at H
                      have c15b0 : decide ((bt a0 x3_2) ≤ 57) = false := decide_eq_false c15
                      clear c15
                      by_cases c16 : ((bt a0 x3_2) = 95)
                      · rw [if_pos c16] at H
                        have c16b0 : ((bt a0 x3_2) == 95) = true := beq_iff_eq.mpr c16
                        have c16b1 : ((bt a0 x3_2) != 95) = false := bne_eq_false_iff_eq.mpr c16
                        clear c16
                        have H' := z05.mk H
                        clear H
                        have p7 : 0 ≤ (x3_2 : Int) := of_decide_eq_true (by first | (with_reducible assumption) | assumption)
                        have q7 : x3_2 < (a0.size : Int) := of_decide_eq_true (by first | (with_reducible assumption) | assumption)
                        have hx7 := bt_at a0 x3_2
                        replace p7 := eq_true p7
                        replace q7 := eq_true q7
                        go_wp2
                        go_roundg k2
                        case measure => have := HJ1.out; have := HK2.out; omega
                        case rel => exact ⟨(wrap64 (x3_2 + 1)), (by first | rfl | (simp; done) | (simp [*]; done)), H', ⟨by have := HJ1.out; have := HK2.out; omega⟩, by repeat (first | exact Drawn0.refl _ | apply Drawn0.step)⟩
                      · rw [if_neg c16] at H
                        have c16b0 : ((bt a0 x3_2) == 95) = false := beq_eq_false_iff_ne.mpr c16
                        have c16b1 : ((bt a0 x3_2) != 95) = true := bne_iff_ne.mpr c16
                        obtain rfl := Option.some.inj H
                        have p7 : 0 ≤ (x3_2 : Int) := of_decide_eq_true (by first | (with_reducible assumption) | assumption)
                        have q7 : x3_2 < (a0.size : Int) := of_decide_eq_true (by first | (with_reducible assumption) | assumption)
                        have hx7 := bt_at a0 x3_2
                        replace p7 := eq_true p7
                        replace q7 := eq_true q7
                        go_wp2
                        go_ret
                        exact ⟨by first | rfl | (simp; done) | (simp [*]; done), by repeat (first | exact Drawn0.refl _ | apply Drawn0.step)⟩
                  · rw [if_neg c14] at H
                    have c14b0 : decide (48 ≤ (bt a0 x3_2)) = false := decide_eq_false c14
                    clear c14
                    by_cases c17 : ((bt a0 x3_2) = 95)
                    · rw [if_pos c17] at H
                      have c17b0 : ((bt a0 x3_2) == 95) = true := beq_iff_eq.mpr c17
                      have c17b1 : ((bt a0 x3_2) != 95) = false := bne_eq_false_iff_eq.mpr c17
                      clear c17
                      have H' := z05.mk H
                      clear H
                      have p7 : 0 ≤ (x3_2 : Int) := of_decide_eq_true (by first | (with_reducible assumption) | assumption)
                      have q7 : x3_2 < (a0.size : Int) := of_decide_eq_true (by first | (with_reducible assumption) | assumption)
                      have hx7 := bt_at a0 x3_2
                      replace p7 := eq_true p7
                      replace q7 := eq_true q7
                      go_wp2
                      go_roundg k2
                      case measure => have := HJ1.out; have := HK2.out; omega
                      case rel => exact ⟨(wrap64 (x3_2 + 1)), (by first | rfl | (simp; done) | (simp [*]; done)), H', ⟨by have := HJ1.out; have := HK2.out; omega⟩, by repeat (first | exact Drawn0.refl _ | apply Drawn0.step)⟩
                    · rw [if_neg c17] at H
                      have c17b0 : ((bt a0 x3_2) == 95) = false := beq_eq_false_iff_ne.mpr c17
                      have c17b1 : ((bt a0 x3_2) != 95) = true := bne_iff_ne.mpr c17
                      obtain rfl := Option.some.inj H
                      have p7 : 0 ≤ (x3_2 : Int) := of_decide_eq_true (by first | (with_reducible assumption) | assumption)
                      have q7 : x3_2 < (a0.size : Int) := of_decide_eq_true (by first | (with_reducible assumption) | assumption)
                      have hx7 := bt_at a0 x3_2
                      replace p7 := eq_true p7
                      replace q7 := eq_true q7
                      go_wp2
                      go_ret
                      exact ⟨by first | rfl | (simp; done) | (simp [*]; done), by repeat (first | exact Drawn0.refl _ | apply Drawn0.step)⟩
              · rw [if_neg c6] at H
                exact absurd H (by simp)
            · rw [if_neg c5] at H
              have c5b0 : decide (x3_2 < (a0.size : Int)) = false := decide_eq_false c5
              clear c5
              obtain rfl := Option.some.inj H
              go_wp2
              go_ret
              exact ⟨by first | rfl | (simp; done) | (simp [*]; done), by repeat (first | exact Drawn0.refl _ | apply Drawn0.step)⟩

/-! ### winnowerref07_whole: function 29 -/
def winnowerref07_whole.f (l0_0 : List (S48)) (a0_1 : Int) (a0_2 : Int) (a0_3 : Int) (a0_4 : Int) (a1 : Int) : Option (Bool) := if a1 ≥ 0 then (if a1 < (l0_0.length : Int) then (if 0 ≤ a1 then (some (!((rd_T48 l0_0 a1).f2))) else (none)) else (some false)) else (some false)
set_option maxHeartbeats 8000000 in
set_option maxRecDepth 100000 in
theorem winnowerref07_whole.calls (A0_0 : Option Addr) (c0_0 : Nat) (l0_0 : List (S48)) (a0_1 : Int) (a0_2 : Int) (a0_3 : Int) (a0_4 : Int) (a1 : Int) (r : Bool) (w : World) (hr0_0 : Kd.C k48 w A0_0 l0_0.length l0_0) (hc0_0 : l0_0.length ≤ c0_0) (h : winnowerref07_whole.f l0_0 a0_1 a0_2 a0_3 a0_4 a1 = some r) :
    Calls Tryd.prog 29 #[.agg #[.slice A0_0 l0_0.length c0_0, .int .i64 a0_1, .int .i64 a0_2, .int .i64 a0_3, .int .i64 a0_4], .int .i64 a1] w fun e w' => e = .returned (.bool r) ∧ Below w.heap.size w w' := by
  have hu24 := Tryd.underlying24
  have HR0_0 := z05.mk hr0_0
  have HC0_0 := z05.mk hc0_0
  clear hr0_0 hc0_0
  have HB := z05.mk (Below.refl w.heap.size w)
  have H : (if a1 ≥ 0 then (if a1 < (l0_0.length : Int) then (if 0 ≤ a1 then (some (!((rd_T48 l0_0 a1).f2))) else (none)) else (some false)) else (some false)) = some r := h
  clear h
  by_cases c3 : a1 ≥ 0
  · rw [if_pos c3] at H
    have c3b0 : decide (0 ≤ a1) = true := decide_eq_true c3
    clear c3
    by_cases c4 : a1 < (l0_0.length : Int)
    · rw [if_pos c4] at H
      have c4b0 : decide (a1 < (l0_0.length : Int)) = true := decide_eq_true c4
      clear c4
      by_cases c5 : 0 ≤ a1
      · rw [if_pos c5] at H
        have c5b0 : decide (0 ≤ a1) = true := decide_eq_true c5
        clear c5
        obtain rfl := Option.some.inj H
        go_enter Tryd.func29, Tryd.ntmps29
        go_wp2_with (first | ((with_reducible refine gate_dst (N := 2) rfl ?_); (try (refine gate_guard (by rfl) ?_; dsimp only)); refine box_event ?hg (N := 2) ?hd (cs := #[.slice A0_0 l0_0.length c0_0, .int .i64 a0_1, .int .i64 a0_2, .int .i64 a0_3, .int .i64 a0_4]) (t := 24) ?hr ?_; (case hd => rfl); (case hg => rfl); (case hr => first | (go_simp; done) | (go_simp; rfl)); intro gb228 hg w6 hbox hb; have n0_ := z05.mk (below_step (by repeat (first | (with_reducible first | exact HB.out | apply z02 | apply z00 | apply z03) | exact HB.out)) hb); have n1_ := z05.mk (hbox); have n2_ := z05.mk ((by rw [hg]; exact (below_size (by repeat (first | (with_reducible first | exact HB.out | apply z02 | apply z00 | apply z03) | exact HB.out))) : w.heap.size ≤ gb228)); have n3_ := z05.mk ((by rw [hg]; exact (below_size (by repeat (first | (with_reducible first | exact HB.out | apply z02 | apply z00 | apply z03) | exact HB.out))) : w.heap.size ≤ gb228)); clear HB; have HB := n0_; have BK228 := n1_; have GW228 := n2_; have GE228 := n3_; clear n0_ n1_ n2_ n3_; clear hb hbox hg; have hcz7_0 : w6.cell? ⟨gb228, 0, none⟩ = some (.slice A0_0 l0_0.length c0_0) := (z04 BK228.out 0).trans rfl; have hcz7_1 : w6.cell? ⟨gb228, 1, none⟩ = some (.int .i64 a0_1) := (z04 BK228.out 1).trans rfl; have hcz7_2 : w6.cell? ⟨gb228, 2, none⟩ = some (.int .i64 a0_2) := (z04 BK228.out 2).trans rfl; have hcz7_3 : w6.cell? ⟨gb228, 3, none⟩ = some (.int .i64 a0_3) := (z04 BK228.out 3).trans rfl; have hcz7_4 : w6.cell? ⟨gb228, 4, none⟩ = some (.int .i64 a0_4) := (z04 BK228.out 4).trans rfl; have hfz7_0 := z01 BK228.out 0; have hfz7_1 := z01 BK228.out 1; have hfz7_2 := z01 BK228.out 2; have hfz7_3 := z01 BK228.out 3; have hfz7_4 := z01 BK228.out 4; have p229 : 0 ≤ (a1 : Int) := of_decide_eq_true (by first | (with_reducible assumption) | assumption); have q229 : a1 < (l0_0.length : Int) := of_decide_eq_true (by first | (with_reducible assumption) | assumption); obtain ⟨ad229, e229, hx229_0, hx229_1, hx229_2⟩ := at_T48 HR0_0.out a1 p229 q229; cases e229; replace hx229_0 := (HB.out.cell (World.block_lt_of_cell? w _ hx229_0)).trans hx229_0; replace hx229_1 := (HB.out.cell (World.block_lt_of_cell? w _ hx229_1)).trans hx229_1; replace hx229_2 := (HB.out.cell (World.block_lt_of_cell? w _ hx229_2)).trans hx229_2; replace p229 := eq_true p229; replace q229 := eq_true q229))
        go_ret
        exact ⟨by first | rfl | (simp [errW_none, errW_some] <;> rfl) | (refine congrArg (fun b_ : Bool => Ending.returned (Value.bool b_)) ?_; simp; done) | (simp [*, errW_none, errW_some] <;> rfl), by repeat (first | (with_reducible first | exact HB.out | apply z02 | apply z00 | apply z03 | refine z09 ?_ GE228.out) | exact HB.out)⟩
      · rw [if_neg c5] at H
        exact absurd H (by simp)
    · rw [if_neg c4] at H
      have c4b0 : decide (a1 < (l0_0.length : Int)) = false := decide_eq_false c4
      clear c4
      obtain rfl := Option.some.inj H
      go_enter Tryd.func29, Tryd.ntmps29
      go_wp2_with (first | ((with_reducible refine gate_dst (N := 2) rfl ?_); (try (refine gate_guard (by rfl) ?_; dsimp only)); refine box_event ?hg (N := 2) ?hd (cs := #[.slice A0_0 l0_0.length c0_0, .int .i64 a0_1, .int .i64 a0_2, .int .i64 a0_3, .int .i64 a0_4]) (t := 24) ?hr ?_; (case hd => rfl); (case hg => rfl); (case hr => first | (go_simp; done) | (go_simp; rfl)); intro gb228 hg w8 hbox hb; have n0_ := z05.mk (below_step (by repeat (first | (with_reducible first | exact HB.out | apply z02 | apply z00 | apply z03) | exact HB.out)) hb); have n1_ := z05.mk (hbox); have n2_ := z05.mk ((by rw [hg]; exact (below_size (by repeat (first | (with_reducible first | exact HB.out | apply z02 | apply z00 | apply z03) | exact HB.out))) : w.heap.size ≤ gb228)); have n3_ := z05.mk ((by rw [hg]; exact (below_size (by repeat (first | (with_reducible first | exact HB.out | apply z02 | apply z00 | apply z03) | exact HB.out))) : w.heap.size ≤ gb228)); clear HB; have HB := n0_; have BK228 := n1_; have GW228 := n2_; have GE228 := n3_; clear n0_ n1_ n2_ n3_; clear hb hbox hg; have hcz9_0 : w8.cell? ⟨gb228, 0, none⟩ = some (.slice A0_0 l0_0.length c0_0) := (z04 BK228.out 0).trans rfl; have hcz9_1 : w8.cell? ⟨gb228, 1, none⟩ = some (.int .i64 a0_1) := (z04 BK228.out 1).trans rfl; have hcz9_2 : w8.cell? ⟨gb228, 2, none⟩ = some (.int .i64 a0_2) := (z04 BK228.out 2).trans rfl; have hcz9_3 : w8.cell? ⟨gb228, 3, none⟩ = some (.int .i64 a0_3) := (z04 BK228.out 3).trans rfl; have hcz9_4 : w8.cell? ⟨gb228, 4, none⟩ = some (.int .i64 a0_4) := (z04 BK228.out 4).trans rfl; have hfz9_0 := z01 BK228.out 0; have hfz9_1 := z01 BK228.out 1; have hfz9_2 := z01 BK228.out 2; have hfz9_3 := z01 BK228.out 3; have hfz9_4 := z01 BK228.out 4))
      go_ret
      exact ⟨by first | rfl | (simp [errW_none, errW_some] <;> rfl) | (refine congrArg (fun b_ : Bool => Ending.returned (Value.bool b_)) ?_; simp; done) | (simp [*, errW_none, errW_some] <;> rfl), by repeat (first | (with_reducible first | exact HB.out | apply z02 | apply z00 | apply z03 | refine z09 ?_ GE228.out) | exact HB.out)⟩
  · rw [if_neg c3] at H
    have c3b0 : decide (0 ≤ a1) = false := decide_eq_false c3
    clear c3
    obtain rfl := Option.some.inj H
    go_enter Tryd.func29, Tryd.ntmps29
    go_wp2_with (first | ((with_reducible refine gate_dst (N := 2) rfl ?_); (try (refine gate_guard (by rfl) ?_; dsimp only)); refine box_event ?hg (N := 2) ?hd (cs := #[.slice A0_0 l0_0.length c0_0, .int .i64 a0_1, .int .i64 a0_2, .int .i64 a0_3, .int .i64 a0_4]) (t := 24) ?hr ?_; (case hd => rfl); (case hg => rfl); (case hr => first | (go_simp; done) | (go_simp; rfl)); intro gb228 hg w10 hbox hb; have n0_ := z05.mk (below_step (by repeat (first | (with_reducible first | exact HB.out | apply z02 | apply z00 | apply z03) | exact HB.out)) hb); have n1_ := z05.mk (hbox); have n2_ := z05.mk ((by rw [hg]; exact (below_size (by repeat (first | (with_reducible first | exact HB.out | apply z02 | apply z00 | apply z03) | exact HB.out))) : w.heap.size ≤ gb228)); have n3_ := z05.mk ((by rw [hg]; exact (below_size (by repeat (first | (with_reducible first | exact HB.out | apply z02 | apply z00 | apply z03) | exact HB.out))) : w.heap.size ≤ gb228)); clear HB; have HB := n0_; have BK228 := n1_; have GW228 := n2_; have GE228 := n3_; clear n0_ n1_ n2_ n3_; clear hb hbox hg))
    go_ret
    exact ⟨by first | rfl | (simp [errW_none, errW_some] <;> rfl) | (refine congrArg (fun b_ : Bool => Ending.returned (Value.bool b_)) ?_; simp; done) | (simp [*, errW_none, errW_some] <;> rfl), by repeat (first | (with_reducible first | exact HB.out | apply z02 | apply z00 | apply z03 | refine z09 ?_ GE228.out) | exact HB.out)⟩

end Go.Proofs.YteefchdfdgfaaaaDoor.Q
namespace Go.Proofs.YteefchdfdgfaaaaDoor.Q
open Go.RowKit Go.Proofs.YteefchdfdgfaaaaDoorW.PrintWords Go.Proofs.YteefchdfdgfaaaaDoorW.PrintLast Go.Proofs.YteefchdfdgfaaaaDoorW.PrintMore
attribute [local go_sem] max2_int min2_int max_two min_two max_three min_three max_four min_four   -- for this text's walks alone
set_option linter.unusedVariables false
set_option linter.unusedSimpArgs false

theorem eqA46 (d : Nat) (w : World) (x0 y0 : Int) (x1 y1 : Int) (x2 y2 : ByteArray) (x3 y3 : Bool) :
    (Op.equalIn (d + 2) 46 (.agg #[.int .i64 x0, .int .i64 x1, .string x2, .bool x3]) (.agg #[.int .i64 y0, .int .i64 y1, .string y2, .bool y3])).run Tryd.prog w = .ok (x0 == y0 && (x1 == y1 && (x2.toList == y2.toList && (x3 == y3)))) w := by
  refine eqA_of Tryd.underlying46 (by kernel_rfl) ?_
  refine eqf_cons (by rfl) (by go_simp; rfl) (by go_simp; rfl) (by go_simp) ?_
  refine eqf_cons (by rfl) (by go_simp; rfl) (by go_simp; rfl) (by go_simp) ?_
  refine eqf_cons (by rfl) (by go_simp; rfl) (by go_simp; rfl) (by go_simp) ?_
  exact eqf_last (by rfl) (by go_simp; rfl) (by go_simp; rfl) (by go_simp)
end Go.Proofs.YteefchdfdgfaaaaDoor.Q
