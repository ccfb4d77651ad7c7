/- Chapter 07: what the document's functions answer. Chapter 07: SchemaTells, SchemaDecodes answer true. Chapter 07: a law's call with a schema that is read as data. What a law's arguments are, read as data: opened to rows of any kind. What the listed variables of the library give: the handle of the type error. -/
import Derived.Test.YteefchdfdgfaaaaDoorJ0
import Derived.Test.YteefchdfdgfaaaaDoorJ4
import Derived.Test.YteefchdfdgfaaaaDoorJ7
import Derived.Test.YteefchdfdgfaaaaDoorJ1
import Derived.Test.YteefchdfdgfaaaaDoorJ2
import Derived.Test.YteefchdfdgfaaaaDoorQx5
import Derived.Test.YteefchdfdgfaaaaDoorJ3
import Derived.Test.YteefchdfdgfaaaaDoorQx18
import Derived.Test.YteefchdfdgfaaaaDoorQx22
import Derived.Test.YteefchdfdgfaaaaDoorQx23
import Derived.Test.YteefchdfdgfaaaaDoorJ6
import Derived.Test.YteefchdfdgfaaaaDoorQx12
import Derived.Test.YteefchdfdgfaaaaDoorJ5
import Derived.Deep.Slices
import Derived.Deep.Fields
import Derived.ChangeSame
import Derived.OpenShut
import Derived.Test.YteefchdfdgfaaaaDoorWWords
import Derived.Test.YteefchdfdgfaaaaDoorWArr
import Derived.Test.YteefchdfdgfaaaaDoorWMore
import Derived.Test.YteefchdfdgfaaaaDoorRows
import Derived.ProofKit
import Derived.LaidMore
import Derived.Lay
import Derived.LaidLaws
import Derived.LaidHandle
import Derived.Stop.Joined
namespace Go.Proofs.YteefchdfdgfaaaaDoor.Q
open Go.RowKit Go.Proofs.YteefchdfdgfaaaaDoorW.PrintWords Go.Proofs.YteefchdfdgfaaaaDoorW.PrintLast Go.Proofs.YteefchdfdgfaaaaDoorW.PrintMore
attribute [local go_sem] max2_int min2_int max_two min_two max_three min_three max_four min_four   -- for this text's walks alone
set_option linter.unusedVariables false
set_option linter.unusedSimpArgs false

-- SAYS Chapter 07: what the document's functions answer.
-- FUNCS winnower/winnowerref07.Encode winnower/winnowerref07.Decode winnower/winnowerref07.Find
-- NEEDS schema_May.f schema_Find.f winnowerref07_May.f winnowerref07_name.f winnowerref07_whole.f winnowerref07_Fits.f winnowerref07_Encode.f winnowerref07_Find.f winnowerref07_Decode.f winnowerref06_May.f winnowerref06_Put.f winnowerref06_Get.f winnowerref01_Get.f winnowerref01_GetLen.f schema_keyed.f schema_of.f schema_name.f
-- IMPORT Derived.Test.YteefchdfdgfaaaaDoorHnum
-- IMPORT Derived.Test.YteefchdfdgfaaaaDoorHval
-- IMPORT Derived.Test.YteefchdfdgfaaaaDoorHsch07
-- IMPORT Derived.Test.YteefchdfdgfaaaaDoorHsch07b
-- IMPORT Derived.Test.YteefchdfdgfaaaaDoorHrefget
open Go.Proofs.YteefchdfdgfaaaaDoor.Hnum Go.Proofs.YteefchdfdgfaaaaDoor.Hval
/-- May a byte stand in a name? -/
def okb (b : UInt8) : Bool := (decide (97 ≤ b.toNat) && decide (b.toNat ≤ 122)) || ((decide (48 ≤ b.toNat) && decide (b.toNat ≤ 57)) || decide (b.toNat = 95))
def letters : List UInt8 := [97, 98, 99, 100, 101, 102, 103, 104, 105, 106, 107, 108, 109, 110, 111, 112, 113, 114, 115, 116, 117, 118, 119, 120, 121, 122, 48, 49, 50, 51, 52, 53, 54, 55, 56, 57, 95]
set_option maxRecDepth 100000 in
theorem okb_nat : ∀ n, n < 256 → letters.contains (UInt8.ofNat n) = okb (UInt8.ofNat n) := by decide
theorem okb_letters (b : UInt8) : letters.contains b = okb b := by
  have h := okb_nat b.toNat b.toNat_lt
  rwa [UInt8.ofNat_toNat] at h
theorem mem_dropWhile {α : Type} {p : α → Bool} {x : α} : ∀ {l : List α}, x ∈ l → p x = false → x ∈ l.dropWhile p
  | [], h, _ => by cases h
  | y :: t, h, hp => by
    rw [List.dropWhile_cons]
    cases hy : p y with
    | false => exact h
    | true =>
      rcases List.mem_cons.mp h with rfl | h
      · rw [hp] at hy; cases hy
      · exact mem_dropWhile h hp
theorem dropWhile_all {α : Type} {p : α → Bool} : ∀ {l : List α}, (∀ x ∈ l, p x = true) → l.dropWhile p = []
  | [], _ => rfl
  | y :: t, h => by
    rw [List.dropWhile_cons, if_pos (h y (List.mem_cons_self ..))]
    exact dropWhile_all fun x hx => h x (List.mem_cons_of_mem _ hx)
theorem trim_none (l cs : List UInt8) : (Lib.trimS l cs == ([] : List UInt8)) = l.all (cs.contains ·) := by
  unfold Lib.trimS Lib.trimLeftS Lib.trimRightS
  cases h : l.all (cs.contains ·) with
  | true =>
    rw [List.all_eq_true] at h
    rw [dropWhile_all (l := l.reverse) fun x hx => h x (List.mem_reverse.mp hx)]
    rfl
  | false =>
    have h2 : ∃ x ∈ l, cs.contains x = false := by
      have h3 := h
      rw [List.all_eq_false] at h3
      obtain ⟨x, hx, h4⟩ := h3
      exact ⟨x, hx, by simpa using h4⟩
    obtain ⟨x, hx, hp⟩ := h2
    have h3 := mem_dropWhile (p := (cs.contains ·)) (List.mem_reverse.mpr (mem_dropWhile (p := (cs.contains ·)) (List.mem_reverse.mpr hx) hp)) hp
    cases e : List.dropWhile (cs.contains ·) (List.dropWhile (cs.contains ·) l.reverse).reverse with
    | nil => rw [e] at h3; cases h3
    | cons a b => rfl
theorem name_all (s : ByteArray) : nameS s = (decide (1 ≤ s.size) && (decide (s.size ≤ 16) && s.data.toList.all okb)) := by
  by_cases h1 : (s.size : Int) ≥ 1
  · by_cases h2 : (s.size : Int) ≤ 16
    · rw [name_trim s h1 h2, trim_none, decide_eq_true (show 1 ≤ s.size by omega), decide_eq_true (show s.size ≤ 16 by omega)]
      show s.data.toList.all (letters.contains ·) = _
      rw [show (fun x => letters.contains x) = okb from funext okb_letters]
      rfl
    · rw [decide_eq_false (show ¬ s.size ≤ 16 by omega)]
      unfold nameS schema_name.f
      rw [if_pos h1, if_neg h2]
      simp
  · rw [decide_eq_false (show ¬ 1 ≤ s.size by omega)]
    unfold nameS schema_name.f
    rw [if_neg h1]
    rfl
theorem bt_list (s : ByteArray) {i : Nat} (h : i < s.data.toList.length) : bt s (i : Int) = ((s.data.toList[i]).toNat : Int) := by
  unfold bt
  rw [dif_pos (show ((i : Int)).toNat < s.size by rw [Int.toNat_natCast]; simpa using h)]
  rfl
theorem size_list (s : ByteArray) : s.data.toList.length = s.size := rfl
theorem name_go (s : ByteArray) (hs : s.size ≤ 16) (q : Nat) : ∀ (d i : Nat), i + d = s.size → winnowerref07_name.l0 (d + q + 1) s (i : Int) = some ((s.data.toList.drop i).all okb) := by
  intro d
  induction d with
  | zero =>
    intro i hi
    rw [Nat.zero_add]
    simp only [winnowerref07_name.l0]
    rw [if_neg (by omega), List.drop_of_length_le (by rw [size_list]; omega)]
    rfl
  | succ d ih =>
    intro i hi
    have hk : i < s.data.toList.length := by rw [size_list]; omega
    rw [show d + 1 + q + 1 = (d + q + 1) + 1 by omega]
    rw [winnowerref07_name.l0, if_pos (by omega), if_pos (by omega), wr1 (by omega), ih (i + 1) (by omega), List.drop_eq_getElem_cons hk, List.all_cons, bt_list s hk]
    generalize s.data.toList[i] = b
    generalize List.all (List.drop (i + 1) s.data.toList) okb = R
    unfold okb
    by_cases c1 : 97 ≤ b.toNat
    · rw [if_pos (by omega)]
      by_cases c2 : b.toNat ≤ 122
      · rw [if_pos (by omega), decide_eq_true c1, decide_eq_true c2]; rfl
      · rw [if_neg (by omega), if_pos (by omega), if_neg (by omega), if_neg (by omega), decide_eq_false c2, decide_eq_false (show ¬ b.toNat ≤ 57 by omega), decide_eq_false (show ¬ b.toNat = 95 by omega)]
        simp
    · rw [if_neg (by omega), decide_eq_false c1]
      by_cases c2 : 48 ≤ b.toNat
      · rw [if_pos (by omega), decide_eq_true c2]
        by_cases c3 : b.toNat ≤ 57
        · rw [if_pos (by omega), decide_eq_true c3]; simp
        · rw [if_neg (by omega), decide_eq_false c3]
          by_cases c4 : b.toNat = 95
          · rw [if_pos (by omega), decide_eq_true c4]; simp
          · rw [if_neg (by omega), decide_eq_false c4]; simp
      · rw [if_neg (by omega), decide_eq_false c2]
        by_cases c4 : b.toNat = 95
        · rw [if_pos (by omega), decide_eq_true c4]; simp
        · rw [if_neg (by omega), decide_eq_false c4]; simp
theorem name_ref (s : ByteArray) {k : Nat} (hk : 20 ≤ k) : winnowerref07_name.f k s = some (nameS s) := by
  rw [name_all]
  obtain ⟨q, rfl⟩ : ∃ q, k = q + 20 := ⟨k - 20, by omega⟩
  unfold winnowerref07_name.f
  by_cases h1 : s.size < 1
  · rw [if_pos (by omega), decide_eq_false (show ¬ 1 ≤ s.size by omega), show q + 20 = (q + 19) + 1 by omega]
    simp only [winnowerref07_name.j0]
    rfl
  · rw [if_neg (by omega), decide_eq_true (show 1 ≤ s.size by omega)]
    by_cases h2 : s.size ≤ 16
    · rw [decide_eq_false (show ¬ ((s.size : Int) > 16) by omega), decide_eq_true h2, show q + 20 = (s.size + (q + 18 - s.size) + 1) + 1 by omega, winnowerref07_name.j0, if_neg (by decide)]
      exact name_go s h2 _ s.size 0 (by omega)
    · rw [decide_eq_true (show ((s.size : Int) > 16) by omega), decide_eq_false h2, show q + 20 = (q + 19) + 1 by omega, winnowerref07_name.j0, if_pos rfl]
      rfl
theorem find_none (a : ByteArray) (x : S48) (rest : List S48) (hx : x.f0.toList = a.toList) : ∀ (pre : List S48) (k : Int), (∀ y ∈ pre, ¬ y.f0.toList = a.toList) → findC a (pre ++ x :: rest) k = k + pre.length
  | [], k, _ => by
    show findC a (x :: rest) k = _
    unfold findC
    rw [if_pos (by simpa using hx)]
    simp
  | y :: t, k, h => by
    show findC a (y :: (t ++ x :: rest)) k = _
    unfold findC
    rw [if_neg (by simpa using h y (List.mem_cons_self ..)), find_none a x rest hx t (k + 1) fun z hz => h z (List.mem_cons_of_mem _ hz), List.length_cons]
    omega
theorem find_some (a : ByteArray) (X : List S48) : ∀ (pre : List S48) (k : Int), (∃ y ∈ pre, y.f0.toList = a.toList) → findC a (pre ++ X) k < k + pre.length
  | [], k, h => by obtain ⟨y, hy, _⟩ := h; cases hy
  | y :: t, k, h => by
    show findC a (y :: (t ++ X)) k < _
    unfold findC
    by_cases e : y.f0.toList = a.toList
    · rw [if_pos (by simpa using e), List.length_cons]; omega
    · rw [if_neg (by simpa using e), List.length_cons]
      obtain ⟨z, hz, h2⟩ := h
      rcases List.mem_cons.mp hz with rfl | hz
      · exact absurd h2 e
      · have := find_some a X t (k + 1) ⟨z, hz, h2⟩
        omega
/-- Does a name stand among the columns from j up to i? -/
def dupC (l : List S48) (a : ByteArray) (j i : Nat) : Bool := ((l.take i).drop j).any fun y => decide (y.f0.toList = a.toList)
theorem find_dup (l : List S48) {i : Nat} (h : i < l.length) : decide (findC l[i].f0 l 0 = (i : Int)) = !dupC l l[i].f0 0 i := by
  have hl : l = l.take i ++ l[i] :: l.drop (i + 1) := by rw [← List.drop_eq_getElem_cons h, List.take_append_drop]
  have hlen : (l.take i).length = i := by rw [List.length_take]; omega
  cases hd : dupC l l[i].f0 0 i with
  | true =>
    unfold dupC at hd
    rw [List.drop_zero, List.any_eq_true] at hd
    obtain ⟨y, hy, e⟩ := hd
    have g := find_some l[i].f0 (l[i] :: l.drop (i + 1)) (l.take i) 0 ⟨y, hy, by simpa using e⟩
    rw [← hl, hlen] at g
    exact decide_eq_false (by omega)
  | false =>
    unfold dupC at hd
    rw [List.drop_zero, List.any_eq_false] at hd
    have g := find_none l[i].f0 l[i] (l.drop (i + 1)) rfl (l.take i) 0 (fun y hy => by simpa using hd y hy)
    rw [← hl, hlen] at g
    exact decide_eq_true (by omega)
theorem whole_cases (l : List S48) (a1 a2 a3 a4 x : Int) : (0 ≤ x ∧ x < (l.length : Int) ∧ winnowerref07_whole.f l a1 a2 a3 a4 x = some true ∧ ∀ k, schema_of.f l a1 a2 a3 a4 x k = some (if k = 0 then true else (rd_T48 l x).f1 == k)) ∨ (winnowerref07_whole.f l a1 a2 a3 a4 x = some false ∧ ∀ k, schema_of.f l a1 a2 a3 a4 x k = some false) := by
  unfold winnowerref07_whole.f schema_of.f
  by_cases h0 : x ≥ 0
  · by_cases h1 : x < (l.length : Int)
    · rw [if_pos h0, if_pos h1, if_pos h0]
      cases hn : (rd_T48 l x).f2 with
      | true => exact .inr ⟨rfl, fun k => by rw [if_pos h0, if_pos h1, if_pos h0, if_pos rfl]⟩
      | false =>
        refine .inl ⟨h0, h1, rfl, fun k => ?_⟩
        rw [if_pos h0, if_pos h1, if_pos h0, if_neg (by decide)]
        split <;> rfl
    · exact .inr ⟨by rw [if_pos h0, if_neg h1], fun k => by rw [if_pos h0, if_neg h1]⟩
  · exact .inr ⟨by rw [if_neg h0], fun k => by rw [if_neg h0]⟩
/-- What the document says of the numbers of a schema. -/
def keyR (l : List S48) (a1 a2 a3 a4 : Int) : Option Bool := if a1 = (-1) then (if a2 = (-1) then (some (a3 == (-1))) else (some false)) else ((winnowerref07_whole.f l a1 a2 a3 a4 a1).bind fun t235 => (if t235 = true then ((winnowerref07_whole.f l a1 a2 a3 a4 a2).bind fun t236 => (if t236 = true then (if 0 ≤ a2 then (if a2 < (l.length : Int) then (if ((rd_T48 l a2).f1) = 1 then (if a3 = (-1) then (some true) else ((winnowerref07_whole.f l a1 a2 a3 a4 a3).bind fun t238 => (if t238 = true then (if 0 ≤ a3 then (if a3 < (l.length : Int) then (some (((rd_T48 l a3).f1) == 3)) else (none)) else (none)) else (some false)))) else (some false)) else (none)) else (none)) else (some false))) else (some false)))
theorem key_tell (l : List S48) (a1 a2 a3 a4 : Int) : keyR l a1 a2 a3 a4 = some (keyedS l a1 a2 a3 a4) := by
  rw [← keyed_tell]
  unfold keyR schema_keyed.f
  by_cases h1 : a1 = -1
  · rw [if_pos h1, if_pos h1]
  · rw [if_neg h1, if_neg h1]
    rcases whole_cases l a1 a2 a3 a4 a1 with ⟨_, _, e1, e2⟩ | ⟨e1, e2⟩
    · rw [e1, e2, Option.bind_some, Option.bind_some, if_pos rfl, if_pos rfl, if_pos rfl]
      rcases whole_cases l a1 a2 a3 a4 a2 with ⟨b1, b2, e3, e4⟩ | ⟨e3, e4⟩
      · rw [e3, e4, Option.bind_some, Option.bind_some, if_pos rfl, if_pos b1, if_pos b2, if_neg (show ¬ ((1 : Int) = 0) by decide)]
        by_cases h2 : (rd_T48 l a2).f1 = 1
        · rw [if_pos h2, if_pos (show (((rd_T48 l a2).f1 == 1) = true) by rw [h2]; rfl)]
          by_cases h3 : a3 = -1
          · rw [if_pos h3, if_pos h3]
          · rw [if_neg h3, if_neg h3]
            rcases whole_cases l a1 a2 a3 a4 a3 with ⟨c1, c2, e5, e6⟩ | ⟨e5, e6⟩
            · rw [e5, e6, Option.bind_some, Option.bind_some, if_pos rfl, if_pos c1, if_pos c2, if_neg (show ¬ ((3 : Int) = 0) by decide)]
            · rw [e5, e6, Option.bind_some, Option.bind_some, if_neg (by decide)]
        · rw [if_neg h2, if_neg (by simpa using h2)]
      · rw [e3, e4, Option.bind_some, Option.bind_some, if_neg (by decide), if_neg (by decide)]
    · rw [e1, e2, Option.bind_some, Option.bind_some, if_neg (by decide), if_neg (by decide)]
theorem dup_step (l : List S48) (a : ByteArray) {j i : Nat} (h : j < i) (hi : i ≤ l.length) : dupC l a j i = (decide ((l[j]'(by omega)).f0.toList = a.toList) || dupC l a (j + 1) i) := by
  unfold dupC
  have hj : j < (l.take i).length := by rw [List.length_take]; omega
  rw [List.drop_eq_getElem_cons hj, List.any_cons, List.getElem_take]
theorem dup_end (l : List S48) (a : ByteArray) {i : Nat} : dupC l a i i = false := by
  unfold dupC
  rw [List.drop_of_length_le (by rw [List.length_take]; omega)]
  rfl
theorem may_in {l : List S48} (hl : l.length ≤ 8) (a1 a2 a3 a4 : Int) {i : Nat} (hi : i < l.length) (x0 : ByteArray) (x1 : Int) (x2 : Bool) (q : Nat) : ∀ (d j : Nat), j + d = i →
    ∀ r, winnowerref07_May.l0 q ((i + 1 : Nat) : Int) l a1 a2 a3 a4 = some r → winnowerref07_May.l1 (q + d + 1) (i : Int) (j : Int) l a1 a2 a3 a4 x0 x1 x2 = some (!dupC l x0 j i && r) := by
  intro d
  induction d with
  | zero =>
    intro j hj r hr
    have e : j = i := by omega
    subst e
    rw [Nat.add_zero, winnowerref07_May.l1, if_neg (by omega), wr1 (by omega), hr, dup_end]
    rfl
  | succ d ih =>
    intro j hj r hr
    rw [show q + (d + 1) + 1 = (q + d + 1) + 1 by omega, winnowerref07_May.l1, if_pos (by omega), if_pos (by omega), if_pos (by omega), rd48_at (show j < l.length by omega), wr1 (by omega), ih (j + 1) (by omega) r hr, dup_step l x0 (show j < i by omega) (by omega)]
    by_cases e : (l[j]'(by omega)).f0.toList = x0.toList
    · rw [if_pos e, decide_eq_true e]; rfl
    · rw [if_neg e, decide_eq_false e]; rfl
theorem may_ref_go {l : List S48} (hl : l.length ≤ 8) (a1 a2 a3 a4 : Int) : ∀ (d i q : Nat), i + d = l.length → winnowerref07_May.l0 (12 * d + q + 30) (i : Int) l a1 a2 a3 a4 = some (colsS l (l.drop i) (i : Int) && keyedS l a1 a2 a3 a4) := by
  intro d
  induction d with
  | zero =>
    intro i q hi
    rw [show 12 * 0 + q + 30 = (q + 29) + 1 by omega, winnowerref07_May.l0, if_neg (by omega), List.drop_of_length_le (by omega)]
    exact key_tell l a1 a2 a3 a4
  | succ d ih =>
    intro i q hi
    have hk : i < l.length := by omega
    rw [show 12 * (d + 1) + q + 30 = ((((12 * d + (q + 9 - i) + 30) + i + 1)) + 1) + 1 by omega, winnowerref07_May.l0, if_pos (by omega), if_pos (by omega), rd48_at hk, name_ref _ (by omega), Option.bind_some, List.drop_eq_getElem_cons hk]
    have h2 := may_in hl a1 a2 a3 a4 hk l[i].f0 l[i].f1 l[i].f2 _ i 0 (by omega) _ (ih (i + 1) (q + 9 - i) (by omega))
    have e : colsS l (l[i] :: l.drop (i + 1)) (i : Int) = (nameS l[i].f0 && (decide (1 ≤ l[i].f1) && (decide (l[i].f1 ≤ 3) && (!dupC l l[i].f0 0 i && colsS l (l.drop (i + 1)) ((i + 1 : Nat) : Int))))) := by
      rw [colsS, find_dup l hk]
      rfl
    rw [e]
    have bad2 : ∀ k, winnowerref07_May.j2 (k + 1) (i : Int) true l a1 a2 a3 a4 l[i].f0 l[i].f1 l[i].f2 = some false := fun k => by rw [winnowerref07_May.j2, if_pos rfl]
    cases nameS l[i].f0 with
    | false => rw [if_neg (by decide), bad2]; rfl
    | true =>
      rw [if_pos rfl]
      by_cases c1 : l[i].f1 < 1
      · rw [if_pos c1, bad2, decide_eq_false (show ¬ 1 ≤ l[i].f1 by omega)]; rfl
      · rw [if_neg c1, decide_eq_true (show 1 ≤ l[i].f1 by omega)]
        by_cases c3 : l[i].f1 > 3
        · rw [decide_eq_true c3, bad2, decide_eq_false (show ¬ l[i].f1 ≤ 3 by omega)]; rfl
        · rw [decide_eq_false c3, decide_eq_true (show l[i].f1 ≤ 3 by omega), winnowerref07_May.j2, if_neg (by decide)]
          refine h2.trans ?_
          simp only [Bool.true_and, Bool.and_assoc]
theorem may_ref {l : List S48} (a1 a2 a3 a4 : Int) {k : Nat} (hk : 150 ≤ k) : winnowerref07_May.f k l a1 a2 a3 a4 = some (mayS l a1 a2 a3 a4) := by
  obtain ⟨q, rfl⟩ : ∃ q, k = q + 150 := ⟨k - 150, by omega⟩
  have yes : winnowerref07_May.j0 (q + 150) true l a1 a2 a3 a4 = some false := by rw [show q + 150 = (q + 149) + 1 by omega, winnowerref07_May.j0, if_pos rfl]
  unfold winnowerref07_May.f
  unfold mayS
  by_cases h1 : (l.length : Int) < 1
  · rw [if_pos h1, yes, decide_eq_false (show ¬ 1 ≤ l.length by omega)]
    simp
  · rw [if_neg h1]
    by_cases h8 : (l.length : Int) > 8
    · rw [if_pos h8, yes, decide_eq_false (show ¬ l.length ≤ 8 by omega)]
      simp
    · rw [if_neg h8]
      by_cases h4 : a4 < -1
      · rw [if_pos h4, yes, decide_eq_false (show ¬ -1 ≤ a4 by omega)]
        simp
      · rw [if_neg h4]
        by_cases h5 : a4 ≥ (l.length : Int)
        · rw [decide_eq_true h5, yes, decide_eq_false (show ¬ a4 < (l.length : Int) by omega)]
          simp
        · rw [decide_eq_false h5, show q + 150 = (12 * l.length + (q + 119 - 12 * l.length) + 30) + 1 by omega, winnowerref07_May.j0, if_neg (by decide)]
          have g := may_ref_go (l := l) (by omega) a1 a2 a3 a4 l.length 0 (q + 119 - 12 * l.length) (by omega)
          rw [decide_eq_true (show 1 ≤ l.length by omega), decide_eq_true (show l.length ≤ 8 by omega), decide_eq_true (show -1 ≤ a4 by omega), decide_eq_true (show a4 < (l.length : Int) by omega)]
          refine g.trans ?_
          rw [List.drop_zero]
          simp
theorem may06_ref (v : S46) : winnowerref06_May.f v.f0 v.f1 v.f2 v.f3 = some (V.may (tv v)) := by
  unfold winnowerref06_May.f V.may tv
  simp only
  by_cases k0 : v.f0 = 0
  · rw [if_pos k0, if_neg (show ¬ v.f0 = 1 by omega), if_neg (show ¬ v.f0 = 2 by omega), if_neg (show ¬ v.f0 = 3 by omega), if_pos k0]
    by_cases h1 : v.f1 = 0
    · rw [if_pos h1]
      by_cases h2 : v.f2.toList = []
      · rw [if_pos h2, h1, h2]; simp
      · rw [if_neg h2]; simp [h2]
    · rw [if_neg h1]; simp [h1]
  · rw [if_neg k0]
    by_cases k1 : v.f0 = 1
    · rw [if_pos k1, if_pos k1]
      by_cases h2 : v.f2.toList = []
      · rw [if_pos h2, h2]; simp
      · rw [if_neg h2]; simp [h2]
    · rw [if_neg k1, if_neg k1]
      by_cases k2 : v.f0 = 2
      · rw [if_pos k2, if_pos k2]
        by_cases h1 : v.f1 = 0
        · rw [if_pos h1]
          cases v.f3 with
          | true => simp
          | false =>
            rw [if_neg (by decide)]
            by_cases h3 : (v.f2.size : Int) > 64
            · rw [if_pos h3, decide_eq_false (by omega)]
            · rw [if_neg h3, decide_eq_true (by omega), h1]; rfl
        · rw [if_neg h1]; simp [h1]
      · rw [if_neg k2, if_neg k2]
        by_cases k3 : v.f0 = 3
        · rw [if_pos k3, if_pos k3]
          by_cases h1 : v.f1 = 0
          · rw [if_pos h1, h1]; simp
          · rw [if_neg h1]; simp [h1]
        · rw [if_neg k3, if_neg k3, if_neg k0]
theorem fits_ref_go {l : List S48} {row : List S46} (hl : l.length ≤ 1000) (hr : row.length = l.length) (a1 a2 a3 a4 : Int) (q : Nat) : ∀ (d i : Nat), i + d = l.length → winnowerref07_Fits.l0 (d + q + 1) row (i : Int) l a1 a2 a3 a4 = some (fitAll (l.drop i) (row.drop i)) := by
  intro d
  induction d with
  | zero =>
    intro i hi
    rw [Nat.zero_add, winnowerref07_Fits.l0, if_neg (by omega), List.drop_of_length_le (by omega)]
    rfl
  | succ d ih =>
    intro i hi
    have hk : i < l.length := by omega
    have hk2 : i < row.length := by omega
    rw [show d + 1 + q + 1 = (d + q + 1) + 1 by omega, winnowerref07_Fits.l0, if_pos (by omega), if_pos (by omega), rd48_at hk, rd46_at hk2, may06_ref, Option.bind_some, wr1 (by omega), ih (i + 1) (by omega), List.drop_eq_getElem_cons hk, List.drop_eq_getElem_cons hk2]
    unfold fitAll
    unfold fitC
    generalize l[i] = x
    generalize row[i] = v
    cases V.may (tv v) with
    | false =>
      by_cases h0 : v.f0 = 0
      · rw [if_pos h0, if_pos (by omega), if_neg (by decide)]; rfl
      · rw [if_neg h0, if_neg (by decide)]; rfl
    | true =>
      by_cases h0 : v.f0 = 0
      · rw [if_pos h0, if_pos (by omega), if_pos rfl, decide_eq_true h0]
        by_cases h1 : v.f0 = x.f1
        · rw [if_pos h1, decide_eq_true h1]
          cases List.drop (i + 1) l <;> cases List.drop (i + 1) row <;> rfl
        · rw [if_neg h1, decide_eq_false h1]
          cases x.f2 with
          | true => rw [if_pos rfl]; cases List.drop (i + 1) l <;> cases List.drop (i + 1) row <;> rfl
          | false => rw [if_neg (by decide)]; rfl
      · rw [if_neg h0, if_pos rfl, if_pos (by omega), decide_eq_false h0]
        by_cases h1 : v.f0 = x.f1
        · rw [if_pos h1, decide_eq_true h1]
          cases List.drop (i + 1) l <;> cases List.drop (i + 1) row <;> rfl
        · rw [if_neg h1, decide_eq_false h1]; rfl
theorem fits_ref {l : List S48} {row : List S46} (hl : l.length ≤ 12) (a1 a2 a3 a4 : Int) {k : Nat} (hk : 170 ≤ k) : winnowerref07_Fits.f k l a1 a2 a3 a4 row = some (fitsS l a1 a2 a3 a4 row) := by
  obtain ⟨q, rfl⟩ : ∃ q, k = q + 170 := ⟨k - 170, by omega⟩
  have yes : winnowerref07_Fits.j0 (q + 170) row true l a1 a2 a3 a4 = some false := by rw [show q + 170 = (q + 169) + 1 by omega, winnowerref07_Fits.j0, if_pos rfl]
  unfold winnowerref07_Fits.f fitsS
  rw [may_ref a1 a2 a3 a4 (by omega), Option.bind_some]
  cases mayS l a1 a2 a3 a4 with
  | false => rw [if_neg (by decide), yes]; rfl
  | true =>
    rw [if_pos rfl]
    by_cases h : row.length = l.length
    · rw [show ((row.length : Int) != (l.length : Int)) = false by rw [h]; simp, decide_eq_true h, show q + 170 = (l.length + (q + 168 - l.length) + 1) + 1 by omega, winnowerref07_Fits.j0, if_neg (by decide)]
      exact fits_ref_go (by omega) h a1 a2 a3 a4 _ l.length 0 (by omega)
    · rw [show ((row.length : Int) != (l.length : Int)) = true by rw [bne_iff_ne]; omega, yes, decide_eq_false h]
      rfl
theorem enc_ref_go {l : List S48} {row : List S46} (hl : l.length ≤ 1000) (hr : row.length = l.length) (hi : ∀ v ∈ row, i64 v.f1) (a1 a2 a3 a4 : Int) (q : Nat) : ∀ (d i : Nat) (acc : List Int), i + d = l.length → fitAll (l.drop i) (row.drop i) = true → acc.length ≤ 101 * i →
    winnowerref07_Encode.l0 (d + q + 1) row acc (i : Int) l a1 a2 a3 a4 = some (acc ++ encS (l.drop i) (row.drop i), 0) := by
  intro d
  induction d with
  | zero =>
    intro i acc hid hfi hacc
    rw [Nat.zero_add, winnowerref07_Encode.l0, if_neg (by omega), List.drop_of_length_le (by omega)]
    simp [encS]
  | succ d ih =>
    intro i acc hid hfi hacc
    have hk : i < l.length := by omega
    have hk2 : i < row.length := by omega
    rw [List.drop_eq_getElem_cons hk, List.drop_eq_getElem_cons hk2] at hfi ⊢
    unfold fitAll at hfi
    rw [Bool.and_eq_true] at hfi
    have hm := fitC_may hfi.1
    have hiv := hi _ (List.getElem_mem hk2)
    have hsh := encV_short (x := l[i]) hm hiv
    have hput : winnowerref06_Put.f row[i].f0 row[i].f1 row[i].f2 row[i].f3 = some (V.bytes (tv row[i]), 0) := by
      unfold winnowerref06_Put.f V.put
      rw [if_pos hiv, if_pos (show V.may ⟨row[i].f0, row[i].f1, row[i].f2, row[i].f3⟩ = true from hm)]
      rfl
    have hbs := bytes_short (v := tv row[i]) hm hiv
    rw [show d + 1 + q + 1 = (d + q + 1) + 1 by omega, winnowerref07_Encode.l0, if_pos (by omega), if_pos (by omega), if_pos (by omega), rd48_at hk, rd46_at hk2, hput]
    have step : ∀ acc' : List Int, acc' = acc ++ encV l[i] row[i] → winnowerref07_Encode.l0 (d + q + 1) row acc' (wrap64 ((i : Int) + 1)) l a1 a2 a3 a4 = some (acc ++ encS (l[i] :: l.drop (i + 1)) (row[i] :: row.drop (i + 1)), 0) := by
      intro acc' e
      subst e
      rw [wr1 (by omega), ih (i + 1) _ (by omega) hfi.2 (by rw [List.length_append]; omega)]
      unfold encS
      rw [List.append_assoc]
      cases (List.drop (i + 1) l) <;> cases (List.drop (i + 1) row) <;> rfl
    by_cases hn : l[i].f2 = true
    · rw [if_pos hn]
      by_cases h0 : row[i].f0 = 0
      · rw [if_pos h0, if_pos (by omega)]
        exact step _ (by unfold encV; rw [if_pos hn, if_pos h0])
      · rw [if_neg h0, if_pos (by omega), Option.bind_some, Option.bind_some, if_pos (by rw [List.length_append]; simp only [List.length_cons, List.length_nil]; omega)]
        exact step _ (by unfold encV; rw [if_pos hn, if_neg h0, List.append_assoc]; rfl)
    · rw [if_neg hn, Option.bind_some]
      dsimp only
      rw [if_pos (by omega)]
      exact step _ (by unfold encV; rw [if_neg hn])
theorem enc_ref {l : List S48} (hl : l.length ≤ 12) (a1 a2 a3 a4 : Int) {row : List S46} (hi : ∀ v ∈ row, i64 v.f1) {k : Nat} (hk : 190 ≤ k) : winnowerref07_Encode.f k l a1 a2 a3 a4 row = some (if fitsS l a1 a2 a3 a4 row = true then (encS l row, 0) else ([], 1)) := by
  unfold winnowerref07_Encode.f
  rw [fits_ref hl a1 a2 a3 a4 (by omega), Option.bind_some]
  cases h : fitsS l a1 a2 a3 a4 row with
  | false => rfl
  | true =>
    rw [if_pos rfl, if_pos rfl]
    obtain ⟨h1, h2⟩ := fitsS_len h
    obtain ⟨q, rfl⟩ : ∃ q, k = l.length + q + 1 := ⟨k - l.length - 1, by omega⟩
    exact enc_ref_go (by omega) h1 hi a1 a2 a3 a4 q l.length 0 [] (by omega) (by simpa using h2) (by simp)
theorem find_ref_go {l : List S48} (hl : l.length ≤ 1000) (a1 a2 a3 a4 : Int) (a : ByteArray) (q : Nat) : ∀ (d i : Nat), i + d = l.length → winnowerref07_Find.l0 (d + q + 1) a (i : Int) l a1 a2 a3 a4 = some (findC a (l.drop i) (i : Int)) := by
  intro d
  induction d with
  | zero =>
    intro i hi
    rw [Nat.zero_add, winnowerref07_Find.l0, if_neg (by omega), List.drop_of_length_le (by omega)]
    rfl
  | succ d ih =>
    intro i hi
    have hk : i < l.length := by omega
    rw [show d + 1 + q + 1 = (d + q + 1) + 1 by omega, winnowerref07_Find.l0, if_pos (by omega), if_pos (by omega), rd48_at hk, wr1 (by omega), ih (i + 1) (by omega), List.drop_eq_getElem_cons hk, findC]
    by_cases e : l[i].f0.toList = a.toList
    · rw [if_pos e, if_pos (by simpa using e)]
    · rw [if_neg e, if_neg (by simpa using e)]; rfl
theorem find_ref {l : List S48} (hl : l.length ≤ 12) (a1 a2 a3 a4 : Int) (a : ByteArray) {k : Nat} (hk : 20 ≤ k) : winnowerref07_Find.f k l a1 a2 a3 a4 a = schema_Find.f l a1 a2 a3 a4 a := by
  obtain ⟨q, rfl⟩ : ∃ q, k = l.length + q + 1 := ⟨k - l.length - 1, by omega⟩
  unfold winnowerref07_Find.f schema_Find.f
  exact find_ref_go (by omega) a1 a2 a3 a4 a q l.length 0 (by omega)

end Go.Proofs.YteefchdfdgfaaaaDoor.Q
namespace Go.Proofs.YteefchdfdgfaaaaDoor.Q
open Go.RowKit Go.Proofs.YteefchdfdgfaaaaDoorW.PrintWords Go.Proofs.YteefchdfdgfaaaaDoorW.PrintLast Go.Proofs.YteefchdfdgfaaaaDoorW.PrintMore
attribute [local go_sem] max2_int min2_int max_two min_two max_three min_three max_four min_four   -- for this text's walks alone
set_option linter.unusedVariables false
set_option linter.unusedSimpArgs false

-- SAYS Chapter 07: SchemaTells, SchemaDecodes answer true.
-- FUNCS winnower/winnowerlaw07.SchemaTells winnower/winnowerlaw07.SchemaDecodes
-- NEEDS winnowerlaw07_SchemaTells.f winnowerlaw07_SchemaDecodes.f schema_Encode.f schema_Fits.f schema_May.f schema_Decode.f schema_Find.f winnowerref01_Same.f
-- IMPORT Derived.Test.YteefchdfdgfaaaaDoorHnum
-- IMPORT Derived.Test.YteefchdfdgfaaaaDoorHval
-- IMPORT Derived.Test.YteefchdfdgfaaaaDoorHsch07
-- IMPORT Derived.Test.YteefchdfdgfaaaaDoorHsch07b
-- IMPORT Derived.Test.YteefchdfdgfaaaaDoorHsch07c
-- IMPORT Derived.Test.YteefchdfdgfaaaaDoorHsch07d
open Go.Proofs.YteefchdfdgfaaaaDoor.Hnum Go.Proofs.YteefchdfdgfaaaaDoor.Hval
theorem few_ge (l : List S48) (a1 a2 a3 a4 : Int) {k : Nat} (hk : 200 ≤ k) : winnowerref07_Few.f k l a1 a2 a3 a4 = some (fewC l) := by
  by_cases h : l.length ≤ 12
  · exact few07_tell l a1 a2 a3 a4 (by omega)
  · unfold winnowerref07_Few.f fewC
    rw [if_pos (by omega), decide_eq_false h]
    rfl
theorem light_ge (l : List S46) {k : Nat} (hk : 200 ≤ k) : winnowerref07_Light.f k l = some (lightS l) := by
  by_cases h : l.length ≤ 12
  · exact light07_tell l (by omega)
  · unfold winnowerref07_Light.f lightS
    rw [if_pos (by omega), decide_eq_false h]
    rfl
theorem tells07 {l : List S48} {a1 a2 a3 a4 : Int} {row : List S46} {name : ByteArray} (ia : ∀ v ∈ row, i64 v.f1) : winnowerlaw07_SchemaTells.f 300 l a1 a2 a3 a4 row name = some true := by
  have skip : ∀ k, winnowerlaw07_SchemaTells.j0 (k + 1) row name true true l a1 a2 a3 a4 = some true := fun k => by rw [winnowerlaw07_SchemaTells.j0, if_pos rfl]
  have hs : ∀ x y : List Int, winnowerref01_Same.f x y = some (decide (x = y)) := fun _ _ => rfl
  unfold winnowerlaw07_SchemaTells.f
  rw [awake_200, Option.bind_some, few_ge _ _ _ _ _ (by decide), Option.bind_some, light_ge _ (by decide), Option.bind_some, if_pos rfl]
  cases hf : fewC l with
  | false => rw [if_neg (by decide)]; exact skip 299
  | true =>
    rw [if_pos rfl]
    have hl := fewC_len hf
    cases ha : lightS row with
    | false => rw [if_neg (by decide)]; exact skip 299
    | true =>
      rw [if_pos rfl]
      by_cases h1 : (name.size : Int) > 100
      · rw [decide_eq_true h1]; exact skip 299
      · have hmy : schema_May.f l a1 a2 a3 a4 = some (mayS l a1 a2 a3 a4) := by unfold schema_May.f; rw [if_pos (by omega)]
        rw [decide_eq_false h1, winnowerlaw07_SchemaTells.j0, if_neg (by decide), enc_200 hl a1 a2 a3 a4 ia (by decide), Option.bind_some, enc_ref hl a1 a2 a3 a4 ia (by decide), Option.bind_some, hs, Option.bind_some, decide_eq_true rfl, if_pos rfl, if_pos rfl, hmy, Option.bind_some, may_ref a1 a2 a3 a4 (by decide), Option.bind_some, if_pos (by simp), find_ref hl a1 a2 a3 a4 name (by decide)]
        unfold schema_Find.f
        rw [Option.bind_some, Option.bind_some, if_pos rfl, fits_200 hl a1 a2 a3 a4 row (by decide), Option.bind_some, fits_ref hl a1 a2 a3 a4 (by decide), Option.bind_some]
        simp

end Go.Proofs.YteefchdfdgfaaaaDoor.Q
namespace Go.Proofs.YteefchdfdgfaaaaDoor.Q
open Go.RowKit Go.Proofs.YteefchdfdgfaaaaDoorW.PrintWords Go.Proofs.YteefchdfdgfaaaaDoorW.PrintLast Go.Proofs.YteefchdfdgfaaaaDoorW.PrintMore
attribute [local go_sem] max2_int min2_int max_two min_two max_three min_three max_four min_four   -- for this text's walks alone
set_option linter.unusedVariables false
set_option linter.unusedSimpArgs false

-- SAYS Chapter 07: a law's call with a schema that is read as data.
-- FUNCS winnower/winnowerlaw07.SchemaTells winnower/winnowerlaw07.SchemaDecodes winnower/winnowerlaw07.SchemaBack winnower/winnowerlaw07.SchemaOnly winnower/winnowerlaw07.SchemaApart
-- NEEDS Globs winnowerlaw07_SchemaTells.f winnowerlaw07_SchemaDecodes.f winnowerlaw07_SchemaBack.f winnowerlaw07_SchemaOnly.f winnowerlaw07_SchemaApart.f
-- IMPORT Derived.Test.YteefchdfdgfaaaaDoorHnum
-- IMPORT Derived.Test.YteefchdfdgfaaaaDoorHval
-- IMPORT Derived.Test.YteefchdfdgfaaaaDoorHsch07c
-- IMPORT Derived.Test.YteefchdfdgfaaaaDoorHsch07e
open Go.Proofs.YteefchdfdgfaaaaDoor.Hnum Go.Proofs.YteefchdfdgfaaaaDoor.Hval
/-- A schema as it is read: its columns and four numbers. -/
abbrev SchV := List S48 × Int × Int × Int × Int
abbrev kSch : Kd SchV := Kd.pair (Kd.slice 48 k48) (Kd.pair (Kd.int .i64) (Kd.pair (Kd.int .i64) (Kd.pair (Kd.int .i64) (Kd.int .i64))))
theorem sch_open {W : World} {x : SchV} {cs : List Value} (h : kSch.K W x cs) : ∃ A c, Value.agg cs.toArray = .agg #[.slice A x.1.length c, .int .i64 x.2.1, .int .i64 x.2.2.1, .int .i64 x.2.2.2.1, .int .i64 x.2.2.2.2] ∧ x.1.length ≤ c ∧ Kd.C k48 W A x.1.length x.1 := by
  obtain ⟨c1, c2, rfl, ⟨A, c, rfl, hl, hC⟩, c3, c4, rfl, h3, c5, c6, rfl, h5, c7, c8, rfl, h7, h8⟩ := h
  obtain rfl : c3 = [.int .i64 x.2.1] := h3
  obtain rfl : c5 = [.int .i64 x.2.2.1] := h5
  obtain rfl : c7 = [.int .i64 x.2.2.2.1] := h7
  obtain rfl : c8 = [.int .i64 x.2.2.2.2] := h8
  exact ⟨A, c, rfl, hl, hC⟩
theorem schemaTells_call {x : SchV} {cs : List Value} (A1 : Option Addr) (c1 : Nat) (l1 : List S46) (s : ByteArray) (W : World) (hk : kSch.K W x cs) (hr1 : Kd.C k46 W A1 l1.length l1) (hc1 : l1.length ≤ c1) (hi : ∀ v ∈ l1, i64 v.f1) (hG : Globs W) :
    Calls Tryd.prog 3 #[.agg cs.toArray, .slice A1 l1.length c1, .string s] W fun e w' => e = .returned (.bool true) ∧ Below W.heap.size W w' := by
  obtain ⟨A, c, e, hl, hC⟩ := sch_open hk
  rw [e]
  exact winnowerlaw07_SchemaTells.calls 300 A c x.1 _ _ _ _ A1 c1 l1 s true W hC hl hr1 hc1 hG rfl (tells07 hi)

end Go.Proofs.YteefchdfdgfaaaaDoor.Q
namespace Go.Proofs.YteefchdfdgfaaaaDoor.Hopen
open Go.RowKit Go.Deep Go.ChangeShapes Go.WideShapes Go.Proofs.YteefchdfdgfaaaaDoorW.PrintWords Go.Proofs.YteefchdfdgfaaaaDoorW.PrintLast Go.Proofs.YteefchdfdgfaaaaDoorW.PrintMore
set_option linter.unusedVariables false
set_option linter.unusedSectionVars false

/-- Whatever reads as data of type t is of kind d, and so well formed. -/
def Opens {α : Type} (P : Program) (w : World) (t : TypeId) (d : Kd α) (ok : α → Prop) : Prop :=
  P.cellsOf t = d.sz ∧ ∀ (H : Type) (enc : TypeId × Value → H) (fuel : Nat) (cs : List Value) (x : DataW H × List MemPlace), DataW.trod enc P w 0 (fun _ => true) true fuel t cs = some x → ∃ a, d.K w a cs ∧ ok a
variable {P : Program} {w : World} {t e : TypeId} {α β : Type} {d : Kd α} {ok : α → Prop}
theorem Opens.int {k : IntKind} (ht : P.underlying t = some (.int k)) (hc : P.cellsOf t = 1) : Opens P w t (Kd.int k) (fun n => (Lit.int k n).wf = true) := by
  refine ⟨hc, fun H enc fuel cs x hx => ?_⟩
  obtain ⟨n, rfl, _, hw⟩ := DataW.trod_int ht hx
  exact ⟨n, rfl, hw⟩
theorem Opens.string (ht : P.underlying t = some .string) (hc : P.cellsOf t = 1) : Opens P w t Kd.string (fun s => s.size ≤ maxLen) := by
  refine ⟨hc, fun H enc fuel cs x hx => ?_⟩
  obtain ⟨s, rfl, _, hw⟩ := DataW.trod_string ht hx
  exact ⟨s, rfl, hw⟩
theorem Opens.bool (ht : P.underlying t = some .bool) (hc : P.cellsOf t = 1) : Opens P w t Kd.bool (fun _ => True) := by
  refine ⟨hc, fun H enc fuel cs x hx => ?_⟩
  obtain ⟨b, rfl, _⟩ := DataW.trod_bool ht hx
  exact ⟨b, rfl, trivial⟩
theorem list_of {p : Nat → α → Prop} (n : Nat) (h : ∀ i, i < n → ∃ x, p i x) : ∃ xs : List α, xs.length = n ∧ ∀ i x, xs[i]? = some x → p i x := by
  induction n with
  | zero => exact ⟨[], rfl, fun i x hx => by simp at hx⟩
  | succ n ih =>
    obtain ⟨xs, hl, hp⟩ := ih (fun i hi => h i (by omega))
    obtain ⟨y, hy⟩ := h n (by omega)
    refine ⟨xs ++ [y], by simp [hl], fun i x hx => ?_⟩
    rcases Nat.lt_or_ge i xs.length with hi | hi
    · rw [List.getElem?_append_left hi] at hx; exact hp i x hx
    · have hlt := (List.getElem?_eq_some_iff.1 hx).1
      rw [List.length_append, List.length_singleton] at hlt
      obtain rfl : i = n := by omega
      rw [List.getElem?_append_right (by omega), hl, Nat.sub_self] at hx
      simp at hx; rw [← hx]; exact hy
theorem C_nil (d : Kd α) (w : World) (A : Option Addr) : d.C w A 0 [] := ⟨rfl, by omega, fun h => by omega⟩
theorem Opens.slice {e' : Nat} (h : Opens P w e d ok) (ht : P.underlying t = some (.slice e)) (hc : P.cellsOf t = 1) : Opens P w t (Kd.slice e' d) (fun xs => xs.length ≤ maxLen ∧ ∀ x ∈ xs, ok x) := by
  refine ⟨hc, fun H enc fuel cs x hx => ?_⟩
  rcases open_slice ht hx with ⟨rfl, _⟩ | ⟨a, len, cap, m, n, D, Pl, rfl, _, hl, hm, hmm, _, hi⟩
  · exact ⟨[], ⟨none, 0, rfl, Nat.le_refl _, C_nil d w none⟩, by simp, fun x hx => by cases hx⟩
  · have hmc : m = cap := by simpa using hmm
    subst hmc
    obtain ⟨xs, hxl, hxs⟩ := list_of (p := fun i y => ∃ cs', w.cells? 0 (a.add (i * P.cellsOf e)) (P.cellsOf e) = some cs' ∧ d.K w y cs' ∧ ok y) len (fun i hlt => by
      obtain ⟨cs', h1, h2⟩ := hi i (by omega)
      obtain ⟨y, hy, ho⟩ := h.2 H enc n cs' _ h2
      exact ⟨y, cs', h1, hy, ho⟩)
    subst hxl
    refine ⟨xs, ⟨some a, m, rfl, hl, rfl, by unfold maxLen at hm; omega, fun _ => ⟨a, rfl, fun j p hj => ?_⟩⟩, by omega, fun y hy => ?_⟩
    · obtain ⟨cs', h1, h2, _⟩ := hxs j p hj
      obtain ⟨_, hcl, hat⟩ := World.cells?_some h1
      rw [h.1] at hcl hat
      refine ⟨cs', hcl, h2, fun i u hu => ?_⟩
      have hlt := (List.getElem?_eq_some_iff.1 hu).1
      rw [← Go.Deep.add_add, hat i (by omega), hu]
    · obtain ⟨i, hi⟩ := List.mem_iff_getElem?.1 hy
      exact (hxs i y hi).choose_spec.2.2
/-- So the fields from a place on. -/
def OpensF {α : Type} (P : Program) (w : World) (l : List Field) (off : Nat) (d : Kd α) (ok : α → Prop) : Prop :=
  ∀ (H : Type) (enc : TypeId × Value → H) (cs : List Value), (∀ f ∈ l, ∃ fuel y, DataW.trod enc P w 0 (fun _ => true) true fuel f.type ((cs.drop f.offset).take (P.cellsOf f.type)) = some y) → ∃ a, d.K w a ((cs.drop off).take d.sz) ∧ ok a
theorem OpensF.last {f : Field} {off : Nat} (h : Opens P w f.type d ok) (ho : f.offset = off) : OpensF P w [f] off d ok := by
  intro H enc cs hf
  obtain ⟨fuel, y, hy⟩ := hf f (List.mem_singleton.2 rfl)
  rw [ho, h.1] at hy
  exact h.2 H enc fuel _ y hy
theorem OpensF.cons {f : Field} {l : List Field} {off : Nat} {d2 : Kd β} {ok2 : β → Prop} (h : Opens P w f.type d ok) (ho : f.offset = off) (h2 : OpensF P w l (off + d.sz) d2 ok2) : OpensF P w (f :: l) off (Kd.pair d d2) (fun a => ok a.1 ∧ ok2 a.2) := by
  intro H enc cs hf
  obtain ⟨fuel, y, hy⟩ := hf f (List.mem_cons_self ..)
  rw [ho, h.1] at hy
  obtain ⟨a, ha, oa⟩ := h.2 H enc fuel _ y hy
  obtain ⟨b, hb, ob⟩ := h2 H enc cs (fun g hg => hf g (List.mem_cons_of_mem _ hg))
  refine ⟨(a, b), ⟨_, _, ?_, ha, hb⟩, oa, ob⟩
  show (cs.drop off).take (d.sz + d2.sz) = _
  rw [← List.drop_drop, List.take_add]
theorem Opens.struct {fs : Array Field} (h : OpensF P w fs.toList 0 d ok) (ht : P.underlying t = some (.struct fs)) (hc : P.cellsOf t = d.sz) : Opens P w t d ok := by
  refine ⟨hc, fun H enc fuel cs x hx => ?_⟩
  obtain ⟨xs, n, _, _, hl, hxl, hf⟩ := DataW.trod_struct ht hx
  obtain ⟨a, ha, oa⟩ := h H enc cs (fun f hm => by
    obtain ⟨i, hi⟩ := List.mem_iff_getElem?.1 hm
    have hi' : fs[i]? = some f := by simpa using hi
    have := hf i f hi'
    have hlt : i < xs.length := by have := (Array.getElem?_eq_some_iff.1 hi').1; omega
    exact ⟨n, _, this.trans (List.getElem?_eq_getElem hlt)⟩)
  rw [List.drop_zero, ← hc, ← hl, List.take_length] at ha
  exact ⟨a, ha, oa⟩
theorem Opens.iso (h : Opens P w t d ok) (f : β → α) (g : α → β) (hfg : ∀ a, f (g a) = a) : Opens P w t (Kd.iso d f) (fun b => ok (f b)) := by
  refine ⟨h.1, fun H enc fuel cs x hx => ?_⟩
  obtain ⟨a, ha, oa⟩ := h.2 H enc fuel cs x hx
  exact ⟨g a, by show d.K w (f (g a)) cs; rw [hfg]; exact ha, by show ok (f (g a)); rw [hfg]; exact oa⟩
/-- An argument. -/
theorem Opens.arg (h : Opens P w t d ok) {H : Type} {enc : TypeId × Value → H} {v : Value} {x : DataW H} {p : List MemPlace} (ht : DataW.Trod enc P w 0 (fun _ => true) true t v x p) : ∃ a, d.K w a v.cells.toList ∧ ok a := by
  obtain ⟨fuel, hf⟩ := ht
  exact h.2 H enc fuel _ _ hf
/-- An argument that is a slice. -/
theorem Opens.sliceArg (h : Opens P w e d ok) (ht : P.underlying t = some (.slice e)) (hc : P.cellsOf t = 1) {r : Reach} {b0 : Nat} {H : Type} {enc : TypeId × Value → H} {v : Value} {x : DataW H} {p : List MemPlace} (hv : Value.okWide P w r b0 t v) (hx : DataW.Trod enc P w 0 (fun _ => true) true t v x p) :
    ∃ (xs : List α) (A : Option Addr) (c : Nat), v = .slice A xs.length c ∧ xs.length ≤ c ∧ d.C w A xs.length xs ∧ xs.length ≤ maxLen ∧ ∀ y ∈ xs, ok y := by
  obtain ⟨A, len, cap, rfl⟩ := okWide_slice ht hv
  obtain ⟨xs, ⟨A', c, hcs, hl, hC⟩, h1, h2⟩ := (Opens.slice (e' := 0) h ht hc).arg hx
  have hcs' : [Value.slice A len cap] = [Value.slice A' xs.length c] := hcs
  simp only [List.cons.injEq, Value.slice.injEq, and_true] at hcs'
  obtain ⟨rfl, rfl, rfl⟩ := hcs'
  exact ⟨xs, A, cap, rfl, hl, hC, h1, h2⟩
/-- An argument that is a struct. -/
theorem Opens.structArg (h : Opens P w t d ok) {fs : Array Field} (ht : P.underlying t = some (.struct fs)) {r : Reach} {b0 : Nat} {H : Type} {enc : TypeId × Value → H} {v : Value} {x : DataW H} {p : List MemPlace} (hv : Value.okWide P w r b0 t v) (hx : DataW.Trod enc P w 0 (fun _ => true) true t v x p) :
    ∃ (a : α) (cs : List Value), v = .agg cs.toArray ∧ d.K w a cs ∧ ok a := by
  obtain ⟨cs, rfl, hsz⟩ := okWide_struct ht hv
  obtain ⟨a, ha, oa⟩ := h.arg hx
  exact ⟨a, cs.toList, by simp, ha, oa⟩
end Go.Proofs.YteefchdfdgfaaaaDoor.Hopen
namespace Go.Proofs.YteefchdfdgfaaaaDoor.Q
open Go.RowKit Go.Proofs.YteefchdfdgfaaaaDoorW.PrintWords Go.Proofs.YteefchdfdgfaaaaDoorW.PrintLast Go.Proofs.YteefchdfdgfaaaaDoorW.PrintMore
attribute [local go_sem] max2_int min2_int max_two min_two max_three min_three max_four min_four   -- for this text's walks alone
set_option linter.unusedVariables false
set_option linter.unusedSimpArgs false

-- SAYS What the listed variables of the library give: the handle of the type error.
-- FUNCS winnower/schema.Decode
-- NEEDS Globs
-- IMPORT Derived.Test.YteefchdfdgfaaaaDoorRows
-- IMPORT Derived.ProofKit
-- IMPORT Derived.LaidMore
-- IMPORT Derived.Lay
-- IMPORT Derived.LaidLaws
-- IMPORT Derived.LaidHandle
-- IMPORT Derived.OpenShut
-- IMPORT Derived.Stop.Joined
namespace Laid
open Go.ChangeShapes Go.WideShapes Go.ChangeAt Go.WideMaps Go.WideElems
def three : List (String × DataW Unit) := [("unicode/utf8.acceptRanges", Rows.laid_unicode_utf8_acceptRanges), ("errors.errorType", Rows.laid_errors_errorType), ("unicode/utf8.first", Rows.laid_unicode_utf8_first)]
theorem gErr : Tryd.prog.globalNamed "errors.errorType" = some 0 := by kernel_rfl
theorem rtErr : (Tryd.prog.cutTypes.find? (·.1 == "internal/reflectlite.rtype")).map (·.2) = some 117 := by kernel_rfl
theorem sizeT : Tryd.prog.types.size = 174 := by kernel_rfl
theorem oneRow : ((List.range 174).filter fun t => Tryd.prog.rowNamed t [101, 114, 114, 111, 114]) = [58] := by kernel_rfl
def two : List (String × DataW Unit) := [("unicode/utf8.acceptRanges", Rows.laid_unicode_utf8_acceptRanges), ("unicode/utf8.first", Rows.laid_unicode_utf8_first)]
/-- A start that reads as listed: the one that the door's own run leaves, Go's two tables laid. -/
noncomputable def start (os : Os) : World := (World.doorLaid Tryd.prog 400 os).layVars Tryd.prog two
theorem start_os (os : Os) : (start os).os = os := (World.layVars_os _ _ _).trans rfl
theorem start_shaped (os : Os) (args : Array Value) : ((start os).forCall (fun _ _ => 0) ⟨#[], args, []⟩).Shaped Tryd.prog := World.shaped_of_ZipB (by kernel_rfl) (by kernel_rfl)
theorem two_met (os : Os) (args : Array Value) : laidMet Tryd.prog (three.filter fun x => x.2.handleName?.isNone) ((start os).forCall (fun _ _ => 0) ⟨#[], args, []⟩).memory := by
  have e0 : (three.filter fun x => x.2.handleName?.isNone) = two := by kernel_rfl
  have e1 : (two.filter fun x => (["unicode/utf8.acceptRanges", "unicode/utf8.first"] : List String).contains x.1) = two := by kernel_rfl
  have e2 : (two.filter fun x => !(["unicode/utf8.acceptRanges", "unicode/utf8.first"] : List String).contains x.1) = [] := by kernel_rfl
  rw [e0]
  have h : laidMet Tryd.prog two (start os) := laidMet_layVars (w0 := World.doorLaid Tryd.prog 400 os) ["unicode/utf8.acceptRanges", "unicode/utf8.first"] [] (by rw [e1]; rfl) (by rw [e1]; kernel_rfl) (by rw [e1]; kernel_rfl) (by rw [e2]; exact LaidIn.none)
  exact h.of_heap (by simp [World.memory, World.forCall, Input.heap])
theorem door_met (os : Os) (args : Array Value) : laidMetH Tryd.prog three ((start os).forCall (fun _ _ => 0) ⟨#[], args, []⟩).memory :=
  laidMetH_of_parts3 (fuel := 8) (two_met os args) (by kernel_rfl) (by kernel_rfl)
theorem globs_of_laid {W : World} (h : laidMetH Tryd.prog three W) : Globs W := by
  have h' : handlesMet Tryd.prog [("errors.errorType", Rows.laid_errors_errorType)] W := h.2
  obtain ⟨name, u, ty, e1, e2, e3, e4, e5⟩ := h' _ (List.mem_singleton.2 rfl)
  have en : name = [101, 114, 114, 111, 114] := (Option.some.inj e1).symm
  subst en
  obtain rfl := Option.some.inj (rtErr.symm.trans e2)
  have hm : ty ∈ (List.range 174).filter fun t => Tryd.prog.rowNamed t [101, 114, 114, 111, 114] := List.mem_filter.2 ⟨List.mem_range.2 (by rw [← sizeT]; exact e3), e4⟩
  rw [oneRow] at hm
  obtain rfl := List.mem_singleton.1 hm
  unfold Globs
  have hh : Value.iface 117 (.agg #[typeHandle Tryd.prog 58]) = RT 58 := by kernel_rfl
  rw [← hh]
  simpa using World.var?_cell gErr e5 0
end Laid

end Go.Proofs.YteefchdfdgfaaaaDoor.Q
