/- The order of values, and which of them may be, in plain words. -/
import Derived.Laws.Strings
import Derived.Test.YtgjmpancofjjbaaWWords
import Derived.Test.YtgjmpancofjjbaaHnum
namespace Go.Proofs.Ytgjmpancofjjbaa.Hval
open Go.RowKit Go.Proofs.YtgjmpancofjjbaaW.PrintWords Go.Proofs.Ytgjmpancofjjbaa.Hnum
set_option linter.unusedVariables false

/-- A comparison: it tells the order of a line. -/
structure Lin {α : Type} (f : α → α → Int) : Prop where
  range : ∀ a b, f a b = -1 ∨ f a b = 0 ∨ f a b = 1
  anti : ∀ a b, f a b = -f b a
  zero : ∀ a b, f a b = 0 ↔ a = b
  le : ∀ a b c, f a b ≤ 0 → f b c ≤ 0 → f a c ≤ 0
def cmpI (a b : Int) : Int := if a < b then -1 else if a > b then 1 else 0
theorem cmpI_lin : Lin cmpI where
  range a b := by unfold cmpI; split <;> first | omega | (split <;> omega)
  anti a b := by unfold cmpI; split <;> split <;> first | omega | (split <;> first | omega | (split <;> omega))
  zero a b := by unfold cmpI; split <;> first | omega | (split <;> omega)
  le a b c := by unfold cmpI; intro h1 h2; split at h1 <;> split at h2 <;> split <;> first | omega | (split at h1 <;> omega) | (split at h2 <;> omega) | (split <;> omega) | (split at h1 <;> split at h2 <;> omega)
theorem less_irrefl (x : List UInt8) : Op.bytesLess x x = false := by
  induction x with
  | nil => rfl
  | cons a x ih => simp [Op.bytesLess, ih]
theorem less_trans (x : List UInt8) : ∀ y z, Op.bytesLess x y = true → Op.bytesLess y z = true → Op.bytesLess x z = true := by
  induction x with
  | nil =>
    intro y z h1 h2
    cases z with
    | nil => cases y <;> simp [Op.bytesLess] at h2
    | cons c z => rfl
  | cons a x ih =>
    intro y z h1 h2
    cases y with
    | nil => simp [Op.bytesLess] at h1
    | cons b y =>
      cases z with
      | nil => simp [Op.bytesLess] at h2
      | cons c z =>
        simp only [Op.bytesLess, Bool.or_eq_true, decide_eq_true_eq, Bool.and_eq_true, beq_iff_eq] at h1 h2 ⊢
        rcases h1 with h1 | ⟨rfl, h1⟩
        · rcases h2 with h2 | ⟨rfl, h2⟩
          · exact .inl (UInt8.lt_trans h1 h2)
          · exact .inl h1
        · rcases h2 with h2 | ⟨rfl, h2⟩
          · exact .inl h2
          · exact .inr ⟨rfl, ih y z h1 h2⟩
theorem less_total (x : List UInt8) : ∀ y, Op.bytesLess x y = true ∨ x = y ∨ Op.bytesLess y x = true := by
  induction x with
  | nil =>
    intro y
    cases y with
    | nil => exact .inr (.inl rfl)
    | cons b y => exact .inl rfl
  | cons a x ih =>
    intro y
    cases y with
    | nil => exact .inr (.inr rfl)
    | cons b y =>
      simp only [Op.bytesLess, Bool.or_eq_true, decide_eq_true_eq, Bool.and_eq_true, beq_iff_eq, List.cons.injEq]
      by_cases h : a = b
      · subst h
        rcases ih y with h | h | h
        · exact .inl (.inr ⟨rfl, h⟩)
        · exact .inr (.inl ⟨rfl, h⟩)
        · exact .inr (.inr (.inr ⟨rfl, h⟩))
      · rcases UInt8.lt_or_lt_of_ne h with h | h
        · exact .inl (.inl h)
        · exact .inr (.inr (.inl h))
def cmpS (a b : List UInt8) : Int := if Op.bytesLess a b = true then -1 else if Op.bytesLess b a = true then 1 else 0
theorem cmpS_zero (a b : List UInt8) : cmpS a b = 0 ↔ a = b := by
  unfold cmpS
  constructor
  · intro h
    by_cases h1 : Op.bytesLess a b = true
    · rw [if_pos h1] at h; omega
    · rw [if_neg h1] at h
      by_cases h2 : Op.bytesLess b a = true
      · rw [if_pos h2] at h; omega
      · rcases less_total a b with h3 | h3 | h3
        · exact absurd h3 h1
        · exact h3
        · exact absurd h3 h2
  · rintro rfl
    rw [less_irrefl] <;> rfl
theorem less_asymm {a b : List UInt8} (h : Op.bytesLess a b = true) : Op.bytesLess b a = false := by
  cases hb : Op.bytesLess b a with
  | false => rfl
  | true => have := less_trans a b a h hb; rw [less_irrefl] at this; cases this
theorem cmpS_lin : Lin cmpS where
  range a b := by unfold cmpS; split <;> first | omega | (split <;> omega)
  anti a b := by
    unfold cmpS
    by_cases h1 : Op.bytesLess a b = true
    · rw [if_pos h1, less_asymm h1]; simp [h1]
    · rw [if_neg h1]
      by_cases h2 : Op.bytesLess b a = true
      · rw [if_pos h2, if_pos h2] <;> rfl
      · rw [if_neg h2, if_neg h2, if_neg h1] <;> rfl
  zero := cmpS_zero
  le a b c h1 h2 := by
    have key : ∀ x y : List UInt8, cmpS x y ≤ 0 ↔ (Op.bytesLess x y = true ∨ x = y) := by
      intro x y
      unfold cmpS
      by_cases h1 : Op.bytesLess x y = true
      · rw [if_pos h1]; exact ⟨fun _ => .inl h1, fun _ => by omega⟩
      · rw [if_neg h1]
        by_cases h2 : Op.bytesLess y x = true
        · rw [if_pos h2]
          refine ⟨fun h => by omega, fun h => ?_⟩
          rcases h with h | rfl
          · exact absurd h h1
          · rw [less_irrefl] at h2; cases h2
        · rw [if_neg h2]
          refine ⟨fun _ => ?_, fun _ => by omega⟩
          rcases less_total x y with h3 | h3 | h3
          · exact .inl h3
          · exact .inr h3
          · exact absurd h3 h2
    rw [key] at h1 h2 ⊢
    rcases h1 with h1 | rfl
    · rcases h2 with h2 | rfl
      · exact .inl (less_trans a b c h1 h2)
      · exact .inl h1
    · exact h2
theorem cmpS_cons (a b : UInt8) (x y : List UInt8) : cmpS (a :: x) (b :: y) = if a.toNat < b.toNat then -1 else if a.toNat > b.toNat then 1 else cmpS x y := by
  unfold cmpS
  simp only [Op.bytesLess, Bool.or_eq_true, decide_eq_true_eq, Bool.and_eq_true, beq_iff_eq, UInt8.lt_iff_toNat_lt]
  by_cases h1 : a.toNat < b.toNat
  · rw [if_pos (.inl h1), if_pos h1]
  · rw [if_neg h1]
    by_cases h2 : b.toNat < a.toNat
    · have hne : ¬ a = b := by rintro rfl; exact h1 h2
      rw [if_neg (by rintro (h | ⟨h, _⟩) <;> first | exact h1 h | exact hne h), if_pos (.inl h2), if_pos h2]
    · have he : a = b := UInt8.toNat_inj.1 (by omega)
      subst he
      rw [if_neg h2]
      simp
def tr (b : Bool) : Int := if b = true then 1 else 0
theorem tr_inj {a b : Bool} (h : tr a = tr b) : a = b := by cases a <;> cases b <;> simp [tr] at h ⊢
/-- A value: its kind, its number, its text, its truth. -/
structure V where
  k : Int
  i : Int
  s : ByteArray
  b : Bool
deriving DecidableEq
def V.ord (x y : V) : Int := if x.k = y.k then (if x.k = 1 then cmpI x.i y.i else if x.k = 2 then cmpS x.s.toList y.s.toList else if x.k = 3 then cmpI (tr x.b) (tr y.b) else 0) else cmpI x.k y.k
def V.may (x : V) : Bool := if x.k = 1 then (x.s.toList == [] && !x.b) else if x.k = 2 then (if (x.s.size : Int) > 64 then false else (x.i == 0 && !x.b)) else if x.k = 3 then (x.i == 0 && x.s.toList == []) else if x.k = 0 then (x.i == 0 && (x.s.toList == [] && !x.b)) else false
theorem bytes_ext {a b : ByteArray} (h : a.toList = b.toList) : a = b := by
  rw [ByteArray.toList_eq, ByteArray.toList_eq] at h
  cases a; cases b
  simp only at h
  rw [Array.toList_inj] at h
  rw [h]
theorem V.ord_range (x y : V) : x.ord y = -1 ∨ x.ord y = 0 ∨ x.ord y = 1 := by
  unfold V.ord
  split
  · split
    · exact cmpI_lin.range _ _
    · split
      · exact cmpS_lin.range _ _
      · split
        · exact cmpI_lin.range _ _
        · exact .inr (.inl rfl)
  · exact cmpI_lin.range _ _
theorem V.ord_anti (x y : V) : x.ord y = -y.ord x := by
  unfold V.ord
  by_cases h : x.k = y.k
  · rw [if_pos h, if_pos h.symm, ← h]
    split
    · exact cmpI_lin.anti _ _
    · split
      · exact cmpS_lin.anti _ _
      · split
        · exact cmpI_lin.anti _ _
        · rfl
  · rw [if_neg h, if_neg (fun e => h e.symm)]
    exact cmpI_lin.anti _ _
theorem V.ord_self (x : V) : x.ord x = 0 := by have := V.ord_anti x x; omega
theorem V.ord_zero {x y : V} (hx : x.may = true) (hy : y.may = true) : x.ord y = 0 ↔ x = y := by
  constructor
  · intro h
    unfold V.ord at h
    by_cases hk : x.k = y.k
    · rw [if_pos hk] at h
      obtain ⟨k, i, s, b⟩ := x
      obtain ⟨k', i', s', b'⟩ := y
      simp only at hk h
      subst hk
      unfold V.may at hx hy
      simp only at hx hy
      by_cases h1 : k = 1
      · rw [if_pos h1] at h hx hy
        simp only [Bool.and_eq_true, beq_iff_eq, Bool.not_eq_true'] at hx hy
        have := (cmpI_lin.zero _ _).1 h
        have e := bytes_ext (hx.1.trans hy.1.symm)
        rw [this, e, hx.2, hy.2]
      · rw [if_neg h1] at h hx hy
        by_cases h2 : k = 2
        · rw [if_pos h2] at h hx hy
          by_cases s1 : (s.size : Int) > 64
          · rw [if_pos s1] at hx; cases hx
          · rw [if_neg s1] at hx
            by_cases s2 : (s'.size : Int) > 64
            · rw [if_pos s2] at hy; cases hy
            · rw [if_neg s2] at hy
              simp only [Bool.and_eq_true, beq_iff_eq, Bool.not_eq_true'] at hx hy
              have := bytes_ext ((cmpS_lin.zero _ _).1 h)
              rw [this, hx.1, hx.2, hy.1, hy.2]
        · rw [if_neg h2] at h hx hy
          by_cases h3 : k = 3
          · rw [if_pos h3] at h hx hy
            simp only [Bool.and_eq_true, beq_iff_eq] at hx hy
            have := tr_inj ((cmpI_lin.zero _ _).1 h)
            have e := bytes_ext (hx.2.trans hy.2.symm)
            rw [this, e, hx.1, hy.1]
          · rw [if_neg h3] at hx hy
            by_cases h0 : k = 0
            · rw [if_pos h0] at hx hy
              simp only [Bool.and_eq_true, beq_iff_eq, Bool.not_eq_true'] at hx hy
              have e := bytes_ext (hx.2.1.trans hy.2.1.symm)
              rw [e, hx.1, hx.2.2, hy.1, hy.2.2]
            · rw [if_neg h0] at hx; cases hx
    · rw [if_neg hk] at h
      exact absurd ((cmpI_lin.zero _ _).1 h) hk
  · rintro rfl; exact V.ord_self x
theorem V.ord_le {x y z : V} (h1 : x.ord y ≤ 0) (h2 : y.ord z ≤ 0) : x.ord z ≤ 0 := by
  unfold V.ord at h1 h2 ⊢
  by_cases hk : x.k = y.k
  · rw [if_pos hk] at h1
    by_cases hl : y.k = z.k
    · rw [if_pos hl, ← hk] at h2
      rw [if_pos (hk.trans hl)]
      by_cases c1 : x.k = 1
      · rw [if_pos c1] at h1 h2 ⊢; exact cmpI_lin.le _ _ _ h1 h2
      · rw [if_neg c1] at h1 h2 ⊢
        by_cases c2 : x.k = 2
        · rw [if_pos c2] at h1 h2 ⊢; exact cmpS_lin.le _ _ _ h1 h2
        · rw [if_neg c2] at h1 h2 ⊢
          by_cases c3 : x.k = 3
          · rw [if_pos c3] at h1 h2 ⊢; exact cmpI_lin.le _ _ _ h1 h2
          · rw [if_neg c3]; omega
    · rw [if_neg hl] at h2
      rw [if_neg (fun e => hl (hk.symm.trans e)), hk]; exact h2
  · rw [if_neg hk] at h1
    by_cases hl : y.k = z.k
    · rw [if_neg (fun e => hk (e.trans hl.symm)), ← hl]; exact h1
    · rw [if_neg hl] at h2
      have h3 := cmpI_lin.le _ _ _ h1 h2
      by_cases he : x.k = z.k
      · exfalso
        rw [he] at h1
        have := cmpI_lin.anti z.k y.k
        have := cmpI_lin.zero y.k z.k
        have : cmpI y.k z.k = 0 := by omega
        exact hl ((cmpI_lin.zero _ _).1 this)
      · rw [if_neg he]; exact h3
/-- The bytes of a value. -/
def V.bytes (x : V) : List Int := if x.k = 1 then digs (fold x.i) else if x.k = 2 then digs x.s.size ++ bytesOf x.s else if x.k = 3 then [tr x.b] else []
def V.put (x : V) (l : List Int) : List Int × Int := if x.may = true then (l ++ x.bytes, 0) else ([], 1)
/-- Nothing is ahead of all. -/
def V.null : V := ⟨0, 0, ⟨#[]⟩, false⟩
theorem toList_none : (⟨#[]⟩ : ByteArray).toList = [] := by rw [ByteArray.toList_eq]
theorem V.may_null : V.null.may = true := by
  unfold V.may V.null
  simp only [toList_none]
  decide
theorem V.null_le {x : V} (hx : x.may = true) : V.null.ord x ≤ 0 := by
  unfold V.ord
  by_cases h0 : (0 : Int) = x.k
  · rw [if_pos (show V.null.k = x.k from h0), if_neg (by decide), if_neg (by decide), if_neg (by decide)]; omega
  · rw [if_neg (show ¬ V.null.k = x.k from h0)]
    unfold V.may at hx
    have : 0 < x.k := by
      by_cases c1 : x.k = 1
      · omega
      · rw [if_neg c1] at hx
        by_cases c2 : x.k = 2
        · omega
        · rw [if_neg c2] at hx
          by_cases c3 : x.k = 3
          · omega
          · rw [if_neg c3, if_neg (fun e => h0 e.symm)] at hx; cases hx
    show cmpI 0 x.k ≤ 0
    unfold cmpI
    rw [if_pos this]; omega
theorem str_bytes (s : ByteArray) : strOfNums (bytesOf s) = s := by
  apply ByteArray.ext
  apply Array.ext'
  rw [strOfNums_data, bytesOf, List.map_map]
  refine (List.map_congr_left (fun x _ => ?_)).trans (List.map_id _)
  show UInt8.ofNat ((x.toNat : Int)).toNat = id x
  rw [Int.toNat_natCast]
  exact UInt8.ofNat_toNat
theorem bytes_str {l : List Int} (h : Bytes l) : bytesOf (strOfNums l) = l := by
  rw [bytesOf, strOfNums_data, List.map_map]
  refine (List.map_congr_left (fun x hx => ?_)).trans (List.map_id _)
  have := h x hx
  show ((UInt8.ofNat x.toNat).toNat : Int) = id x
  rw [UInt8.toNat_ofNat']
  simp only [id]
  omega
theorem bytesOf_bytes (s : ByteArray) : Bytes (bytesOf s) := fun x hx => by
  rw [bytesOf, List.mem_map] at hx
  obtain ⟨b, _, rfl⟩ := hx
  have := b.toNat_lt
  omega
theorem V.bytes_bytes (x : V) : Bytes x.bytes := by
  unfold V.bytes
  split
  · exact digs_bytes _
  · split
    · exact (digs_bytes _).append (bytesOf_bytes _)
    · split
      · unfold tr; split
        · exact Bytes.cons (by decide) (by decide) Bytes.nil
        · exact Bytes.cons (by decide) (by decide) Bytes.nil
      · exact Bytes.nil
/-! ### what is got -/
abbrev Got := Int × Int × ByteArray × Bool × Int × Int
@[reducible] def bad (e : Int) : Got := (0, 0, ⟨#[]⟩, false, 0, e)
@[reducible] def good (v : V) (n : Int) : Got := (v.k, v.i, v.s, v.b, n, 0)
def getV (l : List Int) (kind : Int) : Got :=
  if kind = 0 then good V.null 0
  else if kind = 1 then (if (getn l).2.2 = 0 then good ⟨1, (getn l).1, ⟨#[]⟩, false⟩ (getn l).2.1 else bad (getn l).2.2)
  else if kind = 2 then (if (getl l).2.2 = 0 then (if (getl l).1 > 64 then bad 2 else if (getl l).2.1 + (getl l).1 > (l.length : Int) then bad 6 else good ⟨2, 0, strOfNums ((l.take ((getl l).2.1 + (getl l).1).toNat).drop (getl l).2.1.toNat), false⟩ ((getl l).2.1 + (getl l).1)) else bad (getl l).2.2)
  else if kind = 3 then (if l.length = 0 then bad 6 else if rd l 0 > 1 then bad 7 else good ⟨3, 0, ⟨#[]⟩, rd l 0 == 1⟩ 1)
  else bad 1
def anyV (l : List Int) : Got :=
  if l.length = 0 then bad 6
  else if rd l 0 > 3 then bad 7
  else if (getV (l.drop 1) (rd l 0)).2.2.2.2.2 = 0 then ((getV (l.drop 1) (rd l 0)).1, (getV (l.drop 1) (rd l 0)).2.1, (getV (l.drop 1) (rd l 0)).2.2.1, (getV (l.drop 1) (rd l 0)).2.2.2.1, (getV (l.drop 1) (rd l 0)).2.2.2.2.1 + 1, 0)
  else bad (getV (l.drop 1) (rd l 0)).2.2.2.2.2
theorem getl_cases {l : List Int} (hb : Bytes l) : (∃ e, getl l = (0, 0, e) ∧ (e = 6 ∨ e = 7)) ∨ ∃ u n : Nat, getl l = ((u : Int), (n : Int), 0) ∧ 1 ≤ n ∧ n ≤ l.length ∧ digs u = l.take n ∧ u ≤ 9223372036854775807 := by
  cases hg : getd 0 l with
  | error e => exact .inl ⟨e, by rw [getl, hg], getd_error hg⟩
  | ok p =>
    obtain ⟨u, n⟩ := p
    obtain ⟨g1, g2, g3, _, _, _⟩ := getd_ok (by omega) hb hg
    by_cases hu : u ≤ 9223372036854775807
    · exact .inr ⟨u, n, getl_small hg hu, g1, g2, g3, hu⟩
    · exact .inl ⟨7, getl_big hg hu, .inr rfl⟩
theorem getn_cases {l : List Int} (hb : Bytes l) : (∃ e, getn l = (0, 0, e) ∧ (e = 6 ∨ e = 7)) ∨ ∃ u n : Nat, getn l = (back u, (n : Int), 0) ∧ 1 ≤ n ∧ n ≤ l.length ∧ digs u = l.take n ∧ u < 18446744073709551616 := by
  cases hg : getd 0 l with
  | error e => exact .inl ⟨e, by rw [getn, hg], getd_error hg⟩
  | ok p =>
    obtain ⟨u, n⟩ := p
    obtain ⟨g1, g2, g3, _, g5, _⟩ := getd_ok (by omega) hb hg
    exact .inr ⟨u, n, by rw [getn, hg], g1, g2, g3, by simpa using g5⟩
/-- Either all is nothing and there is an error, or there is a value that may be, of the kind, whose bytes come first. -/
theorem getV_cases {l : List Int} (hb : Bytes l) (kind : Int) : (∃ e, getV l kind = bad e ∧ e ≠ 0 ∧ i64 e) ∨ ∃ (v : V) (n : Nat), getV l kind = good v n ∧ v.may = true ∧ v.k = kind ∧ v.bytes = l.take n ∧ n ≤ l.length ∧ i64 v.i := by
  unfold getV
  by_cases c0 : kind = 0
  · rw [if_pos c0]
    exact .inr ⟨V.null, 0, rfl, V.may_null, c0.symm, by rw [List.take_zero]; rfl, by omega, by decide⟩
  · rw [if_neg c0]
    by_cases c1 : kind = 1
    · rw [if_pos c1]
      rcases getn_cases hb with ⟨e, hg, he⟩ | ⟨u, n, hg, h1, h2, h3, h4⟩
      · rw [hg]
        simp only
        rw [if_neg (by omega)]
        exact .inl ⟨e, rfl, by omega, by unfold i64; omega⟩
      · rw [hg]
        simp only
        rw [if_pos trivial]
        refine .inr ⟨_, n, rfl, ?_, c1.symm, ?_, h2, back_i64 h4⟩
        · unfold V.may; simp only [toList_none] <;> rfl
        · unfold V.bytes; simp only; rw [if_pos trivial, fold_back, h3]
    · rw [if_neg c1]
      by_cases c2 : kind = 2
      · rw [if_pos c2]
        rcases getl_cases hb with ⟨e, hg, he⟩ | ⟨u, n, hg, h1, h2, h3, h4⟩
        · rw [hg]
          simp only
          rw [if_neg (by omega)]
          exact .inl ⟨e, rfl, by omega, by unfold i64; omega⟩
        · rw [hg]
          simp only
          rw [if_pos trivial]
          by_cases c3 : (u : Int) > 64
          · rw [if_pos c3]; exact .inl ⟨2, rfl, by omega, by unfold i64; omega⟩
          · rw [if_neg c3]
            by_cases c4 : (n : Int) + (u : Int) > (l.length : Int)
            · rw [if_pos c4]; exact .inl ⟨6, rfl, by omega, by unfold i64; omega⟩
            · rw [if_neg c4, show ((n : Int) + (u : Int)).toNat = n + u from by omega, Int.toNat_natCast, show (n : Int) + (u : Int) = ((n + u : Nat) : Int) from by omega]
              have hlen : ((l.take (n + u)).drop n).length = u := by rw [List.length_drop, List.length_take]; omega
              refine .inr ⟨_, n + u, rfl, ?_, c2.symm, ?_, by omega, by unfold i64; simp⟩
              · unfold V.may
                simp only
                rw [if_neg (by decide), if_pos trivial, strOfNums_size, hlen, if_neg c3]
                rfl
              · unfold V.bytes
                simp only
                rw [if_neg (by decide), if_pos trivial, strOfNums_size, hlen, h3, bytes_str ((hb.take _).drop _)]
                have : l.take n = (l.take (n + u)).take n := by rw [List.take_take, Nat.min_eq_left (by omega)]
                rw [this, List.take_append_drop]
      · rw [if_neg c2]
        by_cases c3 : kind = 3
        · rw [if_pos c3]
          cases l with
          | nil => rw [if_pos (show ([] : List Int).length = 0 from rfl)]; exact .inl ⟨6, rfl, by omega, by unfold i64; omega⟩
          | cons d t =>
            have hrd : rd (d :: t) 0 = d := rfl
            have hd := hb d (List.mem_cons_self ..)
            rw [if_neg (by simp), hrd]
            by_cases c4 : d > 1
            · rw [if_pos c4]; exact .inl ⟨7, rfl, by omega, by unfold i64; omega⟩
            · rw [if_neg c4]
              refine .inr ⟨_, 1, rfl, ?_, c3.symm, ?_, by simp, by unfold i64; simp⟩
              · unfold V.may; simp only [toList_none] <;> rfl
              · unfold V.bytes
                simp only
                rw [if_neg (by decide), if_neg (by decide), if_pos trivial, List.take_succ_cons, List.take_zero]
                unfold tr
                by_cases h1 : d = 1
                · rw [h1] <;> rfl
                · have : d = 0 := by omega
                  rw [this] <;> rfl
        · rw [if_neg c3]; exact .inl ⟨1, rfl, by omega, by unfold i64; omega⟩
/-- What was put is got, whatever stands behind. -/
theorem getV_bytes {v : V} (hm : v.may = true) (hi : i64 v.i) (more : List Int) : getV (v.bytes ++ more) v.k = good v v.bytes.length := by
  obtain ⟨k, i, s, b⟩ := v
  unfold V.may at hm
  unfold getV V.bytes
  simp only at hm hi ⊢
  by_cases c1 : k = 1
  · rw [if_pos c1] at hm
    simp only [Bool.and_eq_true, beq_iff_eq, Bool.not_eq_true'] at hm
    rw [if_neg (by omega), if_pos c1, if_pos c1, getn_digs hi]
    simp only
    rw [if_pos trivial]
    have e := bytes_ext (hm.1.trans toList_none.symm)
    rw [c1, e, hm.2]
  · rw [if_neg c1] at hm
    by_cases c2 : k = 2
    · rw [if_pos c2] at hm
      by_cases c3 : (s.size : Int) > 64
      · rw [if_pos c3] at hm; cases hm
      · rw [if_neg c3] at hm
        simp only [Bool.and_eq_true, beq_iff_eq, Bool.not_eq_true'] at hm
        rw [if_neg (by omega), if_neg c1, if_pos c2, if_neg c1, if_pos c2, List.append_assoc, getl_digs (by omega)]
        simp only
        have hlen := bytesOf_length s
        rw [if_pos trivial, if_neg c3, if_neg (by rw [List.length_append, List.length_append]; omega), Int.toNat_natCast, show (((digs s.size).length : Int) + (s.size : Int)).toNat = (digs s.size).length + s.size from by omega]
        have e : ((digs s.size ++ (bytesOf s ++ more)).take ((digs s.size).length + s.size)).drop (digs s.size).length = bytesOf s := by
          rw [← List.append_assoc, List.take_append_of_le_length (by rw [List.length_append]; omega), List.take_of_length_le (by rw [List.length_append]; omega), List.drop_left]
        rw [e, str_bytes, c2, hm.1, hm.2, List.length_append, hlen]
        simp only [good]
        congr 6
    · rw [if_neg c2] at hm
      by_cases c3 : k = 3
      · rw [if_pos c3] at hm
        simp only [Bool.and_eq_true, beq_iff_eq] at hm
        have e := bytes_ext (hm.2.trans toList_none.symm)
        rw [if_neg (by omega), if_neg c1, if_neg c2, if_pos c3, if_neg c1, if_neg c2, if_pos c3, if_neg (by simp)]
        have hrd : rd ([tr b] ++ more) 0 = tr b := rfl
        rw [hrd, if_neg (by unfold tr; split <;> omega), c3, hm.1, e]
        cases b <;> rfl
      · rw [if_neg c3] at hm
        by_cases c0 : k = 0
        · rw [if_pos c0] at hm
          simp only [Bool.and_eq_true, beq_iff_eq, Bool.not_eq_true'] at hm
          have e := bytes_ext (hm.2.1.trans toList_none.symm)
          rw [if_pos c0, if_neg c1, if_neg c2, if_neg c3, c0, hm.1, hm.2.2, e]
          rfl
        · rw [if_neg c0] at hm; cases hm
theorem may_kind {v : V} (hm : v.may = true) : 0 ≤ v.k ∧ v.k ≤ 3 := by
  unfold V.may at hm
  by_cases c1 : v.k = 1
  · omega
  · rw [if_neg c1] at hm
    by_cases c2 : v.k = 2
    · omega
    · rw [if_neg c2] at hm
      by_cases c3 : v.k = 3
      · omega
      · rw [if_neg c3] at hm
        by_cases c0 : v.k = 0
        · omega
        · rw [if_neg c0] at hm; cases hm
theorem anyV_bytes {v : V} (hm : v.may = true) (hi : i64 v.i) (more : List Int) : anyV (v.k :: (v.bytes ++ more)) = good v ((v.bytes.length : Int) + 1) := by
  have hk := may_kind hm
  unfold anyV
  rw [if_neg (by simp), show rd (v.k :: (v.bytes ++ more)) 0 = v.k from rfl, if_neg (by omega), List.drop_succ_cons, List.drop_zero, getV_bytes hm hi more]
  simp only [good]
  rw [if_pos trivial]
theorem bytes_short {v : V} (hm : v.may = true) (hi : i64 v.i) : v.bytes.length ≤ 100 := by
  unfold V.bytes
  split
  · have := digs_le_ten (fold_lt hi); omega
  · split
    · rename_i h1 h2
      unfold V.may at hm
      rw [if_neg h1, if_pos h2] at hm
      by_cases c3 : (v.s.size : Int) > 64
      · rw [if_pos c3] at hm; cases hm
      · have := digs_le_ten (u := v.s.size) (by omega)
        rw [List.length_append, bytesOf_length]; omega
    · split <;> simp
end Go.Proofs.Ytgjmpancofjjbaa.Hval
