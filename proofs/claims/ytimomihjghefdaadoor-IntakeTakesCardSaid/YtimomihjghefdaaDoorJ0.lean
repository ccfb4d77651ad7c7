/- The numbers of layer 1 as plain lists of bytes: their digits, their folds, and what is got of bytes. The order of values, and which of them may be, in plain words. Lemmas of the session for the walks by hand: an append to a full view of a slice that came in, or to a row of the call's own. -/
import Derived.Laws.BitsLemmas
import Derived.Test.YtimomihjghefdaaDoorWWords
import Derived.Test.YtimomihjghefdaaDoorWMore
import Derived.Laws.Strings
import Derived.Test.YtimomihjghefdaaDoorProg
import Derived.ArgAppend
import Derived.Test.YtimomihjghefdaaDoorWLast
namespace Go.Proofs.YtimomihjghefdaaDoor.Hnum
open Go.RowKit Go.Proofs.YtimomihjghefdaaDoorW.PrintWords Go.Proofs.YtimomihjghefdaaDoorW.PrintLast Go.Proofs.YtimomihjghefdaaDoorW.PrintMore
set_option linter.unusedVariables false

/-- The digits of a number: seven bits each, the lowest ones first. -/
def digs (u : Nat) : List Int := if h : u < 128 then [(u : Int)] else ((u % 128 + 128 : Nat) : Int) :: digs (u / 128)
theorem z2g {u : Nat} (h : u < 128) : digs u = [(u : Int)] := by rw [digs, dif_pos h]
theorem z4k {u : Nat} (h : 128 ≤ u) : digs u = ((u % 128 + 128 : Nat) : Int) :: digs (u / 128) := by rw [digs, dif_neg (by omega)]
def Bytes (l : List Int) : Prop := ∀ x ∈ l, 0 ≤ x ∧ x < 256
instance (l : List Int) : Decidable (Bytes l) := inferInstanceAs (Decidable (∀ x ∈ l, 0 ≤ x ∧ x < 256))
theorem Bytes.nil : Bytes [] := fun _ h => by cases h
theorem Bytes.append {a b : List Int} (ha : Bytes a) (hb : Bytes b) : Bytes (a ++ b) := fun x hx => (List.mem_append.1 hx).elim (ha x) (hb x)
theorem Bytes.cons {a : Int} {b : List Int} (h0 : 0 ≤ a) (h1 : a < 256) (hb : Bytes b) : Bytes (a :: b) := fun x hx => by
  rcases List.mem_cons.1 hx with rfl | h
  · exact ⟨h0, h1⟩
  · exact hb x h
theorem Bytes.take {a : List Int} (h : Bytes a) (n : Nat) : Bytes (a.take n) := fun x hx => h x (List.mem_of_mem_take hx)
theorem Bytes.drop {a : List Int} (h : Bytes a) (n : Nat) : Bytes (a.drop n) := fun x hx => h x (List.mem_of_mem_drop hx)
theorem Bytes.of_wf {l : List Int} (h : ∀ x ∈ l, (Lit.int .u8 x).wf = true) : Bytes l := fun x hx => by
  have := h x hx
  simp [Lit.wf, IntKind.min, IntKind.max, IntKind.signed, IntKind.bits] at this
  omega

/-! ### what is got: from the k-th digit on -/
def getd (k : Nat) : List Int → Except Int (Nat × Nat)
  | [] => .error 6
  | d :: t =>
    if k = 9 ∧ 1 < d then .error 7
    else if 128 ≤ d then (match getd (k + 1) t with | .ok (u, n) => .ok ((d - 128).toNat + 128 * u, n + 1) | .error e => .error e)
    else if d = 0 ∧ 0 < k then .error 7
    else .ok (d.toNat, 1)
def trip : Except Int (Nat × Nat) → Int × Int × Int
  | .ok (u, n) => ((u : Int), (n : Int), 0)
  | .error e => (0, 0, e)
theorem z1v {l : List Int} : ∀ {k : Nat} {e : Int}, getd k l = .error e → e = 6 ∨ e = 7 := by
  induction l with
  | nil => intro k e h; simp [getd] at h; exact .inl h.symm
  | cons d t ih =>
    intro k e h
    rw [getd] at h
    by_cases h1 : k = 9 ∧ 1 < d
    · rw [if_pos h1] at h; injection h with h; exact .inr h.symm
    · rw [if_neg h1] at h
      by_cases h2 : 128 ≤ d
      · rw [if_pos h2] at h
        cases hg : getd (k + 1) t with
        | ok p => rw [hg] at h; obtain ⟨u, n⟩ := p; simp at h
        | error e' => rw [hg] at h; simp at h; subst h; exact ih hg
      · rw [if_neg h2] at h
        by_cases h3 : d = 0 ∧ 0 < k
        · rw [if_pos h3] at h; injection h with h; exact .inr h.symm
        · rw [if_neg h3] at h; cases h
/-- What was put is got. -/
theorem z4b (more : List Int) (u : Nat) : ∀ k, k ≤ 9 → u * 128 ^ k < 18446744073709551616 → (k = 0 ∨ 0 < u) → getd k (digs u ++ more) = .ok (u, (digs u).length) := by
  induction u using digs.induct with
  | case1 u h =>
    intro k hk hu h0
    rw [z2g h]
    simp only [List.cons_append, List.nil_append, getd, List.length_singleton]
    have h1 : ¬ (k = 9 ∧ 1 < (u : Int)) := by
      rintro ⟨rfl, h1⟩
      omega
    rw [if_neg h1, if_neg (by omega), if_neg (by omega), Int.toNat_natCast]
  | case2 u h ih =>
    intro k hk hu h0
    rw [z4k (by omega)]
    simp only [List.cons_append, getd, List.length_cons]
    have hk8 : k ≤ 8 := by
      rcases Nat.lt_or_ge k 9 with h9 | h9
      · omega
      · obtain rfl : k = 9 := by omega
        omega
    have hd : u / 128 * 128 ^ (k + 1) < 18446744073709551616 := by
      rw [Nat.pow_succ, Nat.mul_comm (128 ^ k), ← Nat.mul_assoc]
      exact Nat.lt_of_le_of_lt (Nat.mul_le_mul_right _ (Nat.div_mul_le_self u 128)) hu
    rw [if_neg (by omega), if_pos (by omega), ih (k + 1) (by omega) hd (.inr (by omega))]
    simp only
    congr 2
    have e : (((u % 128 + 128 : Nat) : Int) - 128).toNat = u % 128 := by omega
    rw [e]; omega
theorem z5o {u d k : Nat} (hk : k ≤ 8) (hd : d < 256) (h : u * 128 ^ (k + 1) < 18446744073709551616) : (d - 128 + 128 * u) * 128 ^ k < 18446744073709551616 := by
  have hq : ∃ q, 18446744073709551616 = q * 128 ^ (k + 1) := by
    have : k = 0 ∨ k = 1 ∨ k = 2 ∨ k = 3 ∨ k = 4 ∨ k = 5 ∨ k = 6 ∨ k = 7 ∨ k = 8 := by omega
    rcases this with rfl | rfl | rfl | rfl | rfl | rfl | rfl | rfl | rfl
    · exact ⟨144115188075855872, by decide⟩
    · exact ⟨1125899906842624, by decide⟩
    · exact ⟨8796093022208, by decide⟩
    · exact ⟨68719476736, by decide⟩
    · exact ⟨536870912, by decide⟩
    · exact ⟨4194304, by decide⟩
    · exact ⟨32768, by decide⟩
    · exact ⟨256, by decide⟩
    · exact ⟨2, by decide⟩
  obtain ⟨q, hq⟩ := hq
  have hp : 0 < 128 ^ k := Nat.pow_pos (by decide)
  rw [hq] at h ⊢
  have hu : u < q := Nat.lt_of_mul_lt_mul_right h
  have h1 : (d - 128 + 128 * u) < 128 * q := by omega
  calc (d - 128 + 128 * u) * 128 ^ k < 128 * q * 128 ^ k := Nat.mul_lt_mul_of_pos_right h1 hp
    _ = q * 128 ^ (k + 1) := by rw [Nat.pow_succ, Nat.mul_comm 128 q, Nat.mul_assoc, Nat.mul_comm 128]
/-- What is got would be put as the same bytes; a beginning of these is too short. -/
theorem z20 {l : List Int} : ∀ {k u n : Nat}, k ≤ 9 → Bytes l → getd k l = .ok (u, n) →
    1 ≤ n ∧ n ≤ l.length ∧ digs u = l.take n ∧ (0 < k → 0 < u) ∧ u * 128 ^ k < 18446744073709551616 ∧ ∀ i, i < n → getd k (l.take i) = .error 6 := by
  induction l with
  | nil => intro k u n _ _ h; simp [getd] at h
  | cons d t ih =>
    intro k u n hk hb h
    obtain ⟨hd0, hd1⟩ := hb d (List.mem_cons_self ..)
    have hbt : Bytes t := fun x hx => hb x (List.mem_cons_of_mem _ hx)
    rw [getd] at h
    by_cases h1 : k = 9 ∧ 1 < d
    · rw [if_pos h1] at h; cases h
    · rw [if_neg h1] at h
      by_cases h2 : 128 ≤ d
      · rw [if_pos h2] at h
        have hk8 : k + 1 ≤ 9 := by
          rcases Nat.lt_or_ge k 9 with h9 | h9
          · omega
          · exact absurd ⟨by omega, by omega⟩ h1
        cases hg : getd (k + 1) t with
        | error e' => rw [hg] at h; simp at h
        | ok p =>
          obtain ⟨u', n'⟩ := p
          rw [hg] at h
          simp only [Except.ok.injEq, Prod.mk.injEq] at h
          obtain ⟨rfl, rfl⟩ := h
          obtain ⟨g1, g2, g3, g4, g5, g6⟩ := ih hk8 hbt hg
          have hu' := g4 (by omega)
          obtain ⟨dn, rfl⟩ := Int.eq_ofNat_of_zero_le hd0
          have hdn : ((dn : Int) - 128).toNat = dn - 128 := by omega
          rw [hdn]
          refine ⟨by omega, by simp; omega, ?_, fun _ => by omega, ?_, ?_⟩
          · rw [z4k (by omega), List.take_succ_cons, ← g3]
            congr 1
            · omega
            · congr 1; omega
          · exact z5o (by omega) (by omega) g5
          · intro i hi
            cases i with
            | zero => rfl
            | succ i =>
              rw [List.take_succ_cons, getd, if_neg h1, if_pos h2, g6 i (by omega)]
      · rw [if_neg h2] at h
        by_cases h3 : d = 0 ∧ 0 < k
        · rw [if_pos h3] at h; cases h
        · rw [if_neg h3] at h
          simp only [Except.ok.injEq, Prod.mk.injEq] at h
          obtain ⟨rfl, rfl⟩ := h
          obtain ⟨dn, rfl⟩ := Int.eq_ofNat_of_zero_le hd0
          rw [Int.toNat_natCast]
          refine ⟨by omega, by simp, by rw [z2g (by omega)]; simp, fun _ => by omega, ?_, fun i hi => ?_⟩
          · have : k = 0 ∨ k = 1 ∨ k = 2 ∨ k = 3 ∨ k = 4 ∨ k = 5 ∨ k = 6 ∨ k = 7 ∨ k = 8 ∨ k = 9 := by omega
            rcases this with rfl | rfl | rfl | rfl | rfl | rfl | rfl | rfl | rfl | rfl <;> simp only [Nat.reducePow] <;> omega
          · obtain rfl : i = 0 := by omega
            rfl

theorem z1c {x : Int} (h0 : -9223372036854775808 ≤ x) (h1 : x ≤ 9223372036854775807) : wrap64 x = x := by unfold wrap64; omega
/-! ### folds -/
def i64 (a : Int) : Prop := -9223372036854775808 ≤ a ∧ a ≤ 9223372036854775807
instance (a : Int) : Decidable (i64 a) := inferInstanceAs (Decidable (_ ∧ _))
def fold (a : Int) : Nat := if 0 ≤ a then (2 * a).toNat else (-2 * a - 1).toNat
def back (u : Nat) : Int := if u % 2 = 0 then ((u / 2 : Nat) : Int) else -((u / 2 : Nat) : Int) - 1
theorem z8j {a : Int} (h : i64 a) : fold a < 18446744073709551616 := by
  unfold i64 at h; unfold fold; split <;> omega
theorem z79 (a : Int) : back (fold a) = a := by
  unfold fold back; split <;> split <;> omega
theorem z6w (u : Nat) : fold (back u) = u := by
  unfold fold back
  by_cases h : u % 2 = 0
  · rw [if_pos h, if_pos (by omega)]; omega
  · rw [if_neg h, if_neg (by omega)]; omega
theorem z7k {u : Nat} (h : u < 18446744073709551616) : i64 (back u) := by
  unfold back i64; split <;> omega
theorem z2u (n : Int) : IntKind.u64.wrap n = n % 18446744073709551616 := by simp [IntKind.wrap, IntKind.bits, IntKind.signed]
theorem z7e {u : Nat} (h : u < 18446744073709551616) : Go.bits .xor .i64 (wrap64 ((u : Int) / 2)) (wrap64 (-(wrap64 (Go.bits .and .u64 (u : Int) 1)))) = back u := by
  have e1 : Go.bits .and .u64 (u : Int) 1 = (u : Int) % 2 := bits_mask .u64 64 (by decide) (fun n h0 h1 => by rw [z2u]; omega) 1 (by decide) u (by omega) (by omega)
  have e2 : wrap64 ((u : Int) / 2) = (u : Int) / 2 := by unfold wrap64; omega
  have e3 : wrap64 (-(wrap64 ((u : Int) % 2))) = -((u : Int) % 2) := by unfold wrap64; omega
  rw [e1, e2, e3]
  unfold back
  have hb : ((u / 2 : Nat) : Int) = (u : Int) / 2 := by omega
  by_cases hu : u % 2 = 0
  · rw [if_pos hu, show -((u : Int) % 2) = 0 from by omega, ← hb]
    show IntKind.i64.wrap (((BitVec.ofInt 64 ((u / 2 : Nat) : Int) ^^^ BitVec.ofInt 64 0).toNat : Nat) : Int) = _
    simp only [BitVec.ofInt_natCast, BitVec.toNat_xor, BitVec.toNat_ofNat, BitVec.ofInt_ofNat, Nat.zero_mod, Nat.xor_zero]
    rw [Nat.mod_eq_of_lt (by omega), IntKind.wrap_i64]
    omega
  · rw [if_neg hu, show -((u : Int) % 2) = -1 from by omega, ← hb]
    have hm : BitVec.ofInt 64 (-1) = BitVec.allOnes 64 := by decide
    show IntKind.i64.wrap (((BitVec.ofInt 64 ((u / 2 : Nat) : Int) ^^^ BitVec.ofInt 64 (-1)).toNat : Nat) : Int) = _
    simp only [BitVec.ofInt_natCast, hm, BitVec.xor_allOnes, BitVec.toNat_not, BitVec.toNat_ofNat]
    rw [Nat.mod_eq_of_lt (by omega), IntKind.wrap_i64]
    omega
theorem z5e {acc y k : Nat} (ha : acc < 128 ^ k) (hy : y < 128) (hk : k ≤ 9) (hky : k = 9 → y ≤ 1) : Go.bits .or .u64 (acc : Int) (shl .u64 (y : Int) (wrap64 (7 * (k : Int)))) = ((acc + y * 128 ^ k : Nat) : Int) := by
  have e0 : wrap64 (7 * (k : Int)) = ((7 * k : Nat) : Int) := by unfold wrap64; omega
  have e1 : (128 : Nat) ^ k = 2 ^ (7 * k) := by rw [Nat.pow_mul]
  have hlt : y * 128 ^ k < 18446744073709551616 ∧ acc < 18446744073709551616 := by
    have : k = 0 ∨ k = 1 ∨ k = 2 ∨ k = 3 ∨ k = 4 ∨ k = 5 ∨ k = 6 ∨ k = 7 ∨ k = 8 ∨ k = 9 := by omega
    rcases this with rfl | rfl | rfl | rfl | rfl | rfl | rfl | rfl | rfl | rfl <;> simp only [Nat.reducePow] at ha ⊢ <;> omega
  have e2 : shl .u64 (y : Int) (wrap64 (7 * (k : Int))) = ((y * 128 ^ k : Nat) : Int) := by
    unfold shl
    rw [e0, Int.toNat_natCast, Nat.min_eq_left (by simp only [IntKind.bits]; omega), z2u, e1]
    rw [show ((y : Int) * 2 ^ (7 * k)) = ((y * 2 ^ (7 * k) : Nat) : Int) from by simp]
    rw [e1] at hlt
    omega
  rw [e2, (bits_nat .u64 64 (by decide) (fun n h0 h1 => by rw [z2u]; omega) acc (y * 128 ^ k) (by omega) (by omega)).2]
  rw [e1] at ha ⊢
  have := Nat.two_pow_add_eq_or_of_lt ha y
  rw [Nat.mul_comm y, Nat.or_comm, ← this, Nat.add_comm]
/-! ### what Get and GetLen answer -/
/-- What Get answers. -/
def getn (l : List Int) : Int × Int × Int := match getd 0 l with | .ok (u, n) => (back u, (n : Int), 0) | .error e => (0, 0, e)
/-- What GetLen answers. -/
def getl (l : List Int) : Int × Int × Int := match getd 0 l with | .ok (u, n) => if u ≤ 9223372036854775807 then ((u : Int), (n : Int), 0) else (0, 0, 7) | .error e => (0, 0, e)
theorem z3l {l : List Int} {u n : Nat} (hg : getd 0 l = .ok (u, n)) (hu : u ≤ 9223372036854775807) : getl l = ((u : Int), (n : Int), 0) := by
  unfold getl; rw [hg]; exact if_pos hu
theorem z84 {l : List Int} {u n : Nat} (hg : getd 0 l = .ok (u, n)) (hu : ¬ u ≤ 9223372036854775807) : getl l = (0, 0, 7) := by
  unfold getl; rw [hg]; exact if_neg hu
theorem z5y {a : Int} (h : i64 a) (more : List Int) : getn (digs (fold a) ++ more) = (a, ((digs (fold a)).length : Int), 0) := by
  unfold getn
  rw [z4b more (fold a) 0 (by omega) (by have := z8j h; omega) (.inl rfl)]
  simp only [z79]
theorem z6v {a : Nat} (h : a ≤ 9223372036854775807) (more : List Int) : getl (digs a ++ more) = ((a : Int), ((digs a).length : Int), 0) := by
  exact z3l (z4b more a 0 (by omega) (by omega) (.inl rfl)) h
end Go.Proofs.YtimomihjghefdaaDoor.Hnum
namespace Go.Proofs.YtimomihjghefdaaDoor.Hval
open Go.RowKit Go.Proofs.YtimomihjghefdaaDoorW.PrintWords Go.Proofs.YtimomihjghefdaaDoor.Hnum
set_option linter.unusedVariables false

def tr (b : Bool) : Int := if b = true then 1 else 0
/-- A value: its kind, its number, its text, its truth. -/
structure V where
  k : Int
  i : Int
  s : ByteArray
  b : Bool
deriving DecidableEq
def V.may (x : V) : Bool := if x.k = 1 then (x.s.toList == [] && !x.b) else if x.k = 2 then (if (x.s.size : Int) > 64 then false else (x.i == 0 && !x.b)) else if x.k = 3 then (x.i == 0 && x.s.toList == []) else if x.k = 0 then (x.i == 0 && (x.s.toList == [] && !x.b)) else false
theorem bytes_ext {a b : ByteArray} (h : a.toList = b.toList) : a = b := by
  rw [ByteArray.toList_eq, ByteArray.toList_eq] at h
  cases a; cases b
  simp only at h
  rw [Array.toList_inj] at h
  rw [h]
/-- The bytes of a value. -/
def V.bytes (x : V) : List Int := if x.k = 1 then digs (fold x.i) else if x.k = 2 then digs x.s.size ++ z1x x.s else if x.k = 3 then [tr x.b] else []
def V.put (x : V) (l : List Int) : List Int × Int := if x.may = true then (l ++ x.bytes, 0) else ([], 1)
/-- Nothing is ahead of all. -/
def V.null : V := ⟨0, 0, ⟨#[]⟩, false⟩
theorem z1k : (⟨#[]⟩ : ByteArray).toList = [] := by rw [ByteArray.toList_eq]
theorem V.may_null : V.null.may = true := by
  unfold V.may V.null
  simp only [z1k]
  decide
theorem z6c (s : ByteArray) : strOfNums (z1x s) = s := by
  apply ByteArray.ext
  apply Array.ext'
  rw [strOfNums_data, z1x, List.map_map]
  refine (List.map_congr_left (fun x _ => ?_)).trans (List.map_id _)
  show UInt8.ofNat ((x.toNat : Int)).toNat = id x
  rw [Int.toNat_natCast]
  exact UInt8.ofNat_toNat
theorem z7c {l : List Int} (h : Bytes l) : z1x (strOfNums l) = l := by
  rw [z1x, strOfNums_data, List.map_map]
  refine (List.map_congr_left (fun x hx => ?_)).trans (List.map_id _)
  have := h x hx
  show ((UInt8.ofNat x.toNat).toNat : Int) = id x
  rw [UInt8.toNat_ofNat']
  simp only [id]
  omega
/-! ### what is got -/
abbrev Got := Int × Int × ByteArray × Bool × Int × Int
@[reducible] def bad (e : Int) : Got := (0, 0, ⟨#[]⟩, false, 0, e)
@[reducible] def good (v : V) (n : Int) : Got := (v.k, v.i, v.s, v.b, n, 0)
def getV (l : List Int) (kind : Int) : Got :=
  if kind = 0 then good V.null 0
  else if kind = 1 then (if (getn l).2.2 = 0 then good ⟨1, (getn l).1, ⟨#[]⟩, false⟩ (getn l).2.1 else bad (getn l).2.2)
  else if kind = 2 then (if (getl l).2.2 = 0 then (if (getl l).1 > 64 then bad 2 else if (getl l).2.1 + (getl l).1 > (l.length : Int) then bad 6 else good ⟨2, 0, strOfNums ((l.take ((getl l).2.1 + (getl l).1).toNat).drop (getl l).2.1.toNat), false⟩ ((getl l).2.1 + (getl l).1)) else bad (getl l).2.2)
  else if kind = 3 then (if l.length = 0 then bad 6 else if rd l 0 > 1 then bad 7 else good ⟨3, 0, ⟨#[]⟩, rd l 0 == 1⟩ 1)
  else bad 1
theorem z27 {l : List Int} (hb : Bytes l) : (∃ e, getl l = (0, 0, e) ∧ (e = 6 ∨ e = 7)) ∨ ∃ u n : Nat, getl l = ((u : Int), (n : Int), 0) ∧ 1 ≤ n ∧ n ≤ l.length ∧ digs u = l.take n ∧ u ≤ 9223372036854775807 := by
  cases hg : getd 0 l with
  | error e => exact .inl ⟨e, by rw [getl, hg], z1v hg⟩
  | ok p =>
    obtain ⟨u, n⟩ := p
    obtain ⟨g1, g2, g3, _, _, _⟩ := z20 (by omega) hb hg
    by_cases hu : u ≤ 9223372036854775807
    · exact .inr ⟨u, n, z3l hg hu, g1, g2, g3, hu⟩
    · exact .inl ⟨7, z84 hg hu, .inr rfl⟩
theorem z3o {l : List Int} (hb : Bytes l) : (∃ e, getn l = (0, 0, e) ∧ (e = 6 ∨ e = 7)) ∨ ∃ u n : Nat, getn l = (back u, (n : Int), 0) ∧ 1 ≤ n ∧ n ≤ l.length ∧ digs u = l.take n ∧ u < 18446744073709551616 := by
  cases hg : getd 0 l with
  | error e => exact .inl ⟨e, by rw [getn, hg], z1v hg⟩
  | ok p =>
    obtain ⟨u, n⟩ := p
    obtain ⟨g1, g2, g3, _, g5, _⟩ := z20 (by omega) hb hg
    exact .inr ⟨u, n, by rw [getn, hg], g1, g2, g3, by simpa using g5⟩
/-- Either all is nothing and there is an error, or there is a value that may be, of the kind, whose bytes come first. -/
theorem z2l {l : List Int} (hb : Bytes l) (kind : Int) : (∃ e, getV l kind = bad e ∧ e ≠ 0 ∧ i64 e) ∨ ∃ (v : V) (n : Nat), getV l kind = good v n ∧ v.may = true ∧ v.k = kind ∧ v.bytes = l.take n ∧ n ≤ l.length ∧ i64 v.i := by
  unfold getV
  by_cases c0 : kind = 0
  · rw [if_pos c0]
    exact .inr ⟨V.null, 0, rfl, V.may_null, c0.symm, by rw [List.take_zero]; rfl, by omega, by decide⟩
  · rw [if_neg c0]
    by_cases c1 : kind = 1
    · rw [if_pos c1]
      rcases z3o hb with ⟨e, hg, he⟩ | ⟨u, n, hg, h1, h2, h3, h4⟩
      · rw [hg]
        simp only
        rw [if_neg (by omega)]
        exact .inl ⟨e, rfl, by omega, by unfold i64; omega⟩
      · rw [hg]
        simp only
        rw [if_pos trivial]
        refine .inr ⟨_, n, rfl, ?_, c1.symm, ?_, h2, z7k h4⟩
        · unfold V.may; simp only [z1k] <;> rfl
        · unfold V.bytes; simp only; rw [if_pos trivial, z6w, h3]
    · rw [if_neg c1]
      by_cases c2 : kind = 2
      · rw [if_pos c2]
        rcases z27 hb with ⟨e, hg, he⟩ | ⟨u, n, hg, h1, h2, h3, h4⟩
        · rw [hg]
          simp only
          rw [if_neg (by omega)]
          exact .inl ⟨e, rfl, by omega, by unfold i64; omega⟩
        · rw [hg]
          simp only
          rw [if_pos trivial]
          by_cases c3 : (u : Int) > 64
          · rw [if_pos c3]; exact .inl ⟨2, rfl, by omega, by unfold i64; omega⟩
          · rw [if_neg c3]
            by_cases c4 : (n : Int) + (u : Int) > (l.length : Int)
            · rw [if_pos c4]; exact .inl ⟨6, rfl, by omega, by unfold i64; omega⟩
            · rw [if_neg c4, show ((n : Int) + (u : Int)).toNat = n + u from by omega, Int.toNat_natCast, show (n : Int) + (u : Int) = ((n + u : Nat) : Int) from by omega]
              have hlen : ((l.take (n + u)).drop n).length = u := by rw [List.length_drop, List.length_take]; omega
              refine .inr ⟨_, n + u, rfl, ?_, c2.symm, ?_, by omega, by unfold i64; simp⟩
              · unfold V.may
                simp only
                rw [if_neg (by decide), if_pos trivial, strOfNums_size, hlen, if_neg c3]
                rfl
              · unfold V.bytes
                simp only
                rw [if_neg (by decide), if_pos trivial, strOfNums_size, hlen, h3, z7c ((hb.take _).drop _)]
                have : l.take n = (l.take (n + u)).take n := by rw [List.take_take, Nat.min_eq_left (by omega)]
                rw [this, List.take_append_drop]
      · rw [if_neg c2]
        by_cases c3 : kind = 3
        · rw [if_pos c3]
          cases l with
          | nil => rw [if_pos (show ([] : List Int).length = 0 from rfl)]; exact .inl ⟨6, rfl, by omega, by unfold i64; omega⟩
          | cons d t =>
            have hrd : rd (d :: t) 0 = d := rfl
            have hd := hb d (List.mem_cons_self ..)
            rw [if_neg (by simp), hrd]
            by_cases c4 : d > 1
            · rw [if_pos c4]; exact .inl ⟨7, rfl, by omega, by unfold i64; omega⟩
            · rw [if_neg c4]
              refine .inr ⟨_, 1, rfl, ?_, c3.symm, ?_, by simp, by unfold i64; simp⟩
              · unfold V.may; simp only [z1k] <;> rfl
              · unfold V.bytes
                simp only
                rw [if_neg (by decide), if_neg (by decide), if_pos trivial, List.take_succ_cons, List.take_zero]
                unfold tr
                by_cases h1 : d = 1
                · rw [h1] <;> rfl
                · have : d = 0 := by omega
                  rw [this] <;> rfl
        · rw [if_neg c3]; exact .inl ⟨1, rfl, by omega, by unfold i64; omega⟩
/-- What was put is got, whatever stands behind. -/
theorem z3m {v : V} (hm : v.may = true) (hi : i64 v.i) (more : List Int) : getV (v.bytes ++ more) v.k = good v v.bytes.length := by
  obtain ⟨k, i, s, b⟩ := v
  unfold V.may at hm
  unfold getV V.bytes
  simp only at hm hi ⊢
  by_cases c1 : k = 1
  · rw [if_pos c1] at hm
    simp only [Bool.and_eq_true, beq_iff_eq, Bool.not_eq_true'] at hm
    rw [if_neg (by omega), if_pos c1, if_pos c1, z5y hi]
    simp only
    rw [if_pos trivial]
    have e := bytes_ext (hm.1.trans z1k.symm)
    rw [c1, e, hm.2]
  · rw [if_neg c1] at hm
    by_cases c2 : k = 2
    · rw [if_pos c2] at hm
      by_cases c3 : (s.size : Int) > 64
      · rw [if_pos c3] at hm; cases hm
      · rw [if_neg c3] at hm
        simp only [Bool.and_eq_true, beq_iff_eq, Bool.not_eq_true'] at hm
        rw [if_neg (by omega), if_neg c1, if_pos c2, if_neg c1, if_pos c2, List.append_assoc, z6v (by omega)]
        simp only
        have hlen := z3f s
        rw [if_pos trivial, if_neg c3, if_neg (by rw [List.length_append, List.length_append]; omega), Int.toNat_natCast, show (((digs s.size).length : Int) + (s.size : Int)).toNat = (digs s.size).length + s.size from by omega]
        have e : ((digs s.size ++ (z1x s ++ more)).take ((digs s.size).length + s.size)).drop (digs s.size).length = z1x s := by
          rw [← List.append_assoc, List.take_append_of_le_length (by rw [List.length_append]; omega), List.take_of_length_le (by rw [List.length_append]; omega), List.drop_left]
        rw [e, z6c, c2, hm.1, hm.2, List.length_append, hlen]
        simp only [good]
        congr 6
    · rw [if_neg c2] at hm
      by_cases c3 : k = 3
      · rw [if_pos c3] at hm
        simp only [Bool.and_eq_true, beq_iff_eq] at hm
        have e := bytes_ext (hm.2.trans z1k.symm)
        rw [if_neg (by omega), if_neg c1, if_neg c2, if_pos c3, if_neg c1, if_neg c2, if_pos c3, if_neg (by simp)]
        have hrd : rd ([tr b] ++ more) 0 = tr b := rfl
        rw [hrd, if_neg (by unfold tr; split <;> omega), c3, hm.1, e]
        cases b <;> rfl
      · rw [if_neg c3] at hm
        by_cases c0 : k = 0
        · rw [if_pos c0] at hm
          simp only [Bool.and_eq_true, beq_iff_eq, Bool.not_eq_true'] at hm
          have e := bytes_ext (hm.2.1.trans z1k.symm)
          rw [if_pos c0, if_neg c1, if_neg c2, if_neg c3, c0, hm.1, hm.2.2, e]
          rfl
        · rw [if_neg c0] at hm; cases hm
end Go.Proofs.YtimomihjghefdaaDoor.Hval
namespace Go.Proofs.YtimomihjghefdaaDoor.Hbase
open Go.RowKit Go.Proofs.YtimomihjghefdaaDoorW.PrintWords Go.Proofs.YtimomihjghefdaaDoorW.PrintLast Go.Proofs.YtimomihjghefdaaDoorW.PrintMore
set_option linter.unusedVariables false

/-- The value is the whole of a slice that came in, without room behind it, or a row of the call's own. -/
def z8d (k : IntKind) (e : Nat) (w W : World) (A0 : Option Addr) (l0 : List Int) (v : Value) (xs : List Int) : Prop :=
  (v = .slice A0 l0.length l0.length ∧ xs = l0) ∨ Kd.R (Kd.int k) e w W.heap.size (fun _ => True) v xs

theorem z8d.start (k : IntKind) (e : Nat) (w W : World) (A0 : Option Addr) (l0 : List Int) : z8d k e w W A0 l0 (.slice A0 l0.length l0.length) l0 := .inl ⟨rfl, rfl⟩

section
variable {P : Program} {ops : Array Oper} {rest : List Oper} {o : Oper} {a : Act} {Q : Exit → Act → World → Prop}
theorem gate_convert {W : World} {s d : TypeId} {x : Tmp} (_ho : o.op = .convert s d (.tmp x)) (h : wpList P ops Q (o :: rest) a W) : wpList P ops Q (o :: rest) a W := h
/-- A string made of a row that is read. -/
theorem strof_event {W : World} {src dst e : TypeId} {x : Operand} {A : Option Addr} {n c : Nat} {xs : List Int} (hgd : o.guard = none) (ho : o.op = .convert src dst x) (hx : a.eval x = .slice A n c) (hn : n = xs.length)
    (hs : P.underlying src = some (.slice e)) (he : P.underlying e = some (.int .u8)) (hd : P.underlying dst = some .string) (hC : (Kd.int .u8).C W A xs.length xs)
    (h : wpList P ops Q rest (a.put o.dst (.string (strOfNums xs))) W) : wpList P ops Q (o :: rest) a W := by
  refine wpList_plain hgd fun K hK => ?_
  have hr := Kd.C_string (P := P) (c := c) hs he hd hC
  unfold Oper.wp execOp
  simp only [ho, hx, Sem.run_bind, hn, hr, Result.andThen_ok, Sem.run_pure]
  exact hK _ _ h
end
theorem z3h (x : List UInt8) : ∀ y : List UInt8, (!(Op.bytesLess x y || x == y)) = Op.bytesLess y x := by
  induction x with
  | nil => intro y; cases y <;> simp [Op.bytesLess]
  | cons a x ih =>
    intro y
    cases y with
    | nil => simp [Op.bytesLess]
    | cons b y =>
      have h := ih y
      simp only [Op.bytesLess]
      by_cases hab : a = b
      · subst hab
        have hlt : ¬ (a < a) := UInt8.lt_irrefl a
        simp only [hlt, decide_false, Bool.false_or, beq_self_eq_true, Bool.true_and, List.cons_beq_cons]
        exact h
      · by_cases hlt : a < b
        · have hnb : ¬ (b < a) := fun h' => UInt8.lt_irrefl a (UInt8.lt_trans hlt h')
          have hne : (b == a) = false := beq_eq_false_iff_ne.mpr (fun e => hab e.symm)
          simp [hlt, hnb, hne]
        · have hgt : b < a := by
            rcases UInt8.lt_or_lt_of_ne hab with h' | h'
            · exact absurd h' hlt
            · exact h'
          have hne : (a == b) = false := beq_eq_false_iff_ne.mpr hab
          simp [hlt, hgt, hne]
@[go_sem] theorem z5s (t : TypeId) (a b : ByteArray) : binOp .gtr t (.string a) (.string b) = pure (.bool (Op.bytesLess b.toList a.toList)) := by
  rw [← z3h]
  simp [binOp, Op.stringOp]
end Go.Proofs.YtimomihjghefdaaDoor.Hbase
