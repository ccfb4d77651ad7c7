/- Bits of bytes, as plain numbers: what stands at a place. -/
import Derived.Laws.BitsLemmas
import Derived.Lib.ItoaNum
import Derived.Test.YthcbcddnillipaaWWords
import Derived.Test.YthcbcddnillipaaWMore
import Derived.Test.YthcbcddnillipaaHnum
namespace Go.Proofs.Ythcbcddnillipaa.Hbits
open Go.RowKit Go.Proofs.YthcbcddnillipaaW.PrintWords Go.Proofs.YthcbcddnillipaaW.PrintLast Go.Proofs.YthcbcddnillipaaW.PrintMore Go.Proofs.Ythcbcddnillipaa.Hnum
set_option linter.unusedVariables false
/-- The bit at a place of bytes. -/
def bitAt (l : List Int) (p : Nat) : Nat := (rd l ((p / 8 : Nat) : Int)).toNat / 2 ^ (p % 8) % 2
/-- So many bits, from a place on, as a number. -/
def numAt (l : List Int) (s : Nat) : Nat → Nat
  | 0 => 0
  | m + 1 => numAt l s m + bitAt l (s + m) * 2 ^ m
theorem bitAt_lt (l : List Int) (p : Nat) : bitAt l p < 2 := Nat.mod_lt _ (by decide)
theorem numAt_lt (l : List Int) (s m : Nat) : numAt l s m < 2 ^ m := by
  induction m with
  | zero => simp [numAt]
  | succ m ih =>
    have hb := bitAt_lt l (s + m)
    have : bitAt l (s + m) * 2 ^ m ≤ 1 * 2 ^ m := Nat.mul_le_mul_right _ (by omega)
    rw [numAt, Nat.pow_succ]
    omega
theorem wraps_i62 (n : Int) (h0 : 0 ≤ n) (h1 : n < 2 ^ 62) : IntKind.i64.wrap n = n := by
  rw [show (2 : Int) ^ 62 = 4611686018427387904 from by decide] at h1
  rw [IntKind.wrap_i64]; omega
theorem wrap_small {P : Nat} (h : P ≤ 2305843009213693952) : wrap64 (P : Int) = (P : Int) := wrap_id (by omega) (by omega)
theorem or_bit {acc b k : Nat} (ha : acc < 2 ^ k) (hk : k < 62) (hb : b < 2) : Go.bits .or .i64 (acc : Int) (wrap64 ((b : Int) * 2 ^ k)) = ((acc + b * 2 ^ k : Nat) : Int) := by
  have hp : 2 ^ k ≤ 2305843009213693952 := Nat.pow_le_pow_right (n := 2) (by decide) (show k ≤ 61 by omega)
  have hm : b * 2 ^ k ≤ 1 * 2 ^ k := Nat.mul_le_mul_right _ (by omega)
  have e3 : (b : Int) * 2 ^ k = ((b * 2 ^ k : Nat) : Int) := by rw [Int.natCast_mul, Int.natCast_pow]; rfl
  rw [e3, wrap_small (by omega)]
  have h2 : (4611686018427387904 : Nat) = 2 ^ 62 := by decide
  have := (bits_nat .i64 62 (by decide) wraps_i62 acc (b * 2 ^ k) (by omega) (by omega)).2
  rw [this]
  have := Nat.two_pow_add_eq_or_of_lt ha b
  rw [Nat.mul_comm b, Nat.or_comm, ← this, Nat.add_comm]
theorem and_one {y : Nat} (h : y < 256) : Go.bits .and .u8 (y : Int) 1 = ((y % 2 : Nat) : Int) := by
  have := bits_mask .u8 8 (by decide) wraps_u8 1 (by decide) (y : Int) (by omega) (by omega)
  rw [show ((2 : Int) ^ 1 - 1) = 1 from by decide] at this
  rw [this]; omega
theorem bit_step {x acc k q : Nat} (hx : x < 256) (ha : acc < 2 ^ k) (hk : k < 62) :
    Go.bits .or .i64 (acc : Int) (wrap64 (wrap64 (Go.bits .and .u8 ((x : Int) / 2 ^ q) 1) * 2 ^ k)) = ((acc + x / 2 ^ q % 2 * 2 ^ k : Nat) : Int) := by
  have hy : x / 2 ^ q < 256 := Nat.lt_of_le_of_lt (Nat.div_le_self _ _) hx
  have e0 : (x : Int) / 2 ^ q = ((x / 2 ^ q : Nat) : Int) := by rw [Int.natCast_ediv, Int.natCast_pow]; rfl
  rw [e0]
  generalize x / 2 ^ q = y at hy
  have hb : y % 2 < 2 := Nat.mod_lt _ (by decide)
  rw [and_one hy]
  generalize y % 2 = b at hb
  rw [wrap_small (P := b) (by omega), or_bit ha hk hb]

/-! ### a number as bytes -/
/-- So many bytes of a number, the lowest ones first. -/
def bytesN (L N : Nat) : List Int := (List.range L).map fun t => ((N / 256 ^ t % 256 : Nat) : Int)
theorem bytesN_length (L N : Nat) : (bytesN L N).length = L := by simp [bytesN]
theorem bytesN_get {L N t : Nat} (h : t < (bytesN L N).length) : (bytesN L N)[t] = ((N / 256 ^ t % 256 : Nat) : Int) := by simp [bytesN]
theorem bytesN_bytes (L N : Nat) : Bytes (bytesN L N) := fun x hx => by
  obtain ⟨t, _, rfl⟩ := List.mem_map.1 hx
  have := Nat.mod_lt (N / 256 ^ t) (show 256 > 0 by decide)
  constructor <;> omega
theorem pow256 (t : Nat) : 256 ^ t = 2 ^ (8 * t) := by rw [Nat.pow_mul]
theorem pow_split (p : Nat) : 2 ^ p = 2 ^ (p % 8) * 256 ^ (p / 8) := by
  rw [pow256, ← Nat.pow_add]; congr 1; omega
theorem byte_small {N p : Nat} (hN : N < 2 ^ p) : N / 256 ^ (p / 8) < 2 ^ (p % 8) := by
  rw [pow_split] at hN
  exact (Nat.div_lt_iff_lt_mul (Nat.pow_pos (by decide))).2 hN
theorem low_pow {q : Nat} (h : q < 8) : 2 ^ q ≤ 128 := Nat.pow_le_pow_right (n := 2) (by decide) (show q ≤ 7 by omega)
theorem bytesN_set {L N p b : Nat} (hN : N < 2 ^ p) (hb : b < 2) : (bytesN L N).set (p / 8) ((N / 256 ^ (p / 8) % 256 + b * 2 ^ (p % 8) : Nat) : Int) = bytesN L (N + b * 2 ^ p) := by
  apply List.ext_getElem
  · simp [bytesN_length]
  · intro t h1 h2
    rw [List.getElem_set]
    rw [bytesN_get h2]
    have hpos : 0 < 256 ^ t := Nat.pow_pos (by decide)
    by_cases ht : p / 8 = t
    · rw [if_pos ht]
      subst ht
      have hs := byte_small hN
      have hq := low_pow (q := p % 8) (Nat.mod_lt _ (by decide))
      have hm : b * 2 ^ (p % 8) ≤ 1 * 2 ^ (p % 8) := Nat.mul_le_mul_right _ (by omega)
      have e : (N + b * 2 ^ p) / 256 ^ (p / 8) = N / 256 ^ (p / 8) + b * 2 ^ (p % 8) := by
        rw [pow_split p, ← Nat.mul_assoc, Nat.add_mul_div_right _ _ hpos]
      rw [e, Nat.mod_eq_of_lt (show N / 256 ^ (p / 8) < 256 from by omega), Nat.mod_eq_of_lt (show N / 256 ^ (p / 8) + b * 2 ^ (p % 8) < 256 from by omega)]
    · rw [if_neg ht]
      rw [List.length_set] at h1
      rw [bytesN_get h1]
      congr 1
      rcases Nat.lt_or_gt_of_ne ht with hlt | hgt
      · have hp : p + 1 ≤ 8 * t := by omega
        have h2p : 2 ^ (p + 1) ≤ 256 ^ t := by rw [pow256]; exact Nat.pow_le_pow_right (by decide) hp
        have hm : b * 2 ^ p ≤ 1 * 2 ^ p := Nat.mul_le_mul_right _ (by omega)
        rw [Nat.pow_succ] at h2p
        rw [Nat.div_eq_of_lt (by omega), Nat.div_eq_of_lt (by omega)]
      · have e : 2 ^ p = 2 ^ (p - 8 * t - 8) * 256 * 256 ^ t := by
          rw [pow256, show (256 : Nat) = 2 ^ 8 from by decide, ← Nat.pow_add, ← Nat.pow_add]; congr 1; omega
        rw [e, ← Nat.mul_assoc, ← Nat.mul_assoc, Nat.add_mul_div_right _ _ hpos, Nat.add_mul_mod_self_right]
theorem and_one64 {y : Nat} (h : y < 4611686018427387904) : Go.bits .and .i64 (y : Int) 1 = ((y % 2 : Nat) : Int) := by
  have := bits_mask .i64 62 (by decide) wraps_i62 1 (by decide) (y : Int) (by omega) (by omega)
  rw [show ((2 : Int) ^ 1 - 1) = 1 from by decide] at this
  rw [this]; omega
theorem or_u8 {x b q : Nat} (hx : x < 2 ^ q) (hq : q < 8) (hb : b < 2) : Go.bits .or .u8 (x : Int) ((b : Int) % 256 * 2 ^ q % 256) = ((x + b * 2 ^ q : Nat) : Int) := by
  have hp := low_pow hq
  have hm : b * 2 ^ q ≤ 1 * 2 ^ q := Nat.mul_le_mul_right _ (by omega)
  have e : (b : Int) % 256 * 2 ^ q % 256 = ((b * 2 ^ q : Nat) : Int) := by
    rw [show (b : Int) % 256 = (b : Int) from by omega, show (b : Int) * 2 ^ q = ((b * 2 ^ q : Nat) : Int) from by rw [Int.natCast_mul, Int.natCast_pow]; rfl]
    omega
  rw [e, (bits_nat .u8 8 (by decide) wraps_u8 x (b * 2 ^ q) (by omega) (by omega)).2]
  have := Nat.two_pow_add_eq_or_of_lt hx b
  rw [Nat.mul_comm b, Nat.or_comm, ← this, Nat.add_comm]
theorem pack_bit {x n k q : Nat} (hx : x < 2 ^ q) (hq : q < 8) (hn : n < 4611686018427387904) :
    Go.bits .or .u8 (x : Int) (Go.bits .and .i64 ((n : Int) / 2 ^ k) 1 % 256 * 2 ^ q % 256) = ((x + n / 2 ^ k % 2 * 2 ^ q : Nat) : Int) := by
  have hy : n / 2 ^ k < 4611686018427387904 := Nat.lt_of_le_of_lt (Nat.div_le_self _ _) hn
  rw [show (n : Int) / 2 ^ k = ((n / 2 ^ k : Nat) : Int) from by rw [Int.natCast_ediv, Int.natCast_pow]; rfl, and_one64 hy]
  exact or_u8 hx hq (Nat.mod_lt _ (by decide))
theorem mod_step (n j : Nat) : n % 2 ^ (j + 1) = n % 2 ^ j + n / 2 ^ j % 2 * 2 ^ j := by
  rw [Nat.pow_succ, Nat.mod_mul, Nat.mul_comm (2 ^ j)]
theorem part_lt {N n s j : Nat} (hN : N < 2 ^ s) : N + n % 2 ^ j * 2 ^ s < 2 ^ (s + j) := by
  have h1 : n % 2 ^ j + 1 ≤ 2 ^ j := Nat.mod_lt _ (Nat.pow_pos (by decide))
  have h2 := Nat.mul_le_mul_right (2 ^ s) h1
  rw [Nat.add_mul, Nat.one_mul] at h2
  rw [Nat.pow_add, Nat.mul_comm (2 ^ s)]
  omega
theorem part_step (N n s j : Nat) : N + n % 2 ^ j * 2 ^ s + n / 2 ^ j % 2 * 2 ^ (s + j) = N + n % 2 ^ (j + 1) * 2 ^ s := by
  rw [mod_step, Nat.add_mul, Nat.pow_add, Nat.mul_comm (2 ^ s), ← Nat.mul_assoc, Nat.add_assoc]
/-- Numbers of so many bits each, as one number, the first ones lowest. -/
def catN (w : Nat) : List Int → Nat
  | [] => 0
  | a :: t => a.toNat + catN w t * 2 ^ w
theorem catN_snoc (w : Nat) (l : List Int) (x : Int) : catN w (l ++ [x]) = catN w l + x.toNat * 2 ^ (l.length * w) := by
  induction l with
  | nil => simp [catN]
  | cons a t ih =>
    rw [List.cons_append, catN, catN, ih, List.length_cons, Nat.add_mul, Nat.add_mul, Nat.one_mul, Nat.pow_add, Nat.mul_assoc, Nat.add_assoc]
theorem catN_lt (w : Nat) (l : List Int) (h : ∀ a ∈ l, a.toNat < 2 ^ w) : catN w l < 2 ^ (l.length * w) := by
  induction l with
  | nil => simp [catN]
  | cons a t ih =>
    have h1 := h a (List.mem_cons_self ..)
    have h2 := ih (fun b hb => h b (List.mem_cons_of_mem _ hb))
    have h3 : (catN w t + 1) * 2 ^ w ≤ 2 ^ (t.length * w) * 2 ^ w := Nat.mul_le_mul_right _ h2
    rw [catN, List.length_cons, Nat.add_mul, Nat.one_mul, Nat.pow_add]
    rw [Nat.add_mul, Nat.one_mul] at h3
    omega

/-! ### widths -/
/-- How many bits a number has (none below 1). -/
def wide (n : Int) : Int := ((Lib.bitLen n.toNat : Nat) : Int)
theorem bitLen_iff {x u : Nat} (hx : x < 2 ^ 64) : Lib.bitLen x ≤ u ↔ x < 2 ^ u := by
  by_cases h0 : x = 0
  · subst h0
    have : Lib.bitLen 0 = 0 := by decide
    rw [this]
    exact ⟨fun _ => Nat.pow_pos (by decide), fun _ => Nat.zero_le _⟩
  · obtain ⟨h1, h2, h3⟩ := Lib.bitLenAux_bounds 64 x hx h0
    constructor
    · intro h
      exact Nat.lt_of_lt_of_le h3 (Nat.pow_le_pow_right (by decide) h)
    · intro h
      have := (Nat.pow_lt_pow_iff_right (a := 2) (by decide)).1 (Nat.lt_of_le_of_lt h2 h)
      show Lib.bitLenAux 64 x ≤ u
      omega
def good (u : Nat) (n : Int) : Prop := 0 ≤ n ∧ n.toNat < 2 ^ u
instance (u : Nat) (n : Int) : Decidable (good u n) := inferInstanceAs (Decidable (_ ∧ _))
theorem wide_le {n : Int} {u : Nat} (h : i64 n) : wide n ≤ (u : Int) ↔ n.toNat < 2 ^ u := by
  unfold i64 at h
  have hx : n.toNat < 2 ^ 64 := by
    rw [show (2 : Nat) ^ 64 = 18446744073709551616 from by decide]; omega
  rw [← bitLen_iff hx]
  unfold wide
  omega
theorem catN_step {u : Nat} {l : List Int} {i : Nat} (hi : i < l.length) (hg : l[i].toNat < 2 ^ u) : catN u (l.take i) + l[i].toNat % 2 ^ u * 2 ^ (i * u) = catN u (l.take (i + 1)) := by
  rw [List.take_succ_eq_append_getElem hi, catN_snoc, Nat.mod_eq_of_lt hg, List.length_take, Nat.min_eq_left (by omega)]
theorem all_step {u : Nat} {l : List Int} {i : Nat} (hi : i < l.length) (ha : ∀ x ∈ l.take i, good u x) (hg : good u l[i]) : ∀ x ∈ l.take (i + 1), good u x := fun x hx => by
  rw [List.take_succ_eq_append_getElem hi] at hx
  rcases List.mem_append.1 hx with h | h
  · exact ha x h
  · rw [List.mem_singleton.1 h]; exact hg
theorem take_lt {u : Nat} {l : List Int} {i : Nat} (hi : i ≤ l.length) (ha : ∀ x ∈ l.take i, good u x) : catN u (l.take i) < 2 ^ (i * u) := by
  have := catN_lt u (l.take i) (fun x hx => (ha x hx).2)
  rwa [List.length_take, Nat.min_eq_left hi] at this
theorem bytesN_zero (L : Nat) : bytesN L 0 = List.replicate L 0 := by
  apply List.ext_getElem
  · simp [bytesN_length]
  · intro i h1 h2
    rw [bytesN_get h1]; simp
end Go.Proofs.Ythcbcddnillipaa.Hbits
