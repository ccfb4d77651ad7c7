/- What the document's Sum and Seal of layer 4 answer, in plain words. -/
import Derived.Test.YtafljcblglielaaHnum
import Derived.Test.YtafljcblglielaaHcrc
import Derived.Test.YtafljcblglielaaHframe
import Derived.Test.YtafljcblglielaaHrefputl
import Derived.Test.YtafljcblglielaaQx0
import Derived.Test.YtafljcblglielaaQx7
import Derived.Test.YtafljcblglielaaQx9
namespace Go.Proofs.Ytafljcblglielaa.Q
open Go.RowKit Go.Proofs.YtafljcblglielaaW.PrintWords Go.Proofs.YtafljcblglielaaW.PrintLast Go.Proofs.YtafljcblglielaaW.PrintMore
attribute [local go_sem] max2_int min2_int max_two min_two max_three min_three max_four min_four   -- for this text's walks alone
set_option linter.unusedVariables false
set_option linter.unusedSimpArgs false

-- SAYS What the document's Sum and Seal of layer 4 answer, in plain words.
-- FUNCS winnower/winnowerref04.Sum winnower/winnowerref04.Seal
-- NEEDS winnowerref04_differ.f winnowerref04_Sum.f winnowerref04_Seal.f winnowerref01_PutLen.f
-- IMPORT Derived.Test.YtafljcblglielaaHnum
-- IMPORT Derived.Test.YtafljcblglielaaHcrc
-- IMPORT Derived.Test.YtafljcblglielaaHframe
-- IMPORT Derived.Test.YtafljcblglielaaHrefputl
open Go.Proofs.Ytafljcblglielaa.Hnum Go.Proofs.Ytafljcblglielaa.Hcrc Go.Proofs.Ytafljcblglielaa.Hframe
theorem half (a : Nat) : Int.tmod (a : Int) 2 = ((a % 2 : Nat) : Int) := rfl
theorem halve (a : Nat) : Int.tdiv (a : Int) 2 = ((a / 2 : Nat) : Int) := rfl
theorem xor_shift (a b j : Nat) : (a ^^^ b) / 2 ^ j = a / 2 ^ j ^^^ b / 2 ^ j := by
  have h := Nat.shiftRight_xor_distrib (a := a) (b := b) (i := j)
  rwa [Nat.shiftRight_eq_div_pow, Nat.shiftRight_eq_div_pow, Nat.shiftRight_eq_div_pow] at h
theorem mod_more (x j : Nat) : x % 2 ^ (j + 1) = x % 2 ^ j + 2 ^ j * (x / 2 ^ j % 2) := by
  rw [Nat.pow_succ, Nat.mod_mul]
theorem differ_go {a b : Nat} (ha : a < 4294967296) (hb : b < 4294967296) (q : Nat) : ∀ (d j : Nat), j + d = 32 →
    winnowerref04_differ.l0 (d + q + 1) ((a / 2 ^ j : Nat) : Int) ((b / 2 ^ j : Nat) : Int) (((a ^^^ b) % 2 ^ j : Nat) : Int) ((2 ^ j : Nat) : Int) (j : Int) = some ((a ^^^ b : Nat) : Int) := by
  have hx : a ^^^ b < 2 ^ 32 := Nat.xor_lt_two_pow (by omega) (by omega)
  intro d
  induction d with
  | zero =>
    intro j h
    obtain rfl : j = 32 := by omega
    rw [winnowerref04_differ.l0, if_neg (by omega), Nat.mod_eq_of_lt hx]
  | succ d ih =>
    intro j h
    have hp : 2 ^ j ≤ 2 ^ 31 := Nat.pow_le_pow_right (by omega) (by omega)
    have hp2 : 2 ^ (j + 1) = 2 ^ j * 2 := Nat.pow_succ ..
    have hm : (a ^^^ b) % 2 ^ j < 2 ^ j := Nat.mod_lt _ (Nat.pow_pos (by omega))
    have hda : a / 2 ^ j ≤ a := Nat.div_le_self ..
    have hdb : b / 2 ^ j ≤ b := Nat.div_le_self ..
    have hh := ih (j + 1) (by omega)
    rw [mod_more, hp2, ← Nat.div_div_eq_div_mul, ← Nat.div_div_eq_div_mul, xor_shift, xor_mod] at hh
    generalize a / 2 ^ j = x at *
    generalize b / 2 ^ j = y at *
    generalize (a ^^^ b) % 2 ^ j = n at *
    generalize 2 ^ j = p at *
    rw [show d + 1 + q + 1 = (d + q + 1) + 1 from by omega, winnowerref04_differ.l0, if_pos (by omega), half, half, halve, halve, wrap_id (x := ((x / 2 : Nat) : Int)) (by omega) (by omega), wrap_id (x := ((y / 2 : Nat) : Int)) (by omega) (by omega), wrap_id (x := (p : Int) * 2) (by omega) (by omega), wrap_id (x := (j : Int) + 1) (by omega) (by omega),
      wrap_id (x := (n : Int) + (p : Int)) (by omega) (by omega), show (j : Int) + 1 = ((j + 1 : Nat) : Int) from by omega, show (p : Int) * 2 = ((p * 2 : Nat) : Int) from by omega]
    by_cases e : x % 2 = y % 2
    · rw [if_pos (by omega)]
      rw [show (x % 2 + y % 2) % 2 = 0 from by omega, Nat.mul_zero, Nat.add_zero] at hh
      exact hh
    · rw [if_neg (by omega), show (n : Int) + (p : Int) = ((n + p : Nat) : Int) from by omega]
      rw [show (x % 2 + y % 2) % 2 = 1 from by omega, Nat.mul_one] at hh
      exact hh
theorem differ_tell {a b : Nat} (ha : a < 4294967296) (hb : b < 4294967296) {k : Nat} (hk : 40 ≤ k) : winnowerref04_differ.f k (a : Int) (b : Int) = some ((a ^^^ b : Nat) : Int) := by
  obtain ⟨q, rfl⟩ : ∃ q, k = 32 + q + 1 := ⟨k - 33, by omega⟩
  have h := differ_go ha hb q 32 0 (by omega)
  rw [Nat.pow_zero, Nat.div_one, Nat.div_one, Nat.mod_one] at h
  exact h
theorem bits_go (l : List Int) (i : Nat) (q : Nat) (hq : 40 ≤ q) : ∀ (d j n : Nat), j + d = 8 → n < 4294967296 → winnowerref04_Sum.l1 (d + q + 1) l (n : Int) (i : Int) (j : Int) = winnowerref04_Sum.l1 (q + 1) l ((stepN d n : Nat) : Int) (i : Int) 8 := by
  intro d
  induction d with
  | zero => intro j n h _; rw [Nat.zero_add, show (j : Int) = 8 from by omega]; rfl
  | succ d ih =>
    intro j n h hn
    rw [show d + 1 + q + 1 = (d + q + 1) + 1 from by omega, winnowerref04_Sum.l1, if_pos (by omega), half, halve, wrap_id (x := ((n / 2 : Nat) : Int)) (by omega) (by omega), wrap_id (x := (j : Int) + 1) (by omega) (by omega), show (j : Int) + 1 = ((j + 1 : Nat) : Int) from by omega]
    by_cases e : n % 2 = 1
    · have hd := differ_tell (a := n / 2) (b := 3988292384) (by omega) (by omega) (k := d + q + 1) (by omega)
      have hs : n / 2 ^^^ 3988292384 = stp1 n := by unfold stp1; rw [if_pos e]
      rw [if_pos (by omega), show (3988292384 : Int) = ((3988292384 : Nat) : Int) from rfl, hd, Option.bind_some, hs, ih (j + 1) _ (by omega) (step_lt hn)]
      rfl
    · have hs : n / 2 = stp1 n := by unfold stp1; rw [if_neg e, Nat.xor_zero]
      rw [if_neg (by omega), hs, ih (j + 1) _ (by omega) (step_lt hn)]
      rfl
theorem refsum_go {l : List Int} (hb : Bytes l) (hl : l.length ≤ 1000000) : ∀ (d i n k : Nat), i + d = l.length → n = crcN 4294967295 (l.take i) → 20 * d + 60 ≤ k → winnowerref04_Sum.l0 k l (n : Int) (i : Int) = some (sumB l : Int) := by
  intro d
  induction d with
  | zero =>
    intro i n k h hn hk
    obtain ⟨q, rfl⟩ : ∃ q, k = q + 1 := ⟨k - 1, by omega⟩
    have hlt := crcN_lt l 4294967295 hb (by omega)
    rw [List.take_of_length_le (by omega)] at hn
    have hx : sumB l = 4294967295 - n := by
      unfold sumB
      rw [← hn]
      have h1 := congrArg BitVec.toNat (BitVec.xor_allOnes (x := BitVec.ofNat 32 n))
      rw [BitVec.toNat_xor, BitVec.toNat_not, BitVec.toNat_allOnes, BitVec.toNat_ofNat, Nat.mod_eq_of_lt (show n < 2 ^ 32 from by omega)] at h1
      exact h1
    rw [winnowerref04_Sum.l0, if_neg (by omega), wrap_id (by omega) (by omega), hx]
    congr 1
    omega
  | succ d ih =>
    intro i n k h hn hk
    obtain ⟨q, rfl⟩ : ∃ q, k = 8 + q + 2 := ⟨k - 10, by omega⟩
    have hlt : i < l.length := by omega
    have hrd : rd l (i : Int) = l[i] := by rw [rd, Int.toNat_natCast, List.getD_eq_getElem?_getD, List.getElem?_eq_getElem hlt]; rfl
    obtain ⟨c, hc⟩ := Int.eq_ofNat_of_zero_le (hb _ (List.getElem_mem hlt)).1
    have hc2 := (hb _ (List.getElem_mem hlt)).2
    have hn2 : n < 4294967296 := by rw [hn]; exact crcN_lt _ _ (hb.take i) (by omega)
    have hx : n ^^^ c < 4294967296 := Nat.xor_lt_two_pow (n := 32) hn2 (by omega)
    have hnext : stepN 8 (n ^^^ c) = crcN 4294967295 (l.take (i + 1)) := by
      rw [List.take_succ_eq_append_getElem hlt, crcN_append, ← hn, hc, crcN, Int.toNat_natCast]; rfl
    rw [show 8 + q + 2 = (8 + q + 1) + 1 from by omega, winnowerref04_Sum.l0, if_pos (by omega), if_pos (by omega), hrd, hc, wrap_id (x := (c : Int)) (by omega) (by omega), differ_tell hn2 (by omega) (by omega), Option.bind_some,
      show (0 : Int) = ((0 : Nat) : Int) from rfl, bits_go l i q (by omega) 8 0 _ (by omega) hx, winnowerref04_Sum.l1, if_neg (by omega), wrap_id (x := (i : Int) + 1) (by omega) (by omega), show (i : Int) + 1 = ((i + 1 : Nat) : Int) from by omega, hnext]
    exact ih (i + 1) _ q (by omega) rfl (by omega)
theorem refsum_tell {l : List Int} (hb : Bytes l) (hl : l.length ≤ 1000000) {k : Nat} (hk : 20 * l.length + 60 ≤ k) : winnowerref04_Sum.f k l = some (sumB l : Int) := by
  rw [winnowerref04_Sum.f]
  exact refsum_go hb hl l.length 0 4294967295 k (by omega) rfl hk
theorem refseal_tell {p : List Int} (hb : Bytes p) (hl : p.length ≤ 65536) {k : Nat} (hk : 20 * p.length + 60 ≤ k) : winnowerref04_Seal.f k p = some (sealB p, 0) := by
  have d := digs_le_ten (u := p.length) (by omega)
  have hs := sumB_lt hb
  obtain ⟨x, hx⟩ : ∃ x, x = digs p.length ++ p := ⟨_, rfl⟩
  have hxl : x.length ≤ 100000 := by rw [hx, List.length_append]; omega
  have e : sealB p = x ++ tailB (sumB p) := by rw [hx, sealB, List.append_assoc]
  rw [winnowerref04_Seal.f, if_neg (by omega), winnowerref01_PutLen.tells (by omega), Option.bind_some, if_pos (by omega), refsum_tell hb (by omega) hk, Option.bind_some, ← hx, e]
  generalize sumB p = n at *
  obtain ⟨q, rfl⟩ : ∃ q, k = q + 5 := ⟨k - 5, by omega⟩
  have t : ∀ m : Nat, Int.tmod (m : Int) 256 = ((m % 256 : Nat) : Int) := fun m => rfl
  have v : ∀ m : Nat, Int.tdiv (m : Int) 256 = ((m / 256 : Nat) : Int) := fun m => rfl
  rw [winnowerref04_Seal.l0, if_pos (by decide), if_pos (by omega), t, v, wrap_id (x := ((n / 256 : Nat) : Int)) (by omega) (by omega), wrap_id (x := (0 : Int) + 1) (by decide) (by decide),
    winnowerref04_Seal.l0, if_pos (by decide), if_pos (by rw [List.length_append, List.length_singleton]; omega), t, v, wrap_id (x := ((n / 256 / 256 : Nat) : Int)) (by omega) (by omega), wrap_id (x := (0 : Int) + 1 + 1) (by decide) (by decide),
    winnowerref04_Seal.l0, if_pos (by decide), if_pos (by simp only [List.length_append, List.length_singleton]; omega), t, v, wrap_id (x := ((n / 256 / 256 / 256 : Nat) : Int)) (by omega) (by omega), wrap_id (x := (0 : Int) + 1 + 1 + 1) (by decide) (by decide),
    winnowerref04_Seal.l0, if_pos (by decide), if_pos (by simp only [List.length_append, List.length_singleton]; omega), t, v, wrap_id (x := ((n / 256 / 256 / 256 / 256 : Nat) : Int)) (by omega) (by omega), wrap_id (x := (0 : Int) + 1 + 1 + 1 + 1) (by decide) (by decide),
    winnowerref04_Seal.l0, if_neg (by decide)]
  simp only [List.append_assoc, List.singleton_append, List.cons_append, List.nil_append, tailB]
  congr 4
  · omega
  · congr 1
    · omega
    · congr 1
      · omega
      · congr 1
        omega

end Go.Proofs.Ytafljcblglielaa.Q
