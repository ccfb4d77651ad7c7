/- Words of chapter 09: bits that are set, counted as the library counts them. -/
import Derived.Test.YteaiaeejdcmefaaDoorWWords
import Derived.Lib.TrailingZeros
import Derived.Laws.Bits64b
import Derived.Laws.BitsLemmas
namespace Go.Proofs.YteaiaeejdcmefaaDoor.Hbitset
theorem and_digit (k a b c d : Nat) (hb : b < 2 ^ k) (hd : d < 2 ^ k) : (2 ^ k * a + b) &&& (2 ^ k * c + d) = 2 ^ k * (a &&& c) + (b &&& d) := by
  have hbd : b &&& d < 2 ^ k := Nat.and_lt_two_pow b hd
  apply Nat.eq_of_testBit_eq
  intro j
  rw [Nat.testBit_and, Nat.testBit_two_pow_mul_add _ hb, Nat.testBit_two_pow_mul_add _ hd, Nat.testBit_two_pow_mul_add _ hbd]
  by_cases h : j < k
  · simp only [h, if_true, Nat.testBit_and]
  · simp only [h, if_false, Nat.testBit_and]
/-- Bits that are set. -/
def pcn (x : Nat) : Nat := ((List.range 64).filter fun j => x.testBit j).length
/-- Bits that are set, of the first n, from bit 0 on. -/
def pcr : Nat → Nat → Nat
  | 0, _ => 0
  | n + 1, x => x % 2 + pcr n (x / 2)
theorem pcr_filter (n : Nat) : ∀ x, pcr n x = ((List.range n).filter fun j => x.testBit j).length := by
  induction n with
  | zero => intro x; rfl
  | succ n ih =>
    intro x
    rw [pcr, ih, List.range_succ_eq_map, List.filter_cons]
    have e : ((List.map Nat.succ (List.range n)).filter fun j => x.testBit j).length = ((List.range n).filter fun j => (x / 2).testBit j).length := by
      rw [List.filter_map, List.length_map]
      congr 1
      apply List.filter_congr
      intro j _
      simp [Function.comp, Nat.testBit_succ]
    have h0 : x.testBit 0 = decide (x % 2 = 1) := Nat.testBit_zero x
    by_cases h : x % 2 = 1
    · rw [h0, decide_eq_true h, if_pos rfl, List.length_cons, e]; omega
    · rw [h0, decide_eq_false h, if_neg (by simp), e]; omega
theorem pcn_pcr (x : Nat) : pcn x = pcr 64 x := (pcr_filter 64 x).symm
def m0 : Nat → Nat
  | 0 => 0
  | n + 1 => 4 * m0 n + 1
def m1 : Nat → Nat
  | 0 => 0
  | n + 1 => 16 * m1 n + 3
def m2 : Nat → Nat
  | 0 => 0
  | n + 1 => 256 * m2 n + 15
/-- Pairs of bits. -/
def y1 : Nat → Nat → Nat
  | 0, _ => 0
  | n + 1, x => 4 * y1 n (x / 4) + (x % 2 + x / 2 % 2)
theorem and_1 (a : Nat) : a &&& 1 = a % 2 := Nat.and_two_pow_sub_one_eq_mod a 1
theorem and_3 (a : Nat) : a &&& 3 = a % 4 := Nat.and_two_pow_sub_one_eq_mod a 2
theorem and_15 (a : Nat) : a &&& 15 = a % 16 := Nat.and_two_pow_sub_one_eq_mod a 4
theorem step1 (n : Nat) : ∀ x, ((x / 2) &&& m0 n) + (x &&& m0 n) = y1 n x := by
  induction n with
  | zero => intro x; simp [m0, y1]
  | succ n ih =>
    intro x
    have e1 : x / 2 = 2 ^ 2 * ((x / 4) / 2) + (x / 2 % 4) := by omega
    have e2 : x = 2 ^ 2 * (x / 4) + x % 4 := by omega
    have f1 := and_digit 2 ((x / 4) / 2) (x / 2 % 4) (m0 n) 1 (by omega) (by omega)
    have f2 := and_digit 2 (x / 4) (x % 4) (m0 n) 1 (by omega) (by omega)
    rw [← e1, and_1] at f1
    rw [← e2, and_1] at f2
    have i := ih (x / 4)
    rw [m0, y1]
    rw [show 4 * m0 n + 1 = 2 ^ 2 * m0 n + 1 from rfl, f1, f2]
    omega
/-- Fours. -/
def y2 : Nat → Nat → Nat
  | 0, _ => 0
  | n + 1, x => 16 * y2 n (x / 16) + (x % 4 + x / 4 % 4)
theorem step2 (n : Nat) : ∀ x, ((x / 4) &&& m1 n) + (x &&& m1 n) = y2 n x := by
  induction n with
  | zero => intro x; simp [m1, y2]
  | succ n ih =>
    intro x
    have e1 : x / 4 = 2 ^ 4 * ((x / 16) / 4) + (x / 4 % 16) := by omega
    have e2 : x = 2 ^ 4 * (x / 16) + x % 16 := by omega
    have f1 := and_digit 4 ((x / 16) / 4) (x / 4 % 16) (m1 n) 3 (by omega) (by omega)
    have f2 := and_digit 4 (x / 16) (x % 16) (m1 n) 3 (by omega) (by omega)
    rw [← e1, and_3] at f1
    rw [← e2, and_3] at f2
    have i := ih (x / 16)
    rw [m1, y2]
    rw [show 16 * m1 n + 3 = 2 ^ 4 * m1 n + 3 from rfl, f1, f2]
    omega
theorem y1_pairs (n : Nat) : ∀ x, y1 (2 * n) x < 16 ^ n := by
  induction n with
  | zero => intro x; simp [y1]
  | succ n ih =>
    intro x
    rw [show 2 * (n + 1) = 2 * n + 1 + 1 from by omega, y1, y1, Nat.pow_succ]
    have := ih (x / 4 / 4)
    omega
/-- Nibbles. -/
def z2 : Nat → Nat → Nat
  | 0, _ => 0
  | n + 1, x => 16 * z2 n (x / 16) + (x % 2 + x / 2 % 2 + x / 4 % 2 + x / 8 % 2)
theorem nib (x : Nat) : ∃ q b0 b1 b2 b3 : Nat, x = 16 * q + (8 * b3 + 4 * b2 + 2 * b1 + b0) ∧ b0 ≤ 1 ∧ b1 ≤ 1 ∧ b2 ≤ 1 ∧ b3 ≤ 1 :=
  ⟨x / 16, x % 2, x / 2 % 2, x / 4 % 2, x / 8 % 2, by omega, by omega, by omega, by omega, by omega⟩
theorem nib_bits {x q b0 b1 b2 b3 : Nat} (h : x = 16 * q + (8 * b3 + 4 * b2 + 2 * b1 + b0)) (h0 : b0 ≤ 1) (h1 : b1 ≤ 1) (h2 : b2 ≤ 1) (h3 : b3 ≤ 1) : x % 2 = b0 ∧ x / 2 % 2 = b1 ∧ x / 4 % 2 = b2 ∧ x / 8 % 2 = b3 ∧ x / 16 = q := by omega
theorem y2_y1 (n : Nat) : ∀ x, y2 n (y1 (2 * n) x) = z2 n x := by
  induction n with
  | zero => intro x; rfl
  | succ n ih =>
    intro x
    obtain ⟨q, b0, b1, b2, b3, h, h0, h1, h2, h3⟩ := nib x
    obtain ⟨c0, c1, c2, c3, c4⟩ := nib_bits h h0 h1 h2 h3
    have i := ih q
    rw [show 2 * (n + 1) = 2 * n + 1 + 1 from by omega, y1, y1, y2, z2]
    rw [Nat.div_div_eq_div_mul, Nat.div_div_eq_div_mul, c0, c1, c2, c3, c4]
    obtain ⟨Y, hY⟩ : ∃ Y, y1 (2 * n) q = Y := ⟨_, rfl⟩
    rw [hY] at i
    rw [hY]
    clear c0 c1 c2 c3 c4 h ih
    have e : (4 * (4 * Y + (b2 + b3)) + (b0 + b1)) / 16 = Y := by omega
    rw [e, i]
    have f1 : (4 * (4 * Y + (b2 + b3)) + (b0 + b1)) % 4 = b0 + b1 := by omega
    have f2 : (4 * (4 * Y + (b2 + b3)) + (b0 + b1)) / 4 % 4 = b2 + b3 := by omega
    rw [f1, f2]
    omega
/-- Bytes. -/
def z3 : Nat → Nat → Nat
  | 0, _ => 0
  | n + 1, x => 256 * z3 n (x / 256) + (x % 2 + x / 2 % 2 + x / 4 % 2 + x / 8 % 2 + x / 16 % 2 + x / 32 % 2 + x / 64 % 2 + x / 128 % 2)
theorem four_bits (a b c d : Nat) : a % 2 + b % 2 + c % 2 + d % 2 ≤ 4 := by omega
theorem eight_bits (a b c d a' b' c' d' : Nat) : a % 2 + b % 2 + c % 2 + d % 2 + a' % 2 + b' % 2 + c' % 2 + d' % 2 ≤ 8 := by omega
theorem lo_le (a c : Nat) (h : c ≤ 4) : (16 * a + c) % 16 ≤ 4 := by omega
theorem z2_lo (n x : Nat) : z2 (n + 1) x % 16 ≤ 4 := lo_le _ _ (four_bits _ _ _ _)
theorem z2_nib (n x : Nat) : ∃ t c, z2 (n + 1) x = 16 * t + c ∧ c ≤ 4 ∧ z2 n (x / 16) = t ∧ c = x % 2 + x / 2 % 2 + x / 4 % 2 + x / 8 % 2 := ⟨_, _, rfl, four_bits _ _ _ _, rfl, rfl⟩
theorem byte_cnt (x : Nat) : x / 16 % 2 = x / 16 % 2 ∧ x / 16 / 2 % 2 = x / 32 % 2 ∧ x / 16 / 4 % 2 = x / 64 % 2 ∧ x / 16 / 8 % 2 = x / 128 % 2 := ⟨rfl, by rw [Nat.div_div_eq_div_mul], by rw [Nat.div_div_eq_div_mul], by rw [Nat.div_div_eq_div_mul]⟩
theorem step3 (n : Nat) : ∀ x, ((z2 (2 * n) x / 16) + z2 (2 * n) x) &&& m2 n = z3 n x := by
  induction n with
  | zero => intro x; simp [m2, z3]
  | succ n ih =>
    intro x
    obtain ⟨t1, c1, e1, l1, f1, g1⟩ := z2_nib (2 * n + 1) x
    obtain ⟨t2, c2, e2, l2, f2, g2⟩ := z2_nib (2 * n) (x / 16)
    obtain ⟨p1, p2, p3, p4⟩ := byte_cnt x
    rw [p2, p3, p4] at g2
    have i := ih (x / 256)
    rw [show x / 16 / 16 = x / 256 from by rw [Nat.div_div_eq_div_mul]] at f2
    rw [f2] at i
    have hl : t2 % 16 ≤ 4 := by
      rw [← f2]
      cases n with
      | zero => simp [z2]
      | succ n => rw [show 2 * (n + 1) = 2 * n + 1 + 1 from by omega]; exact z2_lo _ _
    rw [show 2 * (n + 1) = 2 * n + 1 + 1 from by omega, e1, z3, m2, ← i]
    have hc : x % 2 + x / 2 % 2 + x / 4 % 2 + x / 8 % 2 + x / 16 % 2 + x / 32 % 2 + x / 64 % 2 + x / 128 % 2 = c1 + c2 := by rw [g1, g2]; simp only [Nat.add_assoc]
    rw [hc]
    have ht : t1 = 16 * t2 + c2 := by rw [← f1, e2]
    clear hc g1 g2 p1 p2 p3 p4 f1 f2 e1 e2 i ih
    subst ht
    have e : (16 * (16 * t2 + c2) + c1) / 16 + (16 * (16 * t2 + c2) + c1) = 256 * (t2 / 16 + t2) + (16 * (t2 % 16 + c2) + (c2 + c1)) := by omega
    have hlt : 16 * (t2 % 16 + c2) + (c2 + c1) < 2 ^ 8 := by show _ < 256; omega
    have hs : (16 * (t2 % 16 + c2) + (c2 + c1)) % 16 = c1 + c2 := by omega
    have hd := and_digit 8 (t2 / 16 + t2) (16 * (t2 % 16 + c2) + (c2 + c1)) (m2 n) 15 hlt (by decide)
    rw [and_15, hs] at hd
    rw [e]
    exact hd
theorem pcr_z3 (n : Nat) : ∀ x, ∃ b, z3 (n + 1) x = 256 * z3 n (x / 256) + b ∧ b ≤ 8 ∧ pcr (8 * (n + 1)) x = b + pcr (8 * n) (x / 256) := by
  intro x
  refine ⟨_, rfl, eight_bits _ _ _ _ _ _ _ _, ?_⟩
  rw [show 8 * (n + 1) = 8 * n + 1 + 1 + 1 + 1 + 1 + 1 + 1 + 1 from by omega, pcr, pcr, pcr, pcr, pcr, pcr, pcr, pcr]
  simp only [Nat.div_div_eq_div_mul, Nat.reduceMul]
  simp only [Nat.add_assoc]
theorem z2_le (n : Nat) : ∀ x, 15 * z2 n x + 4 ≤ 4 * 16 ^ n := by
  induction n with
  | zero => intro x; simp [z2]
  | succ n ih =>
    intro x
    have h := ih (x / 16)
    have h4 := four_bits x (x / 2) (x / 4) (x / 8)
    rw [z2, Nat.pow_succ]
    generalize 16 ^ n = P at *
    generalize z2 n (x / 16) = Z at *
    generalize x % 2 + x / 2 % 2 + x / 4 % 2 + x / 8 % 2 = c at *
    omega
theorem fold8 (x3 x4 x5 x6 b0 b1 b2 b3 b4 b5 b6 b7 : Nat) (c0 : b0 ≤ 8) (c1 : b1 ≤ 8) (c2 : b2 ≤ 8) (c3 : b3 ≤ 8) (c4 : b4 ≤ 8) (c5 : b5 ≤ 8) (c6 : b6 ≤ 8) (c7 : b7 ≤ 8)
    (kx : x3 = b0 + 256 * (b1 + 256 * (b2 + 256 * (b3 + 256 * (b4 + 256 * (b5 + 256 * (b6 + 256 * b7))))))) (h4 : x4 = x3 + x3 / 256) (h5 : x5 = x4 + x4 / 65536) (h6 : x6 = x5 + x5 / 4294967296) :
    x6 % 128 = b0 + b1 + b2 + b3 + b4 + b5 + b6 + b7 ∧ x4 < 18446744073709551616 ∧ x5 < 18446744073709551616 ∧ x6 < 18446744073709551616 := by
  have d4 : x3 / 256 = b1 + 256 * (b2 + 256 * (b3 + 256 * (b4 + 256 * (b5 + 256 * (b6 + 256 * b7))))) := by omega
  have m4 : x4 = (b0 + b1) + 256 * ((b1 + b2) + 256 * ((b2 + b3) + 256 * ((b3 + b4) + 256 * ((b4 + b5) + 256 * ((b5 + b6) + 256 * ((b6 + b7) + 256 * b7)))))) := by omega
  clear kx d4 h4
  have d5 : x4 / 65536 = ((b2 + b3) + 256 * ((b3 + b4) + 256 * ((b4 + b5) + 256 * ((b5 + b6) + 256 * ((b6 + b7) + 256 * b7))))) := by omega
  have m5 : x5 = (b0 + b1 + b2 + b3) + 256 * ((b1 + b2 + b3 + b4) + 256 * ((b2 + b3 + b4 + b5) + 256 * ((b3 + b4 + b5 + b6) + 256 * ((b4 + b5 + b6 + b7) + 256 * ((b5 + b6 + b7) + 256 * ((b6 + b7) + 256 * b7)))))) := by omega
  have l4 : x4 < 18446744073709551616 := by omega
  clear d5 m4 h5
  have d6 : x5 / 4294967296 = ((b4 + b5 + b6 + b7) + 256 * ((b5 + b6 + b7) + 256 * ((b6 + b7) + 256 * b7))) := by omega
  have m6 : x6 = (b0 + b1 + b2 + b3 + b4 + b5 + b6 + b7) + 256 * ((b1 + b2 + b3 + b4 + b5 + b6 + b7) + 256 * ((b2 + b3 + b4 + b5 + b6 + b7) + 256 * ((b3 + b4 + b5 + b6 + b7) + 256 * ((b4 + b5 + b6 + b7) + 256 * ((b5 + b6 + b7) + 256 * ((b6 + b7) + 256 * b7)))))) := by omega
  have l5 : x5 < 18446744073709551616 := by omega
  clear d6 m5 h6
  exact ⟨by omega, l4, l5, by omega⟩
theorem pop64 (x x1 x2 x3 x4 x5 x6 : Nat) (h1 : x1 = ((x / 2) &&& 6148914691236517205) + (x &&& 6148914691236517205)) (h2 : x2 = ((x1 / 4) &&& 3689348814741910323) + (x1 &&& 3689348814741910323)) (h3 : x3 = ((x2 / 16) + x2) &&& 1085102592571150095)
    (h4 : x4 = x3 + x3 / 256) (h5 : x5 = x4 + x4 / 65536) (h6 : x6 = x5 + x5 / 4294967296) : x6 % 128 = pcn x ∧ x1 < 18446744073709551616 ∧ x2 < 18446744073709551616 ∧ x2 / 16 + x2 < 18446744073709551616 ∧ x4 < 18446744073709551616 ∧ x5 < 18446744073709551616 ∧ x6 < 18446744073709551616 := by
  have k1 : x1 = y1 32 x := by rw [h1]; exact step1 32 x
  have k2 : x2 = z2 16 x := by rw [h2, k1]; exact (step2 16 (y1 32 x)).trans (y2_y1 16 x)
  have k3 : x3 = z3 8 x := by rw [h3, k2]; exact step3 8 x
  have l1 : x1 < 18446744073709551616 := by rw [k1]; exact y1_pairs 16 x
  have l2 : x2 ≤ 4919131752989213764 := by
    rw [k2]
    have h := z2_le 16 x
    generalize z2 16 x = Z at h
    rw [show 4 * 16 ^ 16 = 73786976294838206464 from rfl] at h
    omega
  rw [pcn_pcr]
  obtain ⟨b0, e0, c0, d0⟩ := pcr_z3 7 x
  obtain ⟨b1, e1, c1, d1⟩ := pcr_z3 6 (x / 256)
  obtain ⟨b2, e2, c2, d2⟩ := pcr_z3 5 (x / 256 / 256)
  obtain ⟨b3, e3, c3, d3⟩ := pcr_z3 4 (x / 256 / 256 / 256)
  obtain ⟨b4, e4, c4, d4⟩ := pcr_z3 3 (x / 256 / 256 / 256 / 256)
  obtain ⟨b5, e5, c5, d5⟩ := pcr_z3 2 (x / 256 / 256 / 256 / 256 / 256)
  obtain ⟨b6, e6, c6, d6⟩ := pcr_z3 1 (x / 256 / 256 / 256 / 256 / 256 / 256)
  obtain ⟨b7, e7, c7, d7⟩ := pcr_z3 0 (x / 256 / 256 / 256 / 256 / 256 / 256 / 256)
  have kx : x3 = b0 + 256 * (b1 + 256 * (b2 + 256 * (b3 + 256 * (b4 + 256 * (b5 + 256 * (b6 + 256 * b7)))))) := by
    rw [k3, e0, e1, e2, e3, e4, e5, e6, e7, z3]
    clear d0 d1 d2 d3 d4 d5 d6 d7 e0 e1 e2 e3 e4 e5 e6 e7 k1 k2 k3 h1 h2 h3 h4 h5 h6 l1 l2
    omega
  have kp : pcr 64 x = b0 + b1 + b2 + b3 + b4 + b5 + b6 + b7 := by
    rw [show 64 = 8 * (7 + 1) from rfl, d0, show 8 * 7 = 8 * (6 + 1) from rfl, d1, show 8 * 6 = 8 * (5 + 1) from rfl, d2, show 8 * 5 = 8 * (4 + 1) from rfl, d3, show 8 * 4 = 8 * (3 + 1) from rfl, d4, show 8 * 3 = 8 * (2 + 1) from rfl, d5, show 8 * 2 = 8 * (1 + 1) from rfl, d6, show 8 * 1 = 8 * (0 + 1) from rfl, d7, show 8 * 0 = 0 from rfl, pcr]
    omega
  obtain ⟨r0, r1, r2, r3⟩ := fold8 x3 x4 x5 x6 b0 b1 b2 b3 b4 b5 b6 b7 c0 c1 c2 c3 c4 c5 c6 c7 kx h4 h5 h6
  rw [kp]
  exact ⟨r0, l1, by omega, by omega, r1, r2, r3⟩
/-- The bits that are set, of the first n, each with j more. -/
def bl : Nat → Nat → Nat → List Nat
  | 0, _, _ => []
  | n + 1, j, x => if x % 2 = 1 then j :: bl n (j + 1) (x / 2) else bl n (j + 1) (x / 2)
theorem bl_zero (n : Nat) : ∀ j, bl n j 0 = [] := by
  induction n with
  | zero => intro j; rfl
  | succ n ih => intro j; rw [bl, if_neg (by decide)]; exact ih (j + 1)
theorem bl_len (n : Nat) : ∀ j x, (bl n j x).length = pcr n x := by
  induction n with
  | zero => intro j x; rfl
  | succ n ih =>
    intro j x
    rw [bl, pcr]
    by_cases h : x % 2 = 1
    · rw [if_pos h, List.length_cons, ih]; omega
    · rw [if_neg h, ih]; omega
theorem bl_len64 (j x : Nat) : (bl 64 j x).length = pcn x := by rw [bl_len, pcn_pcr]
theorem and_low (y : Nat) (h : 0 < y) : (2 * y) &&& (2 * y - 1) = 2 * (y &&& (y - 1)) := by
  have h1 := and_digit 1 y 0 (y - 1) 1 (by decide) (by decide)
  rw [show 2 ^ 1 * y + 0 = 2 * y by omega, show 2 ^ 1 * (y - 1) + 1 = 2 * y - 1 by omega] at h1
  rw [h1]
  simp
theorem and_odd (y : Nat) : (2 * y + 1) &&& (2 * y + 1 - 1) = 2 * y := by
  have h1 := and_digit 1 y 1 y 0 (by decide) (by decide)
  rw [show 2 ^ 1 * y + 1 = 2 * y + 1 by omega, show 2 ^ 1 * y + 0 = 2 * y + 1 - 1 by omega] at h1
  rw [h1, Nat.and_self]
  simp
/-- The first bit that is set, and the others. -/
theorem bl_step (n : Nat) : ∀ j x, 0 < x → x < 2 ^ n → bl n j x = (j + Lib.ctzFrom n x) :: bl n j (x &&& (x - 1)) := by
  induction n with
  | zero => intro j x h0 h; simp at h; omega
  | succ n ih =>
    intro j x h0 h
    rw [Nat.pow_succ] at h
    by_cases hx : x % 2 = 1
    · obtain ⟨y, rfl⟩ : ∃ y, x = 2 * y + 1 := ⟨x / 2, by omega⟩
      rw [and_odd, bl, bl, Lib.ctzFrom, if_pos hx, if_pos hx, if_neg (by omega), show (2 * y + 1) / 2 = y by omega, show 2 * y / 2 = y by omega]
      rfl
    · obtain ⟨y, rfl⟩ : ∃ y, x = 2 * y := ⟨x / 2, by omega⟩
      rw [and_low y (by omega), bl, bl, Lib.ctzFrom, if_neg hx, if_neg hx, if_neg (by omega), show 2 * y / 2 = y by omega, show 2 * (y &&& (y - 1)) / 2 = y &&& (y - 1) by omega, ih (j + 1) y (by omega) (by omega)]
      congr 1
      omega
theorem bl_step64 (j x : Nat) (h0 : 0 < x) (h : x < 18446744073709551616) : bl 64 j x = (j + Lib.ctz 64 x) :: bl 64 j (x &&& (x - 1)) := by
  rw [bl_step 64 j x h0 h, Lib.ctz, if_neg (by omega)]
theorem bl_le (n : Nat) : ∀ j x, (bl n j x).length ≤ n := by
  induction n with
  | zero => intro j x; exact Nat.le_refl _
  | succ n ih =>
    intro j x
    have := ih (j + 1) (x / 2)
    rw [bl]
    by_cases h : x % 2 = 1
    · rw [if_pos h, List.length_cons]; omega
    · rw [if_neg h]; omega
/-- What is in a set whose words these are, the first of them the word k. -/
def memb : Nat → List Int → List Nat
  | _, [] => []
  | k, x :: xs => bl 64 (64 * k) x.toNat ++ memb (k + 1) xs
theorem memb_len (l : List Int) : ∀ k, (memb k l).length ≤ 64 * l.length := by
  induction l with
  | nil => intro k; exact Nat.le_refl _
  | cons x xs ih =>
    intro k
    have h1 := bl_le 64 (64 * k) x.toNat
    have h2 := ih (k + 1)
    rw [memb, List.length_append, List.length_cons]
    omega
theorem memb_drop (l : List Int) (i : Nat) (h : i < l.length) : memb i (l.drop i) = bl 64 (64 * i) (l.getD i 0).toNat ++ memb (i + 1) (l.drop (i + 1)) := by
  rw [List.drop_eq_getElem_cons h, memb, List.getD_eq_getElem?_getD, List.getElem?_eq_getElem h, Option.getD_some]
/-- The numbers of a set are words. -/
def U64 (l : List Int) : Prop := ∀ x ∈ l, 0 ≤ x ∧ x < 18446744073709551616
theorem U64.at {l : List Int} (h : U64 l) (i : Nat) : 0 ≤ l.getD i 0 ∧ l.getD i 0 < 18446744073709551616 := by
  by_cases hi : i < l.length
  · rw [List.getD_eq_getElem?_getD, List.getElem?_eq_getElem hi, Option.getD_some]; exact h _ (List.getElem_mem hi)
  · rw [List.getD_eq_getElem?_getD, List.getElem?_eq_none (by omega)]; exact ⟨by decide, by decide⟩
theorem U64.nil : U64 [] := fun x h => by cases h
theorem U64.nat {l : List Int} (h : U64 l) (i : Nat) : ∃ n : Nat, l.getD i 0 = (n : Int) ∧ n < 18446744073709551616 := by
  obtain ⟨n, hn⟩ := Int.eq_ofNat_of_zero_le (h.at i).1
  have := (h.at i).2
  exact ⟨n, hn, by omega⟩
/-- Whether a number is in a set whose words these are. -/
def bit (w : List Int) (i : Nat) : Bool := (w.getD (i / 64) 0).toNat.testBit (i % 64)
theorem bit_nil (i : Nat) : bit [] i = false := by simp [bit]
theorem bit_far {w : List Int} {i : Nat} (h : w.length ≤ i / 64) : bit w i = false := by
  rw [bit, List.getD_eq_getElem?_getD, List.getElem?_eq_none h]; simp
theorem word_eq {a b : Nat} (ha : a < 18446744073709551616) (hb : b < 18446744073709551616) (h : ∀ j, j < 64 → a.testBit j = b.testBit j) : a = b := by
  apply Nat.eq_of_testBit_eq
  intro j
  by_cases hj : j < 64
  · exact h j hj
  · have hp : (2 : Nat) ^ 64 ≤ 2 ^ j := Nat.pow_le_pow_right (by decide) (by omega)
    rw [Nat.testBit_lt_two_pow (by omega : a < 2 ^ j), Nat.testBit_lt_two_pow (by omega : b < 2 ^ j)]
theorem words_eq {l m : List Int} (hl : U64 l) (hm : U64 m) (h : ∀ i, bit l i = bit m i) (k : Nat) : l.getD k 0 = m.getD k 0 := by
  obtain ⟨a, ea, ha⟩ := hl.nat k
  obtain ⟨b, eb, hb⟩ := hm.nat k
  have : a = b := word_eq ha hb fun j hj => by
    have := h (64 * k + j)
    rw [bit, bit, show (64 * k + j) / 64 = k by omega, show (64 * k + j) % 64 = j by omega, ea, eb] at this
    exact this
  rw [ea, eb, this]
theorem bl_filter (n : Nat) : ∀ j x, bl n j x = ((List.range n).filter fun i => x.testBit i).map (j + ·) := by
  induction n with
  | zero => intro j x; rfl
  | succ n ih =>
    intro j x
    have h0 : x.testBit 0 = decide (x % 2 = 1) := Nat.testBit_zero x
    have e : (((List.map Nat.succ (List.range n)).filter fun i => x.testBit i).map (j + ·)) = ((List.range n).filter fun i => (x / 2).testBit i).map (j + 1 + ·) := by
      rw [List.filter_map, List.map_map]
      have : (List.range n).filter ((fun i => x.testBit i) ∘ Nat.succ) = (List.range n).filter fun i => (x / 2).testBit i := List.filter_congr fun i _ => by simp [Function.comp, Nat.testBit_succ]
      rw [this]
      exact List.map_congr_left fun i _ => by simp only [Function.comp]; omega
    rw [bl, ih, List.range_succ_eq_map, List.filter_cons]
    by_cases h : x % 2 = 1
    · rw [if_pos h, h0, decide_eq_true h, if_pos rfl, List.map_cons, e]
      rfl
    · rw [if_neg h, h0, decide_eq_false h, if_neg (by simp), e]
theorem memb_filter (l : List Int) : ∀ k, memb k l = ((List.range (64 * l.length)).filter fun i => bit l i).map (64 * k + ·) := by
  induction l with
  | nil => intro k; rfl
  | cons x xs ih =>
    intro k
    have h1 : ((List.range 64).filter fun i => bit (x :: xs) i) = (List.range 64).filter fun i => x.toNat.testBit i := List.filter_congr fun i hi => by
      have := List.mem_range.1 hi
      rw [bit, show i / 64 = 0 by omega, show i % 64 = i by omega]
      rfl
    have h2 : (((List.range (64 * xs.length)).map (64 + ·)).filter fun i => bit (x :: xs) i) = ((List.range (64 * xs.length)).filter fun i => bit xs i).map (64 + ·) := by
      rw [List.filter_map]
      congr 1
      exact List.filter_congr fun i _ => by
        simp only [Function.comp, bit]
        rw [show (64 + i) / 64 = i / 64 + 1 by omega, show (64 + i) % 64 = i % 64 by omega]
        rfl
    rw [memb, ih, bl_filter, List.length_cons, show 64 * (xs.length + 1) = 64 + 64 * xs.length by omega, List.range_add, List.filter_append, List.map_append, h1, h2, List.map_map]
    congr 1
    exact List.map_congr_left fun i _ => by simp only [Function.comp]; omega
/-- All that are below n and of which p says so. -/
def elems (n : Nat) (p : Nat → Bool) : List Nat := (List.range n).filter p
theorem memb_elems (l : List Int) (n : Nat) (h : 64 * l.length ≤ n) : memb 0 l = elems n (bit l) := by
  rw [memb_filter, elems, show n = 64 * l.length + (n - 64 * l.length) by omega, List.range_add, List.filter_append]
  have e : ((List.range (n - 64 * l.length)).map (64 * l.length + ·)).filter (bit l) = [] := by
    rw [List.filter_eq_nil_iff]
    intro x hx
    obtain ⟨y, _, rfl⟩ := List.mem_map.1 hx
    rw [bit_far (by omega)]
    simp
  rw [e, List.append_nil]
  have : (fun x => 64 * 0 + x) = id := by funext x; simp
  rw [this, List.map_id]
theorem elems_congr {n : Nat} {p q : Nat → Bool} (h : ∀ i, i < n → p i = q i) : elems n p = elems n q := List.filter_congr fun i hi => h i (List.mem_range.1 hi)
theorem elems_mem {n : Nat} {p : Nat → Bool} {i : Nat} : i ∈ elems n p ↔ i < n ∧ p i = true := by rw [elems, List.mem_filter, List.mem_range]
theorem elems_sorted (n : Nat) (p : Nat → Bool) : (elems n p).Pairwise (· < ·) := List.Pairwise.filter p List.pairwise_lt_range
theorem filter_len {α : Type} (p q : α → Bool) (l : List α) : (l.filter fun x => p x && q x).length + (l.filter fun x => p x || q x).length = (l.filter p).length + (l.filter q).length := by
  induction l with
  | nil => rfl
  | cons a l ih =>
    cases hp : p a <;> cases hq : q a <;> simp only [List.filter_cons, hp, hq, Bool.and_true, Bool.and_false, Bool.or_true, Bool.or_false, if_true, if_false, List.length_cons, Bool.false_eq_true] <;> omega
/-- Words, told by their numbers. -/
theorem bit_map (n : Nat) (f : Nat → Int) (i : Nat) : bit ((List.range n).map f) i = (decide (i / 64 < n) && (f (i / 64)).toNat.testBit (i % 64)) := by
  by_cases h : i / 64 < n
  · rw [bit, List.getD_eq_getElem?_getD, List.getElem?_eq_getElem (by simpa using h), List.getElem_map, List.getElem_range, Option.getD_some, decide_eq_true h, Bool.true_and]
  · rw [bit_far (by simpa using h), decide_eq_false h, Bool.false_and]
theorem bits_andNot_u64_nat (a b : Nat) (ha : a < 18446744073709551616) (hb : b < 18446744073709551616) : Go.bits .andNot .u64 (a : Int) (b : Int) = ((a &&& (18446744073709551616 - (b + 1)) : Nat) : Int) := by
  have hx : a &&& (18446744073709551616 - (b + 1)) < 2 ^ 64 := Nat.and_lt_two_pow _ (by omega)
  have h1 : (BitVec.ofInt 64 (a : Int)).toNat = a := by
    rw [BitVec.ofInt_natCast, BitVec.toNat_ofNat]; exact Nat.mod_eq_of_lt (by omega)
  have h2 : (BitVec.ofInt 64 (b : Int)).toNat = b := by
    rw [BitVec.ofInt_natCast, BitVec.toNat_ofNat]; exact Nat.mod_eq_of_lt (by omega)
  show IntKind.u64.wrap ((BitVec.ofInt 64 (a : Int) &&& ~~~BitVec.ofInt 64 (b : Int)).toNat : Int) = _
  rw [BitVec.toNat_and, BitVec.toNat_not, h1, h2, IntKind.wrap_u64]
  have e : 2 ^ 64 - 1 - b = 18446744073709551616 - (b + 1) := by omega
  rw [e]
  omega
/-- The words' own operations, bit by bit. -/
theorem and_word {a b : Int} (ha : 0 ≤ a ∧ a < 18446744073709551616) (hb : 0 ≤ b ∧ b < 18446744073709551616) : (0 ≤ Go.bits .and .u64 a b ∧ Go.bits .and .u64 a b < 18446744073709551616) ∧ ∀ j, (Go.bits .and .u64 a b).toNat.testBit j = (a.toNat.testBit j && b.toNat.testBit j) := by
  obtain ⟨x, rfl⟩ := Int.eq_ofNat_of_zero_le ha.1
  obtain ⟨y, rfl⟩ := Int.eq_ofNat_of_zero_le hb.1
  have hx : x &&& y < 2 ^ 64 := Nat.and_lt_two_pow _ (by omega)
  rw [bits_and_u64_nat x y (by omega) (by omega)]
  exact ⟨by omega, fun j => by rw [Int.toNat_natCast, Int.toNat_natCast, Int.toNat_natCast, Nat.testBit_and]⟩
theorem or_word {a b : Int} (ha : 0 ≤ a ∧ a < 18446744073709551616) (hb : 0 ≤ b ∧ b < 18446744073709551616) : (0 ≤ Go.bits .or .u64 a b ∧ Go.bits .or .u64 a b < 18446744073709551616) ∧ ∀ j, (Go.bits .or .u64 a b).toNat.testBit j = (a.toNat.testBit j || b.toNat.testBit j) := by
  obtain ⟨x, rfl⟩ := Int.eq_ofNat_of_zero_le ha.1
  obtain ⟨y, rfl⟩ := Int.eq_ofNat_of_zero_le hb.1
  have hx : x ||| y < 2 ^ 64 := Nat.or_lt_two_pow (by omega) (by omega)
  rw [bits_or_u64_nat x y (by omega) (by omega)]
  exact ⟨by omega, fun j => by rw [Int.toNat_natCast, Int.toNat_natCast, Int.toNat_natCast, Nat.testBit_or]⟩
theorem andNot_word {a b : Int} (ha : 0 ≤ a ∧ a < 18446744073709551616) (hb : 0 ≤ b ∧ b < 18446744073709551616) : (0 ≤ Go.bits .andNot .u64 a b ∧ Go.bits .andNot .u64 a b < 18446744073709551616) ∧ ∀ j, j < 64 → (Go.bits .andNot .u64 a b).toNat.testBit j = (a.toNat.testBit j && !b.toNat.testBit j) := by
  obtain ⟨x, rfl⟩ := Int.eq_ofNat_of_zero_le ha.1
  obtain ⟨y, rfl⟩ := Int.eq_ofNat_of_zero_le hb.1
  have hx : x &&& (18446744073709551616 - (y + 1)) < 2 ^ 64 := Nat.and_lt_two_pow _ (by omega)
  rw [bits_andNot_u64_nat x y (by omega) (by omega)]
  refine ⟨by omega, fun j hj => ?_⟩
  rw [Int.toNat_natCast, Int.toNat_natCast, Int.toNat_natCast, Nat.testBit_and, show 18446744073709551616 - (y + 1) = 2 ^ 64 - (y + 1) from rfl, Nat.testBit_two_pow_sub_succ (by omega : y < 2 ^ 64), decide_eq_true hj, Bool.true_and]
theorem pow_word (j : Nat) (h : j < 64) : 0 ≤ ((2 ^ j : Nat) : Int) ∧ ((2 ^ j : Nat) : Int) < 18446744073709551616 := by
  have h1 : (2 : Nat) ^ j < 2 ^ 64 := Nat.pow_lt_pow_right (by decide) h
  generalize (2 : Nat) ^ j = n at *
  omega
theorem set_bit {w : List Int} {k : Nat} (hk : k < w.length) (x : Int) (i : Nat) : bit (w.set k x) i = if i / 64 = k then x.toNat.testBit (i % 64) else bit w i := by
  by_cases h : i / 64 = k
  · rw [if_pos h, bit, h, List.getD_eq_getElem?_getD, List.getElem?_set_self hk, Option.getD_some]
  · rw [if_neg h, bit, bit, List.getD_eq_getElem?_getD, List.getElem?_set_ne (Ne.symm h), List.getD_eq_getElem?_getD]
theorem U64.set {w : List Int} (h : U64 w) (k : Nat) {x : Int} (hx : 0 ≤ x ∧ x < 18446744073709551616) : U64 (w.set k x) := fun y hy => by
  rcases List.mem_or_eq_of_mem_set hy with h1 | rfl
  · exact h y h1
  · exact hx
/-- Words, long enough for a number. -/
def padW (w : List Int) (i : Nat) : List Int := w ++ List.replicate (i / 64 + 1 - w.length) 0
theorem padW_len (w : List Int) (i : Nat) : (padW w i).length = max w.length (i / 64 + 1) := by rw [padW, List.length_append, List.length_replicate]; omega
theorem padW_getD (w : List Int) (i k : Nat) : (padW w i).getD k 0 = w.getD k 0 := by
  rw [padW, List.getD_eq_getElem?_getD, List.getD_eq_getElem?_getD]
  by_cases h : k < w.length
  · rw [List.getElem?_append_left h]
  · rw [List.getElem?_append_right (by omega), List.getElem?_eq_none (by omega : w.length ≤ k)]
    by_cases h2 : k - w.length < i / 64 + 1 - w.length
    · rw [List.getElem?_eq_getElem (by simpa using h2), List.getElem_replicate]; rfl
    · rw [List.getElem?_eq_none (by simp; omega)]
theorem padW_bit (w : List Int) (i j : Nat) : bit (padW w i) j = bit w j := by rw [bit, padW_getD, bit]
theorem U64.pad {w : List Int} (h : U64 w) (i : Nat) : U64 (padW w i) := fun x hx => by
  rcases List.mem_append.1 hx with h1 | h1
  · exact h x h1
  · rw [List.eq_of_mem_replicate h1]; exact ⟨by decide, by decide⟩
/-- With one number more. -/
def putL (w : List Int) (i : Nat) : List Int := (padW w i).set (i / 64) (Go.bits .or .u64 ((padW w i).getD (i / 64) 0) ((2 ^ (i % 64) : Nat) : Int))
theorem putL_len (w : List Int) (i : Nat) : (putL w i).length = max w.length (i / 64 + 1) := by rw [putL, List.length_set, padW_len]
theorem U64.put {w : List Int} (h : U64 w) (i : Nat) : U64 (putL w i) := (h.pad i).set _ (or_word ((h.pad i).at _) (pow_word _ (Nat.mod_lt _ (by decide)))).1
theorem putL_bit {w : List Int} (h : U64 w) (i j : Nat) : bit (putL w i) j = (bit w j || decide (j = i)) := by
  rw [putL, set_bit (by rw [padW_len]; omega), (or_word ((h.pad i).at _) (pow_word _ (Nat.mod_lt _ (by decide)))).2, padW_bit, padW_getD, Int.toNat_natCast, Nat.testBit_two_pow]
  by_cases e : j / 64 = i / 64
  · rw [if_pos e, bit, e]
    congr 1
    by_cases e2 : i % 64 = j % 64
    · rw [decide_eq_true e2, decide_eq_true (by omega)]
    · rw [decide_eq_false e2, decide_eq_false (by omega)]
  · rw [if_neg e, decide_eq_false (by intro x; exact e (by rw [x])), Bool.or_false]
/-- With one number less. -/
def rmL (w : List Int) (i : Nat) : List Int := w.set (i / 64) (Go.bits .andNot .u64 (w.getD (i / 64) 0) ((2 ^ (i % 64) : Nat) : Int))
theorem U64.rm {w : List Int} (h : U64 w) (i : Nat) : U64 (rmL w i) := h.set _ (andNot_word (h.at _) (pow_word _ (Nat.mod_lt _ (by decide)))).1
theorem rmL_bit {w : List Int} (h : U64 w) (i j : Nat) (hi : i / 64 < w.length) : bit (rmL w i) j = (bit w j && decide (j ≠ i)) := by
  rw [rmL, set_bit hi, (andNot_word (h.at _) (pow_word _ (Nat.mod_lt _ (by decide)))).2 _ (Nat.mod_lt _ (by decide)), Int.toNat_natCast, Nat.testBit_two_pow]
  by_cases e : j / 64 = i / 64
  · rw [if_pos e, bit, e]
    congr 1
    by_cases e2 : i % 64 = j % 64
    · rw [decide_eq_true e2, decide_eq_false (by simp; omega)]; rfl
    · rw [decide_eq_false e2, decide_eq_true (by omega)]; rfl
  · rw [if_neg e, decide_eq_true (by intro x; exact e (by rw [x])), Bool.and_true]
theorem U64.map {n : Nat} {f : Nat → Int} (h : ∀ k, k < n → 0 ≤ f k ∧ f k < 18446744073709551616) : U64 ((List.range n).map f) := fun x hx => by
  obtain ⟨k, hk, rfl⟩ := List.mem_map.1 hx
  exact h k (List.mem_range.1 hk)
/-- How many are in it. -/
def cntW : List Int → Nat
  | [] => 0
  | x :: xs => pcn x.toNat + cntW xs
theorem memb_cnt (l : List Int) : ∀ k, (memb k l).length = cntW l := by
  induction l with
  | nil => intro k; rfl
  | cons x xs ih => intro k; rw [memb, cntW, List.length_append, ih, bl_len64]
theorem cntW_le (l : List Int) : cntW l ≤ 64 * l.length := by rw [← memb_cnt l 0]; exact memb_len l 0
theorem cntW_drop (l : List Int) (i : Nat) (h : i < l.length) : cntW (l.drop i) = pcn (l.getD i 0).toNat + cntW (l.drop (i + 1)) := by
  rw [List.drop_eq_getElem_cons h, cntW, List.getD_eq_getElem?_getD, List.getElem?_eq_getElem h, Option.getD_some]
end Go.Proofs.YteaiaeejdcmefaaDoor.Hbitset
