/- Bytes and bits as one number: what is packed, what stands at a place, what is unpacked. -/
import Derived.Test.YthcbcddnillipaaHbits
namespace Go.Proofs.Ythcbcddnillipaa.Hbitnum
open Go.RowKit Go.Proofs.YthcbcddnillipaaW.PrintWords Go.Proofs.YthcbcddnillipaaW.PrintLast Go.Proofs.YthcbcddnillipaaW.PrintMore Go.Proofs.Ythcbcddnillipaa.Hnum Go.Proofs.Ythcbcddnillipaa.Hbits
set_option linter.unusedVariables false

theorem rd_get {l : List Int} {i : Nat} (h : i < l.length) : rd l (i : Int) = l[i] := by
  rw [rd, Int.toNat_natCast, List.getD_eq_getElem?_getD, List.getElem?_eq_getElem h]; rfl
/-- The number of bytes, the lowest ones first. -/
def numN : List Int → Nat
  | [] => 0
  | a :: t => a.toNat + 256 * numN t
theorem numN_lt {l : List Int} (h : Bytes l) : numN l < 256 ^ l.length := by
  induction l with
  | nil => simp [numN]
  | cons a t ih =>
    have h1 := h a (List.mem_cons_self ..)
    have h2 := ih (fun b hb => h b (List.mem_cons_of_mem _ hb))
    rw [numN, List.length_cons, Nat.pow_succ]
    omega
theorem numN_byte {l : List Int} (h : Bytes l) : ∀ t (ht : t < l.length), numN l / 256 ^ t % 256 = l[t].toNat := by
  induction l with
  | nil => intro t ht; simp at ht
  | cons a r ih =>
    intro t ht
    have h1 := h a (List.mem_cons_self ..)
    have h2 := ih (fun b hb => h b (List.mem_cons_of_mem _ hb))
    cases t with
    | zero => simp only [numN, Nat.pow_zero, Nat.div_one, List.getElem_cons_zero]; omega
    | succ t =>
      rw [List.getElem_cons_succ, ← h2 t (by simpa using ht), numN, Nat.pow_succ, Nat.mul_comm (256 ^ t), ← Nat.div_div_eq_div_mul]
      congr 2
      omega
theorem bytesN_numN {l : List Int} (h : Bytes l) : bytesN l.length (numN l) = l := by
  apply List.ext_getElem
  · rw [bytesN_length]
  · intro t h1 h2
    rw [bytesN_get h1, numN_byte h t h2]
    have := (h _ (List.getElem_mem h2)).1
    omega
theorem numN_bytesN {L N : Nat} (h : N < 256 ^ L) : numN (bytesN L N) = N := by
  induction L generalizing N with
  | zero => simp at h; subst h; rfl
  | succ L ih =>
    have e : bytesN (L + 1) N = ((N % 256 : Nat) : Int) :: bytesN L (N / 256) := by
      apply List.ext_getElem
      · simp [bytesN_length]
      · intro t h1 h2
        rw [bytesN_get h1]
        cases t with
        | zero => simp
        | succ t =>
          rw [List.getElem_cons_succ, bytesN_get, Nat.pow_succ, Nat.mul_comm (256 ^ t), ← Nat.div_div_eq_div_mul]
    rw [Nat.pow_succ] at h
    rw [e, numN, ih (by omega), Int.toNat_natCast]
    omega
theorem bitAt_num {l : List Int} (h : Bytes l) {p : Nat} (hp : p < 8 * l.length) : bitAt l p = numN l / 2 ^ p % 2 := by
  have ht : p / 8 < l.length := by omega
  unfold bitAt
  rw [rd_get ht, ← numN_byte h _ ht]
  have e : numN l / 2 ^ p = numN l / 256 ^ (p / 8) / 2 ^ (p % 8) := by rw [pow_split p, Nat.mul_comm, ← Nat.div_div_eq_div_mul]
  rw [e]
  generalize numN l / 256 ^ (p / 8) = x
  have hq : p % 8 = 0 ∨ p % 8 = 1 ∨ p % 8 = 2 ∨ p % 8 = 3 ∨ p % 8 = 4 ∨ p % 8 = 5 ∨ p % 8 = 6 ∨ p % 8 = 7 := by omega
  rcases hq with hq | hq | hq | hq | hq | hq | hq | hq <;> rw [hq] <;> simp only [Nat.reducePow, Nat.pow_zero] <;> omega
theorem numAt_num {l : List Int} (h : Bytes l) (s : Nat) : ∀ m, s + m ≤ 8 * l.length → numAt l s m = numN l / 2 ^ s % 2 ^ m := by
  intro m
  induction m with
  | zero => intro _; simp [numAt, Nat.mod_one]
  | succ m ih =>
    intro hm
    rw [numAt, ih (by omega), bitAt_num h (by omega), mod_step, Nat.pow_add, ← Nat.div_div_eq_div_mul]
/-! ### numbers of one width -/
theorem catN_at {w : Nat} {l : List Int} (h : ∀ a ∈ l, a.toNat < 2 ^ w) : ∀ i (hi : i < l.length), catN w l / 2 ^ (i * w) % 2 ^ w = l[i].toNat := by
  induction l with
  | nil => intro i hi; simp at hi
  | cons a t ih =>
    intro i hi
    have h1 := h a (List.mem_cons_self ..)
    have h2 := ih (fun b hb => h b (List.mem_cons_of_mem _ hb))
    have hp : 0 < 2 ^ w := Nat.pow_pos (by decide)
    cases i with
    | zero => rw [catN, Nat.zero_mul, Nat.pow_zero, Nat.div_one, Nat.add_mul_mod_self_right, Nat.mod_eq_of_lt h1]; rfl
    | succ i =>
      rw [List.getElem_cons_succ, ← h2 i (by simpa using hi), catN, Nat.add_mul, Nat.one_mul, Nat.pow_add, Nat.mul_comm (2 ^ (i * w)), ← Nat.div_div_eq_div_mul, Nat.add_mul_div_right _ _ hp, Nat.div_eq_of_lt h1, Nat.zero_add]
/-- So many numbers of one width, out of one number. -/
def outs (w n N : Nat) : List Int := (List.range n).map fun i => ((N / 2 ^ (i * w) % 2 ^ w : Nat) : Int)
theorem outs_length (w n N : Nat) : (outs w n N).length = n := by simp [outs]
theorem outs_get {w n N i : Nat} (h : i < (outs w n N).length) : (outs w n N)[i] = ((N / 2 ^ (i * w) % 2 ^ w : Nat) : Int) := by simp [outs]
theorem outs_good (w n N : Nat) : ∀ x ∈ outs w n N, good w x := fun x hx => by
  obtain ⟨i, _, rfl⟩ := List.mem_map.1 hx
  exact ⟨by omega, by rw [Int.toNat_natCast]; exact Nat.mod_lt _ (Nat.pow_pos (by decide))⟩
theorem outs_catN {w : Nat} {l : List Int} (h : ∀ a ∈ l, good w a) : outs w l.length (catN w l) = l := by
  apply List.ext_getElem
  · rw [outs_length]
  · intro i h1 h2
    rw [outs_get h1, catN_at (fun a ha => (h a ha).2) i h2]
    have := (h _ (List.getElem_mem h2)).1
    omega
theorem outs_succ (w n N : Nat) : outs w (n + 1) N = ((N % 2 ^ w : Nat) : Int) :: outs w n (N / 2 ^ w) := by
  apply List.ext_getElem
  · simp [outs_length]
  · intro i h1 h2
    rw [outs_get h1]
    cases i with
    | zero => simp
    | succ i =>
      rw [List.getElem_cons_succ, outs_get, Nat.add_mul, Nat.one_mul, Nat.pow_add, Nat.mul_comm (2 ^ (i * w)), ← Nat.div_div_eq_div_mul]
theorem catN_outs (w : Nat) : ∀ n N, catN w (outs w n N) = N % 2 ^ (n * w) := by
  intro n
  induction n with
  | zero => intro N; simp [outs, catN, Nat.mod_one]
  | succ n ih =>
    intro N
    rw [outs_succ, catN, ih, Int.toNat_natCast, Nat.add_mul, Nat.one_mul, Nat.pow_add, Nat.mul_comm (2 ^ (n * w)), Nat.mod_mul, Nat.mul_comm (2 ^ w)]
theorem catN_append (w : Nat) (l m : List Int) : catN w (l ++ m) = catN w l + catN w m * 2 ^ (l.length * w) := by
  induction l with
  | nil => simp [catN]
  | cons a t ih =>
    rw [List.cons_append, catN, catN, ih, List.length_cons, Nat.add_mul, Nat.add_mul, Nat.one_mul, Nat.pow_add, Nat.mul_assoc, Nat.add_assoc]
/-- How many bytes so many bits need. -/
def bsize (q : Nat) : Nat := (q + 7) / 8
theorem bsize_fits {q N : Nat} (h : N < 2 ^ q) : N < 256 ^ bsize q := by
  rw [pow256]
  exact Nat.lt_of_lt_of_le h (Nat.pow_le_pow_right (by decide) (by unfold bsize; omega))
/-! ### lists of bits -/
/-- The number of bits, the lowest one first. -/
def valB : List Int → Nat
  | [] => 0
  | a :: t => a.toNat + 2 * valB t
def Bits (l : List Int) : Prop := ∀ x ∈ l, x = 0 ∨ x = 1
instance (l : List Int) : Decidable (Bits l) := inferInstanceAs (Decidable (∀ x ∈ l, x = 0 ∨ x = 1))
theorem Bits.append {a b : List Int} (ha : Bits a) (hb : Bits b) : Bits (a ++ b) := fun x hx => (List.mem_append.1 hx).elim (ha x) (hb x)
theorem Bits.take {a : List Int} (h : Bits a) (n : Nat) : Bits (a.take n) := fun x hx => h x (List.mem_of_mem_take hx)
theorem Bits.drop {a : List Int} (h : Bits a) (n : Nat) : Bits (a.drop n) := fun x hx => h x (List.mem_of_mem_drop hx)
theorem valB_append (a b : List Int) : valB (a ++ b) = valB a + 2 ^ a.length * valB b := by
  induction a with
  | nil => simp [valB]
  | cons x t ih => rw [List.cons_append, valB, valB, ih, List.length_cons, Nat.pow_succ, Nat.mul_add, Nat.mul_comm (2 ^ t.length) 2, Nat.mul_assoc, Nat.add_assoc]
theorem valB_lt {l : List Int} (h : Bits l) : valB l < 2 ^ l.length := by
  induction l with
  | nil => simp [valB]
  | cons a t ih =>
    have h1 := h a (List.mem_cons_self ..)
    have h2 := ih (fun b hb => h b (List.mem_cons_of_mem _ hb))
    rw [valB, List.length_cons, Nat.pow_succ]
    omega
theorem valB_drop {l : List Int} (h : Bits l) : ∀ s, s ≤ l.length → valB (l.drop s) = valB l / 2 ^ s := by
  intro s hs
  have e := valB_append (l.take s) (l.drop s)
  rw [List.take_append_drop, List.length_take, Nat.min_eq_left hs] at e
  have hlt := valB_lt (h.take s)
  rw [List.length_take, Nat.min_eq_left hs] at hlt
  rw [e, Nat.add_mul_div_left _ _ (Nat.pow_pos (by decide)), Nat.div_eq_of_lt hlt, Nat.zero_add]
theorem valB_take {l : List Int} (h : Bits l) : ∀ s, s ≤ l.length → valB (l.take s) = valB l % 2 ^ s := by
  intro s hs
  have e := valB_append (l.take s) (l.drop s)
  rw [List.take_append_drop, List.length_take, Nat.min_eq_left hs] at e
  have hlt := valB_lt (h.take s)
  rw [List.length_take, Nat.min_eq_left hs] at hlt
  rw [e, Nat.add_mul_mod_self_left, Nat.mod_eq_of_lt hlt]
theorem valB_cut {l : List Int} (h : Bits l) {s m : Nat} (hs : s + m ≤ l.length) : valB ((l.take (s + m)).drop s) = valB l / 2 ^ s % 2 ^ m := by
  rw [List.drop_take, Nat.add_sub_cancel_left, valB_take (h.drop s) m (by rw [List.length_drop]; omega), valB_drop h s (by omega)]
theorem valB_zeros {l : List Int} (h : Bits l) : valB l = 0 ↔ ∀ x ∈ l, x = 0 := by
  induction l with
  | nil => simp [valB]
  | cons a t ih =>
    have h1 := h a (List.mem_cons_self ..)
    have h2 := ih (fun b hb => h b (List.mem_cons_of_mem _ hb))
    rw [valB]
    constructor
    · intro e x hx
      rcases List.mem_cons.1 hx with rfl | hx
      · omega
      · exact h2.1 (by omega) x hx
    · intro hall
      have ha := hall a (List.mem_cons_self ..)
      have ht := h2.2 (fun x hx => hall x (List.mem_cons_of_mem _ hx))
      omega
/-- A number's bits, the lowest one first, so many. -/
def bitsOf (n : Nat) : Nat → List Int
  | 0 => []
  | w + 1 => ((n % 2 : Nat) : Int) :: bitsOf (n / 2) w
theorem bitsOf_length (w : Nat) : ∀ n, (bitsOf n w).length = w := by
  induction w with
  | zero => intro n; rfl
  | succ w ih => intro n; rw [bitsOf, List.length_cons, ih]
theorem bitsOf_bits (w : Nat) : ∀ n, Bits (bitsOf n w) := by
  induction w with
  | zero => intro n x hx; cases hx
  | succ w ih =>
    intro n x hx
    rcases List.mem_cons.1 hx with rfl | h
    · omega
    · exact ih _ x h
theorem bitsOf_val (w : Nat) : ∀ n, valB (bitsOf n w) = n % 2 ^ w := by
  induction w with
  | zero => intro n; simp [bitsOf, valB, Nat.mod_one]
  | succ w ih =>
    intro n
    rw [bitsOf, valB, ih, Int.toNat_natCast, Nat.pow_succ, Nat.mul_comm (2 ^ w), Nat.mod_mul]
/-! ### what the layer's functions answer -/
def packS (w : Nat) (l : List Int) : List Int × Int :=
  if 4096 < l.length then ([], 2) else if ∀ x ∈ l, good w x then (bytesN (bsize (l.length * w)) (catN w l), 0) else ([], 1)
def packT (l : List Int) (a : Int) : List Int × Int := if a < 0 ∨ 62 < a then ([], 1) else packS a.toNat l
def unpackS (l : List Int) (n w : Nat) : List Int × Int :=
  if 4096 < n then ([], 2) else if l.length < bsize (n * w) then ([], 6) else if bsize (n * w) < l.length ∨ 2 ^ (n * w) ≤ numN l then ([], 7) else (outs w n (numN l), 0)
def unpackT (l : List Int) (n a : Int) : List Int × Int := if a < 0 ∨ 62 < a ∨ n < 0 then ([], 1) else unpackS l n.toNat a.toNat
def atT (l : List Int) (i a : Int) : Int :=
  if a < 0 ∨ 62 < a ∨ i < 0 ∨ 1099511627776 < i ∨ 8 * (l.length : Int) < (i + 1) * a then 0 else ((numN l / 2 ^ (i.toNat * a.toNat) % 2 ^ a.toNat : Nat) : Int)
/-- All bits of bytes. -/
def spreadB (l : List Int) : List Int := l.flatMap fun a => bitsOf a.toNat 8
theorem spreadB_bits (l : List Int) : Bits (spreadB l) := fun x hx => by
  obtain ⟨a, _, h⟩ := List.mem_flatMap.1 hx
  exact bitsOf_bits 8 _ x h
theorem spreadB_length (l : List Int) : (spreadB l).length = 8 * l.length := by
  induction l with
  | nil => rfl
  | cons a t ih =>
    rw [spreadB, List.flatMap_cons, List.length_append, bitsOf_length, List.length_cons]
    have : (List.flatMap (fun a => bitsOf a.toNat 8) t).length = 8 * t.length := ih
    omega
theorem spreadB_val {l : List Int} (h : Bytes l) : valB (spreadB l) = numN l := by
  induction l with
  | nil => rfl
  | cons a t ih =>
    have h1 := h a (List.mem_cons_self ..)
    have h2 := ih (fun b hb => h b (List.mem_cons_of_mem _ hb))
    have e : spreadB (a :: t) = bitsOf a.toNat 8 ++ spreadB t := rfl
    rw [e, valB_append, bitsOf_val, bitsOf_length, h2, numN, Nat.mod_eq_of_lt (by omega)]
/-- All bits of numbers. -/
def spreadW (w : Nat) (l : List Int) : List Int := l.flatMap fun a => bitsOf a.toNat w
theorem spreadW_bits (w : Nat) (l : List Int) : Bits (spreadW w l) := fun x hx => by
  obtain ⟨a, _, h⟩ := List.mem_flatMap.1 hx
  exact bitsOf_bits w _ x h
theorem spreadW_length (w : Nat) (l : List Int) : (spreadW w l).length = l.length * w := by
  induction l with
  | nil => simp [spreadW]
  | cons a t ih =>
    rw [spreadW, List.flatMap_cons, List.length_append, bitsOf_length, List.length_cons, Nat.add_mul, Nat.one_mul]
    have : (List.flatMap (fun a => bitsOf a.toNat w) t).length = t.length * w := ih
    omega
theorem spreadW_val {w : Nat} {l : List Int} (h : ∀ a ∈ l, good w a) : valB (spreadW w l) = catN w l := by
  induction l with
  | nil => rfl
  | cons a t ih =>
    have h1 := h a (List.mem_cons_self ..)
    have h2 := ih (fun b hb => h b (List.mem_cons_of_mem _ hb))
    have e : spreadW w (a :: t) = bitsOf a.toNat w ++ spreadW w t := rfl
    rw [e, valB_append, bitsOf_val, bitsOf_length, h2, catN, Nat.mod_eq_of_lt h1.2, Nat.mul_comm]
theorem flat_snoc {f : Int → List Int} {l : List Int} {i : Nat} (hi : i < l.length) : (l.take i).flatMap f ++ f l[i] = (l.take (i + 1)).flatMap f := by
  rw [List.take_succ_eq_append_getElem hi, List.flatMap_append, List.flatMap_singleton]
/-- Bits, with noughts behind, in eights. -/
theorem valB_pad {l : List Int} {z : Nat} : valB (l ++ List.replicate z 0) = valB l := by
  have h0 : ∀ z, valB (List.replicate z 0) = 0 := by
    intro z
    induction z with
    | zero => rfl
    | succ z ih => rw [List.replicate_succ, valB, ih]; rfl
  rw [valB_append, h0, Nat.mul_zero, Nat.add_zero]
theorem bytesN_eights {l : List Int} (h : Bits l) {i : Nat} (hi : 8 * (i + 1) ≤ l.length) : bytesN i (valB l) ++ [((valB ((l.take (8 * i + 8)).drop (8 * i)) : Nat) : Int) % 256] = bytesN (i + 1) (valB l) := by
  rw [valB_cut h (by omega)]
  unfold bytesN
  rw [List.range_succ, List.map_append, List.map_singleton, pow256]
  congr 2
  have := Nat.mod_lt (valB l / 2 ^ (8 * i)) (show 2 ^ 8 > 0 by decide)
  rw [show (256 : Nat) = 2 ^ 8 from by decide]
  omega
/-! ### packed, and unpacked -/
theorem packT_ok {l : List Int} {a : Int} (h : (packT l a).2 = 0) : ∃ w : Nat, a = (w : Int) ∧ w ≤ 62 ∧ l.length ≤ 4096 ∧ (∀ x ∈ l, good w x) ∧ packT l a = (bytesN (bsize (l.length * w)) (catN w l), 0) := by
  unfold packT at h ⊢
  by_cases h0 : a < 0 ∨ 62 < a
  · rw [if_pos h0] at h; cases h
  · rw [if_neg h0] at h ⊢
    unfold packS at h ⊢
    by_cases h1 : 4096 < l.length
    · rw [if_pos h1] at h; cases h
    · rw [if_neg h1] at h ⊢
      by_cases h2 : ∀ x ∈ l, good a.toNat x
      · rw [if_pos h2]
        exact ⟨a.toNat, by omega, by omega, by omega, h2, rfl⟩
      · rw [if_neg h2] at h; cases h
theorem packT_bad {l : List Int} {a : Int} (h : (packT l a).2 ≠ 0) (hl : l.length ≤ 4096) : packT l a = ([], 1) := by
  unfold packT at h ⊢
  by_cases h0 : a < 0 ∨ 62 < a
  · rw [if_pos h0]
  · rw [if_neg h0] at h ⊢
    unfold packS at h ⊢
    by_cases h1 : 4096 < l.length
    · omega
    · rw [if_neg h1] at h ⊢
      by_cases h2 : ∀ x ∈ l, good a.toNat x
      · rw [if_pos h2] at h; exact absurd rfl h
      · rw [if_neg h2]
theorem packT_good {l : List Int} {w : Nat} (hw : w ≤ 62) (hl : l.length ≤ 4096) (hg : ∀ x ∈ l, good w x) : packT l (w : Int) = (bytesN (bsize (l.length * w)) (catN w l), 0) := by
  unfold packT packS
  rw [if_neg (show ¬ ((w : Int) < 0 ∨ 62 < (w : Int)) from by omega), if_neg (show ¬ 4096 < l.length from by omega), Int.toNat_natCast, if_pos hg]
theorem numN_packed {l : List Int} {w : Nat} (hg : ∀ x ∈ l, good w x) : numN (bytesN (bsize (l.length * w)) (catN w l)) = catN w l :=
  numN_bytesN (bsize_fits (catN_lt w l (fun x hx => (hg x hx).2)))
theorem unpack_packed {l : List Int} {w : Nat} (hw : w ≤ 62) (hl : l.length ≤ 4096) (hg : ∀ x ∈ l, good w x) : unpackT (bytesN (bsize (l.length * w)) (catN w l)) (l.length : Int) (w : Int) = (l, 0) := by
  have hlt := catN_lt w l (fun x hx => (hg x hx).2)
  unfold unpackT unpackS
  rw [if_neg (show ¬ ((w : Int) < 0 ∨ 62 < (w : Int) ∨ (l.length : Int) < 0) from by omega), Int.toNat_natCast, Int.toNat_natCast, if_neg (show ¬ 4096 < l.length from by omega), bytesN_length, if_neg (Nat.lt_irrefl _), numN_packed hg,
    if_neg (show ¬ (bsize (l.length * w) < bsize (l.length * w) ∨ 2 ^ (l.length * w) ≤ catN w l) from fun h => h.elim (Nat.lt_irrefl _) (fun h => by omega)), outs_catN hg]
theorem mul_step {i n w : Nat} (h : i < n) : i * w + w ≤ n * w := by
  have := Nat.mul_le_mul_right w (show i + 1 ≤ n from h)
  rwa [Nat.add_mul, Nat.one_mul] at this
theorem bsize_bits (q : Nat) : q ≤ 8 * bsize q := by unfold bsize; omega
theorem atT_in {b : List Int} {i w : Nat} (hw : w ≤ 62) (hi : i ≤ 1099511627776) (hfit : i * w + w ≤ 8 * b.length) : atT b (i : Int) (w : Int) = ((numN b / 2 ^ (i * w) % 2 ^ w : Nat) : Int) := by
  unfold atT
  have e : ((i : Int) + 1) * (w : Int) = ((i * w + w : Nat) : Int) := by
    have : i * w + w = (i + 1) * w := by rw [Nat.add_mul, Nat.one_mul]
    rw [this, Int.natCast_mul]; rfl
  rw [e, if_neg (show ¬ ((w : Int) < 0 ∨ 62 < (w : Int) ∨ (i : Int) < 0 ∨ 1099511627776 < (i : Int) ∨ 8 * (b.length : Int) < ((i * w + w : Nat) : Int)) from by omega), Int.toNat_natCast, Int.toNat_natCast]
theorem at_packed {l : List Int} {w i : Nat} (hw : w ≤ 62) (hl : l.length ≤ 4096) (hg : ∀ x ∈ l, good w x) (hi : i < l.length) : atT (bytesN (bsize (l.length * w)) (catN w l)) (i : Int) (w : Int) = l[i] := by
  have h1 := mul_step (w := w) hi
  have h2 := bsize_bits (l.length * w)
  rw [atT_in hw (by omega) (by rw [bytesN_length]; omega), numN_packed hg, catN_at (fun x hx => (hg x hx).2) i hi]
  have := (hg _ (List.getElem_mem hi)).1
  omega
theorem at_behind {b : List Int} {w : Nat} (hw : w ≤ 62) : atT b (((8 * b.length + 1 : Nat) : Int)) (w : Int) = 0 := by
  unfold atT
  by_cases h : ((w : Int) < 0 ∨ 62 < (w : Int) ∨ ((8 * b.length + 1 : Nat) : Int) < 0 ∨ 1099511627776 < ((8 * b.length + 1 : Nat) : Int) ∨ 8 * (b.length : Int) < (((8 * b.length + 1 : Nat) : Int) + 1) * (w : Int))
  · rw [if_pos h]
  · have h0 : w = 0 := by
      rcases Nat.eq_zero_or_pos w with h0 | h0
      · exact h0
      · exfalso
        apply h
        refine .inr (.inr (.inr (.inr ?_)))
        have : (8 * b.length + 2) * 1 ≤ (8 * b.length + 2) * w := Nat.mul_le_mul_left _ h0
        have e : (((8 * b.length + 1 : Nat) : Int) + 1) * (w : Int) = (((8 * b.length + 2) * w : Nat) : Int) := by rw [Int.natCast_mul]; rfl
        rw [e]; omega
    subst h0
    rw [if_neg h]
    simp [Nat.mod_one]
theorem unpackT_ok {b : List Int} {n a : Int} (hb : Bytes b) (h : (unpackT b n a).2 = 0) : ∃ m w : Nat, n = (m : Int) ∧ a = (w : Int) ∧ m ≤ 4096 ∧ w ≤ 62 ∧ b.length = bsize (m * w) ∧ numN b < 2 ^ (m * w) ∧ unpackT b n a = (outs w m (numN b), 0) := by
  unfold unpackT at h ⊢
  by_cases h0 : a < 0 ∨ 62 < a ∨ n < 0
  · rw [if_pos h0] at h; cases h
  · rw [if_neg h0] at h ⊢
    unfold unpackS at h ⊢
    by_cases h1 : 4096 < n.toNat
    · rw [if_pos h1] at h; cases h
    · rw [if_neg h1] at h ⊢
      by_cases h2 : b.length < bsize (n.toNat * a.toNat)
      · rw [if_pos h2] at h; cases h
      · rw [if_neg h2] at h ⊢
        by_cases h3 : bsize (n.toNat * a.toNat) < b.length ∨ 2 ^ (n.toNat * a.toNat) ≤ numN b
        · rw [if_pos h3] at h; cases h
        · rw [if_neg h3]
          exact ⟨n.toNat, a.toNat, by omega, by omega, by omega, by omega, by omega, by omega, rfl⟩
theorem unpackT_bad {b : List Int} {n a : Int} (h : (unpackT b n a).2 ≠ 0) : (unpackT b n a).1 = [] := by
  unfold unpackT at h ⊢
  by_cases h0 : a < 0 ∨ 62 < a ∨ n < 0
  · rw [if_pos h0]
  · rw [if_neg h0] at h ⊢
    unfold unpackS at h ⊢
    by_cases h1 : 4096 < n.toNat
    · rw [if_pos h1]
    · rw [if_neg h1] at h ⊢
      by_cases h2 : b.length < bsize (n.toNat * a.toNat)
      · rw [if_pos h2]
      · rw [if_neg h2] at h ⊢
        by_cases h3 : bsize (n.toNat * a.toNat) < b.length ∨ 2 ^ (n.toNat * a.toNat) ≤ numN b
        · rw [if_pos h3]
        · rw [if_neg h3] at h; exact absurd rfl h
theorem pack_outs {b : List Int} {m w : Nat} (hb : Bytes b) (hm : m ≤ 4096) (hw : w ≤ 62) (hlen : b.length = bsize (m * w)) (hN : numN b < 2 ^ (m * w)) : packT (outs w m (numN b)) (w : Int) = (b, 0) := by
  rw [packT_good hw (by rw [outs_length]; exact hm) (outs_good w m _), outs_length, catN_outs, Nat.mod_eq_of_lt hN, ← hlen, bytesN_numN hb]
end Go.Proofs.Ythcbcddnillipaa.Hbitnum
