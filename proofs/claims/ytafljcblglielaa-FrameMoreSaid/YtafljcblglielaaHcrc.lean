/- The sum of layer 4 in plain words: a step of one bit, what it is over xor, and what a change of four bytes in a row does. -/
import Derived.Laws.BitsLemmas
import Derived.Test.YtafljcblglielaaWWords
import Derived.Test.YtafljcblglielaaWMore
import Derived.Test.YtafljcblglielaaHnum
namespace Go.Proofs.Ytafljcblglielaa.Hcrc
open Go.RowKit Go.Proofs.YtafljcblglielaaW.PrintWords Go.Proofs.YtafljcblglielaaW.PrintLast Go.Proofs.YtafljcblglielaaW.PrintMore Go.Proofs.Ytafljcblglielaa.Hnum
set_option linter.unusedVariables false
set_option linter.unusedSimpArgs false
/-- One bit. -/
def stp1 (n : Nat) : Nat := n / 2 ^^^ (if n % 2 = 1 then 3988292384 else 0)
/-- So many bits. -/
def stepN : Nat → Nat → Nat
  | 0, n => n
  | k + 1, n => stepN k (stp1 n)
theorem xor_div (a b : Nat) : (a ^^^ b) / 2 = a / 2 ^^^ b / 2 := by
  have h := Nat.shiftRight_xor_distrib (a := a) (b := b) (i := 1)
  simpa [Nat.shiftRight_succ] using h
theorem xor_mod (a b : Nat) : (a ^^^ b) % 2 = (a % 2 + b % 2) % 2 := by
  have h := Nat.xor_mod_two_pow (a := a) (b := b) (n := 1)
  rw [Nat.pow_one] at h
  rw [h]
  rcases Nat.mod_two_eq_zero_or_one a with e | e <;> rcases Nat.mod_two_eq_zero_or_one b with f | f <;> simp [e, f]
theorem xor_zero_iff {a b : Nat} (h : a ^^^ b = 0) : a = b := by
  have e : a ^^^ (a ^^^ b) = a ^^^ 0 := congrArg _ h
  rw [← Nat.xor_assoc, Nat.xor_self, Nat.zero_xor, Nat.xor_zero] at e
  exact e.symm
theorem step_xor (a b : Nat) : stp1 (a ^^^ b) = stp1 a ^^^ stp1 b := by
  have p0 : ∀ x, (if (0 : Nat) = 1 then x else 0) = 0 := fun x => if_neg (by omega)
  unfold stp1
  rw [xor_div, xor_mod]
  rcases Nat.mod_two_eq_zero_or_one a with e | e <;> rcases Nat.mod_two_eq_zero_or_one b with f | f <;> rw [e, f]
  · simp only [Nat.reduceAdd, Nat.reduceMod, p0, Nat.xor_zero]
  · simp only [Nat.reduceAdd, Nat.reduceMod, p0, if_true, Nat.xor_zero]
    rw [Nat.xor_assoc]
  · simp only [Nat.reduceAdd, Nat.reduceMod, p0, if_true, Nat.xor_zero]
    rw [Nat.xor_assoc, Nat.xor_assoc, Nat.xor_comm (b / 2)]
  · simp only [Nat.reduceAdd, Nat.reduceMod, p0, if_true, Nat.xor_zero]
    rw [Nat.xor_assoc (a / 2), ← Nat.xor_assoc 3988292384, Nat.xor_comm 3988292384 (b / 2), Nat.xor_assoc (b / 2), Nat.xor_self, Nat.xor_zero]
theorem step_zero : stp1 0 = 0 := rfl
theorem step_lt {n : Nat} (h : n < 4294967296) : stp1 n < 4294967296 := by
  have h1 : n / 2 < 2 ^ 32 := by omega
  have h2 : (if n % 2 = 1 then 3988292384 else 0) < 2 ^ 32 := by split <;> omega
  exact Nat.xor_lt_two_pow h1 h2
theorem step_none {n : Nat} (h : n < 4294967296) (hz : stp1 n = 0) : n = 0 := by
  unfold stp1 at hz
  have e : n / 2 = (if n % 2 = 1 then 3988292384 else 0) := xor_zero_iff hz
  split at e <;> omega
theorem step_even (m : Nat) : stp1 (2 * m) = m := by
  unfold stp1
  rw [if_neg (by omega), Nat.xor_zero]; omega
theorem stepN_xor (k : Nat) : ∀ a b, stepN k (a ^^^ b) = stepN k a ^^^ stepN k b := by
  induction k with
  | zero => intro a b; rfl
  | succ k ih => intro a b; rw [stepN, step_xor, ih]; rfl
theorem stepN_zero (k : Nat) : stepN k 0 = 0 := by
  induction k with
  | zero => rfl
  | succ k ih => rw [stepN, step_zero, ih]
theorem stepN_lt (k : Nat) : ∀ {n : Nat}, n < 4294967296 → stepN k n < 4294967296 := by
  induction k with
  | zero => intro n h; exact h
  | succ k ih => intro n h; rw [stepN]; exact ih (step_lt h)
theorem stepN_none (k : Nat) : ∀ {n : Nat}, n < 4294967296 → stepN k n = 0 → n = 0 := by
  induction k with
  | zero => intro n _ h; exact h
  | succ k ih => intro n h hz; rw [stepN] at hz; exact step_none h (ih (step_lt h) hz)
theorem stepN_add (j k : Nat) : ∀ n, stepN (j + k) n = stepN k (stepN j n) := by
  induction j with
  | zero => intro n; rw [Nat.zero_add]; rfl
  | succ j ih => intro n; rw [show j + 1 + k = (j + k) + 1 from by omega, stepN, ih]; rfl
theorem stepN_one (n : Nat) : stepN 1 n = stp1 n := rfl
theorem stepN_even (k : Nat) : ∀ m, stepN k (2 ^ k * m) = m := by
  induction k with
  | zero => intro m; rw [Nat.pow_zero, Nat.one_mul]; rfl
  | succ k ih => intro m; rw [stepN, Nat.pow_succ, Nat.mul_comm (2 ^ k), Nat.mul_assoc, step_even, ih]
theorem stepN_inj (k : Nat) {a b : Nat} (ha : a < 4294967296) (hb : b < 4294967296) (h : stepN k a = stepN k b) : a = b := by
  have h1 : stepN k (a ^^^ b) = 0 := by rw [stepN_xor, h, Nat.xor_self]
  exact xor_zero_iff (stepN_none k (Nat.xor_lt_two_pow (n := 32) ha hb) h1)
/-- A byte's table tells it. -/
theorem low_high (n : Nat) : (n % 256) ^^^ (2 ^ 8 * (n / 256)) = n := by
  have h := Nat.two_pow_add_eq_or_of_lt (i := 8) (b := n % 256) (Nat.mod_lt _ (by decide)) (n / 256)
  have e : (n % 256) ^^^ (2 ^ 8 * (n / 256)) = 2 ^ 8 * (n / 256) + n % 256 := by
    rw [h]
    apply Nat.eq_of_testBit_eq
    intro i
    rw [Nat.testBit_xor, Nat.testBit_or, Nat.testBit_two_pow_mul]
    by_cases hi : i < 8
    · simp [show ¬ 8 ≤ i from by omega]
    · have : (n % 256).testBit i = false := Nat.testBit_lt_two_pow (Nat.lt_of_lt_of_le (Nat.mod_lt _ (by decide)) (show 2 ^ 8 ≤ 2 ^ i from Nat.pow_le_pow_right (by decide) (by omega)))
      rw [this]; simp
  rw [e]
  have := Nat.div_add_mod n 256
  omega
theorem table (n c : Nat) : stepN 8 (n ^^^ c) = stepN 8 ((n % 256) ^^^ c) ^^^ (n / 256) := by
  have e : n ^^^ c = ((n % 256) ^^^ c) ^^^ (2 ^ 8 * (n / 256)) := by
    rw [Nat.xor_assoc, Nat.xor_comm c, ← Nat.xor_assoc, low_high]
  rw [e, stepN_xor, stepN_even]
/-- The sum of bytes from a state on. -/
def crcN (n : Nat) : List Int → Nat
  | [] => n
  | c :: t => crcN (stepN 8 (n ^^^ c.toNat)) t
theorem crcN_lt : ∀ (l : List Int) (n : Nat), Bytes l → n < 4294967296 → crcN n l < 4294967296
  | [], n, _, h => h
  | c :: t, n, hb, h => by
    have hc := hb c (List.mem_cons_self ..)
    exact crcN_lt t _ (fun x hx => hb x (List.mem_cons_of_mem _ hx)) (stepN_lt 8 (Nat.xor_lt_two_pow (n := 32) h (by omega)))
theorem crcN_append : ∀ (a b : List Int) (n : Nat), crcN n (a ++ b) = crcN (crcN n a) b
  | [], b, n => rfl
  | c :: t, b, n => by rw [List.cons_append, crcN, crcN_append t b]; rfl
/-- The sum of bytes. -/
def sumB (l : List Int) : Nat := crcN 4294967295 l ^^^ 4294967295
theorem sumB_lt {l : List Int} (h : Bytes l) : sumB l < 4294967296 := Nat.xor_lt_two_pow (n := 32) (crcN_lt l _ h (by omega)) (by omega)
/-- Bytes, each by each. -/
def xorB : List Int → List Int → List Int
  | a :: s, b :: t => ((a.toNat ^^^ b.toNat : Nat) : Int) :: xorB s t
  | _, _ => []
theorem xorB_len : ∀ (a b : List Int), a.length = b.length → (xorB a b).length = a.length
  | [], [], _ => rfl
  | [], _ :: _, h => by cases h
  | _ :: _, [], h => by cases h
  | a :: s, b :: t, h => by rw [xorB, List.length_cons, List.length_cons, xorB_len s t (by simpa using h)]
theorem xorB_bytes : ∀ (a b : List Int), Bytes a → Bytes b → Bytes (xorB a b)
  | [], _, _, _ => Bytes.nil
  | _ :: _, [], _, _ => Bytes.nil
  | a :: s, b :: t, ha, hb => by
    have h1 := ha a (List.mem_cons_self ..)
    have h2 := hb b (List.mem_cons_self ..)
    have h3 : a.toNat ^^^ b.toNat < 2 ^ 8 := Nat.xor_lt_two_pow (by omega) (by omega)
    exact Bytes.cons (by omega) (by omega) (xorB_bytes s t (fun x hx => ha x (List.mem_cons_of_mem _ hx)) (fun x hx => hb x (List.mem_cons_of_mem _ hx)))
theorem crcN_xor : ∀ (a b : List Int) (n m : Nat), a.length = b.length → crcN (n ^^^ m) (xorB a b) = crcN n a ^^^ crcN m b
  | [], [], n, m, _ => rfl
  | [], _ :: _, _, _, h => by cases h
  | _ :: _, [], _, _, h => by cases h
  | a :: s, b :: t, n, m, h => by
    rw [xorB, crcN, Int.toNat_natCast, crcN, crcN, ← crcN_xor s t _ _ (by simpa using h), ← stepN_xor]
    congr 2
    rw [Nat.xor_assoc, Nat.xor_assoc, ← Nat.xor_assoc m, Nat.xor_comm m, Nat.xor_assoc]
/-- So many noughts. -/
theorem crcN_noughts (m : Nat) : ∀ n, crcN n (List.replicate m 0) = stepN (8 * m) n := by
  induction m with
  | zero => intro n; rfl
  | succ m ih =>
    intro n
    rw [List.replicate_succ, crcN, ih, show 8 * (m + 1) = 8 + 8 * m from by omega, stepN_add]
    simp
/-- Four bytes as a number. -/
def le4 (a b c d : Nat) : Nat := a ^^^ (256 * (b ^^^ (256 * (c ^^^ (256 * d)))))
theorem push8 (n m : Nat) : stepN 8 n ^^^ m = stepN 8 (n ^^^ 256 * m) := by rw [stepN_xor]; exact congrArg _ (stepN_even 8 m).symm
theorem mul_xor (a b : Nat) : 256 * (a ^^^ b) = 256 * a ^^^ 256 * b := by
  have h := Nat.shiftLeft_xor_distrib (a := a) (b := b) (i := 8)
  rw [Nat.shiftLeft_eq, Nat.shiftLeft_eq, Nat.shiftLeft_eq] at h
  rw [Nat.mul_comm 256, Nat.mul_comm 256 a, Nat.mul_comm 256 b]
  exact h
theorem crcN_four (n a b c d : Nat) : crcN n [(a : Int), (b : Int), (c : Int), (d : Int)] = stepN 32 (n ^^^ le4 a b c d) := by
  simp only [crcN, Int.toNat_natCast]
  rw [show (32 : Nat) = 8 + (8 + (8 + 8)) from rfl, stepN_add, stepN_add, stepN_add, push8 (n ^^^ a) b, push8 (stepN 8 _) c, push8 _ (256 * c), push8 (stepN 8 (stepN 8 _)) d, push8 (stepN 8 _) (256 * d), push8 _ (256 * (256 * d))]
  refine congrArg (stepN 8) (congrArg (stepN 8) (congrArg (stepN 8) (congrArg (stepN 8) ?_)))
  unfold le4
  rw [mul_xor, mul_xor, mul_xor]
  simp only [Nat.xor_assoc]
theorem le4_eq {a b c d : Nat} (ha : a < 256) (hb : b < 256) (hc : c < 256) : le4 a b c d = a + 256 * (b + 256 * (c + 256 * d)) := by
  have key : ∀ x y : Nat, x < 256 → x ^^^ 256 * y = x + 256 * y := by
    intro x y hx
    have h := low_high (x + 256 * y)
    rw [show (x + 256 * y) % 256 = x from by omega, show (x + 256 * y) / 256 = y from by omega] at h
    exact h
  unfold le4
  rw [key c d hc, key b _ hb, key a _ ha]
theorem le4_lt {a b c d : Nat} (ha : a < 256) (hb : b < 256) (hc : c < 256) (hd : d < 256) : le4 a b c d < 4294967296 := by
  rw [le4_eq ha hb hc]; omega
/-- The four bytes of a sum. -/
def tailB (n : Nat) : List Int := [((n % 256 : Nat) : Int), ((n / 256 % 256 : Nat) : Int), ((n / 65536 % 256 : Nat) : Int), ((n / 16777216 % 256 : Nat) : Int)]
theorem tailB_bytes (n : Nat) : Bytes (tailB n) := by
  intro x hx
  simp only [tailB, List.mem_cons, List.not_mem_nil, or_false] at hx
  omega
theorem crcN_tail {n m : Nat} (hm : m < 4294967296) : crcN n (tailB m) = stepN 32 (n ^^^ m) := by
  unfold tailB
  rw [crcN_four, le4_eq (by omega) (by omega) (by omega)]
  congr 2
  omega
theorem tailB_inj {n m : Nat} (hn : n < 4294967296) (hm : m < 4294967296) (h : tailB n = tailB m) : n = m := by
  simp only [tailB, List.cons.injEq, and_true] at h
  omega
theorem all_xor : crcN 4294967295 [] = 4294967295 := rfl
/-- A frame's payload and sum bring the state to the one end; whatever brings it there is so. -/
def endN : Nat := stepN 32 4294967295
theorem sum_end {p s : List Int} (hp : Bytes p) (hs : Bytes s) (hl : s.length = 4) : crcN 4294967295 (p ++ s) = endN ↔ tailB (sumB p) = s := by
  obtain ⟨a, b, c, d, rfl⟩ : ∃ a b c d, s = [a, b, c, d] := by
    match s, hl with
    | [a, b, c, d], _ => exact ⟨a, b, c, d, rfl⟩
  obtain ⟨a, rfl⟩ := Int.eq_ofNat_of_zero_le (hs a (by simp)).1
  obtain ⟨b, rfl⟩ := Int.eq_ofNat_of_zero_le (hs b (by simp)).1
  obtain ⟨c, rfl⟩ := Int.eq_ofNat_of_zero_le (hs c (by simp)).1
  obtain ⟨d, rfl⟩ := Int.eq_ofNat_of_zero_le (hs d (by simp)).1
  have ha := (hs a (by simp)).2
  have hb := (hs b (by simp)).2
  have hc := (hs c (by simp)).2
  have hd := (hs d (by simp)).2
  have hlt := crcN_lt p 4294967295 hp (by omega)
  have h4 : le4 a b c d < 4294967296 := le4_lt (by omega) (by omega) (by omega) (by omega)
  rw [crcN_append, crcN_four]
  unfold endN
  constructor
  · intro h
    have e := stepN_inj 32 (Nat.xor_lt_two_pow (n := 32) hlt h4) (by omega) h
    have e2 : sumB p = le4 a b c d := by
      unfold sumB
      generalize crcN 4294967295 p = X at e
      rw [← e, ← Nat.xor_assoc, Nat.xor_self, Nat.zero_xor]
    rw [e2, le4_eq (by omega) (by omega) (by omega)]
    simp only [tailB, List.cons.injEq, and_true]
    omega
  · intro h
    have e2 : sumB p = le4 a b c d := by
      have hs' := sumB_lt hp
      rw [le4_eq (by omega) (by omega) (by omega)]
      simp only [tailB, List.cons.injEq, and_true] at h
      omega
    rw [← e2]
    congr 1
    unfold sumB
    rw [← Nat.xor_assoc, Nat.xor_self, Nat.zero_xor]
/-- Bytes of which four in a row were changed do not come to the same state. -/
theorem burst {x y : List Int} {i j a b c d : Nat} (hx : x.length = y.length) (hd : xorB x y = List.replicate i 0 ++ [(a : Int), (b : Int), (c : Int), (d : Int)] ++ List.replicate j 0) (h4 : a < 256 ∧ b < 256 ∧ c < 256 ∧ d < 256) (hn : ¬ (a = 0 ∧ b = 0 ∧ c = 0 ∧ d = 0)) (n : Nat) : crcN n x ≠ crcN n y := by
  intro h
  have e := crcN_xor x y n n hx
  rw [h, Nat.xor_self, Nat.xor_self, hd, crcN_append, crcN_append, crcN_noughts, crcN_noughts, stepN_zero, crcN_four, Nat.zero_xor] at e
  have hlt := le4_lt h4.1 h4.2.1 h4.2.2.1 h4.2.2.2
  have e2 := stepN_none 32 hlt (stepN_none _ (stepN_lt 32 hlt) e)
  rw [le4_eq h4.1 h4.2.1 h4.2.2.1] at e2
  exact hn (by omega)
end Go.Proofs.Ytafljcblglielaa.Hcrc
