/- The numbers of layer 1 as plain lists of bytes: their digits, their folds, and what is got of bytes. -/
import Derived.Laws.BitsLemmas
import Derived.Test.YtgjmpancofjjbaaWWords
import Derived.Test.YtgjmpancofjjbaaWMore
namespace Go.Proofs.Ytgjmpancofjjbaa.Hnum
open Go.RowKit Go.Proofs.YtgjmpancofjjbaaW.PrintWords Go.Proofs.YtgjmpancofjjbaaW.PrintLast Go.Proofs.YtgjmpancofjjbaaW.PrintMore
set_option linter.unusedVariables false

/-- The digits of a number: seven bits each, the lowest ones first. -/
def digs (u : Nat) : List Int := if h : u < 128 then [(u : Int)] else ((u % 128 + 128 : Nat) : Int) :: digs (u / 128)
theorem digs_last {u : Nat} (h : u < 128) : digs u = [(u : Int)] := by rw [digs, dif_pos h]
theorem digs_more {u : Nat} (h : 128 ≤ u) : digs u = ((u % 128 + 128 : Nat) : Int) :: digs (u / 128) := by rw [digs, dif_neg (by omega)]
theorem digs_pos (u : Nat) : 1 ≤ (digs u).length := by
  by_cases h : u < 128
  · rw [digs_last h]; simp
  · rw [digs_more (by omega)]; simp
theorem digs_len (b : Nat) : ∀ u : Nat, u < 128 ^ (b + 1) → (digs u).length ≤ b + 1 := by
  induction b with
  | zero => intro u h; rw [digs_last (by omega)]; simp
  | succ b ih =>
    intro u h
    by_cases hu : u < 128
    · rw [digs_last hu]; simp
    · rw [digs_more (by omega), List.length_cons]
      have := ih (u / 128) (by rw [Nat.pow_succ] at h; exact Nat.div_lt_of_lt_mul (by rw [Nat.mul_comm]; exact h))
      omega
theorem digs_le_ten {u : Nat} (h : u < 18446744073709551616) : (digs u).length ≤ 10 := digs_len 9 u (by omega)
theorem digs_mono (u : Nat) : ∀ v, u ≤ v → (digs u).length ≤ (digs v).length := by
  induction u using digs.induct with
  | case1 u h => intro v hv; rw [digs_last h]; have := digs_pos v; simpa using this
  | case2 u h ih =>
    intro v hv
    rw [digs_more (u := u) (by omega), digs_more (u := v) (by omega), List.length_cons, List.length_cons]
    have := ih (v / 128) (by omega)
    omega
theorem digs_succ (u : Nat) : (digs (u + 1)).length ≤ (digs u).length + 1 := by
  induction u using digs.induct with
  | case1 u h =>
    rw [digs_last h]
    by_cases h' : u + 1 < 128
    · rw [digs_last h']; simp
    · rw [digs_more (by omega), digs_last (by omega)]; simp
  | case2 u h ih =>
    rw [digs_more (u := u) (by omega), digs_more (u := u + 1) (by omega), List.length_cons, List.length_cons]
    have : (u + 1) / 128 = u / 128 ∨ (u + 1) / 128 = u / 128 + 1 := by omega
    rcases this with e | e
    · rw [e]; omega
    · rw [e]; omega
def Bytes (l : List Int) : Prop := ∀ x ∈ l, 0 ≤ x ∧ x < 256
instance (l : List Int) : Decidable (Bytes l) := inferInstanceAs (Decidable (∀ x ∈ l, 0 ≤ x ∧ x < 256))
theorem Bytes.nil : Bytes [] := fun _ h => by cases h
theorem Bytes.append {a b : List Int} (ha : Bytes a) (hb : Bytes b) : Bytes (a ++ b) := fun x hx => (List.mem_append.1 hx).elim (ha x) (hb x)
theorem Bytes.cons {a : Int} {b : List Int} (h0 : 0 ≤ a) (h1 : a < 256) (hb : Bytes b) : Bytes (a :: b) := fun x hx => by
  rcases List.mem_cons.1 hx with rfl | h
  · exact ⟨h0, h1⟩
  · exact hb x h
theorem Bytes.take {a : List Int} (h : Bytes a) (n : Nat) : Bytes (a.take n) := fun x hx => h x (List.mem_of_mem_take hx)
theorem Bytes.drop {a : List Int} (h : Bytes a) (n : Nat) : Bytes (a.drop n) := fun x hx => h x (List.mem_of_mem_drop hx)
theorem Bytes.of_wf {l : List Int} (h : ∀ x ∈ l, (Lit.int .u8 x).wf = true) : Bytes l := fun x hx => by
  have := h x hx
  simp [Lit.wf, IntKind.min, IntKind.max, IntKind.signed, IntKind.bits] at this
  omega
theorem digs_bytes (u : Nat) : Bytes (digs u) := by
  induction u using digs.induct with
  | case1 u h => rw [digs_last h]; exact Bytes.cons (by omega) (by omega) Bytes.nil
  | case2 u h ih => rw [digs_more (by omega)]; exact Bytes.cons (by omega) (by omega) ih

/-! ### what is got: from the k-th digit on -/
def getd (k : Nat) : List Int → Except Int (Nat × Nat)
  | [] => .error 6
  | d :: t =>
    if k = 9 ∧ 1 < d then .error 7
    else if 128 ≤ d then (match getd (k + 1) t with | .ok (u, n) => .ok ((d - 128).toNat + 128 * u, n + 1) | .error e => .error e)
    else if d = 0 ∧ 0 < k then .error 7
    else .ok (d.toNat, 1)
def trip : Except Int (Nat × Nat) → Int × Int × Int
  | .ok (u, n) => ((u : Int), (n : Int), 0)
  | .error e => (0, 0, e)
theorem getd_error {l : List Int} : ∀ {k : Nat} {e : Int}, getd k l = .error e → e = 6 ∨ e = 7 := by
  induction l with
  | nil => intro k e h; simp [getd] at h; exact .inl h.symm
  | cons d t ih =>
    intro k e h
    rw [getd] at h
    by_cases h1 : k = 9 ∧ 1 < d
    · rw [if_pos h1] at h; injection h with h; exact .inr h.symm
    · rw [if_neg h1] at h
      by_cases h2 : 128 ≤ d
      · rw [if_pos h2] at h
        cases hg : getd (k + 1) t with
        | ok p => rw [hg] at h; obtain ⟨u, n⟩ := p; simp at h
        | error e' => rw [hg] at h; simp at h; subst h; exact ih hg
      · rw [if_neg h2] at h
        by_cases h3 : d = 0 ∧ 0 < k
        · rw [if_pos h3] at h; injection h with h; exact .inr h.symm
        · rw [if_neg h3] at h; cases h
/-- What was put is got. -/
theorem getd_digs (more : List Int) (u : Nat) : ∀ k, k ≤ 9 → u * 128 ^ k < 18446744073709551616 → (k = 0 ∨ 0 < u) → getd k (digs u ++ more) = .ok (u, (digs u).length) := by
  induction u using digs.induct with
  | case1 u h =>
    intro k hk hu h0
    rw [digs_last h]
    simp only [List.cons_append, List.nil_append, getd, List.length_singleton]
    have h1 : ¬ (k = 9 ∧ 1 < (u : Int)) := by
      rintro ⟨rfl, h1⟩
      omega
    rw [if_neg h1, if_neg (by omega), if_neg (by omega), Int.toNat_natCast]
  | case2 u h ih =>
    intro k hk hu h0
    rw [digs_more (by omega)]
    simp only [List.cons_append, getd, List.length_cons]
    have hk8 : k ≤ 8 := by
      rcases Nat.lt_or_ge k 9 with h9 | h9
      · omega
      · obtain rfl : k = 9 := by omega
        omega
    have hd : u / 128 * 128 ^ (k + 1) < 18446744073709551616 := by
      rw [Nat.pow_succ, Nat.mul_comm (128 ^ k), ← Nat.mul_assoc]
      exact Nat.lt_of_le_of_lt (Nat.mul_le_mul_right _ (Nat.div_mul_le_self u 128)) hu
    rw [if_neg (by omega), if_pos (by omega), ih (k + 1) (by omega) hd (.inr (by omega))]
    simp only
    congr 2
    have e : (((u % 128 + 128 : Nat) : Int) - 128).toNat = u % 128 := by omega
    rw [e]; omega
theorem bound_step {u d k : Nat} (hk : k ≤ 8) (hd : d < 256) (h : u * 128 ^ (k + 1) < 18446744073709551616) : (d - 128 + 128 * u) * 128 ^ k < 18446744073709551616 := by
  have hq : ∃ q, 18446744073709551616 = q * 128 ^ (k + 1) := by
    have : k = 0 ∨ k = 1 ∨ k = 2 ∨ k = 3 ∨ k = 4 ∨ k = 5 ∨ k = 6 ∨ k = 7 ∨ k = 8 := by omega
    rcases this with rfl | rfl | rfl | rfl | rfl | rfl | rfl | rfl | rfl
    · exact ⟨144115188075855872, by decide⟩
    · exact ⟨1125899906842624, by decide⟩
    · exact ⟨8796093022208, by decide⟩
    · exact ⟨68719476736, by decide⟩
    · exact ⟨536870912, by decide⟩
    · exact ⟨4194304, by decide⟩
    · exact ⟨32768, by decide⟩
    · exact ⟨256, by decide⟩
    · exact ⟨2, by decide⟩
  obtain ⟨q, hq⟩ := hq
  have hp : 0 < 128 ^ k := Nat.pow_pos (by decide)
  rw [hq] at h ⊢
  have hu : u < q := Nat.lt_of_mul_lt_mul_right h
  have h1 : (d - 128 + 128 * u) < 128 * q := by omega
  calc (d - 128 + 128 * u) * 128 ^ k < 128 * q * 128 ^ k := Nat.mul_lt_mul_of_pos_right h1 hp
    _ = q * 128 ^ (k + 1) := by rw [Nat.pow_succ, Nat.mul_comm 128 q, Nat.mul_assoc, Nat.mul_comm 128]
/-- What is got would be put as the same bytes; a beginning of these is too short. -/
theorem getd_ok {l : List Int} : ∀ {k u n : Nat}, k ≤ 9 → Bytes l → getd k l = .ok (u, n) →
    1 ≤ n ∧ n ≤ l.length ∧ digs u = l.take n ∧ (0 < k → 0 < u) ∧ u * 128 ^ k < 18446744073709551616 ∧ ∀ i, i < n → getd k (l.take i) = .error 6 := by
  induction l with
  | nil => intro k u n _ _ h; simp [getd] at h
  | cons d t ih =>
    intro k u n hk hb h
    obtain ⟨hd0, hd1⟩ := hb d (List.mem_cons_self ..)
    have hbt : Bytes t := fun x hx => hb x (List.mem_cons_of_mem _ hx)
    rw [getd] at h
    by_cases h1 : k = 9 ∧ 1 < d
    · rw [if_pos h1] at h; cases h
    · rw [if_neg h1] at h
      by_cases h2 : 128 ≤ d
      · rw [if_pos h2] at h
        have hk8 : k + 1 ≤ 9 := by
          rcases Nat.lt_or_ge k 9 with h9 | h9
          · omega
          · exact absurd ⟨by omega, by omega⟩ h1
        cases hg : getd (k + 1) t with
        | error e' => rw [hg] at h; simp at h
        | ok p =>
          obtain ⟨u', n'⟩ := p
          rw [hg] at h
          simp only [Except.ok.injEq, Prod.mk.injEq] at h
          obtain ⟨rfl, rfl⟩ := h
          obtain ⟨g1, g2, g3, g4, g5, g6⟩ := ih hk8 hbt hg
          have hu' := g4 (by omega)
          obtain ⟨dn, rfl⟩ := Int.eq_ofNat_of_zero_le hd0
          have hdn : ((dn : Int) - 128).toNat = dn - 128 := by omega
          rw [hdn]
          refine ⟨by omega, by simp; omega, ?_, fun _ => by omega, ?_, ?_⟩
          · rw [digs_more (by omega), List.take_succ_cons, ← g3]
            congr 1
            · omega
            · congr 1; omega
          · exact bound_step (by omega) (by omega) g5
          · intro i hi
            cases i with
            | zero => rfl
            | succ i =>
              rw [List.take_succ_cons, getd, if_neg h1, if_pos h2, g6 i (by omega)]
      · rw [if_neg h2] at h
        by_cases h3 : d = 0 ∧ 0 < k
        · rw [if_pos h3] at h; cases h
        · rw [if_neg h3] at h
          simp only [Except.ok.injEq, Prod.mk.injEq] at h
          obtain ⟨rfl, rfl⟩ := h
          obtain ⟨dn, rfl⟩ := Int.eq_ofNat_of_zero_le hd0
          rw [Int.toNat_natCast]
          refine ⟨by omega, by simp, by rw [digs_last (by omega)]; simp, fun _ => by omega, ?_, fun i hi => ?_⟩
          · have : k = 0 ∨ k = 1 ∨ k = 2 ∨ k = 3 ∨ k = 4 ∨ k = 5 ∨ k = 6 ∨ k = 7 ∨ k = 8 ∨ k = 9 := by omega
            rcases this with rfl | rfl | rfl | rfl | rfl | rfl | rfl | rfl | rfl | rfl <;> simp only [Nat.reducePow] <;> omega
          · obtain rfl : i = 0 := by omega
            rfl

theorem wrap_id {x : Int} (h0 : -9223372036854775808 ≤ x) (h1 : x ≤ 9223372036854775807) : wrap64 x = x := by unfold wrap64; omega
theorem half_digit (h o : Nat) (ho : o ≤ 1) : 2 * (h / 64 / 2) + h / 64 % 2 = (2 * h + o) / 128 := by
  have e1 : 2 * (h / 64 / 2) + h / 64 % 2 = h / 64 := Nat.div_add_mod (h / 64) 2
  have e2 : h / 64 = (2 * h + o) / 128 := by omega
  rw [e1, e2]
theorem half_byte (h o : Nat) (ho : o ≤ 1) : (2 * ((h % 64 : Nat) : Int) + (o : Int) + 128) % 256 = (((2 * h + o) % 128 + 128 : Nat) : Int) := by omega
/-! ### folds -/
def i64 (a : Int) : Prop := -9223372036854775808 ≤ a ∧ a ≤ 9223372036854775807
instance (a : Int) : Decidable (i64 a) := inferInstanceAs (Decidable (_ ∧ _))
theorem i64_of_wf {a : Int} (h : (Lit.int .i64 a).wf = true) : i64 a := by
  simp [Lit.wf, IntKind.min, IntKind.max, IntKind.signed, IntKind.bits] at h
  exact ⟨by omega, by omega⟩
def fold (a : Int) : Nat := if 0 ≤ a then (2 * a).toNat else (-2 * a - 1).toNat
def back (u : Nat) : Int := if u % 2 = 0 then ((u / 2 : Nat) : Int) else -((u / 2 : Nat) : Int) - 1
theorem fold_lt {a : Int} (h : i64 a) : fold a < 18446744073709551616 := by
  unfold i64 at h; unfold fold; split <;> omega
theorem back_fold (a : Int) : back (fold a) = a := by
  unfold fold back; split <;> split <;> omega
theorem fold_back (u : Nat) : fold (back u) = u := by
  unfold fold back
  by_cases h : u % 2 = 0
  · rw [if_pos h, if_pos (by omega)]; omega
  · rw [if_neg h, if_neg (by omega)]; omega
theorem back_i64 {u : Nat} (h : u < 18446744073709551616) : i64 (back u) := by
  unfold back i64; split <;> omega
theorem wrap_u64 (n : Int) : IntKind.u64.wrap n = n % 18446744073709551616 := by simp [IntKind.wrap, IntKind.bits, IntKind.signed]
theorem u64_xor (a b : Nat) (ha : a < 18446744073709551616) (hb : b < 18446744073709551616) : Go.bits .xor .u64 (a : Int) (b : Int) = ((a ^^^ b : Nat) : Int) := by
  have h : a ^^^ b < 2 ^ 64 := Nat.xor_lt_two_pow (by omega) (by omega)
  show IntKind.u64.wrap (((BitVec.ofInt 64 (a : Int) ^^^ BitVec.ofInt 64 (b : Int)).toNat : Nat) : Int) = _
  simp only [BitVec.ofInt_natCast, BitVec.toNat_xor, BitVec.toNat_ofNat]
  rw [Nat.mod_eq_of_lt (by omega), Nat.mod_eq_of_lt (by omega), wrap_u64]
  omega
theorem xor_all (a : Nat) (ha : a < 18446744073709551616) : a ^^^ 18446744073709551615 = 18446744073709551615 - a := by
  have h1 := congrArg BitVec.toNat (BitVec.xor_allOnes (x := BitVec.ofNat 64 a))
  rw [BitVec.toNat_xor, BitVec.toNat_not, BitVec.toNat_allOnes, BitVec.toNat_ofNat, Nat.mod_eq_of_lt (show a < 2 ^ 64 from ha)] at h1
  exact h1
theorem fold_bits {a : Int} (h : i64 a) : Go.bits .xor .u64 (IntKind.u64.wrap ((IntKind.u64.wrap a) * 2)) (IntKind.u64.wrap (a / 9223372036854775808)) = (fold a : Int) := by
  unfold i64 at h
  simp only [wrap_u64]
  unfold fold
  by_cases h0 : 0 ≤ a
  · rw [if_pos h0, show a % 18446744073709551616 * 2 % 18446744073709551616 = (((2 * a).toNat : Nat) : Int) from by omega, show a / 9223372036854775808 % 18446744073709551616 = ((0 : Nat) : Int) from by omega,
      u64_xor _ _ (by omega) (by omega), Nat.xor_zero]
  · rw [if_neg h0, show a % 18446744073709551616 * 2 % 18446744073709551616 = (((2 * a + 18446744073709551616).toNat : Nat) : Int) from by omega, show a / 9223372036854775808 % 18446744073709551616 = ((18446744073709551615 : Nat) : Int) from by omega,
      u64_xor _ _ (by omega) (by omega), xor_all _ (by omega)]
    omega
theorem back_bits {u : Nat} (h : u < 18446744073709551616) : Go.bits .xor .i64 (wrap64 ((u : Int) / 2)) (wrap64 (-(wrap64 (Go.bits .and .u64 (u : Int) 1)))) = back u := by
  have e1 : Go.bits .and .u64 (u : Int) 1 = (u : Int) % 2 := bits_mask .u64 64 (by decide) (fun n h0 h1 => by rw [wrap_u64]; omega) 1 (by decide) u (by omega) (by omega)
  have e2 : wrap64 ((u : Int) / 2) = (u : Int) / 2 := by unfold wrap64; omega
  have e3 : wrap64 (-(wrap64 ((u : Int) % 2))) = -((u : Int) % 2) := by unfold wrap64; omega
  rw [e1, e2, e3]
  unfold back
  have hb : ((u / 2 : Nat) : Int) = (u : Int) / 2 := by omega
  by_cases hu : u % 2 = 0
  · rw [if_pos hu, show -((u : Int) % 2) = 0 from by omega, ← hb]
    show IntKind.i64.wrap (((BitVec.ofInt 64 ((u / 2 : Nat) : Int) ^^^ BitVec.ofInt 64 0).toNat : Nat) : Int) = _
    simp only [BitVec.ofInt_natCast, BitVec.toNat_xor, BitVec.toNat_ofNat, BitVec.ofInt_ofNat, Nat.zero_mod, Nat.xor_zero]
    rw [Nat.mod_eq_of_lt (by omega), IntKind.wrap_i64]
    omega
  · rw [if_neg hu, show -((u : Int) % 2) = -1 from by omega, ← hb]
    have hm : BitVec.ofInt 64 (-1) = BitVec.allOnes 64 := by decide
    show IntKind.i64.wrap (((BitVec.ofInt 64 ((u / 2 : Nat) : Int) ^^^ BitVec.ofInt 64 (-1)).toNat : Nat) : Int) = _
    simp only [BitVec.ofInt_natCast, hm, BitVec.xor_allOnes, BitVec.toNat_not, BitVec.toNat_ofNat]
    rw [Nat.mod_eq_of_lt (by omega), IntKind.wrap_i64]
    omega
theorem or_shift {acc y k : Nat} (ha : acc < 128 ^ k) (hy : y < 128) (hk : k ≤ 9) (hky : k = 9 → y ≤ 1) : Go.bits .or .u64 (acc : Int) (shl .u64 (y : Int) (wrap64 (7 * (k : Int)))) = ((acc + y * 128 ^ k : Nat) : Int) := by
  have e0 : wrap64 (7 * (k : Int)) = ((7 * k : Nat) : Int) := by unfold wrap64; omega
  have e1 : (128 : Nat) ^ k = 2 ^ (7 * k) := by rw [Nat.pow_mul]
  have hlt : y * 128 ^ k < 18446744073709551616 ∧ acc < 18446744073709551616 := by
    have : k = 0 ∨ k = 1 ∨ k = 2 ∨ k = 3 ∨ k = 4 ∨ k = 5 ∨ k = 6 ∨ k = 7 ∨ k = 8 ∨ k = 9 := by omega
    rcases this with rfl | rfl | rfl | rfl | rfl | rfl | rfl | rfl | rfl | rfl <;> simp only [Nat.reducePow] at ha ⊢ <;> omega
  have e2 : shl .u64 (y : Int) (wrap64 (7 * (k : Int))) = ((y * 128 ^ k : Nat) : Int) := by
    unfold shl
    rw [e0, Int.toNat_natCast, Nat.min_eq_left (by simp only [IntKind.bits]; omega), wrap_u64, e1]
    rw [show ((y : Int) * 2 ^ (7 * k)) = ((y * 2 ^ (7 * k) : Nat) : Int) from by simp]
    rw [e1] at hlt
    omega
  rw [e2, (bits_nat .u64 64 (by decide) (fun n h0 h1 => by rw [wrap_u64]; omega) acc (y * 128 ^ k) (by omega) (by omega)).2]
  rw [e1] at ha ⊢
  have := Nat.two_pow_add_eq_or_of_lt ha y
  rw [Nat.mul_comm y, Nat.or_comm, ← this, Nat.add_comm]
/-! ### what Get and GetLen answer -/
/-- What Get answers. -/
def getn (l : List Int) : Int × Int × Int := match getd 0 l with | .ok (u, n) => (back u, (n : Int), 0) | .error e => (0, 0, e)
/-- What GetLen answers. -/
def getl (l : List Int) : Int × Int × Int := match getd 0 l with | .ok (u, n) => if u ≤ 9223372036854775807 then ((u : Int), (n : Int), 0) else (0, 0, 7) | .error e => (0, 0, e)
theorem getl_small {l : List Int} {u n : Nat} (hg : getd 0 l = .ok (u, n)) (hu : u ≤ 9223372036854775807) : getl l = ((u : Int), (n : Int), 0) := by
  unfold getl; rw [hg]; exact if_pos hu
theorem getl_big {l : List Int} {u n : Nat} (hg : getd 0 l = .ok (u, n)) (hu : ¬ u ≤ 9223372036854775807) : getl l = (0, 0, 7) := by
  unfold getl; rw [hg]; exact if_neg hu
theorem getn_digs {a : Int} (h : i64 a) (more : List Int) : getn (digs (fold a) ++ more) = (a, ((digs (fold a)).length : Int), 0) := by
  unfold getn
  rw [getd_digs more (fold a) 0 (by omega) (by have := fold_lt h; omega) (.inl rfl)]
  simp only [back_fold]
theorem getl_digs {a : Nat} (h : a ≤ 9223372036854775807) (more : List Int) : getl (digs a ++ more) = ((a : Int), ((digs a).length : Int), 0) := by
  exact getl_small (getd_digs more a 0 (by omega) (by omega) (.inl rfl)) h
/-- What Get tells of bytes. -/
theorem getn_ok {l : List Int} (hb : Bytes l) (h : (getn l).2.2 = 0) : ∃ u n : Nat, getd 0 l = .ok (u, n) ∧ getn l = (back u, (n : Int), 0) ∧ 1 ≤ n ∧ n ≤ l.length ∧ digs u = l.take n ∧ u < 18446744073709551616 ∧ ∀ i, i < n → getd 0 (l.take i) = .error 6 := by
  cases hg : getd 0 l with
  | error e => rw [getn, hg] at h; simp only at h; have := getd_error hg; omega
  | ok p =>
    obtain ⟨u, n⟩ := p
    obtain ⟨g1, g2, g3, _, g5, g6⟩ := getd_ok (by omega) hb hg
    exact ⟨u, n, rfl, by rw [getn, hg], g1, g2, g3, by simpa using g5, g6⟩
theorem getn_bad {l : List Int} (h : (getn l).2.2 ≠ 0) : ∃ e, getd 0 l = .error e ∧ getn l = (0, 0, e) ∧ getl l = (0, 0, e) := by
  cases hg : getd 0 l with
  | error e => exact ⟨e, rfl, by rw [getn, hg], by rw [getl, hg]⟩
  | ok p => obtain ⟨u, n⟩ := p; rw [getn, hg] at h; exact absurd rfl h
end Go.Proofs.Ytgjmpancofjjbaa.Hnum
