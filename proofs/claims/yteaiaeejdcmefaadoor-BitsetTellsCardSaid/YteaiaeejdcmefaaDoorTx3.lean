/- The machine side of laws, written by wip/tools/myprint.py (the printer's way, with functions proved by hand put in); Lean checks it. -/
import Derived.Test.YteaiaeejdcmefaaDoorHbitset
import Derived.Test.YteaiaeejdcmefaaDoorTx0
import Derived.Test.YteaiaeejdcmefaaDoorTx1
import Derived.Test.YteaiaeejdcmefaaDoorTx2
namespace Go.Proofs.YteaiaeejdcmefaaDoor.T
open Go.RowKit Go.Proofs.YteaiaeejdcmefaaDoorW.PrintWords Go.Proofs.YteaiaeejdcmefaaDoorW.PrintLast Go.Proofs.YteaiaeejdcmefaaDoorW.PrintMore
attribute [local go_sem] max2_int min2_int max_two min_two max_three min_three max_four min_four   -- for this text's walks alone
set_option linter.unusedVariables false
set_option linter.unusedSimpArgs false

-- BY HAND: Derived.Test.YteaiaeejdcmefaaDoorHbitset
/-! ### bitset_Of: function 8 -/
-- HAND winnower/bitset.Of over making V=0
-- IMPORT Derived.Test.YteaiaeejdcmefaaDoorHbitset
open Go.Proofs.YteaiaeejdcmefaaDoor.Hbitset
theorem tdiv64 (i : Nat) : wrap64 (Int.tdiv (i : Int) 64) = wrap64 ((i / 64 : Nat) : Int) := rfl
theorem tmod64 (i : Nat) : Int.tmod (i : Int) 64 = ((i % 64 : Nat) : Int) := rfl
theorem wrap_small {i : Nat} (h : i < 1000000) : wrap64 (i : Int) = (i : Int) := by unfold wrap64; omega
theorem shl_one {j : Nat} (h : j < 64) : shl .u64 1 (j : Int) = ((2 ^ j : Nat) : Int) := by
  have hp := pow_word j h
  have e : shl .u64 1 (j : Int) = IntKind.u64.wrap (1 * (2 : Int) ^ j) := by
    unfold shl
    rw [Int.toNat_natCast, Nat.min_eq_left (show j ≤ IntKind.bits .u64 by show j ≤ 64; omega)]
  rw [e, Int.one_mul, show (2 : Int) ^ j = ((2 ^ j : Nat) : Int) from by rw [Int.natCast_pow]; rfl]
  exact IntWalk.u64_in _ ⟨hp.1, by omega⟩
theorem padW_snoc {w : List Int} {i : Nat} (h : w.length ≤ i / 64) : padW (w ++ [0]) i = padW w i := by
  rw [padW, padW, List.append_assoc, List.length_append, List.length_singleton, show i / 64 + 1 - w.length = (i / 64 + 1 - (w.length + 1)) + 1 by omega, List.replicate_succ]
  rfl
theorem padW_long {w : List Int} {i : Nat} (h : i / 64 < w.length) : padW w i = w := by
  rw [padW, show i / 64 + 1 - w.length = 0 by omega, List.replicate_zero, List.append_nil]
theorem bitset_put.tell (i : Nat) (hi : i < 65536) : ∀ (d k : Nat) (w : List Int), i / 64 + 1 - w.length = d → w.length ≤ 1000000 → d < k → bitset_put.l0 k w (i : Int) = some (putL w i) := by
  intro d
  have e := (tdiv64 i).trans (wrap_small (i := i / 64) (by omega))
  induction d with
  | zero =>
    intro k w hd hl hk
    obtain ⟨k, rfl⟩ : ∃ m, k = m + 1 := ⟨k - 1, by omega⟩
    simp only [bitset_put.l0]
    rw [e, tmod64, if_neg (by omega), if_pos (by omega), if_pos (by omega), if_pos (by omega), Int.toNat_natCast, rd, Int.toNat_natCast, shl_one (Nat.mod_lt _ (by decide)), putL, padW_long (by omega)]
  | succ d ih =>
    intro k w hd hl hk
    obtain ⟨k, rfl⟩ : ∃ m, k = m + 1 := ⟨k - 1, by omega⟩
    simp only [bitset_put.l0]
    rw [e, if_pos (by omega), if_pos (by omega), ih k (w ++ [0]) (by rw [List.length_append, List.length_singleton]; omega) (by rw [List.length_append, List.length_singleton]; omega) (by omega), putL, putL, padW_snoc (by omega)]
/-- The words of a list's numbers, behind others. -/
def ofL (w : List Int) : List Int → List Int
  | [] => w
  | x :: xs => ofL (if 0 ≤ x ∧ x < 65536 then putL w x.toNat else w) xs
theorem bitset_may.tell (x : Int) : bitset_may.f x = some (decide (0 ≤ x ∧ x < 65536)) := rfl
theorem bitset_Of_p.tell (l : List Int) (hl : l.length ≤ 9223372036854775807) : ∀ (d k : Nat) (w : List Int) (i : Nat), i + d = l.length → w.length ≤ 1024 → d + 2000 < k → bitset_Of_p.l0 k w l (l.length : Int) (i : Int) = some (ofL w (l.drop i)) := by
  intro d
  induction d with
  | zero =>
    intro k w i hd hw hk
    obtain ⟨k, rfl⟩ : ∃ m, k = m + 1 := ⟨k - 1, by omega⟩
    simp only [bitset_Of_p.l0]
    rw [if_neg (by omega), List.drop_of_length_le (by omega), ofL]
  | succ d ih =>
    intro k w i hd hw hk
    obtain ⟨k, rfl⟩ : ∃ m, k = m + 1 := ⟨k - 1, by omega⟩
    have hi : i < l.length := by omega
    have er : rd l (i : Int) = l[i] := by rw [rd, Int.toNat_natCast, List.getD_eq_getElem?_getD, List.getElem?_eq_getElem hi]; rfl
    have e1 : wrap64 ((i : Int) + 1) = ((i + 1 : Nat) : Int) := by unfold wrap64; omega
    simp only [bitset_Of_p.l0]
    rw [if_pos (by omega), if_pos (by omega), if_pos (by omega), er, bitset_may.tell, Option.bind_some, e1, List.drop_eq_getElem_cons hi, ofL]
    obtain ⟨x, hx⟩ : ∃ x, l[i] = x := ⟨_, rfl⟩
    rw [hx]
    by_cases h : 0 ≤ x ∧ x < 65536
    · obtain ⟨n, rfl⟩ := Int.eq_ofNat_of_zero_le h.1
      rw [if_pos (decide_eq_true h), if_pos h, bitset_put.f, bitset_put.tell n (by omega) _ k w rfl (by omega) (by omega), Option.bind_some, Int.toNat_natCast]
      exact ih k _ (i + 1) (by omega) (by rw [putL_len]; omega) (by omega)
    · rw [if_neg (by simpa using h), if_neg h]
      exact ih k w (i + 1) (by omega) hw (by omega)
def bitset_Of.f (l0 : List Int) : Option (List Int) := some (ofL [] l0)
theorem bitset_Of.fits {l0 : List Int} {r : List Int} (h0 : l0.length ≤ 9223372036854775807) (h : bitset_Of.f l0 = some r) : ∃ k, bitset_Of_p.f k l0 = some r :=
  ⟨l0.length + 2001, by rw [← h, bitset_Of_p.f, bitset_Of.f, show (0 : Int) = ((0 : Nat) : Int) from rfl, bitset_Of_p.tell l0 h0 l0.length _ [] 0 (by omega) (by decide) (by omega), List.drop_zero]⟩
theorem bitset_Of.own_ (A0 : Option Addr) (c0 : Nat) (l0 : List Int) (r : List Int) (w : World) (hr0 : Kd.C (Kd.int .i64) w A0 l0.length l0) (hc0 : l0.length ≤ c0) (h : bitset_Of.f l0 = some r) :
    Calls Tryd.prog 8 #[.slice A0 l0.length c0] w fun e w' => ∃ v0_ : Value, e = .returned (.agg #[v0_]) ∧ Kd.R (Kd.int .u64) 46 w' w.heap.size (fun _ => True) v0_ r ∧ Below w.heap.size w w' := by
  obtain ⟨k, hk⟩ := bitset_Of.fits hr0.2.1 h
  exact bitset_Of_p.calls k A0 c0 l0 r w hr0 hc0 hk
theorem bitset_Of.calls (A0 : Option Addr) (c0 : Nat) (l0 : List Int) (r : List Int) (w : World) (hr0 : Kd.C (Kd.int .i64) w A0 l0.length l0) (hc0 : l0.length ≤ c0) (h : bitset_Of.f l0 = some r) :
    Calls Tryd.prog 8 #[.slice A0 l0.length c0] w fun e w' => ∃ v0_ : Value, e = .returned (.agg #[v0_]) ∧ Kd.V (Kd.int .u64) 46 w' w.heap.size (fun k_ => w.heap.size ≤ k_) v0_ r ∧ Below w.heap.size w w' :=
  (bitset_Of.own_ A0 c0 l0 r w hr0 hc0 h).mono fun e w' ⟨v0_, he, hr, hb⟩ => ⟨v0_, he, Kd.V_mono (Kd.R_V (Kd.R_bound hr)) (fun k_ hk => hk.2.1), hb⟩

end Go.Proofs.YteaiaeejdcmefaaDoor.T
