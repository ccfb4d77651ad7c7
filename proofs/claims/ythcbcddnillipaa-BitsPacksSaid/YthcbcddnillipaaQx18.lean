/- The machine side of laws, written by wip/tools/myprint.py (the printer's way, with functions proved by hand put in); Lean checks it. -/
import Derived.Test.YthcbcddnillipaaHbitnum
import Derived.Test.YthcbcddnillipaaQx0
import Derived.Test.YthcbcddnillipaaQx12
import Derived.Test.YthcbcddnillipaaQx14
import Derived.Test.YthcbcddnillipaaQx16
import Derived.Test.YthcbcddnillipaaQx17
namespace Go.Proofs.Ythcbcddnillipaa.Q
open Go.RowKit Go.Proofs.YthcbcddnillipaaW.PrintWords Go.Proofs.YthcbcddnillipaaW.PrintLast Go.Proofs.YthcbcddnillipaaW.PrintMore
attribute [local go_sem] max2_int min2_int max_two min_two max_three min_three max_four min_four   -- for this text's walks alone
set_option linter.unusedVariables false
set_option linter.unusedSimpArgs false

-- BY HAND: Derived.Test.YthcbcddnillipaaHbitnum
/-! ### winnowerref02_Pack: function 11 -/
-- HAND winnower/winnowerref02.Pack over
-- IMPORT Derived.Test.YthcbcddnillipaaHbitnum
open Go.Proofs.Ythcbcddnillipaa.Hnum Go.Proofs.Ythcbcddnillipaa.Hbits Go.Proofs.Ythcbcddnillipaa.Hbitnum
theorem winnowerref02_Pack.bytes (all : List Int) (hb : Bits all) (t : Nat) (ht : all.length = 8 * t) (hl : t ≤ 100000) : ∀ (d i kq : Nat), i + d = t → d < kq → winnowerref02_Pack_p.l2 kq all (bytesN i (valB all)) ((8 * i : Nat) : Int) = some (bytesN t (valB all), 0) := by
  intro d
  induction d with
  | zero =>
    intro i kq hi hq
    obtain ⟨q, rfl⟩ : ∃ m, kq = m + 1 := ⟨kq - 1, by omega⟩
    obtain rfl : i = t := by omega
    rw [winnowerref02_Pack_p.l2, if_neg (by omega)]
  | succ d ih =>
    intro i kq hi hq
    obtain ⟨q, rfl⟩ : ∃ m, kq = m + 1 := ⟨kq - 1, by omega⟩
    have e3 : wrap64 (((8 * i : Nat) : Int) + 8) = ((8 * i + 8 : Nat) : Int) := by rw [wrap_id (by omega) (by omega)]; omega
    have hv : winnowerref02_value.f ((all.take (8 * i + 8)).drop (8 * i)) = some ((valB ((all.take (8 * i + 8)).drop (8 * i)) : Nat) : Int) := by
      unfold winnowerref02_value.f
      rw [if_pos ⟨(hb.take _).drop _, by rw [List.length_drop, List.length_take]; omega⟩]
    rw [winnowerref02_Pack_p.l2, if_pos (by omega), if_pos (by omega), e3, if_pos (by omega), if_pos (by omega), Int.toNat_natCast, Int.toNat_natCast, hv, Option.bind_some, if_pos (by rw [bytesN_length]; omega), bytesN_eights hb (by omega)]
    exact ih (i + 1) q (by omega) (by omega)
theorem winnowerref02_Pack.pad (all : List Int) (hb : Bits all) (hl : all.length ≤ 400000) : ∀ (z kq : Nat), (all.length + z) % 8 = 0 → z < 8 → z + bsize all.length + 1 < kq → winnowerref02_Pack_p.l1 kq all = some (bytesN (bsize all.length) (valB all), 0) := by
  intro z
  induction z generalizing all with
  | zero =>
    intro kq hz h8 hq
    obtain ⟨q, rfl⟩ : ∃ m, kq = m + 1 := ⟨kq - 1, by omega⟩
    rw [winnowerref02_Pack_p.l1, if_neg (by omega)]
    have ht : all.length = 8 * bsize all.length := by unfold bsize; omega
    exact winnowerref02_Pack.bytes all hb (bsize all.length) ht (by unfold bsize; omega) (bsize all.length) 0 q (by omega) (by omega)
  | succ z ih =>
    intro kq hz h8 hq
    obtain ⟨q, rfl⟩ : ∃ m, kq = m + 1 := ⟨kq - 1, by omega⟩
    have e1 : bsize (all ++ [0]).length = bsize all.length := by rw [List.length_append, List.length_singleton]; unfold bsize; omega
    have e2 : valB (all ++ [0]) = valB all := valB_pad (z := 1)
    have hl1 : all.length + 1 ≤ 400000 := by omega
    rw [winnowerref02_Pack_p.l1, if_pos (by omega), if_pos (by omega), ih (all ++ [0]) (hb.append (fun x hx => by rw [List.mem_singleton.1 hx]; exact .inl rfl)) (by rw [List.length_append, List.length_singleton]; omega) q (by rw [List.length_append, List.length_singleton]; omega) (by omega) (by rw [e1]; omega), e1, e2]
theorem winnowerref02_Pack.tell (l : List Int) (w : Nat) (hw : w ≤ 62) (hl : l.length ≤ 4096) (hi64 : ∀ x ∈ l, i64 x) : ∀ (d i kq : Nat), i + d = l.length → (∀ x ∈ l.take i, good w x) → d + bsize (l.length * w) + 20 < kq →
    winnowerref02_Pack_p.l0 kq l (w : Int) (spreadW w (l.take i)) (i : Int) = some (if ∀ x ∈ l, good w x then (bytesN (bsize (l.length * w)) (catN w l), 0) else ([], 1)) := by
  have hlw : l.length * w ≤ 4096 * 62 := Nat.mul_le_mul hl hw
  intro d
  induction d with
  | zero =>
    intro i kq hi ha hq
    obtain ⟨q, rfl⟩ : ∃ m, kq = m + 1 := ⟨kq - 1, by omega⟩
    rw [List.take_of_length_le (by omega)] at ha ⊢
    rw [winnowerref02_Pack_p.l0, if_neg (by omega), if_pos ha]
    have := winnowerref02_Pack.pad (spreadW w l) (spreadW_bits w l) (by rw [spreadW_length]; omega) ((8 - l.length * w % 8) % 8) q (by rw [spreadW_length]; omega) (by omega) (by rw [spreadW_length]; omega)
    rw [this, spreadW_length, spreadW_val ha]
  | succ d ih =>
    intro i kq hi ha hq
    obtain ⟨q, rfl⟩ : ∃ m, kq = m + 1 := ⟨kq - 1, by omega⟩
    have hlt : i < l.length := by omega
    have h64 := hi64 _ (List.getElem_mem hlt)
    have hW : winnowerref02_Width.f l[i] = some (wide l[i]) := by unfold winnowerref02_Width.f; rw [if_pos h64]
    rw [winnowerref02_Pack_p.l0, if_pos (by omega), if_pos (by omega), rd_get hlt, hW, Option.bind_some]
    by_cases h0 : l[i] < 0
    · rw [if_pos h0, if_neg (fun hall => by have := (hall _ (List.getElem_mem hlt)).1; omega)]
    · rw [if_neg h0]
      by_cases hg : wide l[i] > (w : Int)
      · rw [if_pos hg, if_neg (fun hall => by have := (wide_le h64).2 (hall _ (List.getElem_mem hlt)).2; omega)]
      · have hgood : good w l[i] := ⟨by omega, (wide_le h64).1 (by omega)⟩
        have hn : winnowerref02_number.f l[i] (w : Int) = some (bitsOf l[i].toNat w) := by
          unfold winnowerref02_number.f
          rw [if_pos ⟨by omega, h64.2, by omega⟩, Int.toNat_natCast]
        have e3 : wrap64 ((i : Int) + 1) = ((i + 1 : Nat) : Int) := by rw [wrap_id (by omega) (by omega)]; omega
        have hs : spreadW w (l.take i) ++ bitsOf l[i].toNat w = spreadW w (l.take (i + 1)) := flat_snoc (f := fun a => bitsOf a.toNat w) hlt
        have hlen : (l.take i).length * w ≤ l.length * w := Nat.mul_le_mul_right _ (by rw [List.length_take]; omega)
        rw [if_neg hg, hn, Option.bind_some, if_pos (by rw [spreadW_length, bitsOf_length]; omega), hs, e3]
        exact ih (i + 1) q (by omega) (all_step hlt ha hgood) (by omega)
def winnowerref02_Pack.f (l0 : List Int) (a1 : Int) : Option (List Int × Int) := if ∀ x ∈ l0, i64 x then some (packT l0 a1) else none
theorem winnowerref02_Pack.fits {l0 : List Int} {a1 : Int} {r : List Int × Int} (_ : l0.length ≤ 9223372036854775807) (h : winnowerref02_Pack.f l0 a1 = some r) : ∃ k, winnowerref02_Pack_p.f k l0 a1 = some r := by
  unfold winnowerref02_Pack.f at h
  by_cases hi : ∀ x ∈ l0, i64 x
  · rw [if_pos hi] at h
    rw [← h]
    unfold packT
    by_cases hc : a1 < 0 ∨ 62 < a1
    · refine ⟨1, ?_⟩
      rw [if_pos hc]
      unfold winnowerref02_Pack_p.f
      by_cases h0 : a1 < 0
      · rw [if_pos h0, winnowerref02_Pack_p.j0, if_pos rfl]
      · rw [if_neg h0, winnowerref02_Pack_p.j0, if_pos (decide_eq_true (by omega))]
    · rw [if_neg hc]
      obtain ⟨w, rfl⟩ := Int.eq_ofNat_of_zero_le (show 0 ≤ a1 by omega)
      rw [Int.toNat_natCast]
      unfold packS
      by_cases hl : 4096 < l0.length
      · refine ⟨1, ?_⟩
        unfold winnowerref02_Pack_p.f
        rw [if_pos hl, if_neg (by omega), winnowerref02_Pack_p.j0, if_neg (by simp; omega), if_pos (by omega)]
      · refine ⟨l0.length + bsize (l0.length * w) + 22, ?_⟩
        unfold winnowerref02_Pack_p.f
        rw [if_neg hl, if_neg (by omega), winnowerref02_Pack_p.j0, if_neg (by simp; omega), if_neg (by omega)]
        exact winnowerref02_Pack.tell l0 w (by omega) (by omega) hi l0.length 0 _ (by omega) (fun x hx => by simp at hx) (by omega)
  · rw [if_neg hi] at h; cases h
theorem winnowerref02_Pack.calls (A0 : Option Addr) (c0 : Nat) (l0 : List Int) (a1 : Int) (r1 : List Int) (r2 : Int) (w : World) (hr0 : Kd.C (Kd.int .i64) w A0 l0.length l0) (hc0 : l0.length ≤ c0) (h : winnowerref02_Pack.f l0 a1 = some (r1, r2)) :
    Calls Try.prog 11 #[.slice A0 l0.length c0, .int .i64 a1] w fun e w' => ∃ v0_ : Value, e = .returned (.tuple #[v0_, .int .i64 r2]) ∧ Kd.R (Kd.int .u8) 5 w' w.heap.size (fun _ => True) v0_ r1 ∧ Below w.heap.size w w' := by
  obtain ⟨k, hk⟩ := winnowerref02_Pack.fits hr0.2.1 h
  exact winnowerref02_Pack_p.calls k A0 c0 l0 a1 r1 r2 w hr0 hc0 hk


end Go.Proofs.Ythcbcddnillipaa.Q
