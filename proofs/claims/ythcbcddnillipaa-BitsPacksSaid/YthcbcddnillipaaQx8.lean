/- The machine side of laws, written by wip/tools/myprint.py (the printer's way, with functions proved by hand put in); Lean checks it. -/
import Derived.Test.YthcbcddnillipaaHbitnum
import Derived.Test.YthcbcddnillipaaQx0
import Derived.Test.YthcbcddnillipaaQx2
import Derived.Test.YthcbcddnillipaaQx6
import Derived.Test.YthcbcddnillipaaQx7
namespace Go.Proofs.Ythcbcddnillipaa.Q
open Go.RowKit Go.Proofs.YthcbcddnillipaaW.PrintWords Go.Proofs.YthcbcddnillipaaW.PrintLast Go.Proofs.YthcbcddnillipaaW.PrintMore
attribute [local go_sem] max2_int min2_int max_two min_two max_three min_three max_four min_four   -- for this text's walks alone
set_option linter.unusedVariables false
set_option linter.unusedSimpArgs false

-- BY HAND: Derived.Test.YthcbcddnillipaaHbitnum
/-! ### bits_Unpack: function 15 -/
-- HAND winnower/bits.Unpack over
-- IMPORT Derived.Test.YthcbcddnillipaaHbitnum
open Go.Proofs.Ythcbcddnillipaa.Hnum Go.Proofs.Ythcbcddnillipaa.Hbits Go.Proofs.Ythcbcddnillipaa.Hbitnum
theorem bits_number.tell {l : List Int} {i w : Nat} (hb : Bytes l) (hl : l.length ≤ 1000000) (hw : w ≤ 62) (hi : i ≤ 1099511627776) (hfit : i * w + w ≤ 8 * l.length) : bits_number.f l (i : Int) (w : Int) = some ((numN l / 2 ^ (i * w) % 2 ^ w : Nat) : Int) := by
  have hs : (i + 1) * w = i * w + w := by rw [Nat.add_mul, Nat.one_mul]
  have h1 : ((i : Int) + 1) * (w : Int) ≤ 8 * (l.length : Int) := by
    have e : ((i : Int) + 1) * (w : Int) = (((i + 1) * w : Nat) : Int) := by rw [Int.natCast_mul]; rfl
    rw [e, hs]; omega
  have hc : 0 ≤ (i : Int) ∧ (i : Int) ≤ 1099511627776 ∧ 0 ≤ (w : Int) ∧ (w : Int) ≤ 62 ∧ ((i : Int) + 1) * (w : Int) ≤ 8 * (l.length : Int) ∧ l.length ≤ 1000000000000 ∧ Bytes l :=
    ⟨by omega, by omega, by omega, by omega, h1, by omega, hb⟩
  unfold bits_number.f
  rw [if_pos hc, Int.toNat_natCast, Int.toNat_natCast, numAt_num hb _ _ hfit]
theorem set_next (w i m N : Nat) : (outs w i N ++ List.replicate (m + 1) 0).set i ((N / 2 ^ (i * w) % 2 ^ w : Nat) : Int) = outs w (i + 1) N ++ List.replicate m 0 := by
  have h1 := outs_length w i N
  rw [List.set_append_right _ _ (by omega), h1, Nat.sub_self, List.replicate_succ, List.set_cons_zero]
  unfold outs
  rw [List.range_succ, List.map_append, List.map_singleton, List.append_assoc, List.singleton_append]
theorem bits_Unpack.tell (l : List Int) (n w : Nat) (hb : Bytes l) (hl : l.length ≤ 1000000) (hw : w ≤ 62) (hn : n ≤ 4096) (hfit : n * w ≤ 8 * l.length) : ∀ (d i kq : Nat), i + d = n → d < kq →
    bits_Unpack_p.l0 kq l (w : Int) (outs w i (numN l) ++ List.replicate d 0) (n : Int) (i : Int) = some (outs w n (numN l), 0) := by
  intro d
  induction d with
  | zero =>
    intro i kq hi hq
    obtain ⟨q, rfl⟩ : ∃ m, kq = m + 1 := ⟨kq - 1, by omega⟩
    obtain rfl : i = n := by omega
    rw [bits_Unpack_p.l0, if_neg (show ¬ ((i : Int) < (i : Int)) from by omega)]
    simp
  | succ d ih =>
    intro i kq hi hq
    obtain ⟨q, rfl⟩ : ∃ m, kq = m + 1 := ⟨kq - 1, by omega⟩
    have h1 : (i : Int) < (n : Int) := by omega
    have h2 : (i : Int) < ((outs w i (numN l) ++ List.replicate (d + 1) 0).length : Int) := by rw [List.length_append, outs_length, List.length_replicate]; omega
    have h3 : wrap64 ((i : Int) + 1) = ((i + 1 : Nat) : Int) := by rw [wrap_id (by omega) (by omega)]; omega
    have h4 : i + 1 + d = n := by omega
    have h5 : d < q := by omega
    have h6 : i ≤ 1099511627776 := by omega
    have h7 : i * w + w ≤ 8 * l.length := Nat.le_trans (by rw [show i * w + w = (i + 1) * w from by rw [Nat.add_mul, Nat.one_mul]]; exact Nat.mul_le_mul_right _ (by omega)) hfit
    rw [bits_Unpack_p.l0, if_pos h1, bits_number.tell hb hl hw h6 h7, Option.bind_some, if_pos (Int.natCast_nonneg _), if_pos h2, Int.toNat_natCast, set_next, h3]
    exact ih (i + 1) q h4 h5
def bits_Unpack.f (l0 : List Int) (a1 a2 : Int) : Option (List Int × Int) := if Bytes l0 ∧ l0.length ≤ 1000000 then some (unpackT l0 a1 a2) else none
theorem last_bits {l : List Int} (hb : Bytes l) {q : Nat} (hq : 0 < q % 8) (hl : l.length = bsize q) : (l[q / 8]'(by unfold bsize at hl; omega)).toNat / 2 ^ (q % 8) = numN l / 2 ^ q := by
  have hlt : q / 8 < l.length := by unfold bsize at hl; omega
  have hN := numN_lt hb
  have hlen : l.length = q / 8 + 1 := by unfold bsize at hl; omega
  rw [hlen, Nat.pow_succ] at hN
  have h1 : numN l / 256 ^ (q / 8) < 256 := (Nat.div_lt_iff_lt_mul (Nat.pow_pos (by decide))).2 (by rw [Nat.mul_comm]; exact hN)
  rw [← numN_byte hb _ hlt, Nat.mod_eq_of_lt h1, Nat.div_div_eq_div_mul, Nat.mul_comm, ← pow_split]
theorem bits_Unpack.fits {l0 : List Int} {a1 a2 : Int} {r : List Int × Int} (_ : l0.length ≤ 9223372036854775807) (h : bits_Unpack.f l0 a1 a2 = some r) : ∃ k, bits_Unpack_p.f k l0 a1 a2 = some r := by
  unfold bits_Unpack.f at h
  by_cases hi : Bytes l0 ∧ l0.length ≤ 1000000
  · rw [if_pos hi] at h
    rw [← h]
    unfold unpackT
    by_cases hm : a2 < 0 ∨ 62 < a2
    · refine ⟨1, ?_⟩
      have hmay : bits_may.f a2 = some false := by
        unfold bits_may.f
        by_cases h0 : a2 ≥ 0
        · rw [if_pos h0, decide_eq_false (by omega)]
        · rw [if_neg h0]
      unfold bits_Unpack_p.f
      rw [if_pos (show a2 < 0 ∨ 62 < a2 ∨ a1 < 0 from hm.elim .inl (fun h => .inr (.inl h))), hmay, Option.bind_some, if_neg (by decide), bits_Unpack_p.j0, if_pos (by decide)]
    · have hmay : bits_may.f a2 = some true := by unfold bits_may.f; rw [if_pos (by omega), decide_eq_true (by omega)]
      by_cases hn0 : a1 < 0
      · refine ⟨1, ?_⟩
        unfold bits_Unpack_p.f
        rw [if_pos (show a2 < 0 ∨ 62 < a2 ∨ a1 < 0 from .inr (.inr hn0)), hmay, Option.bind_some, if_pos rfl, bits_Unpack_p.j0, if_pos (decide_eq_true hn0)]
      · rw [if_neg (show ¬ (a2 < 0 ∨ 62 < a2 ∨ a1 < 0) from by omega)]
        obtain ⟨w, rfl⟩ := Int.eq_ofNat_of_zero_le (show 0 ≤ a2 by omega)
        obtain ⟨n, rfl⟩ := Int.eq_ofNat_of_zero_le (show 0 ≤ a1 by omega)
        rw [Int.toNat_natCast, Int.toNat_natCast]
        refine ⟨n + 4, ?_⟩
        unfold unpackS bits_Unpack_p.f
        rw [hmay, Option.bind_some, if_pos rfl, bits_Unpack_p.j0, decide_eq_false hn0, if_neg (by decide)]
        have hw : w ≤ 62 := by omega
        by_cases hn : 4096 < n
        · rw [if_pos hn, if_pos (show (n : Int) > 4096 from by omega)]
        · have hnw : n * w ≤ 4096 * 62 := Nat.mul_le_mul (by omega) hw
          have e1 : (n : Int) * (w : Int) = ((n * w : Nat) : Int) := by rw [Int.natCast_mul]
          obtain ⟨hb, hl⟩ := hi
          have htell := fun hfit => bits_Unpack.tell l0 n w hb hl hw (by omega) hfit n 0 (n + 2) (by omega) (by omega)
          rw [if_neg hn, if_neg (show ¬ ((n : Int) > 4096) from by omega)]
          have hj1 : n * w ≤ 8 * l0.length → bits_Unpack_p.j1 (n + 3) l0 (n : Int) (w : Int) = some (outs w n (numN l0), 0) := by
            intro hfit
            rw [bits_Unpack_p.j1, if_pos (Int.natCast_nonneg _), Int.toNat_natCast, if_pos (show n ≤ 35184372088832 from by omega), Option.bind_some, List.length_replicate]
            exact htell hfit
          clear htell
          have hsz : bits_size.f (n : Int) (w : Int) = some ((bsize (n * w) : Nat) : Int) := by
            unfold bits_size.f
            rw [e1]
            generalize n * w = q at hnw ⊢
            rw [wrap_id (x := (q : Int)) (by omega) (by omega), wrap_id (x := (q : Int) + 7) (by omega) (by omega), Int.tdiv_eq_ediv_of_nonneg (by omega), wrap_id (by omega) (by omega)]
            refine congrArg some ?_
            unfold bsize
            omega
          rw [hsz, Option.bind_some, e1]
          generalize hq : n * w = q at hnw hj1
          have e2 : wrap64 ((q : Nat) : Int) = (q : Int) := wrap_id (by omega) (by omega)
          have e3 : Int.tmod (q : Int) 8 = ((q % 8 : Nat) : Int) := by rw [Int.tmod_eq_emod_of_nonneg (by omega)]; omega
          rw [e2, e3]
          by_cases h6 : l0.length < bsize q
          · rw [if_pos h6, if_pos (show (l0.length : Int) < ((bsize q : Nat) : Int) from by omega)]
          · rw [if_neg h6, if_neg (show ¬ ((l0.length : Int) < ((bsize q : Nat) : Int)) from by omega), Option.bind_some]
            by_cases h7 : bsize q < l0.length
            · rw [if_pos (show (l0.length : Int) > ((bsize q : Nat) : Int) from by omega), if_pos (show bsize q < l0.length ∨ 2 ^ q ≤ numN l0 from .inl h7)]
            · have hlen : l0.length = bsize q := by omega
              have hfit : q ≤ 8 * l0.length := by unfold bsize at hlen; omega
              rw [if_neg (show ¬ ((l0.length : Int) > ((bsize q : Nat) : Int)) from by omega)]
              by_cases hr : 0 < q % 8
              · have hlt : q / 8 < l0.length := by unfold bsize at hlen; omega
                have e4 : wrap64 ((l0.length : Int) - 1) = ((q / 8 : Nat) : Int) := by rw [wrap_id (by omega) (by omega)]; unfold bsize at hlen; omega
                have hx := hb _ (List.getElem_mem hlt)
                have hlast := last_bits hb hr hlen
                have e5 : shr .u8 l0[q / 8] ((q % 8 : Nat) : Int) = ((numN l0 / 2 ^ q : Nat) : Int) := by
                  unfold shr
                  rw [Int.toNat_natCast, Nat.min_eq_left (show q % 8 ≤ IntKind.u8.bits from by simp only [IntKind.bits]; omega), ← hlast]
                  obtain ⟨x, hxe⟩ := Int.eq_ofNat_of_zero_le hx.1
                  rw [hxe, Int.toNat_natCast, Int.natCast_ediv, Int.natCast_pow]
                  rfl
                rw [if_pos (show ((q % 8 : Nat) : Int) > 0 from by omega), e4, if_pos (Int.natCast_nonneg _), if_pos (show ((q / 8 : Nat) : Int) < (l0.length : Int) from by omega), if_pos (Int.natCast_nonneg _), rd_get hlt, e5]
                have hp : 0 < 2 ^ q := Nat.pow_pos (by decide)
                by_cases h8 : 2 ^ q ≤ numN l0
                · have : 0 < numN l0 / 2 ^ q := Nat.div_pos h8 hp
                  rw [if_pos (show ((numN l0 / 2 ^ q : Nat) : Int) > 0 from by omega), if_pos (show bsize q < l0.length ∨ 2 ^ q ≤ numN l0 from .inr h8)]
                · have : numN l0 / 2 ^ q = 0 := Nat.div_eq_of_lt (by omega)
                  rw [if_neg (show ¬ (((numN l0 / 2 ^ q : Nat) : Int) > 0) from by omega), if_neg (show ¬ (bsize q < l0.length ∨ 2 ^ q ≤ numN l0) from fun h => h.elim h7 h8)]
                  exact hj1 hfit
              · have h8 : ¬ 2 ^ q ≤ numN l0 := by
                  have hN := numN_lt hb
                  rw [hlen, pow256, show 8 * bsize q = q from by unfold bsize; omega] at hN
                  omega
                rw [if_neg (show ¬ (((q % 8 : Nat) : Int) > 0) from by omega), if_neg (show ¬ (bsize q < l0.length ∨ 2 ^ q ≤ numN l0) from fun h => h.elim h7 h8)]
                exact hj1 hfit
  · rw [if_neg hi] at h; cases h
theorem bits_Unpack.calls (A0 : Option Addr) (c0 : Nat) (l0 : List Int) (a1 : Int) (a2 : Int) (r1 : List Int) (r2 : Int) (w : World) (hr0 : Kd.C (Kd.int .u8) w A0 l0.length l0) (hc0 : l0.length ≤ c0) (h : bits_Unpack.f l0 a1 a2 = some (r1, r2)) :
    Calls Try.prog 15 #[.slice A0 l0.length c0, .int .i64 a1, .int .i64 a2] w fun e w' => ∃ v0_ : Value, e = .returned (.tuple #[v0_, .int .i64 r2]) ∧ Kd.R (Kd.int .i64) 3 w' w.heap.size (fun _ => True) v0_ r1 ∧ Below w.heap.size w w' := by
  obtain ⟨k, hk⟩ := bits_Unpack.fits hr0.2.1 h
  exact bits_Unpack_p.calls k A0 c0 l0 a1 a2 r1 r2 w hr0 hc0 hk


end Go.Proofs.Ythcbcddnillipaa.Q
