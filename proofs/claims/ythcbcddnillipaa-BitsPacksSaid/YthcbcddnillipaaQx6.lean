/- The machine side of laws, written by wip/tools/myprint.py (the printer's way, with functions proved by hand put in); Lean checks it. -/
import Derived.Test.YthcbcddnillipaaHonly
import Derived.Test.YthcbcddnillipaaHbits
import Derived.Test.YthcbcddnillipaaQx0
namespace Go.Proofs.Ythcbcddnillipaa.Q
open Go.RowKit Go.Proofs.YthcbcddnillipaaW.PrintWords Go.Proofs.YthcbcddnillipaaW.PrintLast Go.Proofs.YthcbcddnillipaaW.PrintMore
attribute [local go_sem] max2_int min2_int max_two min_two max_three min_three max_four min_four   -- for this text's walks alone
set_option linter.unusedVariables false
set_option linter.unusedSimpArgs false

-- BY HAND: Derived.Test.YthcbcddnillipaaHonly,Derived.Test.YthcbcddnillipaaHbits
/-! ### bits_number: function 27 -/
-- HAND winnower/bits.number making
-- SKIP winnower/bits.places winnower/bits.number$1 winnower/bits.Pack$1
-- IMPORT Derived.Test.YthcbcddnillipaaHonly
-- IMPORT Derived.Test.YthcbcddnillipaaHbits
open Go.Proofs.Ythcbcddnillipaa.Honly Go.Proofs.Ythcbcddnillipaa.Hnum Go.Proofs.Ythcbcddnillipaa.Hbits
set_option maxHeartbeats 1000000 in
theorem bits_number_1.calls (A0 : Option Addr) (cap : Nat) (l : List Int) (p k gn gb acc : Nat) (w : World) (hC : Kd.C (Kd.int .u8) w A0 l.length l)
    (hn : w.heap[gn]? = some (.cells #[.int .i64 (acc : Int)] 3 (0, 0))) (hb : w.heap[gb]? = some (.cells #[.slice A0 l.length cap] 24 (0, 0))) (hp : p < 8 * l.length) (hl : l.length ≤ 1000000000000) (hk : k < 62)
    (hB : Bytes l) (ha : acc < 2 ^ k) :
    Calls Try.prog 29 #[.int .i64 (p : Int), .int .i64 (k : Int), .pointer (some ⟨gn, 0, none⟩), .pointer (some ⟨gb, 0, none⟩)] w fun e w' => e = .returned (.tuple #[]) ∧
      w'.heap[gn]? = some (.cells #[.int .i64 ((acc + bitAt l p * 2 ^ k : Nat) : Int)] 3 (0, 0)) ∧ Only gn w w' := by
  have q0 : (0 : Int) ≤ (p : Int) / 8 := by omega
  have q1 : (p : Int) / 8 < (l.length : Int) := by omega
  obtain ⟨ad, e, hx⟩ := Kd.at_int hC ((p : Int) / 8) q0 q1
  cases e
  have hlt : p / 8 < l.length := by omega
  have hrd : rd l ((p / 8 : Nat) : Int) = l[p / 8] := by rw [rd, Int.toNat_natCast, List.getD_eq_getElem?_getD, List.getElem?_eq_getElem hlt]; rfl
  have hby := hB _ (List.getElem_mem hlt)
  obtain ⟨x, hxe⟩ : ∃ x : Nat, l[p / 8] = (x : Int) := Int.eq_ofNat_of_zero_le hby.1
  have hbit : bitAt l p = x / 2 ^ (p % 8) % 2 := by unfold bitAt; rw [hrd, hxe, Int.toNat_natCast]
  have HS := Aside0.mk (bit_step (x := x) (q := p % 8) (by omega) ha hk)
  rw [show ((p : Int) / 8) = ((p / 8 : Nat) : Int) from by omega, hrd, hxe, Int.toNat_natCast] at hx
  have c1 := cell_of_one hn
  have f1 := free_of_one hn
  have c2 := cell_of_one hb
  have hp' : (p : Int) ≤ 8000000000000 := by omega
  have HN := Aside0.mk hn
  have HBit := Aside0.mk hbit
  clear hC hn hb hB hxe hrd hby hbit ha
  go_enter Try.func29, Try.ntmps29
  go_wp2
  go_region
  all_goals go_end0
  all_goals refine ⟨rfl, ?_, ((Only.refl _ _).set _ _).drew⟩
  all_goals (rw [HBit.out, ← HS.out]; exact one_setCell HN.out)
set_option maxHeartbeats 2000000 in
theorem bits_places.number (A0 : Option Addr) (cap : Nat) (l : List Int) (i width gn gb : Nat) (w : World) (hC : Kd.C (Kd.int .u8) w A0 l.length l)
    (hn : w.heap[gn]? = some (.cells #[.int .i64 0] 3 (0, 0))) (hb : w.heap[gb]? = some (.cells #[.slice A0 l.length cap] 24 (0, 0))) (hi : (i + 1) * width ≤ 8 * l.length) (hi2 : i ≤ 1099511627776) (hl : l.length ≤ 1000000000000) (hw : width ≤ 62)
    (hB : Bytes l) (hA : ∀ ad, A0 = some ad → 0 < l.length → ad.block ≠ gn) :
    Calls Try.prog 22 #[.int .i64 (i : Int), .int .i64 (width : Int), .func (.func 29) #[] #[.pointer (some ⟨gn, 0, none⟩), .pointer (some ⟨gb, 0, none⟩)]] w fun e w' => e = .returned (.tuple #[]) ∧
      w'.heap[gn]? = some (.cells #[.int .i64 ((numAt l (i * width) width : Nat) : Int)] 3 (0, 0)) ∧ Only gn w w' := by
  have hne : gb ≠ gn := by
    rintro rfl
    rw [hn] at hb; simp at hb
  go_enter Try.func22, Try.ntmps22
  go_wp2
  go_loopg [6, 8] width (fun m v6 v8 w' => ∃ j : Nat, j + m = width ∧ v8 = .int .i64 (j : Int) ∧ Aside0 (w'.heap[gn]? = some (.cells #[.int .i64 ((numAt l (i * width) j : Nat) : Int)] 3 (0, 0)) ∧ Only gn w w'))
  case atStart => exact ⟨0, by omega, rfl, ⟨hn, Only.refl _ _⟩⟩
  case round =>
    obtain ⟨j, hj, rfl, HA⟩ := hrel
    have hC' := C_only hC HA.out.2 hA
    have hb' := (HA.out.2.block gb hne).trans hb
    by_cases hlt : j < width
    · have hb0 : decide ((j : Int) < (width : Int)) = true := decide_eq_true (by omega)
      have hm : i * width + width ≤ 8 * l.length := by rw [Nat.add_mul, Nat.one_mul] at hi; exact hi
      go_wp2_with fail
      rw [show ((i : Int) * (width : Int) + (j : Int)) = ((i * width + j : Nat) : Int) from by simp]
      refine (bits_number_1.calls A0 cap l (i * width + j) j gn gb _ wr hC' HA.out.1 hb' (by omega) hl (by omega) hB (numAt_lt l (i * width) j)).mono ?_
      rintro e w1 ⟨rfl, h1, h2⟩
      have HA1 := Aside0.mk (And.intro h1 (HA.out.2.trans h2))
      clear h1 h2
      go_wp2
      go_roundg (gk - 1)
      case measure => omega
      case rel => exact ⟨j + 1, by omega, by go_num, HA1⟩
    · have hb0 : decide ((j : Int) < (width : Int)) = false := decide_eq_false (by omega)
      obtain rfl : j = width := by omega
      go_wp2
      go_end0
      exact ⟨rfl, HA.out.1, HA.out.2⟩
def bits_number.f (l0 : List Int) (a1 a2 : Int) : Option Int :=
  if 0 ≤ a1 ∧ a1 ≤ 1099511627776 ∧ 0 ≤ a2 ∧ a2 ≤ 62 ∧ (a1 + 1) * a2 ≤ 8 * (l0.length : Int) ∧ l0.length ≤ 1000000000000 ∧ Bytes l0 then some ((numAt l0 (a1.toNat * a2.toNat) a2.toNat : Nat) : Int) else none
set_option maxHeartbeats 2000000 in
theorem bits_number.calls (A0 : Option Addr) (c0 : Nat) (l0 : List Int) (a1 a2 : Int) (r : Int) (w : World) (hr0 : Kd.C (Kd.int .u8) w A0 l0.length l0) (hc0 : l0.length ≤ c0) (h : bits_number.f l0 a1 a2 = some r) :
    Calls Try.prog 27 #[.slice A0 l0.length c0, .int .i64 a1, .int .i64 a2] w fun e w' => e = .returned (.int .i64 r) ∧ Below w.heap.size w w' := by
  unfold bits_number.f at h
  by_cases hc : 0 ≤ a1 ∧ a1 ≤ 1099511627776 ∧ 0 ≤ a2 ∧ a2 ≤ 62 ∧ (a1 + 1) * a2 ≤ 8 * (l0.length : Int) ∧ l0.length ≤ 1000000000000 ∧ Bytes l0
  · rw [if_pos hc, Option.some.injEq] at h
    obtain ⟨h0, h1, h2, h3, h4, h5, h6⟩ := hc
    obtain ⟨i, rfl⟩ := Int.eq_ofNat_of_zero_le h0
    obtain ⟨u, rfl⟩ := Int.eq_ofNat_of_zero_le h2
    rw [Int.toNat_natCast, Int.toNat_natCast] at h
    have hlen : (i + 1) * u ≤ 8 * l0.length := by
      have : (((i + 1) * u : Nat) : Int) ≤ ((8 * l0.length : Nat) : Int) := by simpa using h4
      omega
    have HC := Aside0.mk hr0
    have HR := Aside0.mk h
    have HA := Aside0.mk (show ∀ ad, A0 = some ad → 0 < l0.length → ad.block < w.heap.size from fun ad e hp => by
      obtain ⟨ad', e', hx⟩ := Kd.at_int hr0 0 (by omega) (by omega)
      rw [e] at e'; cases e'
      have := World.block_lt_of_cell? _ _ hx
      rwa [show (ad.add (0 : Int).toNat).block = ad.block from by unfold Addr.add; split <;> rfl] at this)
    have hi2 : i ≤ 1099511627776 := by omega
    have hu2 : u ≤ 62 := by omega
    clear hr0 h h0 h1 h2 h3 h4
    go_enter Try.func27, Try.ntmps27
    go_wp2_with fail
    have hw1 : Below w.heap.size w ((w.alloc (.cells #[.slice A0 l0.length c0] 24)).alloc (.cells #[.int .i64 0] 3)) := ((Below.refl _ _).alloc (Nat.le_refl _) _).alloc (by simp) _
    have hn2 : ((w.alloc (.cells #[.slice A0 l0.length c0] 24)).alloc (.cells #[.int .i64 0] 3)).heap[w.heap.size + 1]? = some (.cells #[.int .i64 0] 3 (0, 0)) := by
      have := heap_alloc_new (w.alloc (.cells #[.slice A0 l0.length c0] 24)) (.cells #[.int .i64 0] 3)
      simpa using this
    have hb2 : ((w.alloc (.cells #[.slice A0 l0.length c0] 24)).alloc (.cells #[.int .i64 0] 3)).heap[w.heap.size]? = some (.cells #[.slice A0 l0.length c0] 24 (0, 0)) := by
      rw [Below.heap_alloc _ _ _ (by simp)]; exact heap_alloc_new _ _
    refine (bits_places.number A0 c0 l0 i u (w.heap.size + 1) w.heap.size _ (Kd.C_below HC.out hw1) hn2 hb2 hlen (by omega) h5 (by omega) h6 (fun ad e hp => by have := HA.out ad e hp; omega)).mono ?_
    rintro e w1 ⟨rfl, g1, g2⟩
    have hcell := cell_of_one g1
    have HB := Aside0.mk (hw1.trans (g2.below (by omega)))
    clear hn2 hb2 hw1 g1 g2
    go_wp2
    go_ret
    exact ⟨congrArg (fun x => Ending.returned (.int .i64 x)) HR.out, HB.out⟩
  · rw [if_neg hc] at h; cases h

end Go.Proofs.Ythcbcddnillipaa.Q
