/- The machine side of laws, written by wip/tools/myprint.py (the printer's way, with functions proved by hand put in); Lean checks it. -/
import Derived.Laws.Bits128
import Derived.Test.YteaiaeejdcmefaaDoorHbitset
import Derived.Test.YteaiaeejdcmefaaDoorTx0
import Derived.Test.YteaiaeejdcmefaaDoorTx7
namespace Go.Proofs.YteaiaeejdcmefaaDoor.T
open Go.RowKit Go.Proofs.YteaiaeejdcmefaaDoorW.PrintWords Go.Proofs.YteaiaeejdcmefaaDoorW.PrintLast Go.Proofs.YteaiaeejdcmefaaDoorW.PrintMore
attribute [local go_sem] max2_int min2_int max_two min_two max_three min_three max_four min_four   -- for this text's walks alone
set_option linter.unusedVariables false
set_option linter.unusedSimpArgs false

-- BY HAND: Derived.Test.YteaiaeejdcmefaaDoorHbitset,Derived.Laws.Bits128
/-! ### bits_OnesCount64: function 37 -/
-- HAND math/bits.OnesCount64 over
-- IMPORT Derived.Test.YteaiaeejdcmefaaDoorHbitset
-- IMPORT Derived.Laws.Bits128
open Go.Proofs.YteaiaeejdcmefaaDoor.Hbitset
def bits_OnesCount64.f (a0 : Int) : Option Int := if 0 ≤ a0 then (if a0 ≤ 18446744073709551615 then some ((pcn a0.toNat : Nat) : Int) else none) else none
theorem u64n {a : Nat} (h : a < 18446744073709551616) : IntKind.u64.wrap (a : Int) = (a : Int) := by rw [IntKind.wrap_u64]; omega
theorem oc_1 {x x1 : Nat} (hx : x < 18446744073709551616) (h : x1 = ((x / 2) &&& 6148914691236517205) + (x &&& 6148914691236517205)) (p1 : x1 < 18446744073709551616) :
    IntKind.u64.wrap ((Go.bits .and .u64 ((x : Int) / 2) 6148914691236517205) + (Go.bits .and .u64 (x : Int) 6148914691236517205)) = (x1 : Int) := by
  have a := bits_and_u64_nat (x / 2) 6148914691236517205 (by omega) (by decide)
  have b := bits_and_u64_nat x 6148914691236517205 hx (by decide)
  rw [Int.natCast_ediv] at a
  refine Eq.trans (congrArg IntKind.u64.wrap ?_) (u64n p1)
  rw [h, Int.natCast_add]
  exact congr (congrArg HAdd.hAdd a) b
theorem oc_2 {x x1 : Nat} (hx : x < 18446744073709551616) (h : x1 = ((x / 4) &&& 3689348814741910323) + (x &&& 3689348814741910323)) (p1 : x1 < 18446744073709551616) :
    IntKind.u64.wrap ((Go.bits .and .u64 ((x : Int) / 4) 3689348814741910323) + (Go.bits .and .u64 (x : Int) 3689348814741910323)) = (x1 : Int) := by
  have a := bits_and_u64_nat (x / 4) 3689348814741910323 (by omega) (by decide)
  have b := bits_and_u64_nat x 3689348814741910323 hx (by decide)
  rw [Int.natCast_ediv] at a
  refine Eq.trans (congrArg IntKind.u64.wrap ?_) (u64n p1)
  rw [h, Int.natCast_add]
  exact congr (congrArg HAdd.hAdd a) b
theorem oc_3 {x x3 : Nat} (p3 : x / 16 + x < 18446744073709551616) (h : x3 = ((x / 16) + x) &&& 1085102592571150095) :
    Go.bits .and .u64 (IntKind.u64.wrap ((x : Int) / 16 + (x : Int))) 1085102592571150095 = (x3 : Int) := by
  have a := bits_and_u64_nat (x / 16 + x) 1085102592571150095 p3 (by decide)
  have w := u64n p3
  rw [Int.natCast_add, Int.natCast_ediv] at w
  rw [h, ← a, Int.natCast_add, Int.natCast_ediv]
  exact congrArg (fun z => Go.bits .and .u64 z 1085102592571150095) w
theorem oc_4 {x y d : Nat} (h : y = x + x / d) (p : y < 18446744073709551616) : IntKind.u64.wrap ((x : Int) + (x : Int) / (d : Int)) = (y : Int) := by
  have w := u64n p
  rw [h, Int.natCast_add, Int.natCast_ediv] at w
  rw [h, Int.natCast_add, Int.natCast_ediv]
  exact w
theorem oc_7 (x : Nat) : wrap64 (x : Int) % 128 = ((x % 128 : Nat) : Int) := by unfold wrap64; omega
theorem oc_8 {x6 p : Nat} (h : x6 % 128 = p) : Go.bits .and .i64 (wrap64 (x6 : Int)) 127 = (p : Int) := by rw [i64_and127, oc_7, h]
theorem bits_OnesCount64.fits {a0 r : Int} (h : bits_OnesCount64.f a0 = some r) : ∃ _k : Nat, bits_OnesCount64_p.f a0 = some r := by
  refine ⟨0, ?_⟩
  unfold bits_OnesCount64.f at h
  by_cases h0 : 0 ≤ a0
  · rw [if_pos h0] at h
    by_cases h1 : a0 ≤ 18446744073709551615
    · rw [if_pos h1, Option.some.injEq] at h
      obtain ⟨x, rfl⟩ := Int.eq_ofNat_of_zero_le h0
      rw [Int.toNat_natCast] at h
      subst h
      obtain ⟨x1, h1'⟩ : ∃ x1, x1 = ((x / 2) &&& 6148914691236517205) + (x &&& 6148914691236517205) := ⟨_, rfl⟩
      obtain ⟨x2, h2⟩ : ∃ x2, x2 = ((x1 / 4) &&& 3689348814741910323) + (x1 &&& 3689348814741910323) := ⟨_, rfl⟩
      obtain ⟨x3, h3⟩ : ∃ x3, x3 = ((x2 / 16) + x2) &&& 1085102592571150095 := ⟨_, rfl⟩
      obtain ⟨x4, h4⟩ : ∃ x4, x4 = x3 + x3 / 256 := ⟨_, rfl⟩
      obtain ⟨x5, h5⟩ : ∃ x5, x5 = x4 + x4 / 65536 := ⟨_, rfl⟩
      obtain ⟨x6, h6⟩ : ∃ x6, x6 = x5 + x5 / 4294967296 := ⟨_, rfl⟩
      obtain ⟨p0, p1, p2, p3, p4, p5, p6⟩ := pop64 x x1 x2 x3 x4 x5 x6 h1' h2 h3 h4 h5 h6
      have e1 := oc_1 (by omega) h1' p1
      have e2 := oc_2 p1 h2 p2
      have e3 := oc_3 p3 h3
      have e4 := oc_4 (d := 256) h4 p4
      have e5 := oc_4 (d := 65536) h5 p5
      have e6 := oc_4 (d := 4294967296) h6 p6
      have e7 := oc_8 p0
      clear p0 p1 p2 p3 p4 p5 p6 h1' h2 h3 h4 h5 h6 h0 h1
      unfold bits_OnesCount64_p.f
      rw [e1, e2, e3]
      refine congrArg some ?_
      rw [← e7]
      refine congrArg (fun z => Go.bits .and .i64 (wrap64 z) 127) ?_
      rw [← e6, ← e5, ← e4]
      rfl
    · rw [if_neg h1] at h; cases h
  · rw [if_neg h0] at h; cases h
theorem bits_OnesCount64.calls (a0 : Int) (r : Int) (w : World) (h : bits_OnesCount64.f a0 = some r) :
    Calls Tryd.prog 37 #[.int .u64 a0] w fun e w' => e = .returned (.int .i64 r) ∧ Drawn0 w w' := by
  obtain ⟨k, hk⟩ := bits_OnesCount64.fits  h
  exact bits_OnesCount64_p.calls a0 r w hk


end Go.Proofs.YteaiaeejdcmefaaDoor.T
