/- The machine side of laws, written by wip/tools/myprint.py (the printer's way, with functions proved by hand put in); Lean checks it. -/
import Derived.Test.YtafljcblglielaaHbase
import Derived.Test.YtafljcblglielaaHnum
import Derived.Test.YtafljcblglielaaMx0
namespace Go.Proofs.Ytafljcblglielaa.M
open Go.RowKit Go.Proofs.YtafljcblglielaaW.PrintWords Go.Proofs.YtafljcblglielaaW.PrintLast Go.Proofs.YtafljcblglielaaW.PrintMore
attribute [local go_sem] max2_int min2_int max_two min_two max_three min_three max_four min_four   -- for this text's walks alone
set_option linter.unusedVariables false
set_option linter.unusedSimpArgs false

-- BY HAND: Derived.Test.YtafljcblglielaaHbase,Derived.Test.YtafljcblglielaaHnum
/-! ### num_put: function 27 -/
-- HAND winnower/num.put making
-- IMPORT Derived.Test.YtafljcblglielaaHbase
-- IMPORT Derived.Test.YtafljcblglielaaHnum
open Go.Proofs.Ytafljcblglielaa.Hbase Go.Proofs.Ytafljcblglielaa.Hnum
theorem or128 (x : Nat) (h : x < 128) : Go.bits .or .u8 (x : Int) 128 = ((x + 128 : Nat) : Int) := by
  have : ∀ x : Fin 128, Go.bits .or .u8 ((x.val : Nat) : Int) 128 = ((x.val + 128 : Nat) : Int) := by decide +kernel
  exact this ⟨x, h⟩
theorem num_put_info : (Try.prog.info? 5).map (fun i => (i.zero, i.size, i.bytes)) = some (some (.int .u8 0), 1, 1) := by kernel_rfl
def num_put.f (l0 : List Int) (a1 : Int) : Option (List Int) :=
  if 0 ≤ a1 then (if a1 < 18446744073709551616 then (if l0.length < 1000000000000 then some (l0 ++ digs a1.toNat) else none) else none) else none
/-- What holds ahead of each round. -/
def num_put.Rel (l0 : List Int) (A0 : Option Addr) (w : World) (r : List Int) (uq : Nat) (v : Value) (w' : World) : Prop :=
  ∃ xs : List Int, FullOr .u8 5 w' w A0 l0 v xs ∧ xs ++ digs uq = r ∧ Below w.heap.size w w' ∧ uq < 18446744073709551616
theorem num_put.quo {u : Nat} (h : u < 18446744073709551616) : IntKind.u64.wrap ((u : Int) / 128) = ((u / 128 : Nat) : Int) := by
  have e : IntKind.u64.wrap ((u : Int) / 128) = ((u : Int) / 128) % 18446744073709551616 := by simp [IntKind.wrap, IntKind.bits, IntKind.signed]
  rw [e]; omega
theorem num_put.byte {u : Nat} : Go.bits .or .u8 ((u : Int) % 128) 128 = ((u % 128 + 128 : Nat) : Int) := by
  have := or128 (u % 128) (by omega)
  rw [← this]; rfl
theorem num_put.next {l0 : List Int} {A0 : Option Addr} {w w1 : World} {r xs : List Int} {u : Nat} {v1 : Value} (hc : 128 ≤ u) (hx : xs ++ digs u = r) (hu : u < 18446744073709551616)
    (hR : Kd.R (Kd.int .u8) 5 w1 w.heap.size (fun _ => True) v1 (xs ++ [Go.bits .or .u8 ((u : Int) % 128) 128])) (hB : Below w.heap.size w w1) : num_put.Rel l0 A0 w r (u / 128) v1 w1 :=
  ⟨_, .inr hR, by rw [num_put.byte, ← hx, digs_more hc, List.append_assoc]; rfl, hB, by omega⟩
theorem num_put.len {xs r : List Int} {u : Nat} (h : xs ++ digs u = r) (hr : r.length ≤ 2000000000000) : (xs.length + 1) * 1 ≤ 140737488355328 := by
  have := congrArg List.length h
  rw [List.length_append] at this
  omega
set_option maxHeartbeats 1000000 in
theorem num_put.calls (A0 : Option Addr) (c0 : Nat) (l0 : List Int) (a1 : Int) (r : List Int) (w : World) (hr0 : Kd.C (Kd.int .u8) w A0 l0.length l0) (hc0 : l0.length ≤ c0) (h : num_put.f l0 a1 = some r) :
    Calls Try.prog 27 #[.slice A0 l0.length c0, .int .u64 a1] w fun e w' => ∃ v0_ : Value, e = .returned (v0_) ∧ Kd.R (Kd.int .u8) 5 w' w.heap.size (fun _ => True) v0_ r ∧ Below w.heap.size w w' := by
  unfold num_put.f at h
  by_cases h0 : 0 ≤ a1
  · rw [if_pos h0] at h
    by_cases h1 : a1 < 18446744073709551616
    · rw [if_pos h1] at h
      by_cases h2 : l0.length < 1000000000000
      · rw [if_pos h2, Option.some.injEq] at h
        obtain ⟨u, rfl⟩ := Int.eq_ofNat_of_zero_le h0
        rw [Int.toNat_natCast] at h
        have hu : u < 128 ^ (9 + 1) := by omega
        have hd := digs_len 9 u hu
        have hlen : r.length ≤ 2000000000000 := by rw [← h, List.length_append]; omega
        have HL := Aside0.mk hlen
        have HH := Aside0.mk h
        have HU : Aside0 (u < 18446744073709551616) := ⟨by omega⟩
        have HR0 := Aside0.mk hr0
        clear hlen h hr0 hd hu h0 h1 h2
        go_enter Try.func27, Try.ntmps27
        go_wp2
        go_loopg [0, 1] u (fun uq v0 v1 w' => v1 = .int .u64 (uq : Int) ∧ Aside0 (num_put.Rel l0 A0 w r uq v0 w'))
        case atStart => exact ⟨rfl, ⟨⟨l0, FullOr.start _ _ _ _ _ _, HH.out, Below.refl _ _, HU.out⟩⟩⟩
        case round =>
          obtain ⟨rfl, HA⟩ := hrel
          obtain ⟨xs, hv, hr, hB, hu⟩ := HA.out
          have HW := Aside0.mk hu
          have HV := Aside0.mk hv
          have HB := Aside0.mk hB
          have hl := num_put.len hr HL.out
          have HLn := Aside0.mk hl
          have HX := Aside0.mk hr
          clear HA hv hr hB hl hu
          by_cases c : 128 ≤ gk
          · have hb0 : decide ((128 : Int) ≤ (gk : Int)) = true := decide_eq_true (by omega)
            have HC := Aside0.mk c
            clear c
            go_wp2_with ((with_reducible refine gate_builtin (b := .append) (xs := #[.tmp 15, .tmp 20]) rfl ?_); at_builtin; refine full_append rfl (.tmp 15) (.tmp 20) 22 5 .u8 1 rfl Try.underlying22 num_put_info (by decide) u0 A0 l0 xs _ rfl rfl HV.out HR0.out HB.out HLn.out ?_; intro v1 w1 hR1 hB1)
            go_roundg (gk / 128)
            case measure => have := HC.out; omega
            case rel => exact ⟨congrArg _ (num_put.quo HW.out), ⟨num_put.next HC.out HX.out HW.out hR1 hB1⟩⟩
          · have hb0 : decide ((128 : Int) ≤ (gk : Int)) = false := decide_eq_false (by omega)
            have HC := Aside0.mk c
            clear c
            go_wp2_with ((with_reducible refine gate_builtin (b := .append) (xs := #[.tmp 22, .tmp 25]) rfl ?_); at_builtin; refine full_append rfl (.tmp 22) (.tmp 25) 22 5 .u8 1 rfl Try.underlying22 num_put_info (by decide) u0 A0 l0 xs _ rfl rfl HV.out HR0.out HB.out HLn.out ?_; intro v1 w1 hR1 hB1)
            go_ret
            refine ⟨_, rfl, ?_, hB1⟩
            have hc := HC.out
            have hx := HX.out
            rw [digs_last (by omega)] at hx
            rw [show (gk : Int) % 256 = (gk : Int) from by omega, hx] at hR1
            exact hR1
      · rw [if_neg h2] at h; exact absurd h (by simp)
    · rw [if_neg h1] at h; exact absurd h (by simp)
  · rw [if_neg h0] at h; exact absurd h (by simp)

end Go.Proofs.Ytafljcblglielaa.M
