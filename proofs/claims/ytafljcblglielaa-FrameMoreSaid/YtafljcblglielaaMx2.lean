/- The machine side of laws, written by wip/tools/myprint.py (the printer's way, with functions proved by hand put in); Lean checks it. -/
import Derived.Test.YtafljcblglielaaMx0
import Derived.Test.YtafljcblglielaaMx1
namespace Go.Proofs.Ytafljcblglielaa.M
open Go.RowKit Go.Proofs.YtafljcblglielaaW.PrintWords Go.Proofs.YtafljcblglielaaW.PrintLast Go.Proofs.YtafljcblglielaaW.PrintMore
attribute [local go_sem] max2_int min2_int max_two min_two max_three min_three max_four min_four   -- for this text's walks alone
set_option linter.unusedVariables false
set_option linter.unusedSimpArgs false

-- BY HAND: 
/-! ### num_PutLen: function 19 -/
-- HAND winnower/num.PutLen making
-- NOTLAWS NumPuts NumRow NumShort NumBack NumOnly NumTwice
/-- For a length: it hands back no argument. -/
def num_PutLen.f (l0 : List Int) (a1 : Int) : Option (List Int) := if a1 < 0 then none else ((num_put.f l0 (IntKind.u64.wrap (a1))).bind fun t107 => (some t107))
set_option maxHeartbeats 8000000 in
set_option maxRecDepth 100000 in
theorem num_PutLen.calls (A0 : Option Addr) (c0 : Nat) (l0 : List Int) (a1 : Int) (r : List Int) (w : World) (hr0 : Kd.C (Kd.int .u8) w A0 l0.length l0) (hc0 : l0.length ≤ c0) (h : num_PutLen.f l0 a1 = some r) :
    Calls Try.prog 19 #[.slice A0 l0.length c0, .int .i64 a1] w fun e w' => ∃ v0_ : Value, e = .returned (v0_) ∧ Kd.R (Kd.int .u8) 5 w' w.heap.size (fun _ => True) v0_ r ∧ Below w.heap.size w w' := by
  have HR0 := Aside0.mk hr0
  have HC0 := Aside0.mk hc0
  clear hr0 hc0
  have H : (if a1 < 0 then none else ((num_put.f l0 (IntKind.u64.wrap (a1))).bind fun t107 => (some t107))) = some r := h
  clear h
  by_cases c3 : a1 < 0
  · rw [if_pos c3] at H; exact absurd H (by simp)
  · rw [if_neg c3] at H
    have c3b0 : decide (a1 < 0) = false := decide_eq_false c3
    clear c3
    replace H := Option.bind_eq_some_iff.mp H
    obtain ⟨t107, A40, H⟩ := H
    replace H : (some t107) = some r := H
    have A4 := Aside0.mk A40
    clear A40
    obtain rfl := Option.some.inj H
    go_enter Try.func19, Try.ntmps19
    go_wp2_with ((with_reducible refine gate_callee (f := 27) rfl ?_); refine goesL_ (some 11) rfl rfl Try.func27 (by kernel_rfl) rfl #[.slice A0 l0.length c0, .int .u64 (IntKind.u64.wrap (a1))] rfl (by (try simp only [List.map_toArray, List.map_cons, List.map_nil]); first | done | rfl | (simp only [List.length_drop, List.length_take]; rfl)) ?_; (with_reducible refine (num_put.calls _ _ l0 (IntKind.u64.wrap (a1)) t107 _ HR0.out HC0.out A4.out).mono ?_); rintro e w6 ⟨v108, rfl, ho0, hb⟩; refine ⟨_, rfl, ?_⟩)
    go_ret
    exact ⟨_, rfl, ho0, hb⟩

end Go.Proofs.Ytafljcblglielaa.M
