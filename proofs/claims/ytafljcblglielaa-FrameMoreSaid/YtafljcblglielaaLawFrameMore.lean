/- Statement FrameMore: frames one behind the other are read as what was sealed; a frame of which four bytes in a row were changed behind its length is not read; no condition. -/
import Derived.Test.YtafljcblglielaaRows
import Derived.Test.YtafljcblglielaaHlawFrameMoreM
import Derived.Test.YtafljcblglielaaHopen
import Derived.WalkKit
import Derived.ProofKit
import Derived.Lib.SmallJoins
import Derived.OpenShut
import Derived.ShutString
import Derived.ChangeOld
import Derived.Below
import Derived.SizedLaws
import Derived.Test.YtafljcblglielaaWSized
namespace Go.Proofs.Ytafljcblglielaa.frameMore
open Go.ChangeShapes Go.WideShapes Go.ChangeAt Go.RowKit Go.Proofs.Ytafljcblglielaa.Hopen Go.Proofs.YtafljcblglielaaW.PrintWords Go.Proofs.Ytafljcblglielaa.M Go.Proofs.Ytafljcblglielaa.Hnum
open Go.ChangeMaps (open_string shut_string)
set_option linter.unusedVariables false
theorem own : ownKnob Try.prog.godebug = none := by kernel_rfl
theorem laidOut : laidOutB Try.prog = true := by kernel_rfl
set_option maxRecDepth 100000 in
theorem lifted (os : Os) (started : os.Started) (H : Type) (enc : TypeId × Value → H) :
    ReturnsInHanded {} Try.checked os 6 .any (Rows.frameMoreSpec.pre6 enc Try.prog Try.f6 Rows.frameMoreRow.domain false) (Rows.frameMoreSpec.post enc Try.prog Try.f6 false true false false) := by
  refine returnsInHanded_of_change_sized (C := Try.checked) own started (by kernel_rfl) Try.func6
    (ChangeSpec.witness6 (enc := enc) (C := Try.checked) false ⟨#[], #[.slice none 0 0, .slice none 0 0, .int .i64 0, .agg #[.int .u8 0, .int .u8 0, .int .u8 0, .int .u8 0]], []⟩ 8 (by kernel_rfl) (by kernel_rfl) (by kernel_rfl) (by kernel_rfl)) ?_
  intro W base args ds gs before hval0 hW hcnd hsz0 _
  have hval : ∀ (j : Nat) t v, Try.f6.params[j]? = some t → args[j]? = some v → Value.okWide Try.prog W .any base t v := hval0
  have hW' := hW
  obtain ⟨p, q, hA0, hV, rfl, hfz, hnd⟩ := hW
  have hA : DataW.TrodAll enc Try.prog W 0 (fun _ => true) true Try.f6.params.toList args.toList ds p := hA0
  rw [Try.params6] at hA hval
  obtain ⟨v0, vs0, d0, ds0, p0, q0, hargs, rfl, rfl, h0, r0⟩ := trodAll_cons hA
  obtain ⟨v1, vs1, d1, ds1, p1, q1, rfl, rfl, rfl, h1, r1⟩ := trodAll_cons r0
  obtain ⟨v2, vs2, d2, ds2, p2, q2, rfl, rfl, rfl, h2, r2⟩ := trodAll_cons r1
  obtain ⟨v3, vs3, d3, ds3, p3, q3, rfl, rfl, rfl, h3, r3⟩ := trodAll_cons r2
  obtain ⟨rfl, rfl, rfl⟩ := trodAll_nil r3
  obtain rfl : args = #[v0, v1, v2, v3] := by cases args; simp_all
  obtain ⟨rfl, rfl⟩ := trodVars_none hV
  have k0 := h0
  have lt0 : ∀ x ∈ p0, x.block < W.heap.size := by obtain ⟨m, hm⟩ := k0; exact DataW.trod_lt m _ _ _ hm
  obtain ⟨l0, A0, c0, rfl, hc0, hr0, hm0, ok0⟩ := Opens.sliceArg (d := Kd.slice 5 (Kd.int .u8)) (Opens.slice (Opens.int Try.underlying5 (by kernel_rfl)) Try.underlying22 (by kernel_rfl)) Try.underlying30 (by kernel_rfl) (hval 0 30 v0 rfl rfl) h0
  have k1 := h1
  have lt1 : ∀ x ∈ p1, x.block < W.heap.size := by obtain ⟨m, hm⟩ := k1; exact DataW.trod_lt m _ _ _ hm
  obtain ⟨l1, A1, c1, rfl, hc1, hr1, hm1, ok1⟩ := Opens.sliceArg (d := Kd.slice 5 (Kd.int .u8)) (Opens.slice (Opens.int Try.underlying5 (by kernel_rfl)) Try.underlying22 (by kernel_rfl)) Try.underlying30 (by kernel_rfl) (hval 1 30 v1 rfl rfl) h1
  obtain ⟨a2, rfl, rfl, rfl, w2⟩ := open_int Try.underlying3 (hval 2 3 v2 rfl rfl) h2
  have k3 := h3
  have lt3 : ∀ x ∈ p3, x.block < W.heap.size := by obtain ⟨m, hm⟩ := k3; exact DataW.trod_lt m _ _ _ hm
  obtain ⟨a3, cs3, rfl, hk3, ok3⟩ := arrayArg (d := Kd.arr 4 (Kd.int .u8) Nat.zero_lt_one) (Opens.arr (Opens.int Try.underlying5 (by kernel_rfl)) Try.underlying38 (by kernel_rfl)) Try.underlying38 (hval 3 38 v3 rfl rfl) h3
  clear hA0 hval0 hsz0
  refine (FrameMore.call_ A0 c0 l0 A1 c1 l1 a2 a3 cs3 W hr0 hc0 hr1 hc1 (fun p hp => Bytes.of_wf (ok0 p hp).2) (fun p hp => Bytes.of_wf (ok1 p hp).2) hk3 (Bytes.of_wf ok3)).mono fun e W' ⟨he, bel⟩ => ?_
  subst he
  exact ⟨_, rfl, _, _, _, [], _, [], hW', trodAll_mk1 (shut_bool Try.underlying4 _), (trodAll_cons_mk (Below.trod laidOut (by kernel_rfl) (of_decide_eq_true (by kernel_rfl)) k0 bel lt0) (trodAll_cons_mk (Below.trod laidOut (by kernel_rfl) (of_decide_eq_true (by kernel_rfl)) k1 bel lt1) (trodAll_cons_mk (shut_int Try.underlying3 w2) (trodAll_cons_mk (Below.trod laidOut (by kernel_rfl) (of_decide_eq_true (by kernel_rfl)) k3 bel lt3) trodAll_mk0)))), rfl, bel.frame _, fun h => by cases h⟩
theorem over : Rows.frameMoreRow.holds Try.pinned (OpenSpec.ofChange Rows.frameMoreSpec) :=
  OpenClaim.holds_of_wide 6 Try.f6 rfl rfl rfl rfl rfl rfl rfl ⟨rfl, rfl, rfl, rfl, rfl⟩ rfl rfl rfl rfl rfl (by kernel_rfl) Try.func6 (by kernel_rfl)
    (of_decide_eq_true (by kernel_rfl)) (by unfold Func.isWrapper; first | (rw [if_pos (by decide +kernel)]; kernel_rfl) | (rw [if_neg (by decide +kernel)]; exact ⟨rfl, rfl⟩))
    (fun os started H enc _ => lifted os started H enc)
theorem proved : Rows.FrameMoreSaid := over
#print axioms proved
end Go.Proofs.Ytafljcblglielaa.frameMore
namespace Go.Proofs.Ytafljcblglielaa
/-- The row, under a short name, for the claim. -/
theorem frameMore_holds : Rows.FrameMoreSaid := frameMore.proved
end Go.Proofs.Ytafljcblglielaa
