/- Statement RunsTells: any list has the runs and the deltas that the document says, and any runs and deltas the list, or the error; no condition. -/
import Derived.Test.YtnlfhjhdnompaaaRows
import Derived.Test.YtnlfhjhdnompaaaHlawRunsTellsT
import Derived.Test.YtnlfhjhdnompaaaHopen
import Derived.WalkKit
import Derived.ProofKit
import Derived.Lib.SmallJoins
import Derived.OpenShut
import Derived.ShutString
import Derived.ChangeOld
import Derived.Below
import Derived.SizedLaws
import Derived.Test.YtnlfhjhdnompaaaWSized
namespace Go.Proofs.Ytnlfhjhdnompaaa.runsTells
open Go.ChangeShapes Go.WideShapes Go.ChangeAt Go.RowKit Go.Proofs.Ytnlfhjhdnompaaa.Hopen Go.Proofs.YtnlfhjhdnompaaaW.PrintWords Go.Proofs.Ytnlfhjhdnompaaa.T Go.Proofs.Ytnlfhjhdnompaaa.Hnum
open Go.ChangeMaps (open_string shut_string)
set_option linter.unusedVariables false
theorem own : ownKnob Try.prog.godebug = none := by kernel_rfl
theorem laidOut : laidOutB Try.prog = true := by kernel_rfl
set_option maxRecDepth 100000 in
theorem lifted (os : Os) (started : os.Started) (H : Type) (enc : TypeId × Value → H) :
    ReturnsInHanded {} Try.checked os 7 .any (Rows.runsTellsSpec.pre6 enc Try.prog Try.f7 Rows.runsTellsRow.domain false) (Rows.runsTellsSpec.post enc Try.prog Try.f7 false true false false) := by
  refine returnsInHanded_of_change_sized (C := Try.checked) own started (by kernel_rfl) Try.func7
    (ChangeSpec.witness6 (enc := enc) (C := Try.checked) false ⟨#[], #[.slice none 0 0, .slice none 0 0], []⟩ 8 (by kernel_rfl) (by kernel_rfl) (by kernel_rfl) (by kernel_rfl)) ?_
  intro W base args ds gs before hval0 hW hcnd hsz0 _
  have hval : ∀ (j : Nat) t v, Try.f7.params[j]? = some t → args[j]? = some v → Value.okWide Try.prog W .any base t v := hval0
  have hW' := hW
  obtain ⟨p, q, hA0, hV, rfl, hfz, hnd⟩ := hW
  have hA : DataW.TrodAll enc Try.prog W 0 (fun _ => true) true Try.f7.params.toList args.toList ds p := hA0
  rw [Try.params7] at hA hval
  obtain ⟨v0, vs0, d0, ds0, p0, q0, hargs, rfl, rfl, h0, r0⟩ := trodAll_cons hA
  obtain ⟨v1, vs1, d1, ds1, p1, q1, rfl, rfl, rfl, h1, r1⟩ := trodAll_cons r0
  obtain ⟨rfl, rfl, rfl⟩ := trodAll_nil r1
  obtain rfl : args = #[v0, v1] := by cases args; simp_all
  obtain ⟨rfl, rfl⟩ := trodVars_none hV
  have k0 := h0
  have lt0 : ∀ x ∈ p0, x.block < W.heap.size := by obtain ⟨m, hm⟩ := k0; exact DataW.trod_lt m _ _ _ hm
  obtain ⟨l0, A0, c0, rfl, hc0, hr0, hm0, ok0⟩ := Opens.sliceArg (d := Kd.int .i64) (Opens.int Try.underlying3 (by kernel_rfl)) Try.underlying22 (by kernel_rfl) (hval 0 22 v0 rfl rfl) h0
  have k1 := h1
  have lt1 : ∀ x ∈ p1, x.block < W.heap.size := by obtain ⟨m, hm⟩ := k1; exact DataW.trod_lt m _ _ _ hm
  obtain ⟨l1, A1, c1, rfl, hc1, hr1, hm1, ok1⟩ := Opens.sliceArg (d := k35) (Opens.iso (Opens.struct (OpensF.cons (Opens.int Try.underlying3 (by kernel_rfl)) rfl (OpensF.last (Opens.int Try.underlying3 (by kernel_rfl)) rfl)) Try.underlying35 (by kernel_rfl)) (fun x : S35 => (x.f0, x.f1)) (fun a => ⟨a.1, a.2⟩) (fun _ => rfl)) Try.underlying32 (by kernel_rfl) (hval 1 32 v1 rfl rfl) h1
  clear hA0 hval0 hsz0
  refine (RunsTells.call A0 c0 l0 A1 c1 l1 W hr0 hc0 hr1 hc1 (fun x hx => i64_of_wf (ok0 x hx))).mono fun e W' ⟨he, bel⟩ => ?_
  subst he
  exact ⟨_, rfl, _, _, _, [], _, [], hW', trodAll_mk1 (shut_bool Try.underlying4 _), (trodAll_cons_mk (Below.trod laidOut (by kernel_rfl) (of_decide_eq_true (by kernel_rfl)) k0 bel lt0) (trodAll_cons_mk (Below.trod laidOut (by kernel_rfl) (of_decide_eq_true (by kernel_rfl)) k1 bel lt1) trodAll_mk0)), rfl, bel.frame _, fun h => by cases h⟩
theorem over : Rows.runsTellsRow.holds Try.pinned (OpenSpec.ofChange Rows.runsTellsSpec) :=
  OpenClaim.holds_of_wide 7 Try.f7 rfl rfl rfl rfl rfl rfl rfl ⟨rfl, rfl, rfl, rfl, rfl⟩ rfl rfl rfl rfl rfl (by kernel_rfl) Try.func7 (by kernel_rfl)
    (of_decide_eq_true (by kernel_rfl)) (by unfold Func.isWrapper; first | (rw [if_pos (by decide +kernel)]; kernel_rfl) | (rw [if_neg (by decide +kernel)]; exact ⟨rfl, rfl⟩))
    (fun os started H enc _ => lifted os started H enc)
theorem proved : Rows.RunsTellsSaid := over
#print axioms proved
end Go.Proofs.Ytnlfhjhdnompaaa.runsTells
namespace Go.Proofs.Ytnlfhjhdnompaaa
/-- The row, under a short name, for the claim. -/
theorem runsTells_holds : Rows.RunsTellsSaid := runsTells.proved
end Go.Proofs.Ytnlfhjhdnompaaa
