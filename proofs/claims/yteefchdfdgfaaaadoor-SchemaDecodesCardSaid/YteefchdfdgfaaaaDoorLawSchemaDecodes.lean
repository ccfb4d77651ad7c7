/- Statement SchemaDecodes: any bytes are, by any schema, the row, or have the error, that the document says; no condition. -/
import Derived.Test.YteefchdfdgfaaaaDoorRows
import Derived.Test.YteefchdfdgfaaaaDoorJ7
import Derived.Test.YteefchdfdgfaaaaDoorTie
import Derived.Test.YteefchdfdgfaaaaDoorCards
import Derived.WalkKit
import Derived.ProofKit
import Derived.Lib.SmallJoins
import Derived.OpenShut
import Derived.ShutString
import Derived.ChangeOld
import Derived.Below
import Derived.SizedLaws
import Derived.Test.YteefchdfdgfaaaaDoorWSized
namespace Go.Proofs.YteefchdfdgfaaaaDoor.schemaDecodes
open Go.ChangeShapes Go.WideShapes Go.ChangeAt Go.RowKit Go.Proofs.YteefchdfdgfaaaaDoor.Hopen Go.Proofs.YteefchdfdgfaaaaDoorW.PrintWords Go.Proofs.YteefchdfdgfaaaaDoor.Q Go.Proofs.YteefchdfdgfaaaaDoor.Hnum Go.Proofs.YteefchdfdgfaaaaDoor.Q.Laid
open Go.ChangeMaps (open_string shut_string)
set_option linter.unusedVariables false
theorem own : ownKnob Tryd.prog.godebug = none := by kernel_rfl
theorem laidOut : laidOutB Tryd.prog = true := by kernel_rfl
set_option maxRecDepth 100000 in
theorem lifted (os : Os) (started : os.Started) (H : Type) (enc : TypeId × Value → H) :
    ReturnsInHanded {} Tryd.checked os 4 .any (fun w args => (Rows.schemaDecodesSpec.pre enc Tryd.prog Tryd.f4 [] false w args ∧ laidMetH Tryd.prog three w) ∧ sizedMet enc Tryd.prog Tryd.f4 (OpenSpec.ofChange Rows.schemaDecodesSpec) false w args) (Rows.schemaDecodesSpec.post enc Tryd.prog Tryd.f4 false true false false) := by
  refine returnsInHanded_of_change_and (C := Tryd.checked) (X := fun w _ => laidMetH Tryd.prog three w) (fun _ _ _ hh h => h.of_heap hh) own started (by kernel_rfl) Tryd.func4
    (ChangeSpec.witness_shaped (enc := enc) (C := Tryd.checked) (os := os) (X := fun w _ => laidMetH Tryd.prog three w) false (Laid.start os) #[.agg #[.slice none 0 0, .int .i64 0, .int .i64 0, .int .i64 0, .int .i64 0], .slice none 0 0] 8 (Laid.start_os os) (Laid.start_shaped os _) (by kernel_rfl) (by kernel_rfl) (by kernel_rfl) (Laid.door_met os _)) ?_
  intro W base args ds gs before hval0 hW hcnd hsz0 hL _
  have hG := Laid.globs_of_laid hL
  have hval : ∀ (j : Nat) t v, Tryd.f4.params[j]? = some t → args[j]? = some v → Value.okWide Tryd.prog W .any base t v := hval0
  have hW' := hW
  obtain ⟨p, q, hA0, hV, rfl, hfz, hnd⟩ := hW
  have hA : DataW.TrodAll enc Tryd.prog W 0 (fun _ => true) true Tryd.f4.params.toList args.toList ds p := hA0
  rw [Tryd.params4] at hA hval
  obtain ⟨v0, vs0, d0, ds0, p0, q0, hargs, rfl, rfl, h0, r0⟩ := trodAll_cons hA
  obtain ⟨v1, vs1, d1, ds1, p1, q1, rfl, rfl, rfl, h1, r1⟩ := trodAll_cons r0
  obtain ⟨rfl, rfl, rfl⟩ := trodAll_nil r1
  obtain rfl : args = #[v0, v1] := by cases args; simp_all
  obtain ⟨rfl, rfl⟩ := trodVars_none hV
  have k0 := h0
  have lt0 : ∀ x ∈ p0, x.block < W.heap.size := by obtain ⟨m, hm⟩ := k0; exact DataW.trod_lt m _ _ _ hm
  obtain ⟨a0, cs0, rfl, hk0, ok0⟩ := Opens.structArg (d := kSch) (Opens.struct (OpensF.cons (Opens.slice (e' := 48) (Opens.iso (Opens.struct (OpensF.cons (Opens.string Tryd.underlying9 (by kernel_rfl)) rfl (OpensF.cons (Opens.int Tryd.underlying3 (by kernel_rfl)) rfl (OpensF.last (Opens.bool Tryd.underlying4 (by kernel_rfl)) rfl))) Tryd.underlying48 (by kernel_rfl)) (fun x : S48 => (x.f0, x.f1, x.f2)) (fun a => ⟨a.1, a.2.1, a.2.2⟩) (fun _ => rfl)) Tryd.underlying22 (by kernel_rfl)) rfl (OpensF.cons (Opens.int Tryd.underlying3 (by kernel_rfl)) rfl (OpensF.cons (Opens.int Tryd.underlying3 (by kernel_rfl)) rfl (OpensF.cons (Opens.int Tryd.underlying3 (by kernel_rfl)) rfl (OpensF.last (Opens.int Tryd.underlying3 (by kernel_rfl)) rfl))))) Tryd.underlying24 (by kernel_rfl)) Tryd.underlying24 (hval 0 24 v0 rfl rfl) h0
  have k1 := h1
  have lt1 : ∀ x ∈ p1, x.block < W.heap.size := by obtain ⟨m, hm⟩ := k1; exact DataW.trod_lt m _ _ _ hm
  obtain ⟨l1, A1, c1, rfl, hc1, hr1, hm1, ok1⟩ := Opens.sliceArg (d := (Kd.int .u8)) (Opens.int Tryd.underlying5 (by kernel_rfl)) Tryd.underlying29 (by kernel_rfl) (hval 1 29 v1 rfl rfl) h1
  clear hA0 hval0 hsz0
  refine (schemaDecodes_call A1 c1 l1 W hk0 hr1 hc1 (Bytes.of_wf ok1) hG).mono fun e W' ⟨he, bel⟩ => ?_
  subst he
  exact ⟨_, rfl, _, _, _, [], _, [], hW', trodAll_mk1 (shut_bool Tryd.underlying4 _), (trodAll_cons_mk (Below.trod laidOut (by kernel_rfl) (of_decide_eq_true (by kernel_rfl)) k0 bel lt0) (trodAll_cons_mk (Below.trod laidOut (by kernel_rfl) (of_decide_eq_true (by kernel_rfl)) k1 bel lt1) trodAll_mk0)), rfl, bel.frame _, fun h => by cases h⟩
theorem over : Rows.schemaDecodesRow.holds Tryd.pinned (OpenSpec.ofChange Rows.schemaDecodesSpec) :=
  OpenClaim.holds_of_wide 4 Tryd.f4 rfl rfl rfl rfl rfl rfl rfl ⟨rfl, rfl, rfl, rfl, rfl⟩ rfl rfl rfl rfl rfl (by kernel_rfl) Tryd.func4 (by kernel_rfl)
    (of_decide_eq_true (by kernel_rfl)) (by unfold Func.isWrapper; first | (rw [if_pos (by decide +kernel)]; kernel_rfl) | (rw [if_neg (by decide +kernel)]; exact ⟨rfl, rfl⟩))
    (fun os started H enc _ => lifted os started H enc)
theorem rowProved : Rows.SchemaDecodesSaid := over
theorem cardProved : Rows.SchemaDecodesCardSaid :=
  Claim7.holds_tied_plain_at .later [] [.data, .handle, .pinned] true (true, "f713864ec428d2bf4ad1ef0a92d2c1551559daea49f8bccdeac6651984828ea0") true
    rowProved (fun _ h => by cases h) (by kernel_rfl) (fun _ h => by cases h) schemaDecodes_row_tie rfl ⟨rfl, rfl⟩ (by kernel_rfl) rfl
    (fun f fn hf hfn => by
      obtain rfl : f = 4 := Option.some.inj ((show Tryd.prog.funcNamed "winnower/winnowerlaw07.SchemaDecodes" = some 4 by kernel_rfl).symm.trans hf) |>.symm
      obtain rfl : fn = Tryd.f4 := (Option.some.inj (Tryd.func4.symm.trans hfn)).symm
      exact ⟨by kernel_rfl, fun j t ht => by
        rw [Tryd.params4] at ht
        have hm : t ∈ [24, 29] := by simpa using Array.mem_of_getElem? ht
        have hall : ([24, 29].all fun u => !Tryd.prog.wantsStandIn u) = true := by kernel_rfl
        exact (show Tryd.prog.wantsStandIn t = false by simpa using List.all_eq_true.1 hall t hm)⟩)
    (by kernel_rfl)
#print axioms cardProved
end Go.Proofs.YteefchdfdgfaaaaDoor.schemaDecodes
namespace Go.Proofs.YteefchdfdgfaaaaDoor
/-- The card, under a short name, for the claim. -/
theorem schemaDecodes_holds : Rows.SchemaDecodesCardSaid := schemaDecodes.cardProved
end Go.Proofs.YteefchdfdgfaaaaDoor
