/- Statement JournalParts: what is applied changes nothing of other partitions; what can't be applied changes nothing; no condition. -/
import Derived.Test.YtdcomcdbknniiaaRows
import Derived.Test.YtdcomcdbknniiaaHjournal14b
import Derived.Test.YtdcomcdbknniiaaHopen
import Derived.WalkKit
import Derived.ProofKit
import Derived.Lib.SmallJoins
import Derived.OpenShut
import Derived.ShutString
import Derived.ChangeOld
import Derived.Below
import Derived.SizedLaws
import Derived.Test.YtdcomcdbknniiaaWSized
namespace Go.Proofs.Ytdcomcdbknniiaa.journalParts
open Go.ChangeShapes Go.WideShapes Go.ChangeAt Go.RowKit Go.Proofs.Ytdcomcdbknniiaa.Hopen Go.Proofs.YtdcomcdbknniiaaW.PrintWords Go.Proofs.Ytdcomcdbknniiaa.Q 
open Go.ChangeMaps (open_string shut_string)
set_option linter.unusedVariables false
theorem own : ownKnob Try.prog.godebug = none := by kernel_rfl
theorem laidOut : laidOutB Try.prog = true := by kernel_rfl
set_option maxRecDepth 100000 in
theorem lifted (os : Os) (started : os.Started) (H : Type) (enc : TypeId × Value → H) :
    ReturnsInHanded {} Try.checked os 4 .any (Rows.journalPartsSpec.pre6 enc Try.prog Try.f4 Rows.journalPartsRow.domain false) (Rows.journalPartsSpec.post enc Try.prog Try.f4 false true false false) := by
  refine returnsInHanded_of_change_sized (C := Try.checked) own started (by kernel_rfl) Try.func4
    (ChangeSpec.witness6 (enc := enc) (C := Try.checked) false ⟨#[], #[.agg #[.int .i64 0, .int .i64 0, .slice none 0 0, .int .i64 0, .int .i64 0, .slice none 0 0, .int .i64 0, .int .i64 0, .slice none 0 0, .int .i64 0, .int .i64 0, .slice none 0 0], .agg #[.int .i64 0, .int .i64 0, .int .i64 0, .int .i64 0, .int .i64 0, .int .i64 0, .int .i64 0]], []⟩ 8 (by kernel_rfl) (by kernel_rfl) (by kernel_rfl) (by kernel_rfl)) ?_
  intro W base args ds gs before hval0 hW hcnd hsz0 _
  have hval : ∀ (j : Nat) t v, Try.f4.params[j]? = some t → args[j]? = some v → Value.okWide Try.prog W .any base t v := hval0
  have hW' := hW
  obtain ⟨p, q, hA0, hV, rfl, hfz, hnd⟩ := hW
  have hA : DataW.TrodAll enc Try.prog W 0 (fun _ => true) true Try.f4.params.toList args.toList ds p := hA0
  rw [Try.params4] at hA hval
  obtain ⟨v0, vs0, d0, ds0, p0, q0, hargs, rfl, rfl, h0, r0⟩ := trodAll_cons hA
  obtain ⟨v1, vs1, d1, ds1, p1, q1, rfl, rfl, rfl, h1, r1⟩ := trodAll_cons r0
  obtain ⟨rfl, rfl, rfl⟩ := trodAll_nil r1
  obtain rfl : args = #[v0, v1] := by cases args; simp_all
  obtain ⟨rfl, rfl⟩ := trodVars_none hV
  have k0 := h0
  have lt0 : ∀ x ∈ p0, x.block < W.heap.size := by obtain ⟨m, hm⟩ := k0; exact DataW.trod_lt m _ _ _ hm
  obtain ⟨a0, cs0, rfl, hk0, ok0⟩ := arrayArg (d := Kd.arr 4 kLog (by decide)) (Opens.arr (Opens.struct (OpensF.cons (Opens.int Try.underlying3 (by kernel_rfl)) rfl (OpensF.cons (Opens.int Try.underlying3 (by kernel_rfl)) rfl (OpensF.last (Opens.slice (Opens.iso (Opens.struct (OpensF.cons (Opens.int Try.underlying3 (by kernel_rfl)) rfl (OpensF.cons (Opens.int Try.underlying3 (by kernel_rfl)) rfl (OpensF.cons (Opens.int Try.underlying3 (by kernel_rfl)) rfl (OpensF.cons (Opens.int Try.underlying3 (by kernel_rfl)) rfl (OpensF.cons (Opens.int Try.underlying3 (by kernel_rfl)) rfl (OpensF.cons (Opens.int Try.underlying3 (by kernel_rfl)) rfl (OpensF.last (Opens.int Try.underlying3 (by kernel_rfl)) rfl))))))) Try.underlying32 (by kernel_rfl)) (fun x : S32 => (x.f0, x.f1, x.f2, x.f3, x.f4, x.f5, x.f6)) (fun a => ⟨a.1, a.2.1, a.2.2.1, a.2.2.2.1, a.2.2.2.2.1, a.2.2.2.2.2.1, a.2.2.2.2.2.2⟩) (fun _ => rfl)) Try.underlying22 (by kernel_rfl)) rfl))) Try.underlying25 (by kernel_rfl)) Try.underlying27 (by kernel_rfl)) Try.underlying27 (hval 0 27 v0 rfl rfl) h0
  have k1 := h1
  have lt1 : ∀ x ∈ p1, x.block < W.heap.size := by obtain ⟨m, hm⟩ := k1; exact DataW.trod_lt m _ _ _ hm
  obtain ⟨a1, cs1, rfl, hk1, ok1⟩ := Opens.structArg (d := k32) (Opens.iso (Opens.struct (OpensF.cons (Opens.int Try.underlying3 (by kernel_rfl)) rfl (OpensF.cons (Opens.int Try.underlying3 (by kernel_rfl)) rfl (OpensF.cons (Opens.int Try.underlying3 (by kernel_rfl)) rfl (OpensF.cons (Opens.int Try.underlying3 (by kernel_rfl)) rfl (OpensF.cons (Opens.int Try.underlying3 (by kernel_rfl)) rfl (OpensF.cons (Opens.int Try.underlying3 (by kernel_rfl)) rfl (OpensF.last (Opens.int Try.underlying3 (by kernel_rfl)) rfl))))))) Try.underlying32 (by kernel_rfl)) (fun x : S32 => (x.f0, x.f1, x.f2, x.f3, x.f4, x.f5, x.f6)) (fun a => ⟨a.1, a.2.1, a.2.2.1, a.2.2.2.1, a.2.2.2.2.1, a.2.2.2.2.2.1, a.2.2.2.2.2.2⟩) (fun _ => rfl)) Try.underlying32 (hval 1 32 v1 rfl rfl) h1
  clear hA0 hval0 hsz0
  refine (JournalParts.call_ a0 cs0 a1 cs1 W hk0 hk1).mono fun e W' ⟨he, bel⟩ => ?_
  subst he
  exact ⟨_, rfl, _, _, _, [], _, [], hW', trodAll_mk1 (shut_bool Try.underlying4 _), (trodAll_cons_mk (Below.trod laidOut (by kernel_rfl) (of_decide_eq_true (by kernel_rfl)) k0 bel lt0) (trodAll_cons_mk (Below.trod laidOut (by kernel_rfl) (of_decide_eq_true (by kernel_rfl)) k1 bel lt1) trodAll_mk0)), rfl, bel.frame _, fun h => by cases h⟩
theorem over : Rows.journalPartsRow.holds Try.pinned (OpenSpec.ofChange Rows.journalPartsSpec) :=
  OpenClaim.holds_of_wide 4 Try.f4 rfl rfl rfl rfl rfl rfl rfl ⟨rfl, rfl, rfl, rfl, rfl⟩ rfl rfl rfl rfl rfl (by kernel_rfl) Try.func4 (by kernel_rfl)
    (of_decide_eq_true (by kernel_rfl)) (by unfold Func.isWrapper; first | (rw [if_pos (by decide +kernel)]; kernel_rfl) | (rw [if_neg (by decide +kernel)]; exact ⟨rfl, rfl⟩))
    (fun os started H enc _ => lifted os started H enc)
theorem proved : Rows.JournalPartsSaid := over
#print axioms proved
end Go.Proofs.Ytdcomcdbknniiaa.journalParts
namespace Go.Proofs.Ytdcomcdbknniiaa
/-- The row, under a short name, for the claim. -/
theorem journalParts_holds : Rows.JournalPartsSaid := journalParts.proved
end Go.Proofs.Ytdcomcdbknniiaa
