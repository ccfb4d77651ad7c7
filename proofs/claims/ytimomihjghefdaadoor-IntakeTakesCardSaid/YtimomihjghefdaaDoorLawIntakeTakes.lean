/- Statement IntakeTakes: any fetch is taken, or has the error, that the document says, and lets the next offset be what it says; no condition. -/
import Derived.Test.YtimomihjghefdaaDoorRows
import Derived.Test.YtimomihjghefdaaDoorJ10
import Derived.Test.YtimomihjghefdaaDoorTie
import Derived.Test.YtimomihjghefdaaDoorCards
import Derived.WalkKit
import Derived.ProofKit
import Derived.Lib.SmallJoins
import Derived.OpenShut
import Derived.ShutString
import Derived.ChangeOld
import Derived.Below
import Derived.SizedLaws
import Derived.Test.YtimomihjghefdaaDoorWSized
namespace Go.Proofs.YtimomihjghefdaaDoor.intakeTakes
open Go.ChangeShapes Go.WideShapes Go.ChangeAt Go.RowKit Go.Proofs.YtimomihjghefdaaDoor.Hopen Go.Proofs.YtimomihjghefdaaDoorW.PrintWords Go.Proofs.YtimomihjghefdaaDoor.Q Go.Proofs.YtimomihjghefdaaDoor.Hnum Go.Proofs.YtimomihjghefdaaDoor.Q.Laid
open Go.ChangeMaps (open_string shut_string)
set_option linter.unusedVariables false
theorem own : ownKnob Tryd.prog.godebug = none := by kernel_rfl
theorem z65 : laidOutB Tryd.prog = true := by kernel_rfl
set_option maxRecDepth 100000 in
theorem z9o (os : Os) (started : os.Started) (H : Type) (enc : TypeId × Value → H) :
    ReturnsInHanded {} Tryd.checked os 3 .any (fun w args => (Rows.intakeTakesSpec.pre enc Tryd.prog Tryd.f3 [] false w args ∧ laidMetH Tryd.prog three w) ∧ sizedMet enc Tryd.prog Tryd.f3 (OpenSpec.ofChange Rows.intakeTakesSpec) false w args) (Rows.intakeTakesSpec.post enc Tryd.prog Tryd.f3 false true false false) := by
  refine returnsInHanded_of_change_and (C := Tryd.checked) (X := fun w _ => laidMetH Tryd.prog three w) (fun _ _ _ hh h => h.of_heap hh) own started (by kernel_rfl) Tryd.func3
    (ChangeSpec.witness_shaped (enc := enc) (C := Tryd.checked) (os := os) (X := fun w _ => laidMetH Tryd.prog three w) false (Laid.start os) #[.agg #[.slice none 0 0, .int .i64 0, .int .i64 0, .int .i64 0, .int .i64 0], .int .i64 0, .agg #[.int .i64 0, .int .i64 0, .slice none 0 0]] 8 (Laid.start_os os) (Laid.start_shaped os _) (by kernel_rfl) (by kernel_rfl) (by kernel_rfl) (Laid.door_met os _)) ?_
  intro W base args ds gs before hval0 hW hcnd hsz0 hL _
  have hG := Laid.globs_of_laid hL
  have hval : ∀ (j : Nat) t v, Tryd.f3.params[j]? = some t → args[j]? = some v → Value.okWide Tryd.prog W .any base t v := hval0
  have hW' := hW
  obtain ⟨p, q, hA0, hV, rfl, hfz, hnd⟩ := hW
  have hA : DataW.TrodAll enc Tryd.prog W 0 (fun _ => true) true Tryd.f3.params.toList args.toList ds p := hA0
  rw [Tryd.params3] at hA hval
  obtain ⟨v0, vs0, d0, ds0, p0, q0, hargs, rfl, rfl, h0, r0⟩ := trodAll_cons hA
  obtain ⟨v1, vs1, d1, ds1, p1, q1, rfl, rfl, rfl, h1, r1⟩ := trodAll_cons r0
  obtain ⟨v2, vs2, d2, ds2, p2, q2, rfl, rfl, rfl, h2, r2⟩ := trodAll_cons r1
  obtain ⟨rfl, rfl, rfl⟩ := trodAll_nil r2
  obtain rfl : args = #[v0, v1, v2] := by cases args; simp_all
  obtain ⟨rfl, rfl⟩ := trodVars_none hV
  have k0 := h0
  have lt0 : ∀ x ∈ p0, x.block < W.heap.size := by obtain ⟨m, hm⟩ := k0; exact DataW.trod_lt m _ _ _ hm
  obtain ⟨a0, cs0, rfl, hk0, ok0⟩ := Opens.structArg (d := kSch) (Opens.struct (z1l.cons (Opens.slice (e' := 45) (Opens.iso (Opens.struct (z1l.cons (Opens.string Tryd.underlying9 (by kernel_rfl)) rfl (z1l.cons (Opens.int Tryd.underlying3 (by kernel_rfl)) rfl (z1l.last (Opens.bool Tryd.underlying4 (by kernel_rfl)) rfl))) Tryd.underlying45 (by kernel_rfl)) (fun x : S45 => (x.f0, x.f1, x.f2)) (fun a => ⟨a.1, a.2.1, a.2.2⟩) (fun _ => rfl)) Tryd.underlying22 (by kernel_rfl)) rfl (z1l.cons (Opens.int Tryd.underlying3 (by kernel_rfl)) rfl (z1l.cons (Opens.int Tryd.underlying3 (by kernel_rfl)) rfl (z1l.cons (Opens.int Tryd.underlying3 (by kernel_rfl)) rfl (z1l.last (Opens.int Tryd.underlying3 (by kernel_rfl)) rfl))))) Tryd.underlying24 (by kernel_rfl)) Tryd.underlying24 (hval 0 24 v0 rfl rfl) h0
  obtain ⟨a1, rfl, rfl, rfl, w1⟩ := open_int Tryd.underlying3 (hval 1 3 v1 rfl rfl) h1
  have k2 := h2
  have lt2 : ∀ x ∈ p2, x.block < W.heap.size := by obtain ⟨m, hm⟩ := k2; exact DataW.trod_lt m _ _ _ hm
  obtain ⟨a2, cs2, rfl, hk2, ok2⟩ := Opens.structArg (d := kFet) (Opens.struct (z1l.cons (Opens.int Tryd.underlying3 (by kernel_rfl)) rfl (z1l.cons (Opens.int Tryd.underlying3 (by kernel_rfl)) rfl (z1l.last (Opens.slice (e' := 42) (Opens.slice (e' := 5) (Opens.int Tryd.underlying5 (by kernel_rfl)) Tryd.underlying42 (by kernel_rfl)) Tryd.underlying25 (by kernel_rfl)) rfl))) Tryd.underlying27 (by kernel_rfl)) Tryd.underlying27 (hval 2 27 v2 rfl rfl) h2
  clear hA0 hval0 hsz0
  refine (z2s a1 W hk0 hk2 (fun b hb => Bytes.of_wf (ok2.2.2.2 b hb).2) hG).mono fun e W' ⟨he, bel⟩ => ?_
  subst he
  exact ⟨_, rfl, _, _, _, [], _, [], hW', trodAll_mk1 (shut_bool Tryd.underlying4 _), (trodAll_cons_mk (Below.trod z65 (by kernel_rfl) (of_decide_eq_true (by kernel_rfl)) k0 bel lt0) (trodAll_cons_mk (shut_int Tryd.underlying3 w1) (trodAll_cons_mk (Below.trod z65 (by kernel_rfl) (of_decide_eq_true (by kernel_rfl)) k2 bel lt2) trodAll_mk0))), rfl, bel.frame _, fun h => by cases h⟩
theorem over : Rows.intakeTakesRow.holds Tryd.pinned (OpenSpec.ofChange Rows.intakeTakesSpec) :=
  OpenClaim.holds_of_wide 3 Tryd.f3 rfl rfl rfl rfl rfl rfl rfl ⟨rfl, rfl, rfl, rfl, rfl⟩ rfl rfl rfl rfl rfl (by kernel_rfl) Tryd.func3 (by kernel_rfl)
    (of_decide_eq_true (by kernel_rfl)) (by unfold Func.isWrapper; first | (rw [if_pos (by decide +kernel)]; kernel_rfl) | (rw [if_neg (by decide +kernel)]; exact ⟨rfl, rfl⟩))
    (fun os started H enc _ => z9o os started H enc)
theorem z64 : Rows.IntakeTakesSaid := over
theorem cardProved : Rows.IntakeTakesCardSaid :=
  Claim7.holds_tied_plain_at .later [] [.data, .handle, .pinned] true (true, "828aa93492554e049e5d168eaad904db19ac8fa8a5682f31375385fc36d33929") true
    z64 (fun _ h => by cases h) (by kernel_rfl) (fun _ h => by cases h) intakeTakes_row_tie rfl ⟨rfl, rfl⟩ (by kernel_rfl) rfl
    (fun f fn hf hfn => by
      obtain rfl : f = 3 := Option.some.inj ((show Tryd.prog.funcNamed "winnower/winnowerlaw22.IntakeTakes" = some 3 by kernel_rfl).symm.trans hf) |>.symm
      obtain rfl : fn = Tryd.f3 := (Option.some.inj (Tryd.func3.symm.trans hfn)).symm
      exact ⟨by kernel_rfl, fun j t ht => by
        rw [Tryd.params3] at ht
        have hm : t ∈ [24, 3, 27] := by simpa using Array.mem_of_getElem? ht
        have hall : ([24, 3, 27].all fun u => !Tryd.prog.wantsStandIn u) = true := by kernel_rfl
        exact (show Tryd.prog.wantsStandIn t = false by simpa using List.all_eq_true.1 hall t hm)⟩)
    (by kernel_rfl)
#print axioms cardProved
end Go.Proofs.YtimomihjghefdaaDoor.intakeTakes
namespace Go.Proofs.YtimomihjghefdaaDoor
/-- The card, under a short name, for the claim. -/
theorem intakeTakes_holds : Rows.IntakeTakesCardSaid := intakeTakes.cardProved
end Go.Proofs.YtimomihjghefdaaDoor
