/- The machine side of laws, written by wip/tools/myprint.py (the printer's way, with functions proved by hand put in); Lean checks it. -/
import Derived.Lib.SliceRun
import Derived.Test.YteaiaeejdcmefaaDoorTx0
namespace Go.Proofs.YteaiaeejdcmefaaDoor.T
open Go.RowKit Go.Proofs.YteaiaeejdcmefaaDoorW.PrintWords Go.Proofs.YteaiaeejdcmefaaDoorW.PrintLast Go.Proofs.YteaiaeejdcmefaaDoorW.PrintMore
attribute [local go_sem] max2_int min2_int max_two min_two max_three min_three max_four min_four   -- for this text's walks alone
set_option linter.unusedVariables false
set_option linter.unusedSimpArgs false

-- BY HAND: Derived.Lib.SliceRun
/-! ### slices_Clone_uint64_uint64: function 38 -/
-- HAND slices.Clone[[]uint64,uint64] making
-- IMPORT Derived.Lib.SliceRun
theorem row_none64 (w : World) : Kd.R (Kd.int .u64) 46 (w.alloc (.cells #[] 46)) w.heap.size (fun _ => True) (.slice (some ⟨w.heap.size, 0, none⟩) 0 0) [] :=
  ⟨fun _ _ => trivial, [], World.ownsRow_lit (base := w.heap.size) (e := 46) (size := 1) w #[] 0 (Nat.le_refl _) (by decide) rfl, Reps.none _ _⟩
def slices_Clone_uint64_uint64.f (l : List Int) : Option (List Int) := if l.length ≤ 1000000 then some l else none
theorem slices_Clone_uint64_uint64.calls (A0 : Option Addr) (c0 : Nat) (l0 : List Int) (r : List Int) (w : World) (hr0 : Kd.C (Kd.int .u64) w A0 l0.length l0) (hc0 : l0.length ≤ c0) (h : slices_Clone_uint64_uint64.f l0 = some r) :
    Calls Tryd.prog 38 #[.slice A0 l0.length c0] w fun e w' => ∃ v0_ : Value, e = .returned v0_ ∧ Kd.R (Kd.int .u64) 46 w' w.heap.size (fun _ => True) v0_ r ∧ Below w.heap.size w w' := by
  have HR := Aside0.mk hr0
  have HC := Aside0.mk hc0
  clear hr0 hc0
  have hl : l0.length ≤ 1000000 ∧ l0 = r := by
    unfold slices_Clone_uint64_uint64.f at h
    by_cases c : l0.length ≤ 1000000
    · rw [if_pos c] at h; exact ⟨c, Option.some.inj h⟩
    · rw [if_neg c] at h; cases h
  obtain ⟨hl, rfl⟩ := hl
  clear h
  have qnil := fun W a n c => Lib.run_eql_slice_nil (P := Tryd.prog) W 24 46 a n c 0 0 Tryd.underlying24
  cases A0 with
  | none =>
    have hz : l0 = [] := by
      by_cases h : l0.length = 0
      · exact List.length_eq_zero_iff.1 h
      · obtain ⟨ad, e, _⟩ := HR.out.2.2 (by omega)
        cases e
    subst hz
    go_enter Tryd.func38, Tryd.ntmps38
    go_wp2
    go_ret
    exact ⟨_, rfl, Kd.R_nil _ _ _ _ _, Below.refl _ _⟩
  | some ad =>
    go_enter Tryd.func38, Tryd.ntmps38
    go_wp2_with ((with_reducible refine gate_builtin (b := .append) (xs := #[.tmp 5, .tmp 6]) rfl ?_); at_builtin; refine Kd.R_append_rows (Kd.int .u64) (w0 := w) w.heap.size rfl (.tmp 5) (.tmp 6) 24 46 (.int .u64 0) 8 rfl Tryd.underlying24 info46 rfl (by decide) (by omega) _ [] l0 _ _ _ (fun _ => True) (fun _ => False) rfl rfl ?aO ?aR (fun _ _ h => h) (fun _ h => h.elim) ?aF ?aB ?aS ?aL ?_; (case aR => exact Kd.C_alloc HR.out _); (case aB => exact (Below.refl _ w).alloc (Nat.le_refl _) _); (case aF => exact (fun _ _ => trivial)); (case aO => exact row_none64 w); (case aS => exact (by simp)); (case aL => (simp only [List.length_nil]; omega)); intro v1 w1 ho hb hg hat; rw [List.nil_append] at ho; have HO := Aside0.mk ho; have HB := Aside0.mk hb; clear ho hb hg hat)
    go_ret
    exact ⟨_, rfl, HO.out, HB.out⟩

end Go.Proofs.YteaiaeejdcmefaaDoor.T
