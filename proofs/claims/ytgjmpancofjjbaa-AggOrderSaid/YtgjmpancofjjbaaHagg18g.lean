/- Chapter 18, part 7: statement AggOrder. -/
import Derived.Laws.Rows
import Derived.Deep.MidRow
import Derived.Deep.WholeRow
import Derived.Deep.RegionHeld3
import Derived.Deep.RegionLaw
import Derived.Test.YtgjmpancofjjbaaHstep
import Derived.Test.YtgjmpancofjjbaaHlate
import Derived.Test.YtgjmpancofjjbaaHmapint
import Derived.Test.YtgjmpancofjjbaaHnum
import Derived.Test.YtgjmpancofjjbaaHval
import Derived.Test.YtgjmpancofjjbaaHvalord
import Derived.Test.YtgjmpancofjjbaaHagg18
import Derived.Test.YtgjmpancofjjbaaHagg18p
import Derived.Test.YtgjmpancofjjbaaHagg18f
import Derived.Test.YtgjmpancofjjbaaQx0
import Derived.Test.YtgjmpancofjjbaaQx4
import Derived.Test.YtgjmpancofjjbaaQx5
namespace Go.Proofs.Ytgjmpancofjjbaa.Q
open Go.RowKit Go.Proofs.YtgjmpancofjjbaaW.PrintWords Go.Proofs.YtgjmpancofjjbaaW.PrintLast Go.Proofs.YtgjmpancofjjbaaW.PrintMore
attribute [local go_sem] max2_int min2_int max_two min_two max_three min_three max_four min_four   -- for this text's walks alone
set_option linter.unusedVariables false
set_option linter.unusedSimpArgs false

-- SAYS Chapter 18, part 7: statement AggOrder.
-- FUNCS winnower/winnowerlaw18.few
-- NEEDS winnowerlaw18_few.calls
-- IMPORT Derived.Laws.Rows
-- IMPORT Derived.Deep.MidRow
-- IMPORT Derived.Deep.WholeRow
-- IMPORT Derived.Deep.RegionHeld3
-- IMPORT Derived.Deep.RegionLaw
-- IMPORT Derived.Test.YtgjmpancofjjbaaHstep
-- IMPORT Derived.Test.YtgjmpancofjjbaaHlate
-- IMPORT Derived.Test.YtgjmpancofjjbaaHmapint
-- IMPORT Derived.Test.YtgjmpancofjjbaaHnum
-- IMPORT Derived.Test.YtgjmpancofjjbaaHval
-- IMPORT Derived.Test.YtgjmpancofjjbaaHvalord
-- IMPORT Derived.Test.YtgjmpancofjjbaaHagg18
-- IMPORT Derived.Test.YtgjmpancofjjbaaHagg18p
-- IMPORT Derived.Test.YtgjmpancofjjbaaHagg18f
open Go.Proofs.Ytgjmpancofjjbaa.Hlate Go.Proofs.Ytgjmpancofjjbaa.Hstep Go.Proofs.Ytgjmpancofjjbaa.Hmapint Go.Proofs.Ytgjmpancofjjbaa.Hnum Go.Proofs.Ytgjmpancofjjbaa.Hval
attribute [local go_sem high] eqV_
set_option maxHeartbeats 8000000
set_option maxRecDepth 100000
theorem agg_Join.do1 (g m h k : Nat) (s t : Acc18) (es : Array MapEntry) (clock : Nat) (et : Array MapEntry) (ct : Nat) (w : World) (hg : w.heap[g]? = some (.cells (acells s m) 52 (0, 0))) (hm : w.heap[m]? = some (.map es clock)) (hh : w.heap[h]? = some (.cells (acells t k) 52 (0, 0))) (hk : w.heap[k]? = some (.map et ct)) (hfn : s.fn = 1) (hft : t.fn = 1) (R : World → Prop)
    (HJ : ∀ W : World, W.heap[g]? = some (.cells (acells s m) 52 (0, 0)) → W.heap[m]? = some (.map es clock) → W.heap[h]? = some (.cells (acells t k) 52 (0, 0)) → W.heap[k]? = some (.map et ct) → Calls Try.prog 28 #[.pointer (some ⟨g, 0, none⟩), .pointer (some ⟨h, 0, none⟩)] W fun e w' => e = .returned (.tuple #[]) ∧ Step2 g m W w' ∧ w'.cell? ⟨g, 0, none⟩ = some (.int .i64 1) ∧ R w') :
    Calls Try.prog 16 #[.pointer (some ⟨g, 0, none⟩), .pointer (some ⟨h, 0, none⟩)] w fun e w' => e = .returned (.tuple #[]) ∧ Step2 g m w w' ∧ R w' := by
  have HB := Aside0.mk (below_drew1 (Below.refl w.heap.size w))
  have BG := Aside0.mk (show w.drew.heap[g]? = some (.cells (acells s m) 52 (0, 0)) from hg)
  have BM := Aside0.mk (show w.drew.heap[m]? = some (.map es clock) from hm)
  have BH := Aside0.mk (show w.drew.heap[h]? = some (.cells (acells t k) 52 (0, 0)) from hh)
  have BK := Aside0.mk (show w.drew.heap[k]? = some (.map et ct) from hk)
  have HFN := Aside0.mk hfn
  have HFT := Aside0.mk hft
  have QN := Aside0.mk (show (s.fn == 0) = false by rw [hfn]; rfl)
  have QT := Aside0.mk (show (t.fn == 0) = false by rw [hft]; rfl)
  have HJA := Aside0.mk HJ
  have hu52 := Try.underlying52
  clear hg hm hh hk hfn hft HJ
  go_enter Try.func16, Try.ntmps16
  go_wp2
  refine wp_region_held (S := (fun W : World => W.cell? ⟨g, 0, none⟩ = some (.int .i64 1) ∧ W.cell? ⟨h, 0, none⟩ = some (.int .i64 1))) (by kernel_rfl) ?_
  obtain ⟨W0, hW0⟩ : ∃ W, W = w.drew := ⟨_, rfl⟩
  have hW0_ : ({ w with drawn := w.drawn + 1 } : World) = W0 := hW0.symm
  rw [hW0_]
  rw [← hW0] at HB BG BM BH BK
  clear hW0 hW0_
  have HSW := Aside0.mk (show W0.cell? ⟨g, 0, none⟩ = some (.int .i64 1) ∧ W0.cell? ⟨h, 0, none⟩ = some (.int .i64 1) from ⟨(blk_cell BG.out 0).trans (congrArg (fun z => some (Value.int .i64 z)) HFN.out), (blk_cell BH.out 0).trans (congrArg (fun z => some (Value.int .i64 z)) HFT.out)⟩)
  refine wpAnyH_take (i := 0) (oi := ({ dst := some 4, op := Op.move (Operand.tmp 0), type := 35, pos := "agg.go:136", after := #[], guard := none } : Oper)) (v := ?_) rfl (by kernel_rfl) (by kernel_rfl) (by kernel_rfl) (fun _ _ _ h => h) (Or.inl ⟨by rfl, ?_⟩) HSW.out ?_
  rotate_left
  · intro w_ hS_; clear hS_; go_simp; (try (with_reducible rfl))
  (try simp only [Act.put, List.setIfInBounds_toArray, List.set_cons_zero, List.set_cons_succ])
  refine wpAnyH_ready (rs := [1]) (by kernel_rfl) (by simp) ?_
  refine AllReadyH.cons (o := ({ dst := some 5, op := Op.call { callee := Callee.value (Operand.func 21), args := #[Operand.tmp 4], argTypes := #[35] }, type := 4, pos := "agg.go:136", after := #[{ on := 0, ground := Ground.data }], guard := none } : Oper)) rfl (fun K hK => ?_) AllReadyH.nil
  go_simp
  go_at_call 21
  refine (agg_none.calls g m s _ BG.out QN.out).mono ?_
  rintro e w' ⟨rfl, hw⟩
  rw [hw]
  clear hw
  (try dsimp only)
  refine hK.out _ _ HSW.out (fun _ => ?_)
  clear hK K
  (try simp only [Act.put, List.setIfInBounds_toArray, List.set_cons_zero, List.set_cons_succ])
  refine wpAnyH_take (i := 2) (oi := ({ dst := some 6, op := Op.unOp UnOp.not 4 (Operand.tmp 5), type := 4, pos := "agg.go:136", after := #[{ on := 1, ground := Ground.data }], guard := none } : Oper)) (v := ?_) rfl (by kernel_rfl) (by kernel_rfl) (by kernel_rfl) (fun _ _ _ h => h) (Or.inl ⟨by rfl, ?_⟩) HSW.out ?_
  rotate_left
  · intro w_ hS_; clear hS_; go_simp; (try (with_reducible rfl))
  (try simp only [Act.put, List.setIfInBounds_toArray, List.set_cons_zero, List.set_cons_succ])
  refine wpAnyH_take (i := 3) (oi := ({ dst := some 7, op := Op.move (Operand.tmp 6), type := 4, pos := "agg.go:136", after := #[{ on := 2, ground := Ground.data }, { on := 1, ground := Ground.chain }], guard := none } : Oper)) (v := ?_) rfl (by kernel_rfl) (by kernel_rfl) (by kernel_rfl) (fun _ _ _ h => h) (Or.inl ⟨by rfl, ?_⟩) HSW.out ?_
  rotate_left
  · intro w_ hS_; clear hS_; go_simp; (try (with_reducible rfl))
  (try simp only [Act.put, List.setIfInBounds_toArray, List.set_cons_zero, List.set_cons_succ])
  refine wpAnyH_take (i := 4) (oi := ({ dst := some 8, op := Op.move (Operand.tmp 1), type := 35, pos := "agg.go:136", after := #[{ on := 3, ground := Ground.guard }], guard := some (3, true) } : Oper)) (v := ?_) rfl (by kernel_rfl) (by kernel_rfl) (by kernel_rfl) (fun _ _ _ h => h) (Or.inl ⟨by rfl, ?_⟩) HSW.out ?_
  rotate_left
  · intro w_ hS_; clear hS_; go_simp; (try (with_reducible rfl))
  (try simp only [Act.put, List.setIfInBounds_toArray, List.set_cons_zero, List.set_cons_succ])
  refine wpAnyH_ready (rs := [5]) (by kernel_rfl) (by simp) ?_
  refine AllReadyH.cons (o := ({ dst := some 9, op := Op.call { callee := Callee.value (Operand.func 21), args := #[Operand.tmp 8], argTypes := #[35] }, type := 4, pos := "agg.go:136", after := #[{ on := 4, ground := Ground.data }, { on := 3, ground := Ground.chain }, { on := 3, ground := Ground.guard }], guard := some (3, true) } : Oper)) rfl (fun K hK => ?_) AllReadyH.nil
  go_simp
  go_at_call 21
  refine (agg_none.calls h k t _ BH.out QT.out).mono ?_
  rintro e w' ⟨rfl, hw⟩
  rw [hw]
  clear hw
  (try dsimp only)
  refine hK.out _ _ HSW.out (fun _ => ?_)
  clear hK K
  (try simp only [Act.put, List.setIfInBounds_toArray, List.set_cons_zero, List.set_cons_succ])
  refine wpAnyH_take (i := 6) (oi := ({ dst := some 10, op := Op.unOp UnOp.not 4 (Operand.tmp 9), type := 4, pos := "agg.go:136", after := #[{ on := 5, ground := Ground.data }, { on := 3, ground := Ground.guard }], guard := some (3, true) } : Oper)) (v := ?_) rfl (by kernel_rfl) (by kernel_rfl) (by kernel_rfl) (fun _ _ _ h => h) (Or.inl ⟨by rfl, ?_⟩) HSW.out ?_
  rotate_left
  · intro w_ hS_; clear hS_; go_simp; (try (with_reducible rfl))
  (try simp only [Act.put, List.setIfInBounds_toArray, List.set_cons_zero, List.set_cons_succ])
  refine wpAnyH_take (i := 7) (oi := ({ dst := some 11, op := Op.pick (Operand.tmp 7) (Operand.tmp 10) (Operand.const (Value.bool false)), type := 4, pos := "agg.go:136", after := #[{ on := 3, ground := Ground.data }, { on := 6, ground := Ground.data }], guard := none } : Oper)) (v := ?_) rfl (by kernel_rfl) (by kernel_rfl) (by kernel_rfl) (fun _ _ _ h => h) (Or.inl ⟨by rfl, ?_⟩) HSW.out ?_
  rotate_left
  · intro w_ hS_; clear hS_; go_simp; (try (with_reducible rfl))
  (try simp only [Act.put, List.setIfInBounds_toArray, List.set_cons_zero, List.set_cons_succ])
  refine wpAnyH_take (i := 8) (oi := ({ dst := some 12, op := Op.move (Operand.tmp 11), type := 4, pos := "agg.go:136", after := #[{ on := 7, ground := Ground.data }, { on := 5, ground := Ground.chain }], guard := none } : Oper)) (v := ?_) rfl (by kernel_rfl) (by kernel_rfl) (by kernel_rfl) (fun _ _ _ h => h) (Or.inl ⟨by rfl, ?_⟩) HSW.out ?_
  rotate_left
  · intro w_ hS_; clear hS_; go_simp; (try (with_reducible rfl))
  (try simp only [Act.put, List.setIfInBounds_toArray, List.set_cons_zero, List.set_cons_succ])
  refine wpAnyH_take (i := 9) (oi := ({ dst := some 13, op := Op.move (Operand.tmp 0), type := 35, pos := "agg.go:136", after := #[{ on := 8, ground := Ground.guard }], guard := some (8, true) } : Oper)) (v := ?_) rfl (by kernel_rfl) (by kernel_rfl) (by kernel_rfl) (fun _ _ _ h => h) (Or.inl ⟨by rfl, ?_⟩) HSW.out ?_
  rotate_left
  · intro w_ hS_; clear hS_; go_simp; (try (with_reducible rfl))
  (try simp only [Act.put, List.setIfInBounds_toArray, List.set_cons_zero, List.set_cons_succ])
  refine wpAnyH_take (i := 10) (oi := ({ dst := some 14, op := Op.nilCheck (Operand.tmp 13), type := 0, pos := "agg.go:136", after := #[{ on := 9, ground := Ground.data }, { on := 8, ground := Ground.guard }], guard := some (8, true) } : Oper)) (v := ?_) rfl (by kernel_rfl) (by kernel_rfl) (by kernel_rfl) (fun _ _ _ h => h) (Or.inl ⟨by rfl, ?_⟩) HSW.out ?_
  rotate_left
  · intro w_ hS_; clear hS_; go_simp; (try (with_reducible rfl))
  (try simp only [Act.put, List.setIfInBounds_toArray, List.set_cons_zero, List.set_cons_succ])
  refine wpAnyH_take (i := 11) (oi := ({ dst := some 15, op := Op.fieldAddr 52 (Operand.tmp 14) 0, type := 0, pos := "agg.go:136", after := #[{ on := 10, ground := Ground.data }, { on := 8, ground := Ground.guard }], guard := some (8, true) } : Oper)) (v := ?_) rfl (by kernel_rfl) (by kernel_rfl) (by kernel_rfl) (fun _ _ _ h => h) (Or.inl ⟨by rfl, ?_⟩) HSW.out ?_
  rotate_left
  · intro w_ hS_; clear hS_; go_simp; (try (with_reducible rfl))
  (try simp only [Act.put, List.setIfInBounds_toArray, List.set_cons_zero, List.set_cons_succ])
  refine wpAnyH_take (i := 12) (oi := ({ dst := some 16, op := Op.load 3 (Operand.tmp 15), type := 3, pos := "agg.go:136", after := #[{ on := 11, ground := Ground.data }, { on := 8, ground := Ground.guard }], guard := some (8, true) } : Oper)) (v := ?_) rfl (by kernel_rfl) (by kernel_rfl) (by kernel_rfl) (fun _ _ _ h => h) (Or.inl ⟨by rfl, ?_⟩) HSW.out ?_
  rotate_left
  · intro w_ hS_; obtain ⟨s0_, s1_⟩ := hS_; go_simp; (try (with_reducible rfl))
  (try simp only [Act.put, List.setIfInBounds_toArray, List.set_cons_zero, List.set_cons_succ])
  refine wpAnyH_take (i := 13) (oi := ({ dst := some 17, op := Op.move (Operand.tmp 1), type := 35, pos := "agg.go:136", after := #[{ on := 8, ground := Ground.guard }], guard := some (8, true) } : Oper)) (v := ?_) rfl (by kernel_rfl) (by kernel_rfl) (by kernel_rfl) (fun _ _ _ h => h) (Or.inl ⟨by rfl, ?_⟩) HSW.out ?_
  rotate_left
  · intro w_ hS_; clear hS_; go_simp; (try (with_reducible rfl))
  (try simp only [Act.put, List.setIfInBounds_toArray, List.set_cons_zero, List.set_cons_succ])
  refine wpAnyH_take (i := 14) (oi := ({ dst := some 18, op := Op.nilCheck (Operand.tmp 17), type := 0, pos := "agg.go:136", after := #[{ on := 13, ground := Ground.data }, { on := 8, ground := Ground.guard }], guard := some (8, true) } : Oper)) (v := ?_) rfl (by kernel_rfl) (by kernel_rfl) (by kernel_rfl) (fun _ _ _ h => h) (Or.inl ⟨by rfl, ?_⟩) HSW.out ?_
  rotate_left
  · intro w_ hS_; clear hS_; go_simp; (try (with_reducible rfl))
  (try simp only [Act.put, List.setIfInBounds_toArray, List.set_cons_zero, List.set_cons_succ])
  refine wpAnyH_take (i := 15) (oi := ({ dst := some 19, op := Op.fieldAddr 52 (Operand.tmp 18) 0, type := 0, pos := "agg.go:136", after := #[{ on := 14, ground := Ground.data }, { on := 8, ground := Ground.guard }], guard := some (8, true) } : Oper)) (v := ?_) rfl (by kernel_rfl) (by kernel_rfl) (by kernel_rfl) (fun _ _ _ h => h) (Or.inl ⟨by rfl, ?_⟩) HSW.out ?_
  rotate_left
  · intro w_ hS_; clear hS_; go_simp; (try (with_reducible rfl))
  (try simp only [Act.put, List.setIfInBounds_toArray, List.set_cons_zero, List.set_cons_succ])
  refine wpAnyH_take (i := 16) (oi := ({ dst := some 20, op := Op.load 3 (Operand.tmp 19), type := 3, pos := "agg.go:136", after := #[{ on := 15, ground := Ground.data }, { on := 8, ground := Ground.guard }], guard := some (8, true) } : Oper)) (v := ?_) rfl (by kernel_rfl) (by kernel_rfl) (by kernel_rfl) (fun _ _ _ h => h) (Or.inl ⟨by rfl, ?_⟩) HSW.out ?_
  rotate_left
  · intro w_ hS_; obtain ⟨s0_, s1_⟩ := hS_; go_simp; (try (with_reducible rfl))
  (try simp only [Act.put, List.setIfInBounds_toArray, List.set_cons_zero, List.set_cons_succ])
  refine wpAnyH_take (i := 17) (oi := ({ dst := some 21, op := Op.binOp BinOp.eql 3 (Operand.tmp 16) (Operand.tmp 20) 3, type := 4, pos := "agg.go:136", after := #[{ on := 12, ground := Ground.data }, { on := 16, ground := Ground.data }, { on := 8, ground := Ground.guard }], guard := some (8, true) } : Oper)) (v := ?_) rfl (by kernel_rfl) (by kernel_rfl) (by kernel_rfl) (fun _ _ _ h => h) (Or.inl ⟨by rfl, ?_⟩) HSW.out ?_
  rotate_left
  · intro w_ hS_; clear hS_; go_simp; (try (with_reducible rfl))
  (try simp only [Act.put, List.setIfInBounds_toArray, List.set_cons_zero, List.set_cons_succ])
  refine wpAnyH_take (i := 18) (oi := ({ dst := some 22, op := Op.pick (Operand.tmp 12) (Operand.tmp 21) (Operand.const (Value.bool false)), type := 4, pos := "agg.go:136", after := #[{ on := 8, ground := Ground.data }, { on := 17, ground := Ground.data }], guard := none } : Oper)) (v := ?_) rfl (by kernel_rfl) (by kernel_rfl) (by kernel_rfl) (fun _ _ _ h => h) (Or.inl ⟨by rfl, ?_⟩) HSW.out ?_
  rotate_left
  · intro w_ hS_; clear hS_; go_simp; (try (with_reducible rfl))
  (try simp only [Act.put, List.setIfInBounds_toArray, List.set_cons_zero, List.set_cons_succ])
  refine wpAnyH_done (by kernel_rfl) ?_ _
  all_goals go_wp2
  clear HSW
  refine wp_region_held (S := (fun W : World => W.cell? ⟨g, 0, none⟩ = some (.int .i64 1))) (by kernel_rfl) ?_
  have HB1 := Aside0.mk (below_drew1 HB.out)
  have BG1 := Aside0.mk (show W0.drew.heap[g]? = some (.cells (acells s m) 52 (0, 0)) from BG.out)
  have BM1 := Aside0.mk (show W0.drew.heap[m]? = some (.map es clock) from BM.out)
  have BH1 := Aside0.mk (show W0.drew.heap[h]? = some (.cells (acells t k) 52 (0, 0)) from BH.out)
  have BK1 := Aside0.mk (show W0.drew.heap[k]? = some (.map et ct) from BK.out)
  obtain ⟨W1, hW1⟩ : ∃ W, W = W0.drew := ⟨_, rfl⟩
  have hW1_ : ({ W0 with drawn := W0.drawn + 1 } : World) = W1 := hW1.symm
  rw [hW1_]
  rw [← hW1] at HB1 BG1 BM1 BH1 BK1
  clear hW1 hW1_ HB BG BM BH BK
  have HSW := Aside0.mk (show W1.cell? ⟨g, 0, none⟩ = some (.int .i64 1) from (blk_cell BG1.out 0).trans (congrArg (fun z => some (Value.int .i64 z)) HFN.out))
  refine wpAnyH_take (i := 1) (oi := ({ dst := some 24, op := Op.move (Operand.tmp 0), type := 35, pos := "agg.go:137", after := #[], guard := none } : Oper)) (v := ?_) rfl (by kernel_rfl) (by kernel_rfl) (by kernel_rfl) (fun _ _ _ h => h) (Or.inl ⟨by rfl, ?_⟩) HSW.out ?_
  rotate_left
  · intro w_ hS_; clear hS_; go_simp; (try (with_reducible rfl))
  (try simp only [Act.put, List.setIfInBounds_toArray, List.set_cons_zero, List.set_cons_succ])
  refine wpAnyH_take (i := 2) (oi := ({ dst := some 25, op := Op.nilCheck (Operand.tmp 24), type := 0, pos := "agg.go:137", after := #[{ on := 1, ground := Ground.data }], guard := none } : Oper)) (v := ?_) rfl (by kernel_rfl) (by kernel_rfl) (by kernel_rfl) (fun _ _ _ h => h) (Or.inl ⟨by rfl, ?_⟩) HSW.out ?_
  rotate_left
  · intro w_ hS_; clear hS_; go_simp; (try (with_reducible rfl))
  (try simp only [Act.put, List.setIfInBounds_toArray, List.set_cons_zero, List.set_cons_succ])
  refine wpAnyH_take (i := 3) (oi := ({ dst := some 26, op := Op.fieldAddr 52 (Operand.tmp 25) 0, type := 0, pos := "agg.go:137", after := #[{ on := 2, ground := Ground.data }], guard := none } : Oper)) (v := ?_) rfl (by kernel_rfl) (by kernel_rfl) (by kernel_rfl) (fun _ _ _ h => h) (Or.inl ⟨by rfl, ?_⟩) HSW.out ?_
  rotate_left
  · intro w_ hS_; clear hS_; go_simp; (try (with_reducible rfl))
  (try simp only [Act.put, List.setIfInBounds_toArray, List.set_cons_zero, List.set_cons_succ])
  refine wpAnyH_take (i := 4) (oi := ({ dst := some 27, op := Op.load 3 (Operand.tmp 26), type := 3, pos := "agg.go:137", after := #[{ on := 3, ground := Ground.data }], guard := none } : Oper)) (v := ?_) rfl (by kernel_rfl) (by kernel_rfl) (by kernel_rfl) (fun _ _ _ h => h) (Or.inl ⟨by rfl, ?_⟩) HSW.out ?_
  rotate_left
  · intro w_ hS_; have s0_ : w_.cell? ⟨g, 0, none⟩ = some (.int .i64 1) := hS_; go_simp; (try (with_reducible rfl))
  (try simp only [Act.put, List.setIfInBounds_toArray, List.set_cons_zero, List.set_cons_succ])
  refine wpAnyH_take (i := 7) (oi := ({ dst := some 30, op := Op.move (Operand.tmp 0), type := 35, pos := "agg.go:137", after := #[], guard := none } : Oper)) (v := ?_) rfl (by kernel_rfl) (by kernel_rfl) (by kernel_rfl) (fun _ _ _ h => h) (Or.inl ⟨by rfl, ?_⟩) HSW.out ?_
  rotate_left
  · intro w_ hS_; clear hS_; go_simp; (try (with_reducible rfl))
  (try simp only [Act.put, List.setIfInBounds_toArray, List.set_cons_zero, List.set_cons_succ])
  refine wpAnyH_take (i := 8) (oi := ({ dst := some 31, op := Op.move (Operand.tmp 1), type := 35, pos := "agg.go:137", after := #[], guard := none } : Oper)) (v := ?_) rfl (by kernel_rfl) (by kernel_rfl) (by kernel_rfl) (fun _ _ _ h => h) (Or.inl ⟨by rfl, ?_⟩) HSW.out ?_
  rotate_left
  · intro w_ hS_; clear hS_; go_simp; (try (with_reducible rfl))
  (try simp only [Act.put, List.setIfInBounds_toArray, List.set_cons_zero, List.set_cons_succ])
  refine wpAnyH_ready (rs := [0]) (by kernel_rfl) (by simp) ?_
  refine AllReadyH.cons (o := ({ dst := some 23, op := Op.call { callee := Callee.value (Operand.func 23), args := #[], argTypes := #[] }, type := 59, pos := "agg.go:137", after := #[], guard := none } : Oper)) rfl (fun K hK => ?_) AllReadyH.nil
  go_simp
  go_at_call 23
  refine (agg_kinds.calls _).mono ?_
  rintro e w3 ⟨gk, rfl, hkk, hb⟩
  have BGX := Aside0.mk (blk_below BG1.out hb)
  have BMX := Aside0.mk (blk_below BM1.out hb)
  have BHX := Aside0.mk (blk_below BH1.out hb)
  have BKX := Aside0.mk (blk_below BK1.out hb)
  have STX := Aside0.mk (show Step2 g m w w3 from Step2.of_below (below_step HB1.out hb))
  have hlk : (Instr.lookup 59 (.map (some gk)) (.int .i64 1) false).run Try.prog w3 = .ok (.agg #[.func (.func 27) #[] #[], .func (.func 28) #[] #[], .func (.func 29) #[] #[]]) w3 := run_lookupI hkk _ (by rfl)
  clear HSW
  have HSW := Aside0.mk (show w3.cell? ⟨g, 0, none⟩ = some (.int .i64 1) from (blk_cell BGX.out 0).trans (congrArg (fun z => some (Value.int .i64 z)) HFN.out))
  clear hkk hb
  (try dsimp only)
  refine hK.out _ _ HSW.out (fun _ => ?_)
  clear hK K
  (try simp only [Act.put, List.setIfInBounds_toArray, List.set_cons_zero, List.set_cons_succ])
  refine wpAnyH_ready (rs := [5]) (by kernel_rfl) (by simp) ?_
  refine AllReadyH.cons (o := ({ dst := some 28, op := Op.lookup 59 (Operand.tmp 23) (Operand.tmp 27) false, type := 58, pos := "agg.go:137", after := #[{ on := 0, ground := Ground.data }, { on := 4, ground := Ground.data }], guard := none } : Oper)) rfl (fun K hK => ?_) AllReadyH.nil
  go_simp
  refine hK.out _ _ HSW.out (fun _ => ?_)
  clear hK K
  (try simp only [Act.put, List.setIfInBounds_toArray, List.set_cons_zero, List.set_cons_succ])
  have hfd := run_field58_1
  refine wpAnyH_take (i := 6) (oi := ({ dst := some 29, op := Op.field 58 (Operand.tmp 28) 1, type := 55, pos := "agg.go:137", after := #[{ on := 5, ground := Ground.data }], guard := none } : Oper)) (v := ?_) rfl (by kernel_rfl) (by kernel_rfl) (by kernel_rfl) (fun _ _ _ h => h) (Or.inl ⟨by rfl, ?_⟩) HSW.out ?_
  rotate_left
  · intro w_ hS_; clear hS_; go_simp; (try (with_reducible rfl))
  (try simp only [Act.put, List.setIfInBounds_toArray, List.set_cons_zero, List.set_cons_succ])
  refine wpAnyH_ready (rs := [9]) (by kernel_rfl) (by simp) ?_
  refine AllReadyH.cons (o := ({ dst := some 32, op := Op.call { callee := Callee.value (Operand.tmp 29), args := #[Operand.tmp 30, Operand.tmp 31], argTypes := #[35, 35] }, type := 0, pos := "agg.go:137", after := #[{ on := 6, ground := Ground.data }, { on := 7, ground := Ground.data }, { on := 8, ground := Ground.data }, { on := 0, ground := Ground.chain }], guard := none } : Oper)) rfl (fun K hK => ?_) AllReadyH.nil
  clear hlk
  go_simp
  go_at_call 28
  refine (HJA.out _ BGX.out BMX.out BHX.out BKX.out).mono ?_
  rintro e w4 ⟨rfl, st4, hg4, hr4⟩
  have STY := Aside0.mk (STX.out.trans st4)
  have HRR := Aside0.mk hr4
  clear HSW
  have HSW := Aside0.mk hg4
  clear st4 hg4 hr4
  (try dsimp only)
  refine hK.out _ _ HSW.out (fun _ => ?_)
  clear hK K
  (try simp only [Act.put, List.setIfInBounds_toArray, List.set_cons_zero, List.set_cons_succ])
  refine wpAnyH_done (by kernel_rfl) ?_ _
  all_goals go_wp2
  all_goals go_end0
  all_goals exact ⟨rfl, STY.out, HRR.out⟩
theorem agg_Join.do2 (g m h k : Nat) (s t : Acc18) (es : Array MapEntry) (clock : Nat) (et : Array MapEntry) (ct : Nat) (w : World) (hg : w.heap[g]? = some (.cells (acells s m) 52 (0, 0))) (hm : w.heap[m]? = some (.map es clock)) (hh : w.heap[h]? = some (.cells (acells t k) 52 (0, 0))) (hk : w.heap[k]? = some (.map et ct)) (hfn : s.fn = 2) (hft : t.fn = 2) (R : World → Prop)
    (HJ : ∀ W : World, W.heap[g]? = some (.cells (acells s m) 52 (0, 0)) → W.heap[m]? = some (.map es clock) → W.heap[h]? = some (.cells (acells t k) 52 (0, 0)) → W.heap[k]? = some (.map et ct) → Calls Try.prog 34 #[.pointer (some ⟨g, 0, none⟩), .pointer (some ⟨h, 0, none⟩)] W fun e w' => e = .returned (.tuple #[]) ∧ Step2 g m W w' ∧ w'.cell? ⟨g, 0, none⟩ = some (.int .i64 2) ∧ R w') :
    Calls Try.prog 16 #[.pointer (some ⟨g, 0, none⟩), .pointer (some ⟨h, 0, none⟩)] w fun e w' => e = .returned (.tuple #[]) ∧ Step2 g m w w' ∧ R w' := by
  have HB := Aside0.mk (below_drew1 (Below.refl w.heap.size w))
  have BG := Aside0.mk (show w.drew.heap[g]? = some (.cells (acells s m) 52 (0, 0)) from hg)
  have BM := Aside0.mk (show w.drew.heap[m]? = some (.map es clock) from hm)
  have BH := Aside0.mk (show w.drew.heap[h]? = some (.cells (acells t k) 52 (0, 0)) from hh)
  have BK := Aside0.mk (show w.drew.heap[k]? = some (.map et ct) from hk)
  have HFN := Aside0.mk hfn
  have HFT := Aside0.mk hft
  have QN := Aside0.mk (show (s.fn == 0) = false by rw [hfn]; rfl)
  have QT := Aside0.mk (show (t.fn == 0) = false by rw [hft]; rfl)
  have HJA := Aside0.mk HJ
  have hu52 := Try.underlying52
  clear hg hm hh hk hfn hft HJ
  go_enter Try.func16, Try.ntmps16
  go_wp2
  refine wp_region_held (S := (fun W : World => W.cell? ⟨g, 0, none⟩ = some (.int .i64 2) ∧ W.cell? ⟨h, 0, none⟩ = some (.int .i64 2))) (by kernel_rfl) ?_
  obtain ⟨W0, hW0⟩ : ∃ W, W = w.drew := ⟨_, rfl⟩
  have hW0_ : ({ w with drawn := w.drawn + 1 } : World) = W0 := hW0.symm
  rw [hW0_]
  rw [← hW0] at HB BG BM BH BK
  clear hW0 hW0_
  have HSW := Aside0.mk (show W0.cell? ⟨g, 0, none⟩ = some (.int .i64 2) ∧ W0.cell? ⟨h, 0, none⟩ = some (.int .i64 2) from ⟨(blk_cell BG.out 0).trans (congrArg (fun z => some (Value.int .i64 z)) HFN.out), (blk_cell BH.out 0).trans (congrArg (fun z => some (Value.int .i64 z)) HFT.out)⟩)
  refine wpAnyH_take (i := 0) (oi := ({ dst := some 4, op := Op.move (Operand.tmp 0), type := 35, pos := "agg.go:136", after := #[], guard := none } : Oper)) (v := ?_) rfl (by kernel_rfl) (by kernel_rfl) (by kernel_rfl) (fun _ _ _ h => h) (Or.inl ⟨by rfl, ?_⟩) HSW.out ?_
  rotate_left
  · intro w_ hS_; clear hS_; go_simp; (try (with_reducible rfl))
  (try simp only [Act.put, List.setIfInBounds_toArray, List.set_cons_zero, List.set_cons_succ])
  refine wpAnyH_ready (rs := [1]) (by kernel_rfl) (by simp) ?_
  refine AllReadyH.cons (o := ({ dst := some 5, op := Op.call { callee := Callee.value (Operand.func 21), args := #[Operand.tmp 4], argTypes := #[35] }, type := 4, pos := "agg.go:136", after := #[{ on := 0, ground := Ground.data }], guard := none } : Oper)) rfl (fun K hK => ?_) AllReadyH.nil
  go_simp
  go_at_call 21
  refine (agg_none.calls g m s _ BG.out QN.out).mono ?_
  rintro e w' ⟨rfl, hw⟩
  rw [hw]
  clear hw
  (try dsimp only)
  refine hK.out _ _ HSW.out (fun _ => ?_)
  clear hK K
  (try simp only [Act.put, List.setIfInBounds_toArray, List.set_cons_zero, List.set_cons_succ])
  refine wpAnyH_take (i := 2) (oi := ({ dst := some 6, op := Op.unOp UnOp.not 4 (Operand.tmp 5), type := 4, pos := "agg.go:136", after := #[{ on := 1, ground := Ground.data }], guard := none } : Oper)) (v := ?_) rfl (by kernel_rfl) (by kernel_rfl) (by kernel_rfl) (fun _ _ _ h => h) (Or.inl ⟨by rfl, ?_⟩) HSW.out ?_
  rotate_left
  · intro w_ hS_; clear hS_; go_simp; (try (with_reducible rfl))
  (try simp only [Act.put, List.setIfInBounds_toArray, List.set_cons_zero, List.set_cons_succ])
  refine wpAnyH_take (i := 3) (oi := ({ dst := some 7, op := Op.move (Operand.tmp 6), type := 4, pos := "agg.go:136", after := #[{ on := 2, ground := Ground.data }, { on := 1, ground := Ground.chain }], guard := none } : Oper)) (v := ?_) rfl (by kernel_rfl) (by kernel_rfl) (by kernel_rfl) (fun _ _ _ h => h) (Or.inl ⟨by rfl, ?_⟩) HSW.out ?_
  rotate_left
  · intro w_ hS_; clear hS_; go_simp; (try (with_reducible rfl))
  (try simp only [Act.put, List.setIfInBounds_toArray, List.set_cons_zero, List.set_cons_succ])
  refine wpAnyH_take (i := 4) (oi := ({ dst := some 8, op := Op.move (Operand.tmp 1), type := 35, pos := "agg.go:136", after := #[{ on := 3, ground := Ground.guard }], guard := some (3, true) } : Oper)) (v := ?_) rfl (by kernel_rfl) (by kernel_rfl) (by kernel_rfl) (fun _ _ _ h => h) (Or.inl ⟨by rfl, ?_⟩) HSW.out ?_
  rotate_left
  · intro w_ hS_; clear hS_; go_simp; (try (with_reducible rfl))
  (try simp only [Act.put, List.setIfInBounds_toArray, List.set_cons_zero, List.set_cons_succ])
  refine wpAnyH_ready (rs := [5]) (by kernel_rfl) (by simp) ?_
  refine AllReadyH.cons (o := ({ dst := some 9, op := Op.call { callee := Callee.value (Operand.func 21), args := #[Operand.tmp 8], argTypes := #[35] }, type := 4, pos := "agg.go:136", after := #[{ on := 4, ground := Ground.data }, { on := 3, ground := Ground.chain }, { on := 3, ground := Ground.guard }], guard := some (3, true) } : Oper)) rfl (fun K hK => ?_) AllReadyH.nil
  go_simp
  go_at_call 21
  refine (agg_none.calls h k t _ BH.out QT.out).mono ?_
  rintro e w' ⟨rfl, hw⟩
  rw [hw]
  clear hw
  (try dsimp only)
  refine hK.out _ _ HSW.out (fun _ => ?_)
  clear hK K
  (try simp only [Act.put, List.setIfInBounds_toArray, List.set_cons_zero, List.set_cons_succ])
  refine wpAnyH_take (i := 6) (oi := ({ dst := some 10, op := Op.unOp UnOp.not 4 (Operand.tmp 9), type := 4, pos := "agg.go:136", after := #[{ on := 5, ground := Ground.data }, { on := 3, ground := Ground.guard }], guard := some (3, true) } : Oper)) (v := ?_) rfl (by kernel_rfl) (by kernel_rfl) (by kernel_rfl) (fun _ _ _ h => h) (Or.inl ⟨by rfl, ?_⟩) HSW.out ?_
  rotate_left
  · intro w_ hS_; clear hS_; go_simp; (try (with_reducible rfl))
  (try simp only [Act.put, List.setIfInBounds_toArray, List.set_cons_zero, List.set_cons_succ])
  refine wpAnyH_take (i := 7) (oi := ({ dst := some 11, op := Op.pick (Operand.tmp 7) (Operand.tmp 10) (Operand.const (Value.bool false)), type := 4, pos := "agg.go:136", after := #[{ on := 3, ground := Ground.data }, { on := 6, ground := Ground.data }], guard := none } : Oper)) (v := ?_) rfl (by kernel_rfl) (by kernel_rfl) (by kernel_rfl) (fun _ _ _ h => h) (Or.inl ⟨by rfl, ?_⟩) HSW.out ?_
  rotate_left
  · intro w_ hS_; clear hS_; go_simp; (try (with_reducible rfl))
  (try simp only [Act.put, List.setIfInBounds_toArray, List.set_cons_zero, List.set_cons_succ])
  refine wpAnyH_take (i := 8) (oi := ({ dst := some 12, op := Op.move (Operand.tmp 11), type := 4, pos := "agg.go:136", after := #[{ on := 7, ground := Ground.data }, { on := 5, ground := Ground.chain }], guard := none } : Oper)) (v := ?_) rfl (by kernel_rfl) (by kernel_rfl) (by kernel_rfl) (fun _ _ _ h => h) (Or.inl ⟨by rfl, ?_⟩) HSW.out ?_
  rotate_left
  · intro w_ hS_; clear hS_; go_simp; (try (with_reducible rfl))
  (try simp only [Act.put, List.setIfInBounds_toArray, List.set_cons_zero, List.set_cons_succ])
  refine wpAnyH_take (i := 9) (oi := ({ dst := some 13, op := Op.move (Operand.tmp 0), type := 35, pos := "agg.go:136", after := #[{ on := 8, ground := Ground.guard }], guard := some (8, true) } : Oper)) (v := ?_) rfl (by kernel_rfl) (by kernel_rfl) (by kernel_rfl) (fun _ _ _ h => h) (Or.inl ⟨by rfl, ?_⟩) HSW.out ?_
  rotate_left
  · intro w_ hS_; clear hS_; go_simp; (try (with_reducible rfl))
  (try simp only [Act.put, List.setIfInBounds_toArray, List.set_cons_zero, List.set_cons_succ])
  refine wpAnyH_take (i := 10) (oi := ({ dst := some 14, op := Op.nilCheck (Operand.tmp 13), type := 0, pos := "agg.go:136", after := #[{ on := 9, ground := Ground.data }, { on := 8, ground := Ground.guard }], guard := some (8, true) } : Oper)) (v := ?_) rfl (by kernel_rfl) (by kernel_rfl) (by kernel_rfl) (fun _ _ _ h => h) (Or.inl ⟨by rfl, ?_⟩) HSW.out ?_
  rotate_left
  · intro w_ hS_; clear hS_; go_simp; (try (with_reducible rfl))
  (try simp only [Act.put, List.setIfInBounds_toArray, List.set_cons_zero, List.set_cons_succ])
  refine wpAnyH_take (i := 11) (oi := ({ dst := some 15, op := Op.fieldAddr 52 (Operand.tmp 14) 0, type := 0, pos := "agg.go:136", after := #[{ on := 10, ground := Ground.data }, { on := 8, ground := Ground.guard }], guard := some (8, true) } : Oper)) (v := ?_) rfl (by kernel_rfl) (by kernel_rfl) (by kernel_rfl) (fun _ _ _ h => h) (Or.inl ⟨by rfl, ?_⟩) HSW.out ?_
  rotate_left
  · intro w_ hS_; clear hS_; go_simp; (try (with_reducible rfl))
  (try simp only [Act.put, List.setIfInBounds_toArray, List.set_cons_zero, List.set_cons_succ])
  refine wpAnyH_take (i := 12) (oi := ({ dst := some 16, op := Op.load 3 (Operand.tmp 15), type := 3, pos := "agg.go:136", after := #[{ on := 11, ground := Ground.data }, { on := 8, ground := Ground.guard }], guard := some (8, true) } : Oper)) (v := ?_) rfl (by kernel_rfl) (by kernel_rfl) (by kernel_rfl) (fun _ _ _ h => h) (Or.inl ⟨by rfl, ?_⟩) HSW.out ?_
  rotate_left
  · intro w_ hS_; obtain ⟨s0_, s1_⟩ := hS_; go_simp; (try (with_reducible rfl))
  (try simp only [Act.put, List.setIfInBounds_toArray, List.set_cons_zero, List.set_cons_succ])
  refine wpAnyH_take (i := 13) (oi := ({ dst := some 17, op := Op.move (Operand.tmp 1), type := 35, pos := "agg.go:136", after := #[{ on := 8, ground := Ground.guard }], guard := some (8, true) } : Oper)) (v := ?_) rfl (by kernel_rfl) (by kernel_rfl) (by kernel_rfl) (fun _ _ _ h => h) (Or.inl ⟨by rfl, ?_⟩) HSW.out ?_
  rotate_left
  · intro w_ hS_; clear hS_; go_simp; (try (with_reducible rfl))
  (try simp only [Act.put, List.setIfInBounds_toArray, List.set_cons_zero, List.set_cons_succ])
  refine wpAnyH_take (i := 14) (oi := ({ dst := some 18, op := Op.nilCheck (Operand.tmp 17), type := 0, pos := "agg.go:136", after := #[{ on := 13, ground := Ground.data }, { on := 8, ground := Ground.guard }], guard := some (8, true) } : Oper)) (v := ?_) rfl (by kernel_rfl) (by kernel_rfl) (by kernel_rfl) (fun _ _ _ h => h) (Or.inl ⟨by rfl, ?_⟩) HSW.out ?_
  rotate_left
  · intro w_ hS_; clear hS_; go_simp; (try (with_reducible rfl))
  (try simp only [Act.put, List.setIfInBounds_toArray, List.set_cons_zero, List.set_cons_succ])
  refine wpAnyH_take (i := 15) (oi := ({ dst := some 19, op := Op.fieldAddr 52 (Operand.tmp 18) 0, type := 0, pos := "agg.go:136", after := #[{ on := 14, ground := Ground.data }, { on := 8, ground := Ground.guard }], guard := some (8, true) } : Oper)) (v := ?_) rfl (by kernel_rfl) (by kernel_rfl) (by kernel_rfl) (fun _ _ _ h => h) (Or.inl ⟨by rfl, ?_⟩) HSW.out ?_
  rotate_left
  · intro w_ hS_; clear hS_; go_simp; (try (with_reducible rfl))
  (try simp only [Act.put, List.setIfInBounds_toArray, List.set_cons_zero, List.set_cons_succ])
  refine wpAnyH_take (i := 16) (oi := ({ dst := some 20, op := Op.load 3 (Operand.tmp 19), type := 3, pos := "agg.go:136", after := #[{ on := 15, ground := Ground.data }, { on := 8, ground := Ground.guard }], guard := some (8, true) } : Oper)) (v := ?_) rfl (by kernel_rfl) (by kernel_rfl) (by kernel_rfl) (fun _ _ _ h => h) (Or.inl ⟨by rfl, ?_⟩) HSW.out ?_
  rotate_left
  · intro w_ hS_; obtain ⟨s0_, s1_⟩ := hS_; go_simp; (try (with_reducible rfl))
  (try simp only [Act.put, List.setIfInBounds_toArray, List.set_cons_zero, List.set_cons_succ])
  refine wpAnyH_take (i := 17) (oi := ({ dst := some 21, op := Op.binOp BinOp.eql 3 (Operand.tmp 16) (Operand.tmp 20) 3, type := 4, pos := "agg.go:136", after := #[{ on := 12, ground := Ground.data }, { on := 16, ground := Ground.data }, { on := 8, ground := Ground.guard }], guard := some (8, true) } : Oper)) (v := ?_) rfl (by kernel_rfl) (by kernel_rfl) (by kernel_rfl) (fun _ _ _ h => h) (Or.inl ⟨by rfl, ?_⟩) HSW.out ?_
  rotate_left
  · intro w_ hS_; clear hS_; go_simp; (try (with_reducible rfl))
  (try simp only [Act.put, List.setIfInBounds_toArray, List.set_cons_zero, List.set_cons_succ])
  refine wpAnyH_take (i := 18) (oi := ({ dst := some 22, op := Op.pick (Operand.tmp 12) (Operand.tmp 21) (Operand.const (Value.bool false)), type := 4, pos := "agg.go:136", after := #[{ on := 8, ground := Ground.data }, { on := 17, ground := Ground.data }], guard := none } : Oper)) (v := ?_) rfl (by kernel_rfl) (by kernel_rfl) (by kernel_rfl) (fun _ _ _ h => h) (Or.inl ⟨by rfl, ?_⟩) HSW.out ?_
  rotate_left
  · intro w_ hS_; clear hS_; go_simp; (try (with_reducible rfl))
  (try simp only [Act.put, List.setIfInBounds_toArray, List.set_cons_zero, List.set_cons_succ])
  refine wpAnyH_done (by kernel_rfl) ?_ _
  all_goals go_wp2
  clear HSW
  refine wp_region_held (S := (fun W : World => W.cell? ⟨g, 0, none⟩ = some (.int .i64 2))) (by kernel_rfl) ?_
  have HB1 := Aside0.mk (below_drew1 HB.out)
  have BG1 := Aside0.mk (show W0.drew.heap[g]? = some (.cells (acells s m) 52 (0, 0)) from BG.out)
  have BM1 := Aside0.mk (show W0.drew.heap[m]? = some (.map es clock) from BM.out)
  have BH1 := Aside0.mk (show W0.drew.heap[h]? = some (.cells (acells t k) 52 (0, 0)) from BH.out)
  have BK1 := Aside0.mk (show W0.drew.heap[k]? = some (.map et ct) from BK.out)
  obtain ⟨W1, hW1⟩ : ∃ W, W = W0.drew := ⟨_, rfl⟩
  have hW1_ : ({ W0 with drawn := W0.drawn + 1 } : World) = W1 := hW1.symm
  rw [hW1_]
  rw [← hW1] at HB1 BG1 BM1 BH1 BK1
  clear hW1 hW1_ HB BG BM BH BK
  have HSW := Aside0.mk (show W1.cell? ⟨g, 0, none⟩ = some (.int .i64 2) from (blk_cell BG1.out 0).trans (congrArg (fun z => some (Value.int .i64 z)) HFN.out))
  refine wpAnyH_take (i := 1) (oi := ({ dst := some 24, op := Op.move (Operand.tmp 0), type := 35, pos := "agg.go:137", after := #[], guard := none } : Oper)) (v := ?_) rfl (by kernel_rfl) (by kernel_rfl) (by kernel_rfl) (fun _ _ _ h => h) (Or.inl ⟨by rfl, ?_⟩) HSW.out ?_
  rotate_left
  · intro w_ hS_; clear hS_; go_simp; (try (with_reducible rfl))
  (try simp only [Act.put, List.setIfInBounds_toArray, List.set_cons_zero, List.set_cons_succ])
  refine wpAnyH_take (i := 2) (oi := ({ dst := some 25, op := Op.nilCheck (Operand.tmp 24), type := 0, pos := "agg.go:137", after := #[{ on := 1, ground := Ground.data }], guard := none } : Oper)) (v := ?_) rfl (by kernel_rfl) (by kernel_rfl) (by kernel_rfl) (fun _ _ _ h => h) (Or.inl ⟨by rfl, ?_⟩) HSW.out ?_
  rotate_left
  · intro w_ hS_; clear hS_; go_simp; (try (with_reducible rfl))
  (try simp only [Act.put, List.setIfInBounds_toArray, List.set_cons_zero, List.set_cons_succ])
  refine wpAnyH_take (i := 3) (oi := ({ dst := some 26, op := Op.fieldAddr 52 (Operand.tmp 25) 0, type := 0, pos := "agg.go:137", after := #[{ on := 2, ground := Ground.data }], guard := none } : Oper)) (v := ?_) rfl (by kernel_rfl) (by kernel_rfl) (by kernel_rfl) (fun _ _ _ h => h) (Or.inl ⟨by rfl, ?_⟩) HSW.out ?_
  rotate_left
  · intro w_ hS_; clear hS_; go_simp; (try (with_reducible rfl))
  (try simp only [Act.put, List.setIfInBounds_toArray, List.set_cons_zero, List.set_cons_succ])
  refine wpAnyH_take (i := 4) (oi := ({ dst := some 27, op := Op.load 3 (Operand.tmp 26), type := 3, pos := "agg.go:137", after := #[{ on := 3, ground := Ground.data }], guard := none } : Oper)) (v := ?_) rfl (by kernel_rfl) (by kernel_rfl) (by kernel_rfl) (fun _ _ _ h => h) (Or.inl ⟨by rfl, ?_⟩) HSW.out ?_
  rotate_left
  · intro w_ hS_; have s0_ : w_.cell? ⟨g, 0, none⟩ = some (.int .i64 2) := hS_; go_simp; (try (with_reducible rfl))
  (try simp only [Act.put, List.setIfInBounds_toArray, List.set_cons_zero, List.set_cons_succ])
  refine wpAnyH_take (i := 7) (oi := ({ dst := some 30, op := Op.move (Operand.tmp 0), type := 35, pos := "agg.go:137", after := #[], guard := none } : Oper)) (v := ?_) rfl (by kernel_rfl) (by kernel_rfl) (by kernel_rfl) (fun _ _ _ h => h) (Or.inl ⟨by rfl, ?_⟩) HSW.out ?_
  rotate_left
  · intro w_ hS_; clear hS_; go_simp; (try (with_reducible rfl))
  (try simp only [Act.put, List.setIfInBounds_toArray, List.set_cons_zero, List.set_cons_succ])
  refine wpAnyH_take (i := 8) (oi := ({ dst := some 31, op := Op.move (Operand.tmp 1), type := 35, pos := "agg.go:137", after := #[], guard := none } : Oper)) (v := ?_) rfl (by kernel_rfl) (by kernel_rfl) (by kernel_rfl) (fun _ _ _ h => h) (Or.inl ⟨by rfl, ?_⟩) HSW.out ?_
  rotate_left
  · intro w_ hS_; clear hS_; go_simp; (try (with_reducible rfl))
  (try simp only [Act.put, List.setIfInBounds_toArray, List.set_cons_zero, List.set_cons_succ])
  refine wpAnyH_ready (rs := [0]) (by kernel_rfl) (by simp) ?_
  refine AllReadyH.cons (o := ({ dst := some 23, op := Op.call { callee := Callee.value (Operand.func 23), args := #[], argTypes := #[] }, type := 59, pos := "agg.go:137", after := #[], guard := none } : Oper)) rfl (fun K hK => ?_) AllReadyH.nil
  go_simp
  go_at_call 23
  refine (agg_kinds.calls _).mono ?_
  rintro e w3 ⟨gk, rfl, hkk, hb⟩
  have BGX := Aside0.mk (blk_below BG1.out hb)
  have BMX := Aside0.mk (blk_below BM1.out hb)
  have BHX := Aside0.mk (blk_below BH1.out hb)
  have BKX := Aside0.mk (blk_below BK1.out hb)
  have STX := Aside0.mk (show Step2 g m w w3 from Step2.of_below (below_step HB1.out hb))
  have hlk : (Instr.lookup 59 (.map (some gk)) (.int .i64 2) false).run Try.prog w3 = .ok (.agg #[.func (.func 31) #[] #[], .func (.func 34) #[] #[], .func (.func 35) #[] #[]]) w3 := run_lookupI hkk _ (by rfl)
  clear HSW
  have HSW := Aside0.mk (show w3.cell? ⟨g, 0, none⟩ = some (.int .i64 2) from (blk_cell BGX.out 0).trans (congrArg (fun z => some (Value.int .i64 z)) HFN.out))
  clear hkk hb
  (try dsimp only)
  refine hK.out _ _ HSW.out (fun _ => ?_)
  clear hK K
  (try simp only [Act.put, List.setIfInBounds_toArray, List.set_cons_zero, List.set_cons_succ])
  refine wpAnyH_ready (rs := [5]) (by kernel_rfl) (by simp) ?_
  refine AllReadyH.cons (o := ({ dst := some 28, op := Op.lookup 59 (Operand.tmp 23) (Operand.tmp 27) false, type := 58, pos := "agg.go:137", after := #[{ on := 0, ground := Ground.data }, { on := 4, ground := Ground.data }], guard := none } : Oper)) rfl (fun K hK => ?_) AllReadyH.nil
  go_simp
  refine hK.out _ _ HSW.out (fun _ => ?_)
  clear hK K
  (try simp only [Act.put, List.setIfInBounds_toArray, List.set_cons_zero, List.set_cons_succ])
  have hfd := run_field58_1
  refine wpAnyH_take (i := 6) (oi := ({ dst := some 29, op := Op.field 58 (Operand.tmp 28) 1, type := 55, pos := "agg.go:137", after := #[{ on := 5, ground := Ground.data }], guard := none } : Oper)) (v := ?_) rfl (by kernel_rfl) (by kernel_rfl) (by kernel_rfl) (fun _ _ _ h => h) (Or.inl ⟨by rfl, ?_⟩) HSW.out ?_
  rotate_left
  · intro w_ hS_; clear hS_; go_simp; (try (with_reducible rfl))
  (try simp only [Act.put, List.setIfInBounds_toArray, List.set_cons_zero, List.set_cons_succ])
  refine wpAnyH_ready (rs := [9]) (by kernel_rfl) (by simp) ?_
  refine AllReadyH.cons (o := ({ dst := some 32, op := Op.call { callee := Callee.value (Operand.tmp 29), args := #[Operand.tmp 30, Operand.tmp 31], argTypes := #[35, 35] }, type := 0, pos := "agg.go:137", after := #[{ on := 6, ground := Ground.data }, { on := 7, ground := Ground.data }, { on := 8, ground := Ground.data }, { on := 0, ground := Ground.chain }], guard := none } : Oper)) rfl (fun K hK => ?_) AllReadyH.nil
  clear hlk
  go_simp
  go_at_call 34
  refine (HJA.out _ BGX.out BMX.out BHX.out BKX.out).mono ?_
  rintro e w4 ⟨rfl, st4, hg4, hr4⟩
  have STY := Aside0.mk (STX.out.trans st4)
  have HRR := Aside0.mk hr4
  clear HSW
  have HSW := Aside0.mk hg4
  clear st4 hg4 hr4
  (try dsimp only)
  refine hK.out _ _ HSW.out (fun _ => ?_)
  clear hK K
  (try simp only [Act.put, List.setIfInBounds_toArray, List.set_cons_zero, List.set_cons_succ])
  refine wpAnyH_done (by kernel_rfl) ?_ _
  all_goals go_wp2
  all_goals go_end0
  all_goals exact ⟨rfl, STY.out, HRR.out⟩
theorem agg_Join.do3 (g m h k : Nat) (s t : Acc18) (es : Array MapEntry) (clock : Nat) (et : Array MapEntry) (ct : Nat) (w : World) (hg : w.heap[g]? = some (.cells (acells s m) 52 (0, 0))) (hm : w.heap[m]? = some (.map es clock)) (hh : w.heap[h]? = some (.cells (acells t k) 52 (0, 0))) (hk : w.heap[k]? = some (.map et ct)) (hfn : s.fn = 3) (hft : t.fn = 3) (R : World → Prop)
    (HJ : ∀ W : World, W.heap[g]? = some (.cells (acells s m) 52 (0, 0)) → W.heap[m]? = some (.map es clock) → W.heap[h]? = some (.cells (acells t k) 52 (0, 0)) → W.heap[k]? = some (.map et ct) → Calls Try.prog 37 #[.pointer (some ⟨g, 0, none⟩), .pointer (some ⟨h, 0, none⟩)] W fun e w' => e = .returned (.tuple #[]) ∧ Step2 g m W w' ∧ w'.cell? ⟨g, 0, none⟩ = some (.int .i64 3) ∧ R w') :
    Calls Try.prog 16 #[.pointer (some ⟨g, 0, none⟩), .pointer (some ⟨h, 0, none⟩)] w fun e w' => e = .returned (.tuple #[]) ∧ Step2 g m w w' ∧ R w' := by
  have HB := Aside0.mk (below_drew1 (Below.refl w.heap.size w))
  have BG := Aside0.mk (show w.drew.heap[g]? = some (.cells (acells s m) 52 (0, 0)) from hg)
  have BM := Aside0.mk (show w.drew.heap[m]? = some (.map es clock) from hm)
  have BH := Aside0.mk (show w.drew.heap[h]? = some (.cells (acells t k) 52 (0, 0)) from hh)
  have BK := Aside0.mk (show w.drew.heap[k]? = some (.map et ct) from hk)
  have HFN := Aside0.mk hfn
  have HFT := Aside0.mk hft
  have QN := Aside0.mk (show (s.fn == 0) = false by rw [hfn]; rfl)
  have QT := Aside0.mk (show (t.fn == 0) = false by rw [hft]; rfl)
  have HJA := Aside0.mk HJ
  have hu52 := Try.underlying52
  clear hg hm hh hk hfn hft HJ
  go_enter Try.func16, Try.ntmps16
  go_wp2
  refine wp_region_held (S := (fun W : World => W.cell? ⟨g, 0, none⟩ = some (.int .i64 3) ∧ W.cell? ⟨h, 0, none⟩ = some (.int .i64 3))) (by kernel_rfl) ?_
  obtain ⟨W0, hW0⟩ : ∃ W, W = w.drew := ⟨_, rfl⟩
  have hW0_ : ({ w with drawn := w.drawn + 1 } : World) = W0 := hW0.symm
  rw [hW0_]
  rw [← hW0] at HB BG BM BH BK
  clear hW0 hW0_
  have HSW := Aside0.mk (show W0.cell? ⟨g, 0, none⟩ = some (.int .i64 3) ∧ W0.cell? ⟨h, 0, none⟩ = some (.int .i64 3) from ⟨(blk_cell BG.out 0).trans (congrArg (fun z => some (Value.int .i64 z)) HFN.out), (blk_cell BH.out 0).trans (congrArg (fun z => some (Value.int .i64 z)) HFT.out)⟩)
  refine wpAnyH_take (i := 0) (oi := ({ dst := some 4, op := Op.move (Operand.tmp 0), type := 35, pos := "agg.go:136", after := #[], guard := none } : Oper)) (v := ?_) rfl (by kernel_rfl) (by kernel_rfl) (by kernel_rfl) (fun _ _ _ h => h) (Or.inl ⟨by rfl, ?_⟩) HSW.out ?_
  rotate_left
  · intro w_ hS_; clear hS_; go_simp; (try (with_reducible rfl))
  (try simp only [Act.put, List.setIfInBounds_toArray, List.set_cons_zero, List.set_cons_succ])
  refine wpAnyH_ready (rs := [1]) (by kernel_rfl) (by simp) ?_
  refine AllReadyH.cons (o := ({ dst := some 5, op := Op.call { callee := Callee.value (Operand.func 21), args := #[Operand.tmp 4], argTypes := #[35] }, type := 4, pos := "agg.go:136", after := #[{ on := 0, ground := Ground.data }], guard := none } : Oper)) rfl (fun K hK => ?_) AllReadyH.nil
  go_simp
  go_at_call 21
  refine (agg_none.calls g m s _ BG.out QN.out).mono ?_
  rintro e w' ⟨rfl, hw⟩
  rw [hw]
  clear hw
  (try dsimp only)
  refine hK.out _ _ HSW.out (fun _ => ?_)
  clear hK K
  (try simp only [Act.put, List.setIfInBounds_toArray, List.set_cons_zero, List.set_cons_succ])
  refine wpAnyH_take (i := 2) (oi := ({ dst := some 6, op := Op.unOp UnOp.not 4 (Operand.tmp 5), type := 4, pos := "agg.go:136", after := #[{ on := 1, ground := Ground.data }], guard := none } : Oper)) (v := ?_) rfl (by kernel_rfl) (by kernel_rfl) (by kernel_rfl) (fun _ _ _ h => h) (Or.inl ⟨by rfl, ?_⟩) HSW.out ?_
  rotate_left
  · intro w_ hS_; clear hS_; go_simp; (try (with_reducible rfl))
  (try simp only [Act.put, List.setIfInBounds_toArray, List.set_cons_zero, List.set_cons_succ])
  refine wpAnyH_take (i := 3) (oi := ({ dst := some 7, op := Op.move (Operand.tmp 6), type := 4, pos := "agg.go:136", after := #[{ on := 2, ground := Ground.data }, { on := 1, ground := Ground.chain }], guard := none } : Oper)) (v := ?_) rfl (by kernel_rfl) (by kernel_rfl) (by kernel_rfl) (fun _ _ _ h => h) (Or.inl ⟨by rfl, ?_⟩) HSW.out ?_
  rotate_left
  · intro w_ hS_; clear hS_; go_simp; (try (with_reducible rfl))
  (try simp only [Act.put, List.setIfInBounds_toArray, List.set_cons_zero, List.set_cons_succ])
  refine wpAnyH_take (i := 4) (oi := ({ dst := some 8, op := Op.move (Operand.tmp 1), type := 35, pos := "agg.go:136", after := #[{ on := 3, ground := Ground.guard }], guard := some (3, true) } : Oper)) (v := ?_) rfl (by kernel_rfl) (by kernel_rfl) (by kernel_rfl) (fun _ _ _ h => h) (Or.inl ⟨by rfl, ?_⟩) HSW.out ?_
  rotate_left
  · intro w_ hS_; clear hS_; go_simp; (try (with_reducible rfl))
  (try simp only [Act.put, List.setIfInBounds_toArray, List.set_cons_zero, List.set_cons_succ])
  refine wpAnyH_ready (rs := [5]) (by kernel_rfl) (by simp) ?_
  refine AllReadyH.cons (o := ({ dst := some 9, op := Op.call { callee := Callee.value (Operand.func 21), args := #[Operand.tmp 8], argTypes := #[35] }, type := 4, pos := "agg.go:136", after := #[{ on := 4, ground := Ground.data }, { on := 3, ground := Ground.chain }, { on := 3, ground := Ground.guard }], guard := some (3, true) } : Oper)) rfl (fun K hK => ?_) AllReadyH.nil
  go_simp
  go_at_call 21
  refine (agg_none.calls h k t _ BH.out QT.out).mono ?_
  rintro e w' ⟨rfl, hw⟩
  rw [hw]
  clear hw
  (try dsimp only)
  refine hK.out _ _ HSW.out (fun _ => ?_)
  clear hK K
  (try simp only [Act.put, List.setIfInBounds_toArray, List.set_cons_zero, List.set_cons_succ])
  refine wpAnyH_take (i := 6) (oi := ({ dst := some 10, op := Op.unOp UnOp.not 4 (Operand.tmp 9), type := 4, pos := "agg.go:136", after := #[{ on := 5, ground := Ground.data }, { on := 3, ground := Ground.guard }], guard := some (3, true) } : Oper)) (v := ?_) rfl (by kernel_rfl) (by kernel_rfl) (by kernel_rfl) (fun _ _ _ h => h) (Or.inl ⟨by rfl, ?_⟩) HSW.out ?_
  rotate_left
  · intro w_ hS_; clear hS_; go_simp; (try (with_reducible rfl))
  (try simp only [Act.put, List.setIfInBounds_toArray, List.set_cons_zero, List.set_cons_succ])
  refine wpAnyH_take (i := 7) (oi := ({ dst := some 11, op := Op.pick (Operand.tmp 7) (Operand.tmp 10) (Operand.const (Value.bool false)), type := 4, pos := "agg.go:136", after := #[{ on := 3, ground := Ground.data }, { on := 6, ground := Ground.data }], guard := none } : Oper)) (v := ?_) rfl (by kernel_rfl) (by kernel_rfl) (by kernel_rfl) (fun _ _ _ h => h) (Or.inl ⟨by rfl, ?_⟩) HSW.out ?_
  rotate_left
  · intro w_ hS_; clear hS_; go_simp; (try (with_reducible rfl))
  (try simp only [Act.put, List.setIfInBounds_toArray, List.set_cons_zero, List.set_cons_succ])
  refine wpAnyH_take (i := 8) (oi := ({ dst := some 12, op := Op.move (Operand.tmp 11), type := 4, pos := "agg.go:136", after := #[{ on := 7, ground := Ground.data }, { on := 5, ground := Ground.chain }], guard := none } : Oper)) (v := ?_) rfl (by kernel_rfl) (by kernel_rfl) (by kernel_rfl) (fun _ _ _ h => h) (Or.inl ⟨by rfl, ?_⟩) HSW.out ?_
  rotate_left
  · intro w_ hS_; clear hS_; go_simp; (try (with_reducible rfl))
  (try simp only [Act.put, List.setIfInBounds_toArray, List.set_cons_zero, List.set_cons_succ])
  refine wpAnyH_take (i := 9) (oi := ({ dst := some 13, op := Op.move (Operand.tmp 0), type := 35, pos := "agg.go:136", after := #[{ on := 8, ground := Ground.guard }], guard := some (8, true) } : Oper)) (v := ?_) rfl (by kernel_rfl) (by kernel_rfl) (by kernel_rfl) (fun _ _ _ h => h) (Or.inl ⟨by rfl, ?_⟩) HSW.out ?_
  rotate_left
  · intro w_ hS_; clear hS_; go_simp; (try (with_reducible rfl))
  (try simp only [Act.put, List.setIfInBounds_toArray, List.set_cons_zero, List.set_cons_succ])
  refine wpAnyH_take (i := 10) (oi := ({ dst := some 14, op := Op.nilCheck (Operand.tmp 13), type := 0, pos := "agg.go:136", after := #[{ on := 9, ground := Ground.data }, { on := 8, ground := Ground.guard }], guard := some (8, true) } : Oper)) (v := ?_) rfl (by kernel_rfl) (by kernel_rfl) (by kernel_rfl) (fun _ _ _ h => h) (Or.inl ⟨by rfl, ?_⟩) HSW.out ?_
  rotate_left
  · intro w_ hS_; clear hS_; go_simp; (try (with_reducible rfl))
  (try simp only [Act.put, List.setIfInBounds_toArray, List.set_cons_zero, List.set_cons_succ])
  refine wpAnyH_take (i := 11) (oi := ({ dst := some 15, op := Op.fieldAddr 52 (Operand.tmp 14) 0, type := 0, pos := "agg.go:136", after := #[{ on := 10, ground := Ground.data }, { on := 8, ground := Ground.guard }], guard := some (8, true) } : Oper)) (v := ?_) rfl (by kernel_rfl) (by kernel_rfl) (by kernel_rfl) (fun _ _ _ h => h) (Or.inl ⟨by rfl, ?_⟩) HSW.out ?_
  rotate_left
  · intro w_ hS_; clear hS_; go_simp; (try (with_reducible rfl))
  (try simp only [Act.put, List.setIfInBounds_toArray, List.set_cons_zero, List.set_cons_succ])
  refine wpAnyH_take (i := 12) (oi := ({ dst := some 16, op := Op.load 3 (Operand.tmp 15), type := 3, pos := "agg.go:136", after := #[{ on := 11, ground := Ground.data }, { on := 8, ground := Ground.guard }], guard := some (8, true) } : Oper)) (v := ?_) rfl (by kernel_rfl) (by kernel_rfl) (by kernel_rfl) (fun _ _ _ h => h) (Or.inl ⟨by rfl, ?_⟩) HSW.out ?_
  rotate_left
  · intro w_ hS_; obtain ⟨s0_, s1_⟩ := hS_; go_simp; (try (with_reducible rfl))
  (try simp only [Act.put, List.setIfInBounds_toArray, List.set_cons_zero, List.set_cons_succ])
  refine wpAnyH_take (i := 13) (oi := ({ dst := some 17, op := Op.move (Operand.tmp 1), type := 35, pos := "agg.go:136", after := #[{ on := 8, ground := Ground.guard }], guard := some (8, true) } : Oper)) (v := ?_) rfl (by kernel_rfl) (by kernel_rfl) (by kernel_rfl) (fun _ _ _ h => h) (Or.inl ⟨by rfl, ?_⟩) HSW.out ?_
  rotate_left
  · intro w_ hS_; clear hS_; go_simp; (try (with_reducible rfl))
  (try simp only [Act.put, List.setIfInBounds_toArray, List.set_cons_zero, List.set_cons_succ])
  refine wpAnyH_take (i := 14) (oi := ({ dst := some 18, op := Op.nilCheck (Operand.tmp 17), type := 0, pos := "agg.go:136", after := #[{ on := 13, ground := Ground.data }, { on := 8, ground := Ground.guard }], guard := some (8, true) } : Oper)) (v := ?_) rfl (by kernel_rfl) (by kernel_rfl) (by kernel_rfl) (fun _ _ _ h => h) (Or.inl ⟨by rfl, ?_⟩) HSW.out ?_
  rotate_left
  · intro w_ hS_; clear hS_; go_simp; (try (with_reducible rfl))
  (try simp only [Act.put, List.setIfInBounds_toArray, List.set_cons_zero, List.set_cons_succ])
  refine wpAnyH_take (i := 15) (oi := ({ dst := some 19, op := Op.fieldAddr 52 (Operand.tmp 18) 0, type := 0, pos := "agg.go:136", after := #[{ on := 14, ground := Ground.data }, { on := 8, ground := Ground.guard }], guard := some (8, true) } : Oper)) (v := ?_) rfl (by kernel_rfl) (by kernel_rfl) (by kernel_rfl) (fun _ _ _ h => h) (Or.inl ⟨by rfl, ?_⟩) HSW.out ?_
  rotate_left
  · intro w_ hS_; clear hS_; go_simp; (try (with_reducible rfl))
  (try simp only [Act.put, List.setIfInBounds_toArray, List.set_cons_zero, List.set_cons_succ])
  refine wpAnyH_take (i := 16) (oi := ({ dst := some 20, op := Op.load 3 (Operand.tmp 19), type := 3, pos := "agg.go:136", after := #[{ on := 15, ground := Ground.data }, { on := 8, ground := Ground.guard }], guard := some (8, true) } : Oper)) (v := ?_) rfl (by kernel_rfl) (by kernel_rfl) (by kernel_rfl) (fun _ _ _ h => h) (Or.inl ⟨by rfl, ?_⟩) HSW.out ?_
  rotate_left
  · intro w_ hS_; obtain ⟨s0_, s1_⟩ := hS_; go_simp; (try (with_reducible rfl))
  (try simp only [Act.put, List.setIfInBounds_toArray, List.set_cons_zero, List.set_cons_succ])
  refine wpAnyH_take (i := 17) (oi := ({ dst := some 21, op := Op.binOp BinOp.eql 3 (Operand.tmp 16) (Operand.tmp 20) 3, type := 4, pos := "agg.go:136", after := #[{ on := 12, ground := Ground.data }, { on := 16, ground := Ground.data }, { on := 8, ground := Ground.guard }], guard := some (8, true) } : Oper)) (v := ?_) rfl (by kernel_rfl) (by kernel_rfl) (by kernel_rfl) (fun _ _ _ h => h) (Or.inl ⟨by rfl, ?_⟩) HSW.out ?_
  rotate_left
  · intro w_ hS_; clear hS_; go_simp; (try (with_reducible rfl))
  (try simp only [Act.put, List.setIfInBounds_toArray, List.set_cons_zero, List.set_cons_succ])
  refine wpAnyH_take (i := 18) (oi := ({ dst := some 22, op := Op.pick (Operand.tmp 12) (Operand.tmp 21) (Operand.const (Value.bool false)), type := 4, pos := "agg.go:136", after := #[{ on := 8, ground := Ground.data }, { on := 17, ground := Ground.data }], guard := none } : Oper)) (v := ?_) rfl (by kernel_rfl) (by kernel_rfl) (by kernel_rfl) (fun _ _ _ h => h) (Or.inl ⟨by rfl, ?_⟩) HSW.out ?_
  rotate_left
  · intro w_ hS_; clear hS_; go_simp; (try (with_reducible rfl))
  (try simp only [Act.put, List.setIfInBounds_toArray, List.set_cons_zero, List.set_cons_succ])
  refine wpAnyH_done (by kernel_rfl) ?_ _
  all_goals go_wp2
  clear HSW
  refine wp_region_held (S := (fun W : World => W.cell? ⟨g, 0, none⟩ = some (.int .i64 3))) (by kernel_rfl) ?_
  have HB1 := Aside0.mk (below_drew1 HB.out)
  have BG1 := Aside0.mk (show W0.drew.heap[g]? = some (.cells (acells s m) 52 (0, 0)) from BG.out)
  have BM1 := Aside0.mk (show W0.drew.heap[m]? = some (.map es clock) from BM.out)
  have BH1 := Aside0.mk (show W0.drew.heap[h]? = some (.cells (acells t k) 52 (0, 0)) from BH.out)
  have BK1 := Aside0.mk (show W0.drew.heap[k]? = some (.map et ct) from BK.out)
  obtain ⟨W1, hW1⟩ : ∃ W, W = W0.drew := ⟨_, rfl⟩
  have hW1_ : ({ W0 with drawn := W0.drawn + 1 } : World) = W1 := hW1.symm
  rw [hW1_]
  rw [← hW1] at HB1 BG1 BM1 BH1 BK1
  clear hW1 hW1_ HB BG BM BH BK
  have HSW := Aside0.mk (show W1.cell? ⟨g, 0, none⟩ = some (.int .i64 3) from (blk_cell BG1.out 0).trans (congrArg (fun z => some (Value.int .i64 z)) HFN.out))
  refine wpAnyH_take (i := 1) (oi := ({ dst := some 24, op := Op.move (Operand.tmp 0), type := 35, pos := "agg.go:137", after := #[], guard := none } : Oper)) (v := ?_) rfl (by kernel_rfl) (by kernel_rfl) (by kernel_rfl) (fun _ _ _ h => h) (Or.inl ⟨by rfl, ?_⟩) HSW.out ?_
  rotate_left
  · intro w_ hS_; clear hS_; go_simp; (try (with_reducible rfl))
  (try simp only [Act.put, List.setIfInBounds_toArray, List.set_cons_zero, List.set_cons_succ])
  refine wpAnyH_take (i := 2) (oi := ({ dst := some 25, op := Op.nilCheck (Operand.tmp 24), type := 0, pos := "agg.go:137", after := #[{ on := 1, ground := Ground.data }], guard := none } : Oper)) (v := ?_) rfl (by kernel_rfl) (by kernel_rfl) (by kernel_rfl) (fun _ _ _ h => h) (Or.inl ⟨by rfl, ?_⟩) HSW.out ?_
  rotate_left
  · intro w_ hS_; clear hS_; go_simp; (try (with_reducible rfl))
  (try simp only [Act.put, List.setIfInBounds_toArray, List.set_cons_zero, List.set_cons_succ])
  refine wpAnyH_take (i := 3) (oi := ({ dst := some 26, op := Op.fieldAddr 52 (Operand.tmp 25) 0, type := 0, pos := "agg.go:137", after := #[{ on := 2, ground := Ground.data }], guard := none } : Oper)) (v := ?_) rfl (by kernel_rfl) (by kernel_rfl) (by kernel_rfl) (fun _ _ _ h => h) (Or.inl ⟨by rfl, ?_⟩) HSW.out ?_
  rotate_left
  · intro w_ hS_; clear hS_; go_simp; (try (with_reducible rfl))
  (try simp only [Act.put, List.setIfInBounds_toArray, List.set_cons_zero, List.set_cons_succ])
  refine wpAnyH_take (i := 4) (oi := ({ dst := some 27, op := Op.load 3 (Operand.tmp 26), type := 3, pos := "agg.go:137", after := #[{ on := 3, ground := Ground.data }], guard := none } : Oper)) (v := ?_) rfl (by kernel_rfl) (by kernel_rfl) (by kernel_rfl) (fun _ _ _ h => h) (Or.inl ⟨by rfl, ?_⟩) HSW.out ?_
  rotate_left
  · intro w_ hS_; have s0_ : w_.cell? ⟨g, 0, none⟩ = some (.int .i64 3) := hS_; go_simp; (try (with_reducible rfl))
  (try simp only [Act.put, List.setIfInBounds_toArray, List.set_cons_zero, List.set_cons_succ])
  refine wpAnyH_take (i := 7) (oi := ({ dst := some 30, op := Op.move (Operand.tmp 0), type := 35, pos := "agg.go:137", after := #[], guard := none } : Oper)) (v := ?_) rfl (by kernel_rfl) (by kernel_rfl) (by kernel_rfl) (fun _ _ _ h => h) (Or.inl ⟨by rfl, ?_⟩) HSW.out ?_
  rotate_left
  · intro w_ hS_; clear hS_; go_simp; (try (with_reducible rfl))
  (try simp only [Act.put, List.setIfInBounds_toArray, List.set_cons_zero, List.set_cons_succ])
  refine wpAnyH_take (i := 8) (oi := ({ dst := some 31, op := Op.move (Operand.tmp 1), type := 35, pos := "agg.go:137", after := #[], guard := none } : Oper)) (v := ?_) rfl (by kernel_rfl) (by kernel_rfl) (by kernel_rfl) (fun _ _ _ h => h) (Or.inl ⟨by rfl, ?_⟩) HSW.out ?_
  rotate_left
  · intro w_ hS_; clear hS_; go_simp; (try (with_reducible rfl))
  (try simp only [Act.put, List.setIfInBounds_toArray, List.set_cons_zero, List.set_cons_succ])
  refine wpAnyH_ready (rs := [0]) (by kernel_rfl) (by simp) ?_
  refine AllReadyH.cons (o := ({ dst := some 23, op := Op.call { callee := Callee.value (Operand.func 23), args := #[], argTypes := #[] }, type := 59, pos := "agg.go:137", after := #[], guard := none } : Oper)) rfl (fun K hK => ?_) AllReadyH.nil
  go_simp
  go_at_call 23
  refine (agg_kinds.calls _).mono ?_
  rintro e w3 ⟨gk, rfl, hkk, hb⟩
  have BGX := Aside0.mk (blk_below BG1.out hb)
  have BMX := Aside0.mk (blk_below BM1.out hb)
  have BHX := Aside0.mk (blk_below BH1.out hb)
  have BKX := Aside0.mk (blk_below BK1.out hb)
  have STX := Aside0.mk (show Step2 g m w w3 from Step2.of_below (below_step HB1.out hb))
  have hlk : (Instr.lookup 59 (.map (some gk)) (.int .i64 3) false).run Try.prog w3 = .ok (.agg #[.func (.func 36) #[] #[], .func (.func 37) #[] #[], .func (.func 25) #[] #[]]) w3 := run_lookupI hkk _ (by rfl)
  clear HSW
  have HSW := Aside0.mk (show w3.cell? ⟨g, 0, none⟩ = some (.int .i64 3) from (blk_cell BGX.out 0).trans (congrArg (fun z => some (Value.int .i64 z)) HFN.out))
  clear hkk hb
  (try dsimp only)
  refine hK.out _ _ HSW.out (fun _ => ?_)
  clear hK K
  (try simp only [Act.put, List.setIfInBounds_toArray, List.set_cons_zero, List.set_cons_succ])
  refine wpAnyH_ready (rs := [5]) (by kernel_rfl) (by simp) ?_
  refine AllReadyH.cons (o := ({ dst := some 28, op := Op.lookup 59 (Operand.tmp 23) (Operand.tmp 27) false, type := 58, pos := "agg.go:137", after := #[{ on := 0, ground := Ground.data }, { on := 4, ground := Ground.data }], guard := none } : Oper)) rfl (fun K hK => ?_) AllReadyH.nil
  go_simp
  refine hK.out _ _ HSW.out (fun _ => ?_)
  clear hK K
  (try simp only [Act.put, List.setIfInBounds_toArray, List.set_cons_zero, List.set_cons_succ])
  have hfd := run_field58_1
  refine wpAnyH_take (i := 6) (oi := ({ dst := some 29, op := Op.field 58 (Operand.tmp 28) 1, type := 55, pos := "agg.go:137", after := #[{ on := 5, ground := Ground.data }], guard := none } : Oper)) (v := ?_) rfl (by kernel_rfl) (by kernel_rfl) (by kernel_rfl) (fun _ _ _ h => h) (Or.inl ⟨by rfl, ?_⟩) HSW.out ?_
  rotate_left
  · intro w_ hS_; clear hS_; go_simp; (try (with_reducible rfl))
  (try simp only [Act.put, List.setIfInBounds_toArray, List.set_cons_zero, List.set_cons_succ])
  refine wpAnyH_ready (rs := [9]) (by kernel_rfl) (by simp) ?_
  refine AllReadyH.cons (o := ({ dst := some 32, op := Op.call { callee := Callee.value (Operand.tmp 29), args := #[Operand.tmp 30, Operand.tmp 31], argTypes := #[35, 35] }, type := 0, pos := "agg.go:137", after := #[{ on := 6, ground := Ground.data }, { on := 7, ground := Ground.data }, { on := 8, ground := Ground.data }, { on := 0, ground := Ground.chain }], guard := none } : Oper)) rfl (fun K hK => ?_) AllReadyH.nil
  clear hlk
  go_simp
  go_at_call 37
  refine (HJA.out _ BGX.out BMX.out BHX.out BKX.out).mono ?_
  rintro e w4 ⟨rfl, st4, hg4, hr4⟩
  have STY := Aside0.mk (STX.out.trans st4)
  have HRR := Aside0.mk hr4
  clear HSW
  have HSW := Aside0.mk hg4
  clear st4 hg4 hr4
  (try dsimp only)
  refine hK.out _ _ HSW.out (fun _ => ?_)
  clear hK K
  (try simp only [Act.put, List.setIfInBounds_toArray, List.set_cons_zero, List.set_cons_succ])
  refine wpAnyH_done (by kernel_rfl) ?_ _
  all_goals go_wp2
  all_goals go_end0
  all_goals exact ⟨rfl, STY.out, HRR.out⟩
theorem agg_Join.do4 (g m h k : Nat) (s t : Acc18) (es : Array MapEntry) (clock : Nat) (et : Array MapEntry) (ct : Nat) (w : World) (hg : w.heap[g]? = some (.cells (acells s m) 52 (0, 0))) (hm : w.heap[m]? = some (.map es clock)) (hh : w.heap[h]? = some (.cells (acells t k) 52 (0, 0))) (hk : w.heap[k]? = some (.map et ct)) (hfn : s.fn = 4) (hft : t.fn = 4) (R : World → Prop)
    (HJ : ∀ W : World, W.heap[g]? = some (.cells (acells s m) 52 (0, 0)) → W.heap[m]? = some (.map es clock) → W.heap[h]? = some (.cells (acells t k) 52 (0, 0)) → W.heap[k]? = some (.map et ct) → Calls Try.prog 37 #[.pointer (some ⟨g, 0, none⟩), .pointer (some ⟨h, 0, none⟩)] W fun e w' => e = .returned (.tuple #[]) ∧ Step2 g m W w' ∧ w'.cell? ⟨g, 0, none⟩ = some (.int .i64 4) ∧ R w') :
    Calls Try.prog 16 #[.pointer (some ⟨g, 0, none⟩), .pointer (some ⟨h, 0, none⟩)] w fun e w' => e = .returned (.tuple #[]) ∧ Step2 g m w w' ∧ R w' := by
  have HB := Aside0.mk (below_drew1 (Below.refl w.heap.size w))
  have BG := Aside0.mk (show w.drew.heap[g]? = some (.cells (acells s m) 52 (0, 0)) from hg)
  have BM := Aside0.mk (show w.drew.heap[m]? = some (.map es clock) from hm)
  have BH := Aside0.mk (show w.drew.heap[h]? = some (.cells (acells t k) 52 (0, 0)) from hh)
  have BK := Aside0.mk (show w.drew.heap[k]? = some (.map et ct) from hk)
  have HFN := Aside0.mk hfn
  have HFT := Aside0.mk hft
  have QN := Aside0.mk (show (s.fn == 0) = false by rw [hfn]; rfl)
  have QT := Aside0.mk (show (t.fn == 0) = false by rw [hft]; rfl)
  have HJA := Aside0.mk HJ
  have hu52 := Try.underlying52
  clear hg hm hh hk hfn hft HJ
  go_enter Try.func16, Try.ntmps16
  go_wp2
  refine wp_region_held (S := (fun W : World => W.cell? ⟨g, 0, none⟩ = some (.int .i64 4) ∧ W.cell? ⟨h, 0, none⟩ = some (.int .i64 4))) (by kernel_rfl) ?_
  obtain ⟨W0, hW0⟩ : ∃ W, W = w.drew := ⟨_, rfl⟩
  have hW0_ : ({ w with drawn := w.drawn + 1 } : World) = W0 := hW0.symm
  rw [hW0_]
  rw [← hW0] at HB BG BM BH BK
  clear hW0 hW0_
  have HSW := Aside0.mk (show W0.cell? ⟨g, 0, none⟩ = some (.int .i64 4) ∧ W0.cell? ⟨h, 0, none⟩ = some (.int .i64 4) from ⟨(blk_cell BG.out 0).trans (congrArg (fun z => some (Value.int .i64 z)) HFN.out), (blk_cell BH.out 0).trans (congrArg (fun z => some (Value.int .i64 z)) HFT.out)⟩)
  refine wpAnyH_take (i := 0) (oi := ({ dst := some 4, op := Op.move (Operand.tmp 0), type := 35, pos := "agg.go:136", after := #[], guard := none } : Oper)) (v := ?_) rfl (by kernel_rfl) (by kernel_rfl) (by kernel_rfl) (fun _ _ _ h => h) (Or.inl ⟨by rfl, ?_⟩) HSW.out ?_
  rotate_left
  · intro w_ hS_; clear hS_; go_simp; (try (with_reducible rfl))
  (try simp only [Act.put, List.setIfInBounds_toArray, List.set_cons_zero, List.set_cons_succ])
  refine wpAnyH_ready (rs := [1]) (by kernel_rfl) (by simp) ?_
  refine AllReadyH.cons (o := ({ dst := some 5, op := Op.call { callee := Callee.value (Operand.func 21), args := #[Operand.tmp 4], argTypes := #[35] }, type := 4, pos := "agg.go:136", after := #[{ on := 0, ground := Ground.data }], guard := none } : Oper)) rfl (fun K hK => ?_) AllReadyH.nil
  go_simp
  go_at_call 21
  refine (agg_none.calls g m s _ BG.out QN.out).mono ?_
  rintro e w' ⟨rfl, hw⟩
  rw [hw]
  clear hw
  (try dsimp only)
  refine hK.out _ _ HSW.out (fun _ => ?_)
  clear hK K
  (try simp only [Act.put, List.setIfInBounds_toArray, List.set_cons_zero, List.set_cons_succ])
  refine wpAnyH_take (i := 2) (oi := ({ dst := some 6, op := Op.unOp UnOp.not 4 (Operand.tmp 5), type := 4, pos := "agg.go:136", after := #[{ on := 1, ground := Ground.data }], guard := none } : Oper)) (v := ?_) rfl (by kernel_rfl) (by kernel_rfl) (by kernel_rfl) (fun _ _ _ h => h) (Or.inl ⟨by rfl, ?_⟩) HSW.out ?_
  rotate_left
  · intro w_ hS_; clear hS_; go_simp; (try (with_reducible rfl))
  (try simp only [Act.put, List.setIfInBounds_toArray, List.set_cons_zero, List.set_cons_succ])
  refine wpAnyH_take (i := 3) (oi := ({ dst := some 7, op := Op.move (Operand.tmp 6), type := 4, pos := "agg.go:136", after := #[{ on := 2, ground := Ground.data }, { on := 1, ground := Ground.chain }], guard := none } : Oper)) (v := ?_) rfl (by kernel_rfl) (by kernel_rfl) (by kernel_rfl) (fun _ _ _ h => h) (Or.inl ⟨by rfl, ?_⟩) HSW.out ?_
  rotate_left
  · intro w_ hS_; clear hS_; go_simp; (try (with_reducible rfl))
  (try simp only [Act.put, List.setIfInBounds_toArray, List.set_cons_zero, List.set_cons_succ])
  refine wpAnyH_take (i := 4) (oi := ({ dst := some 8, op := Op.move (Operand.tmp 1), type := 35, pos := "agg.go:136", after := #[{ on := 3, ground := Ground.guard }], guard := some (3, true) } : Oper)) (v := ?_) rfl (by kernel_rfl) (by kernel_rfl) (by kernel_rfl) (fun _ _ _ h => h) (Or.inl ⟨by rfl, ?_⟩) HSW.out ?_
  rotate_left
  · intro w_ hS_; clear hS_; go_simp; (try (with_reducible rfl))
  (try simp only [Act.put, List.setIfInBounds_toArray, List.set_cons_zero, List.set_cons_succ])
  refine wpAnyH_ready (rs := [5]) (by kernel_rfl) (by simp) ?_
  refine AllReadyH.cons (o := ({ dst := some 9, op := Op.call { callee := Callee.value (Operand.func 21), args := #[Operand.tmp 8], argTypes := #[35] }, type := 4, pos := "agg.go:136", after := #[{ on := 4, ground := Ground.data }, { on := 3, ground := Ground.chain }, { on := 3, ground := Ground.guard }], guard := some (3, true) } : Oper)) rfl (fun K hK => ?_) AllReadyH.nil
  go_simp
  go_at_call 21
  refine (agg_none.calls h k t _ BH.out QT.out).mono ?_
  rintro e w' ⟨rfl, hw⟩
  rw [hw]
  clear hw
  (try dsimp only)
  refine hK.out _ _ HSW.out (fun _ => ?_)
  clear hK K
  (try simp only [Act.put, List.setIfInBounds_toArray, List.set_cons_zero, List.set_cons_succ])
  refine wpAnyH_take (i := 6) (oi := ({ dst := some 10, op := Op.unOp UnOp.not 4 (Operand.tmp 9), type := 4, pos := "agg.go:136", after := #[{ on := 5, ground := Ground.data }, { on := 3, ground := Ground.guard }], guard := some (3, true) } : Oper)) (v := ?_) rfl (by kernel_rfl) (by kernel_rfl) (by kernel_rfl) (fun _ _ _ h => h) (Or.inl ⟨by rfl, ?_⟩) HSW.out ?_
  rotate_left
  · intro w_ hS_; clear hS_; go_simp; (try (with_reducible rfl))
  (try simp only [Act.put, List.setIfInBounds_toArray, List.set_cons_zero, List.set_cons_succ])
  refine wpAnyH_take (i := 7) (oi := ({ dst := some 11, op := Op.pick (Operand.tmp 7) (Operand.tmp 10) (Operand.const (Value.bool false)), type := 4, pos := "agg.go:136", after := #[{ on := 3, ground := Ground.data }, { on := 6, ground := Ground.data }], guard := none } : Oper)) (v := ?_) rfl (by kernel_rfl) (by kernel_rfl) (by kernel_rfl) (fun _ _ _ h => h) (Or.inl ⟨by rfl, ?_⟩) HSW.out ?_
  rotate_left
  · intro w_ hS_; clear hS_; go_simp; (try (with_reducible rfl))
  (try simp only [Act.put, List.setIfInBounds_toArray, List.set_cons_zero, List.set_cons_succ])
  refine wpAnyH_take (i := 8) (oi := ({ dst := some 12, op := Op.move (Operand.tmp 11), type := 4, pos := "agg.go:136", after := #[{ on := 7, ground := Ground.data }, { on := 5, ground := Ground.chain }], guard := none } : Oper)) (v := ?_) rfl (by kernel_rfl) (by kernel_rfl) (by kernel_rfl) (fun _ _ _ h => h) (Or.inl ⟨by rfl, ?_⟩) HSW.out ?_
  rotate_left
  · intro w_ hS_; clear hS_; go_simp; (try (with_reducible rfl))
  (try simp only [Act.put, List.setIfInBounds_toArray, List.set_cons_zero, List.set_cons_succ])
  refine wpAnyH_take (i := 9) (oi := ({ dst := some 13, op := Op.move (Operand.tmp 0), type := 35, pos := "agg.go:136", after := #[{ on := 8, ground := Ground.guard }], guard := some (8, true) } : Oper)) (v := ?_) rfl (by kernel_rfl) (by kernel_rfl) (by kernel_rfl) (fun _ _ _ h => h) (Or.inl ⟨by rfl, ?_⟩) HSW.out ?_
  rotate_left
  · intro w_ hS_; clear hS_; go_simp; (try (with_reducible rfl))
  (try simp only [Act.put, List.setIfInBounds_toArray, List.set_cons_zero, List.set_cons_succ])
  refine wpAnyH_take (i := 10) (oi := ({ dst := some 14, op := Op.nilCheck (Operand.tmp 13), type := 0, pos := "agg.go:136", after := #[{ on := 9, ground := Ground.data }, { on := 8, ground := Ground.guard }], guard := some (8, true) } : Oper)) (v := ?_) rfl (by kernel_rfl) (by kernel_rfl) (by kernel_rfl) (fun _ _ _ h => h) (Or.inl ⟨by rfl, ?_⟩) HSW.out ?_
  rotate_left
  · intro w_ hS_; clear hS_; go_simp; (try (with_reducible rfl))
  (try simp only [Act.put, List.setIfInBounds_toArray, List.set_cons_zero, List.set_cons_succ])
  refine wpAnyH_take (i := 11) (oi := ({ dst := some 15, op := Op.fieldAddr 52 (Operand.tmp 14) 0, type := 0, pos := "agg.go:136", after := #[{ on := 10, ground := Ground.data }, { on := 8, ground := Ground.guard }], guard := some (8, true) } : Oper)) (v := ?_) rfl (by kernel_rfl) (by kernel_rfl) (by kernel_rfl) (fun _ _ _ h => h) (Or.inl ⟨by rfl, ?_⟩) HSW.out ?_
  rotate_left
  · intro w_ hS_; clear hS_; go_simp; (try (with_reducible rfl))
  (try simp only [Act.put, List.setIfInBounds_toArray, List.set_cons_zero, List.set_cons_succ])
  refine wpAnyH_take (i := 12) (oi := ({ dst := some 16, op := Op.load 3 (Operand.tmp 15), type := 3, pos := "agg.go:136", after := #[{ on := 11, ground := Ground.data }, { on := 8, ground := Ground.guard }], guard := some (8, true) } : Oper)) (v := ?_) rfl (by kernel_rfl) (by kernel_rfl) (by kernel_rfl) (fun _ _ _ h => h) (Or.inl ⟨by rfl, ?_⟩) HSW.out ?_
  rotate_left
  · intro w_ hS_; obtain ⟨s0_, s1_⟩ := hS_; go_simp; (try (with_reducible rfl))
  (try simp only [Act.put, List.setIfInBounds_toArray, List.set_cons_zero, List.set_cons_succ])
  refine wpAnyH_take (i := 13) (oi := ({ dst := some 17, op := Op.move (Operand.tmp 1), type := 35, pos := "agg.go:136", after := #[{ on := 8, ground := Ground.guard }], guard := some (8, true) } : Oper)) (v := ?_) rfl (by kernel_rfl) (by kernel_rfl) (by kernel_rfl) (fun _ _ _ h => h) (Or.inl ⟨by rfl, ?_⟩) HSW.out ?_
  rotate_left
  · intro w_ hS_; clear hS_; go_simp; (try (with_reducible rfl))
  (try simp only [Act.put, List.setIfInBounds_toArray, List.set_cons_zero, List.set_cons_succ])
  refine wpAnyH_take (i := 14) (oi := ({ dst := some 18, op := Op.nilCheck (Operand.tmp 17), type := 0, pos := "agg.go:136", after := #[{ on := 13, ground := Ground.data }, { on := 8, ground := Ground.guard }], guard := some (8, true) } : Oper)) (v := ?_) rfl (by kernel_rfl) (by kernel_rfl) (by kernel_rfl) (fun _ _ _ h => h) (Or.inl ⟨by rfl, ?_⟩) HSW.out ?_
  rotate_left
  · intro w_ hS_; clear hS_; go_simp; (try (with_reducible rfl))
  (try simp only [Act.put, List.setIfInBounds_toArray, List.set_cons_zero, List.set_cons_succ])
  refine wpAnyH_take (i := 15) (oi := ({ dst := some 19, op := Op.fieldAddr 52 (Operand.tmp 18) 0, type := 0, pos := "agg.go:136", after := #[{ on := 14, ground := Ground.data }, { on := 8, ground := Ground.guard }], guard := some (8, true) } : Oper)) (v := ?_) rfl (by kernel_rfl) (by kernel_rfl) (by kernel_rfl) (fun _ _ _ h => h) (Or.inl ⟨by rfl, ?_⟩) HSW.out ?_
  rotate_left
  · intro w_ hS_; clear hS_; go_simp; (try (with_reducible rfl))
  (try simp only [Act.put, List.setIfInBounds_toArray, List.set_cons_zero, List.set_cons_succ])
  refine wpAnyH_take (i := 16) (oi := ({ dst := some 20, op := Op.load 3 (Operand.tmp 19), type := 3, pos := "agg.go:136", after := #[{ on := 15, ground := Ground.data }, { on := 8, ground := Ground.guard }], guard := some (8, true) } : Oper)) (v := ?_) rfl (by kernel_rfl) (by kernel_rfl) (by kernel_rfl) (fun _ _ _ h => h) (Or.inl ⟨by rfl, ?_⟩) HSW.out ?_
  rotate_left
  · intro w_ hS_; obtain ⟨s0_, s1_⟩ := hS_; go_simp; (try (with_reducible rfl))
  (try simp only [Act.put, List.setIfInBounds_toArray, List.set_cons_zero, List.set_cons_succ])
  refine wpAnyH_take (i := 17) (oi := ({ dst := some 21, op := Op.binOp BinOp.eql 3 (Operand.tmp 16) (Operand.tmp 20) 3, type := 4, pos := "agg.go:136", after := #[{ on := 12, ground := Ground.data }, { on := 16, ground := Ground.data }, { on := 8, ground := Ground.guard }], guard := some (8, true) } : Oper)) (v := ?_) rfl (by kernel_rfl) (by kernel_rfl) (by kernel_rfl) (fun _ _ _ h => h) (Or.inl ⟨by rfl, ?_⟩) HSW.out ?_
  rotate_left
  · intro w_ hS_; clear hS_; go_simp; (try (with_reducible rfl))
  (try simp only [Act.put, List.setIfInBounds_toArray, List.set_cons_zero, List.set_cons_succ])
  refine wpAnyH_take (i := 18) (oi := ({ dst := some 22, op := Op.pick (Operand.tmp 12) (Operand.tmp 21) (Operand.const (Value.bool false)), type := 4, pos := "agg.go:136", after := #[{ on := 8, ground := Ground.data }, { on := 17, ground := Ground.data }], guard := none } : Oper)) (v := ?_) rfl (by kernel_rfl) (by kernel_rfl) (by kernel_rfl) (fun _ _ _ h => h) (Or.inl ⟨by rfl, ?_⟩) HSW.out ?_
  rotate_left
  · intro w_ hS_; clear hS_; go_simp; (try (with_reducible rfl))
  (try simp only [Act.put, List.setIfInBounds_toArray, List.set_cons_zero, List.set_cons_succ])
  refine wpAnyH_done (by kernel_rfl) ?_ _
  all_goals go_wp2
  clear HSW
  refine wp_region_held (S := (fun W : World => W.cell? ⟨g, 0, none⟩ = some (.int .i64 4))) (by kernel_rfl) ?_
  have HB1 := Aside0.mk (below_drew1 HB.out)
  have BG1 := Aside0.mk (show W0.drew.heap[g]? = some (.cells (acells s m) 52 (0, 0)) from BG.out)
  have BM1 := Aside0.mk (show W0.drew.heap[m]? = some (.map es clock) from BM.out)
  have BH1 := Aside0.mk (show W0.drew.heap[h]? = some (.cells (acells t k) 52 (0, 0)) from BH.out)
  have BK1 := Aside0.mk (show W0.drew.heap[k]? = some (.map et ct) from BK.out)
  obtain ⟨W1, hW1⟩ : ∃ W, W = W0.drew := ⟨_, rfl⟩
  have hW1_ : ({ W0 with drawn := W0.drawn + 1 } : World) = W1 := hW1.symm
  rw [hW1_]
  rw [← hW1] at HB1 BG1 BM1 BH1 BK1
  clear hW1 hW1_ HB BG BM BH BK
  have HSW := Aside0.mk (show W1.cell? ⟨g, 0, none⟩ = some (.int .i64 4) from (blk_cell BG1.out 0).trans (congrArg (fun z => some (Value.int .i64 z)) HFN.out))
  refine wpAnyH_take (i := 1) (oi := ({ dst := some 24, op := Op.move (Operand.tmp 0), type := 35, pos := "agg.go:137", after := #[], guard := none } : Oper)) (v := ?_) rfl (by kernel_rfl) (by kernel_rfl) (by kernel_rfl) (fun _ _ _ h => h) (Or.inl ⟨by rfl, ?_⟩) HSW.out ?_
  rotate_left
  · intro w_ hS_; clear hS_; go_simp; (try (with_reducible rfl))
  (try simp only [Act.put, List.setIfInBounds_toArray, List.set_cons_zero, List.set_cons_succ])
  refine wpAnyH_take (i := 2) (oi := ({ dst := some 25, op := Op.nilCheck (Operand.tmp 24), type := 0, pos := "agg.go:137", after := #[{ on := 1, ground := Ground.data }], guard := none } : Oper)) (v := ?_) rfl (by kernel_rfl) (by kernel_rfl) (by kernel_rfl) (fun _ _ _ h => h) (Or.inl ⟨by rfl, ?_⟩) HSW.out ?_
  rotate_left
  · intro w_ hS_; clear hS_; go_simp; (try (with_reducible rfl))
  (try simp only [Act.put, List.setIfInBounds_toArray, List.set_cons_zero, List.set_cons_succ])
  refine wpAnyH_take (i := 3) (oi := ({ dst := some 26, op := Op.fieldAddr 52 (Operand.tmp 25) 0, type := 0, pos := "agg.go:137", after := #[{ on := 2, ground := Ground.data }], guard := none } : Oper)) (v := ?_) rfl (by kernel_rfl) (by kernel_rfl) (by kernel_rfl) (fun _ _ _ h => h) (Or.inl ⟨by rfl, ?_⟩) HSW.out ?_
  rotate_left
  · intro w_ hS_; clear hS_; go_simp; (try (with_reducible rfl))
  (try simp only [Act.put, List.setIfInBounds_toArray, List.set_cons_zero, List.set_cons_succ])
  refine wpAnyH_take (i := 4) (oi := ({ dst := some 27, op := Op.load 3 (Operand.tmp 26), type := 3, pos := "agg.go:137", after := #[{ on := 3, ground := Ground.data }], guard := none } : Oper)) (v := ?_) rfl (by kernel_rfl) (by kernel_rfl) (by kernel_rfl) (fun _ _ _ h => h) (Or.inl ⟨by rfl, ?_⟩) HSW.out ?_
  rotate_left
  · intro w_ hS_; have s0_ : w_.cell? ⟨g, 0, none⟩ = some (.int .i64 4) := hS_; go_simp; (try (with_reducible rfl))
  (try simp only [Act.put, List.setIfInBounds_toArray, List.set_cons_zero, List.set_cons_succ])
  refine wpAnyH_take (i := 7) (oi := ({ dst := some 30, op := Op.move (Operand.tmp 0), type := 35, pos := "agg.go:137", after := #[], guard := none } : Oper)) (v := ?_) rfl (by kernel_rfl) (by kernel_rfl) (by kernel_rfl) (fun _ _ _ h => h) (Or.inl ⟨by rfl, ?_⟩) HSW.out ?_
  rotate_left
  · intro w_ hS_; clear hS_; go_simp; (try (with_reducible rfl))
  (try simp only [Act.put, List.setIfInBounds_toArray, List.set_cons_zero, List.set_cons_succ])
  refine wpAnyH_take (i := 8) (oi := ({ dst := some 31, op := Op.move (Operand.tmp 1), type := 35, pos := "agg.go:137", after := #[], guard := none } : Oper)) (v := ?_) rfl (by kernel_rfl) (by kernel_rfl) (by kernel_rfl) (fun _ _ _ h => h) (Or.inl ⟨by rfl, ?_⟩) HSW.out ?_
  rotate_left
  · intro w_ hS_; clear hS_; go_simp; (try (with_reducible rfl))
  (try simp only [Act.put, List.setIfInBounds_toArray, List.set_cons_zero, List.set_cons_succ])
  refine wpAnyH_ready (rs := [0]) (by kernel_rfl) (by simp) ?_
  refine AllReadyH.cons (o := ({ dst := some 23, op := Op.call { callee := Callee.value (Operand.func 23), args := #[], argTypes := #[] }, type := 59, pos := "agg.go:137", after := #[], guard := none } : Oper)) rfl (fun K hK => ?_) AllReadyH.nil
  go_simp
  go_at_call 23
  refine (agg_kinds.calls _).mono ?_
  rintro e w3 ⟨gk, rfl, hkk, hb⟩
  have BGX := Aside0.mk (blk_below BG1.out hb)
  have BMX := Aside0.mk (blk_below BM1.out hb)
  have BHX := Aside0.mk (blk_below BH1.out hb)
  have BKX := Aside0.mk (blk_below BK1.out hb)
  have STX := Aside0.mk (show Step2 g m w w3 from Step2.of_below (below_step HB1.out hb))
  have hlk : (Instr.lookup 59 (.map (some gk)) (.int .i64 4) false).run Try.prog w3 = .ok (.agg #[.func (.func 36) #[] #[], .func (.func 37) #[] #[], .func (.func 26) #[] #[]]) w3 := run_lookupI hkk _ (by rfl)
  clear HSW
  have HSW := Aside0.mk (show w3.cell? ⟨g, 0, none⟩ = some (.int .i64 4) from (blk_cell BGX.out 0).trans (congrArg (fun z => some (Value.int .i64 z)) HFN.out))
  clear hkk hb
  (try dsimp only)
  refine hK.out _ _ HSW.out (fun _ => ?_)
  clear hK K
  (try simp only [Act.put, List.setIfInBounds_toArray, List.set_cons_zero, List.set_cons_succ])
  refine wpAnyH_ready (rs := [5]) (by kernel_rfl) (by simp) ?_
  refine AllReadyH.cons (o := ({ dst := some 28, op := Op.lookup 59 (Operand.tmp 23) (Operand.tmp 27) false, type := 58, pos := "agg.go:137", after := #[{ on := 0, ground := Ground.data }, { on := 4, ground := Ground.data }], guard := none } : Oper)) rfl (fun K hK => ?_) AllReadyH.nil
  go_simp
  refine hK.out _ _ HSW.out (fun _ => ?_)
  clear hK K
  (try simp only [Act.put, List.setIfInBounds_toArray, List.set_cons_zero, List.set_cons_succ])
  have hfd := run_field58_1
  refine wpAnyH_take (i := 6) (oi := ({ dst := some 29, op := Op.field 58 (Operand.tmp 28) 1, type := 55, pos := "agg.go:137", after := #[{ on := 5, ground := Ground.data }], guard := none } : Oper)) (v := ?_) rfl (by kernel_rfl) (by kernel_rfl) (by kernel_rfl) (fun _ _ _ h => h) (Or.inl ⟨by rfl, ?_⟩) HSW.out ?_
  rotate_left
  · intro w_ hS_; clear hS_; go_simp; (try (with_reducible rfl))
  (try simp only [Act.put, List.setIfInBounds_toArray, List.set_cons_zero, List.set_cons_succ])
  refine wpAnyH_ready (rs := [9]) (by kernel_rfl) (by simp) ?_
  refine AllReadyH.cons (o := ({ dst := some 32, op := Op.call { callee := Callee.value (Operand.tmp 29), args := #[Operand.tmp 30, Operand.tmp 31], argTypes := #[35, 35] }, type := 0, pos := "agg.go:137", after := #[{ on := 6, ground := Ground.data }, { on := 7, ground := Ground.data }, { on := 8, ground := Ground.data }, { on := 0, ground := Ground.chain }], guard := none } : Oper)) rfl (fun K hK => ?_) AllReadyH.nil
  clear hlk
  go_simp
  go_at_call 37
  refine (HJA.out _ BGX.out BMX.out BHX.out BKX.out).mono ?_
  rintro e w4 ⟨rfl, st4, hg4, hr4⟩
  have STY := Aside0.mk (STX.out.trans st4)
  have HRR := Aside0.mk hr4
  clear HSW
  have HSW := Aside0.mk hg4
  clear st4 hg4 hr4
  (try dsimp only)
  refine hK.out _ _ HSW.out (fun _ => ?_)
  clear hK K
  (try simp only [Act.put, List.setIfInBounds_toArray, List.set_cons_zero, List.set_cons_succ])
  refine wpAnyH_done (by kernel_rfl) ?_ _
  all_goals go_wp2
  all_goals go_end0
  all_goals exact ⟨rfl, STY.out, HRR.out⟩
theorem agg_Join.do5 (g m h k : Nat) (s t : Acc18) (es : Array MapEntry) (clock : Nat) (et : Array MapEntry) (ct : Nat) (w : World) (hg : w.heap[g]? = some (.cells (acells s m) 52 (0, 0))) (hm : w.heap[m]? = some (.map es clock)) (hh : w.heap[h]? = some (.cells (acells t k) 52 (0, 0))) (hk : w.heap[k]? = some (.map et ct)) (hfn : s.fn = 5) (hft : t.fn = 5) (R : World → Prop)
    (HJ : ∀ W : World, W.heap[g]? = some (.cells (acells s m) 52 (0, 0)) → W.heap[m]? = some (.map es clock) → W.heap[h]? = some (.cells (acells t k) 52 (0, 0)) → W.heap[k]? = some (.map et ct) → Calls Try.prog 39 #[.pointer (some ⟨g, 0, none⟩), .pointer (some ⟨h, 0, none⟩)] W fun e w' => e = .returned (.tuple #[]) ∧ Step2 g m W w' ∧ w'.cell? ⟨g, 0, none⟩ = some (.int .i64 5) ∧ R w') :
    Calls Try.prog 16 #[.pointer (some ⟨g, 0, none⟩), .pointer (some ⟨h, 0, none⟩)] w fun e w' => e = .returned (.tuple #[]) ∧ Step2 g m w w' ∧ R w' := by
  have HB := Aside0.mk (below_drew1 (Below.refl w.heap.size w))
  have BG := Aside0.mk (show w.drew.heap[g]? = some (.cells (acells s m) 52 (0, 0)) from hg)
  have BM := Aside0.mk (show w.drew.heap[m]? = some (.map es clock) from hm)
  have BH := Aside0.mk (show w.drew.heap[h]? = some (.cells (acells t k) 52 (0, 0)) from hh)
  have BK := Aside0.mk (show w.drew.heap[k]? = some (.map et ct) from hk)
  have HFN := Aside0.mk hfn
  have HFT := Aside0.mk hft
  have QN := Aside0.mk (show (s.fn == 0) = false by rw [hfn]; rfl)
  have QT := Aside0.mk (show (t.fn == 0) = false by rw [hft]; rfl)
  have HJA := Aside0.mk HJ
  have hu52 := Try.underlying52
  clear hg hm hh hk hfn hft HJ
  go_enter Try.func16, Try.ntmps16
  go_wp2
  refine wp_region_held (S := (fun W : World => W.cell? ⟨g, 0, none⟩ = some (.int .i64 5) ∧ W.cell? ⟨h, 0, none⟩ = some (.int .i64 5))) (by kernel_rfl) ?_
  obtain ⟨W0, hW0⟩ : ∃ W, W = w.drew := ⟨_, rfl⟩
  have hW0_ : ({ w with drawn := w.drawn + 1 } : World) = W0 := hW0.symm
  rw [hW0_]
  rw [← hW0] at HB BG BM BH BK
  clear hW0 hW0_
  have HSW := Aside0.mk (show W0.cell? ⟨g, 0, none⟩ = some (.int .i64 5) ∧ W0.cell? ⟨h, 0, none⟩ = some (.int .i64 5) from ⟨(blk_cell BG.out 0).trans (congrArg (fun z => some (Value.int .i64 z)) HFN.out), (blk_cell BH.out 0).trans (congrArg (fun z => some (Value.int .i64 z)) HFT.out)⟩)
  refine wpAnyH_take (i := 0) (oi := ({ dst := some 4, op := Op.move (Operand.tmp 0), type := 35, pos := "agg.go:136", after := #[], guard := none } : Oper)) (v := ?_) rfl (by kernel_rfl) (by kernel_rfl) (by kernel_rfl) (fun _ _ _ h => h) (Or.inl ⟨by rfl, ?_⟩) HSW.out ?_
  rotate_left
  · intro w_ hS_; clear hS_; go_simp; (try (with_reducible rfl))
  (try simp only [Act.put, List.setIfInBounds_toArray, List.set_cons_zero, List.set_cons_succ])
  refine wpAnyH_ready (rs := [1]) (by kernel_rfl) (by simp) ?_
  refine AllReadyH.cons (o := ({ dst := some 5, op := Op.call { callee := Callee.value (Operand.func 21), args := #[Operand.tmp 4], argTypes := #[35] }, type := 4, pos := "agg.go:136", after := #[{ on := 0, ground := Ground.data }], guard := none } : Oper)) rfl (fun K hK => ?_) AllReadyH.nil
  go_simp
  go_at_call 21
  refine (agg_none.calls g m s _ BG.out QN.out).mono ?_
  rintro e w' ⟨rfl, hw⟩
  rw [hw]
  clear hw
  (try dsimp only)
  refine hK.out _ _ HSW.out (fun _ => ?_)
  clear hK K
  (try simp only [Act.put, List.setIfInBounds_toArray, List.set_cons_zero, List.set_cons_succ])
  refine wpAnyH_take (i := 2) (oi := ({ dst := some 6, op := Op.unOp UnOp.not 4 (Operand.tmp 5), type := 4, pos := "agg.go:136", after := #[{ on := 1, ground := Ground.data }], guard := none } : Oper)) (v := ?_) rfl (by kernel_rfl) (by kernel_rfl) (by kernel_rfl) (fun _ _ _ h => h) (Or.inl ⟨by rfl, ?_⟩) HSW.out ?_
  rotate_left
  · intro w_ hS_; clear hS_; go_simp; (try (with_reducible rfl))
  (try simp only [Act.put, List.setIfInBounds_toArray, List.set_cons_zero, List.set_cons_succ])
  refine wpAnyH_take (i := 3) (oi := ({ dst := some 7, op := Op.move (Operand.tmp 6), type := 4, pos := "agg.go:136", after := #[{ on := 2, ground := Ground.data }, { on := 1, ground := Ground.chain }], guard := none } : Oper)) (v := ?_) rfl (by kernel_rfl) (by kernel_rfl) (by kernel_rfl) (fun _ _ _ h => h) (Or.inl ⟨by rfl, ?_⟩) HSW.out ?_
  rotate_left
  · intro w_ hS_; clear hS_; go_simp; (try (with_reducible rfl))
  (try simp only [Act.put, List.setIfInBounds_toArray, List.set_cons_zero, List.set_cons_succ])
  refine wpAnyH_take (i := 4) (oi := ({ dst := some 8, op := Op.move (Operand.tmp 1), type := 35, pos := "agg.go:136", after := #[{ on := 3, ground := Ground.guard }], guard := some (3, true) } : Oper)) (v := ?_) rfl (by kernel_rfl) (by kernel_rfl) (by kernel_rfl) (fun _ _ _ h => h) (Or.inl ⟨by rfl, ?_⟩) HSW.out ?_
  rotate_left
  · intro w_ hS_; clear hS_; go_simp; (try (with_reducible rfl))
  (try simp only [Act.put, List.setIfInBounds_toArray, List.set_cons_zero, List.set_cons_succ])
  refine wpAnyH_ready (rs := [5]) (by kernel_rfl) (by simp) ?_
  refine AllReadyH.cons (o := ({ dst := some 9, op := Op.call { callee := Callee.value (Operand.func 21), args := #[Operand.tmp 8], argTypes := #[35] }, type := 4, pos := "agg.go:136", after := #[{ on := 4, ground := Ground.data }, { on := 3, ground := Ground.chain }, { on := 3, ground := Ground.guard }], guard := some (3, true) } : Oper)) rfl (fun K hK => ?_) AllReadyH.nil
  go_simp
  go_at_call 21
  refine (agg_none.calls h k t _ BH.out QT.out).mono ?_
  rintro e w' ⟨rfl, hw⟩
  rw [hw]
  clear hw
  (try dsimp only)
  refine hK.out _ _ HSW.out (fun _ => ?_)
  clear hK K
  (try simp only [Act.put, List.setIfInBounds_toArray, List.set_cons_zero, List.set_cons_succ])
  refine wpAnyH_take (i := 6) (oi := ({ dst := some 10, op := Op.unOp UnOp.not 4 (Operand.tmp 9), type := 4, pos := "agg.go:136", after := #[{ on := 5, ground := Ground.data }, { on := 3, ground := Ground.guard }], guard := some (3, true) } : Oper)) (v := ?_) rfl (by kernel_rfl) (by kernel_rfl) (by kernel_rfl) (fun _ _ _ h => h) (Or.inl ⟨by rfl, ?_⟩) HSW.out ?_
  rotate_left
  · intro w_ hS_; clear hS_; go_simp; (try (with_reducible rfl))
  (try simp only [Act.put, List.setIfInBounds_toArray, List.set_cons_zero, List.set_cons_succ])
  refine wpAnyH_take (i := 7) (oi := ({ dst := some 11, op := Op.pick (Operand.tmp 7) (Operand.tmp 10) (Operand.const (Value.bool false)), type := 4, pos := "agg.go:136", after := #[{ on := 3, ground := Ground.data }, { on := 6, ground := Ground.data }], guard := none } : Oper)) (v := ?_) rfl (by kernel_rfl) (by kernel_rfl) (by kernel_rfl) (fun _ _ _ h => h) (Or.inl ⟨by rfl, ?_⟩) HSW.out ?_
  rotate_left
  · intro w_ hS_; clear hS_; go_simp; (try (with_reducible rfl))
  (try simp only [Act.put, List.setIfInBounds_toArray, List.set_cons_zero, List.set_cons_succ])
  refine wpAnyH_take (i := 8) (oi := ({ dst := some 12, op := Op.move (Operand.tmp 11), type := 4, pos := "agg.go:136", after := #[{ on := 7, ground := Ground.data }, { on := 5, ground := Ground.chain }], guard := none } : Oper)) (v := ?_) rfl (by kernel_rfl) (by kernel_rfl) (by kernel_rfl) (fun _ _ _ h => h) (Or.inl ⟨by rfl, ?_⟩) HSW.out ?_
  rotate_left
  · intro w_ hS_; clear hS_; go_simp; (try (with_reducible rfl))
  (try simp only [Act.put, List.setIfInBounds_toArray, List.set_cons_zero, List.set_cons_succ])
  refine wpAnyH_take (i := 9) (oi := ({ dst := some 13, op := Op.move (Operand.tmp 0), type := 35, pos := "agg.go:136", after := #[{ on := 8, ground := Ground.guard }], guard := some (8, true) } : Oper)) (v := ?_) rfl (by kernel_rfl) (by kernel_rfl) (by kernel_rfl) (fun _ _ _ h => h) (Or.inl ⟨by rfl, ?_⟩) HSW.out ?_
  rotate_left
  · intro w_ hS_; clear hS_; go_simp; (try (with_reducible rfl))
  (try simp only [Act.put, List.setIfInBounds_toArray, List.set_cons_zero, List.set_cons_succ])
  refine wpAnyH_take (i := 10) (oi := ({ dst := some 14, op := Op.nilCheck (Operand.tmp 13), type := 0, pos := "agg.go:136", after := #[{ on := 9, ground := Ground.data }, { on := 8, ground := Ground.guard }], guard := some (8, true) } : Oper)) (v := ?_) rfl (by kernel_rfl) (by kernel_rfl) (by kernel_rfl) (fun _ _ _ h => h) (Or.inl ⟨by rfl, ?_⟩) HSW.out ?_
  rotate_left
  · intro w_ hS_; clear hS_; go_simp; (try (with_reducible rfl))
  (try simp only [Act.put, List.setIfInBounds_toArray, List.set_cons_zero, List.set_cons_succ])
  refine wpAnyH_take (i := 11) (oi := ({ dst := some 15, op := Op.fieldAddr 52 (Operand.tmp 14) 0, type := 0, pos := "agg.go:136", after := #[{ on := 10, ground := Ground.data }, { on := 8, ground := Ground.guard }], guard := some (8, true) } : Oper)) (v := ?_) rfl (by kernel_rfl) (by kernel_rfl) (by kernel_rfl) (fun _ _ _ h => h) (Or.inl ⟨by rfl, ?_⟩) HSW.out ?_
  rotate_left
  · intro w_ hS_; clear hS_; go_simp; (try (with_reducible rfl))
  (try simp only [Act.put, List.setIfInBounds_toArray, List.set_cons_zero, List.set_cons_succ])
  refine wpAnyH_take (i := 12) (oi := ({ dst := some 16, op := Op.load 3 (Operand.tmp 15), type := 3, pos := "agg.go:136", after := #[{ on := 11, ground := Ground.data }, { on := 8, ground := Ground.guard }], guard := some (8, true) } : Oper)) (v := ?_) rfl (by kernel_rfl) (by kernel_rfl) (by kernel_rfl) (fun _ _ _ h => h) (Or.inl ⟨by rfl, ?_⟩) HSW.out ?_
  rotate_left
  · intro w_ hS_; obtain ⟨s0_, s1_⟩ := hS_; go_simp; (try (with_reducible rfl))
  (try simp only [Act.put, List.setIfInBounds_toArray, List.set_cons_zero, List.set_cons_succ])
  refine wpAnyH_take (i := 13) (oi := ({ dst := some 17, op := Op.move (Operand.tmp 1), type := 35, pos := "agg.go:136", after := #[{ on := 8, ground := Ground.guard }], guard := some (8, true) } : Oper)) (v := ?_) rfl (by kernel_rfl) (by kernel_rfl) (by kernel_rfl) (fun _ _ _ h => h) (Or.inl ⟨by rfl, ?_⟩) HSW.out ?_
  rotate_left
  · intro w_ hS_; clear hS_; go_simp; (try (with_reducible rfl))
  (try simp only [Act.put, List.setIfInBounds_toArray, List.set_cons_zero, List.set_cons_succ])
  refine wpAnyH_take (i := 14) (oi := ({ dst := some 18, op := Op.nilCheck (Operand.tmp 17), type := 0, pos := "agg.go:136", after := #[{ on := 13, ground := Ground.data }, { on := 8, ground := Ground.guard }], guard := some (8, true) } : Oper)) (v := ?_) rfl (by kernel_rfl) (by kernel_rfl) (by kernel_rfl) (fun _ _ _ h => h) (Or.inl ⟨by rfl, ?_⟩) HSW.out ?_
  rotate_left
  · intro w_ hS_; clear hS_; go_simp; (try (with_reducible rfl))
  (try simp only [Act.put, List.setIfInBounds_toArray, List.set_cons_zero, List.set_cons_succ])
  refine wpAnyH_take (i := 15) (oi := ({ dst := some 19, op := Op.fieldAddr 52 (Operand.tmp 18) 0, type := 0, pos := "agg.go:136", after := #[{ on := 14, ground := Ground.data }, { on := 8, ground := Ground.guard }], guard := some (8, true) } : Oper)) (v := ?_) rfl (by kernel_rfl) (by kernel_rfl) (by kernel_rfl) (fun _ _ _ h => h) (Or.inl ⟨by rfl, ?_⟩) HSW.out ?_
  rotate_left
  · intro w_ hS_; clear hS_; go_simp; (try (with_reducible rfl))
  (try simp only [Act.put, List.setIfInBounds_toArray, List.set_cons_zero, List.set_cons_succ])
  refine wpAnyH_take (i := 16) (oi := ({ dst := some 20, op := Op.load 3 (Operand.tmp 19), type := 3, pos := "agg.go:136", after := #[{ on := 15, ground := Ground.data }, { on := 8, ground := Ground.guard }], guard := some (8, true) } : Oper)) (v := ?_) rfl (by kernel_rfl) (by kernel_rfl) (by kernel_rfl) (fun _ _ _ h => h) (Or.inl ⟨by rfl, ?_⟩) HSW.out ?_
  rotate_left
  · intro w_ hS_; obtain ⟨s0_, s1_⟩ := hS_; go_simp; (try (with_reducible rfl))
  (try simp only [Act.put, List.setIfInBounds_toArray, List.set_cons_zero, List.set_cons_succ])
  refine wpAnyH_take (i := 17) (oi := ({ dst := some 21, op := Op.binOp BinOp.eql 3 (Operand.tmp 16) (Operand.tmp 20) 3, type := 4, pos := "agg.go:136", after := #[{ on := 12, ground := Ground.data }, { on := 16, ground := Ground.data }, { on := 8, ground := Ground.guard }], guard := some (8, true) } : Oper)) (v := ?_) rfl (by kernel_rfl) (by kernel_rfl) (by kernel_rfl) (fun _ _ _ h => h) (Or.inl ⟨by rfl, ?_⟩) HSW.out ?_
  rotate_left
  · intro w_ hS_; clear hS_; go_simp; (try (with_reducible rfl))
  (try simp only [Act.put, List.setIfInBounds_toArray, List.set_cons_zero, List.set_cons_succ])
  refine wpAnyH_take (i := 18) (oi := ({ dst := some 22, op := Op.pick (Operand.tmp 12) (Operand.tmp 21) (Operand.const (Value.bool false)), type := 4, pos := "agg.go:136", after := #[{ on := 8, ground := Ground.data }, { on := 17, ground := Ground.data }], guard := none } : Oper)) (v := ?_) rfl (by kernel_rfl) (by kernel_rfl) (by kernel_rfl) (fun _ _ _ h => h) (Or.inl ⟨by rfl, ?_⟩) HSW.out ?_
  rotate_left
  · intro w_ hS_; clear hS_; go_simp; (try (with_reducible rfl))
  (try simp only [Act.put, List.setIfInBounds_toArray, List.set_cons_zero, List.set_cons_succ])
  refine wpAnyH_done (by kernel_rfl) ?_ _
  all_goals go_wp2
  clear HSW
  refine wp_region_held (S := (fun W : World => W.cell? ⟨g, 0, none⟩ = some (.int .i64 5))) (by kernel_rfl) ?_
  have HB1 := Aside0.mk (below_drew1 HB.out)
  have BG1 := Aside0.mk (show W0.drew.heap[g]? = some (.cells (acells s m) 52 (0, 0)) from BG.out)
  have BM1 := Aside0.mk (show W0.drew.heap[m]? = some (.map es clock) from BM.out)
  have BH1 := Aside0.mk (show W0.drew.heap[h]? = some (.cells (acells t k) 52 (0, 0)) from BH.out)
  have BK1 := Aside0.mk (show W0.drew.heap[k]? = some (.map et ct) from BK.out)
  obtain ⟨W1, hW1⟩ : ∃ W, W = W0.drew := ⟨_, rfl⟩
  have hW1_ : ({ W0 with drawn := W0.drawn + 1 } : World) = W1 := hW1.symm
  rw [hW1_]
  rw [← hW1] at HB1 BG1 BM1 BH1 BK1
  clear hW1 hW1_ HB BG BM BH BK
  have HSW := Aside0.mk (show W1.cell? ⟨g, 0, none⟩ = some (.int .i64 5) from (blk_cell BG1.out 0).trans (congrArg (fun z => some (Value.int .i64 z)) HFN.out))
  refine wpAnyH_take (i := 1) (oi := ({ dst := some 24, op := Op.move (Operand.tmp 0), type := 35, pos := "agg.go:137", after := #[], guard := none } : Oper)) (v := ?_) rfl (by kernel_rfl) (by kernel_rfl) (by kernel_rfl) (fun _ _ _ h => h) (Or.inl ⟨by rfl, ?_⟩) HSW.out ?_
  rotate_left
  · intro w_ hS_; clear hS_; go_simp; (try (with_reducible rfl))
  (try simp only [Act.put, List.setIfInBounds_toArray, List.set_cons_zero, List.set_cons_succ])
  refine wpAnyH_take (i := 2) (oi := ({ dst := some 25, op := Op.nilCheck (Operand.tmp 24), type := 0, pos := "agg.go:137", after := #[{ on := 1, ground := Ground.data }], guard := none } : Oper)) (v := ?_) rfl (by kernel_rfl) (by kernel_rfl) (by kernel_rfl) (fun _ _ _ h => h) (Or.inl ⟨by rfl, ?_⟩) HSW.out ?_
  rotate_left
  · intro w_ hS_; clear hS_; go_simp; (try (with_reducible rfl))
  (try simp only [Act.put, List.setIfInBounds_toArray, List.set_cons_zero, List.set_cons_succ])
  refine wpAnyH_take (i := 3) (oi := ({ dst := some 26, op := Op.fieldAddr 52 (Operand.tmp 25) 0, type := 0, pos := "agg.go:137", after := #[{ on := 2, ground := Ground.data }], guard := none } : Oper)) (v := ?_) rfl (by kernel_rfl) (by kernel_rfl) (by kernel_rfl) (fun _ _ _ h => h) (Or.inl ⟨by rfl, ?_⟩) HSW.out ?_
  rotate_left
  · intro w_ hS_; clear hS_; go_simp; (try (with_reducible rfl))
  (try simp only [Act.put, List.setIfInBounds_toArray, List.set_cons_zero, List.set_cons_succ])
  refine wpAnyH_take (i := 4) (oi := ({ dst := some 27, op := Op.load 3 (Operand.tmp 26), type := 3, pos := "agg.go:137", after := #[{ on := 3, ground := Ground.data }], guard := none } : Oper)) (v := ?_) rfl (by kernel_rfl) (by kernel_rfl) (by kernel_rfl) (fun _ _ _ h => h) (Or.inl ⟨by rfl, ?_⟩) HSW.out ?_
  rotate_left
  · intro w_ hS_; have s0_ : w_.cell? ⟨g, 0, none⟩ = some (.int .i64 5) := hS_; go_simp; (try (with_reducible rfl))
  (try simp only [Act.put, List.setIfInBounds_toArray, List.set_cons_zero, List.set_cons_succ])
  refine wpAnyH_take (i := 7) (oi := ({ dst := some 30, op := Op.move (Operand.tmp 0), type := 35, pos := "agg.go:137", after := #[], guard := none } : Oper)) (v := ?_) rfl (by kernel_rfl) (by kernel_rfl) (by kernel_rfl) (fun _ _ _ h => h) (Or.inl ⟨by rfl, ?_⟩) HSW.out ?_
  rotate_left
  · intro w_ hS_; clear hS_; go_simp; (try (with_reducible rfl))
  (try simp only [Act.put, List.setIfInBounds_toArray, List.set_cons_zero, List.set_cons_succ])
  refine wpAnyH_take (i := 8) (oi := ({ dst := some 31, op := Op.move (Operand.tmp 1), type := 35, pos := "agg.go:137", after := #[], guard := none } : Oper)) (v := ?_) rfl (by kernel_rfl) (by kernel_rfl) (by kernel_rfl) (fun _ _ _ h => h) (Or.inl ⟨by rfl, ?_⟩) HSW.out ?_
  rotate_left
  · intro w_ hS_; clear hS_; go_simp; (try (with_reducible rfl))
  (try simp only [Act.put, List.setIfInBounds_toArray, List.set_cons_zero, List.set_cons_succ])
  refine wpAnyH_ready (rs := [0]) (by kernel_rfl) (by simp) ?_
  refine AllReadyH.cons (o := ({ dst := some 23, op := Op.call { callee := Callee.value (Operand.func 23), args := #[], argTypes := #[] }, type := 59, pos := "agg.go:137", after := #[], guard := none } : Oper)) rfl (fun K hK => ?_) AllReadyH.nil
  go_simp
  go_at_call 23
  refine (agg_kinds.calls _).mono ?_
  rintro e w3 ⟨gk, rfl, hkk, hb⟩
  have BGX := Aside0.mk (blk_below BG1.out hb)
  have BMX := Aside0.mk (blk_below BM1.out hb)
  have BHX := Aside0.mk (blk_below BH1.out hb)
  have BKX := Aside0.mk (blk_below BK1.out hb)
  have STX := Aside0.mk (show Step2 g m w w3 from Step2.of_below (below_step HB1.out hb))
  have hlk : (Instr.lookup 59 (.map (some gk)) (.int .i64 5) false).run Try.prog w3 = .ok (.agg #[.func (.func 38) #[] #[], .func (.func 39) #[] #[], .func (.func 40) #[] #[]]) w3 := run_lookupI hkk _ (by rfl)
  clear HSW
  have HSW := Aside0.mk (show w3.cell? ⟨g, 0, none⟩ = some (.int .i64 5) from (blk_cell BGX.out 0).trans (congrArg (fun z => some (Value.int .i64 z)) HFN.out))
  clear hkk hb
  (try dsimp only)
  refine hK.out _ _ HSW.out (fun _ => ?_)
  clear hK K
  (try simp only [Act.put, List.setIfInBounds_toArray, List.set_cons_zero, List.set_cons_succ])
  refine wpAnyH_ready (rs := [5]) (by kernel_rfl) (by simp) ?_
  refine AllReadyH.cons (o := ({ dst := some 28, op := Op.lookup 59 (Operand.tmp 23) (Operand.tmp 27) false, type := 58, pos := "agg.go:137", after := #[{ on := 0, ground := Ground.data }, { on := 4, ground := Ground.data }], guard := none } : Oper)) rfl (fun K hK => ?_) AllReadyH.nil
  go_simp
  refine hK.out _ _ HSW.out (fun _ => ?_)
  clear hK K
  (try simp only [Act.put, List.setIfInBounds_toArray, List.set_cons_zero, List.set_cons_succ])
  have hfd := run_field58_1
  refine wpAnyH_take (i := 6) (oi := ({ dst := some 29, op := Op.field 58 (Operand.tmp 28) 1, type := 55, pos := "agg.go:137", after := #[{ on := 5, ground := Ground.data }], guard := none } : Oper)) (v := ?_) rfl (by kernel_rfl) (by kernel_rfl) (by kernel_rfl) (fun _ _ _ h => h) (Or.inl ⟨by rfl, ?_⟩) HSW.out ?_
  rotate_left
  · intro w_ hS_; clear hS_; go_simp; (try (with_reducible rfl))
  (try simp only [Act.put, List.setIfInBounds_toArray, List.set_cons_zero, List.set_cons_succ])
  refine wpAnyH_ready (rs := [9]) (by kernel_rfl) (by simp) ?_
  refine AllReadyH.cons (o := ({ dst := some 32, op := Op.call { callee := Callee.value (Operand.tmp 29), args := #[Operand.tmp 30, Operand.tmp 31], argTypes := #[35, 35] }, type := 0, pos := "agg.go:137", after := #[{ on := 6, ground := Ground.data }, { on := 7, ground := Ground.data }, { on := 8, ground := Ground.data }, { on := 0, ground := Ground.chain }], guard := none } : Oper)) rfl (fun K hK => ?_) AllReadyH.nil
  clear hlk
  go_simp
  go_at_call 39
  refine (HJA.out _ BGX.out BMX.out BHX.out BKX.out).mono ?_
  rintro e w4 ⟨rfl, st4, hg4, hr4⟩
  have STY := Aside0.mk (STX.out.trans st4)
  have HRR := Aside0.mk hr4
  clear HSW
  have HSW := Aside0.mk hg4
  clear st4 hg4 hr4
  (try dsimp only)
  refine hK.out _ _ HSW.out (fun _ => ?_)
  clear hK K
  (try simp only [Act.put, List.setIfInBounds_toArray, List.set_cons_zero, List.set_cons_succ])
  refine wpAnyH_done (by kernel_rfl) ?_ _
  all_goals go_wp2
  all_goals go_end0
  all_goals exact ⟨rfl, STY.out, HRR.out⟩
/-- What joining another one makes of an aggregate. -/
def JoinR (s t s' : Acc18) : Prop :=
  if s.fn = 1 then s' = { s with n := wrap64 (s.n + t.n) }
  else if s.fn = 2 then s' = { s with n := wrap64 (s.n + t.n), tot := s.tot + t.tot }
  else if s.fn = 5 then ∃ ks : List S26, (∀ v, v ∈ ks ↔ v ∈ t.seen) ∧ s' = { s with seen := ks.foldl addV s.seen }
  else s' = if 0 < t.n then { spS (spS s t.lo) t.hi with n := wrap64 (s.n + t.n) } else s
theorem agg_Join.calls (g m h k : Nat) (s t : Acc18) (w : World) (hI : IsAccB w g m s) (hJ : IsAccB w h k t) (hft : t.fn = s.fn) (h1 : 1 ≤ s.fn) (h2 : s.fn < 6) (hgh : h ≠ g) (hmk : m ≠ k) :
    Calls Try.prog 16 #[.pointer (some ⟨g, 0, none⟩), .pointer (some ⟨h, 0, none⟩)] w fun e w' => e = .returned (.tuple #[]) ∧ Step2 g m w w' ∧ ∃ s', JoinR s t s' ∧ IsAccB w' g m s' := by
  have hne := hI.acc.ne
  obtain ⟨hg, es, clock, hm, hs, hbo⟩ := hI
  obtain ⟨hh, et, ct, hk, ht, hbt⟩ := hJ
  have cell0 : ∀ {W : World} {s' : Acc18} {n : Int}, W.heap[g]? = some (.cells (acells s' m) 52 (0, 0)) → s'.fn = n → W.cell? ⟨g, 0, none⟩ = some (.int .i64 n) := fun hW hn => (blk_cell hW 0).trans (congrArg (fun z => some (Value.int .i64 z)) hn)
  have hk5 : s.fn = 1 ∨ s.fn = 2 ∨ s.fn = 3 ∨ s.fn = 4 ∨ s.fn = 5 := by omega
  rcases hk5 with f | f | f | f | f
  · refine agg_Join.do1 g m h k s t es clock et ct w hg hm hh hk f (hft.trans f) _ (fun W hgW hmW hhW hkW => (agg_joinCount.calls g m h k s t W hgW hhW).mono fun e w' q => ?_)
    obtain ⟨he, st, hg'⟩ := q
    exact ⟨he, Step.two st (.inl rfl), cell0 hg' f, { s with n := wrap64 (s.n + t.n) }, by unfold JoinR; rw [if_pos f], hg', es, clock, st.blk hmW hne, hs, fun h5 => (by have h6 : s.fn = 5 := h5; omega)⟩
  · refine agg_Join.do2 g m h k s t es clock et ct w hg hm hh hk f (hft.trans f) _ (fun W hgW hmW hhW hkW => (agg_joinSum.calls g m h k s t W hgW hhW).mono fun e w' q => ?_)
    obtain ⟨he, st, hg'⟩ := q
    exact ⟨he, Step.two st (.inl rfl), cell0 hg' f, { s with n := wrap64 (s.n + t.n), tot := s.tot + t.tot }, by unfold JoinR; rw [if_neg (by omega), if_pos f], hg', es, clock, st.blk hmW hne, hs, fun h5 => (by have h6 : s.fn = 5 := h5; omega)⟩
  · refine agg_Join.do3 g m h k s t es clock et ct w hg hm hh hk f (hft.trans f) _ (fun W hgW hmW hhW hkW => ?_)
    by_cases hp : 0 < t.n
    · refine (agg_ends.yes_ g m h k s t W hgW hhW hgh (decide_eq_true hp)).mono fun e w' q => ?_
      obtain ⟨he, st, hg'⟩ := q
      exact ⟨he, Step.two st (.inl rfl), cell0 hg' f, { spS (spS s t.lo) t.hi with n := wrap64 (s.n + t.n) }, by unfold JoinR; rw [if_neg (by omega), if_neg (by omega), if_neg (by omega), if_pos hp], hg', es, clock, st.blk hmW hne, hs, fun h5 => (by have h6 : s.fn = 5 := h5; omega)⟩
    · refine (agg_ends.no_ g m h k s t W hgW hhW hgh (decide_eq_false hp)).mono fun e w' q => ?_
      obtain ⟨he, rfl⟩ := q
      exact ⟨he, Step2.of_below (Below.refl _ _), cell0 hgW f, s, by unfold JoinR; rw [if_neg (by omega), if_neg (by omega), if_neg (by omega), if_neg hp], hgW, es, clock, hmW, hs, fun h5 => (by have h6 : s.fn = 5 := h5; omega)⟩
  · refine agg_Join.do4 g m h k s t es clock et ct w hg hm hh hk f (hft.trans f) _ (fun W hgW hmW hhW hkW => ?_)
    by_cases hp : 0 < t.n
    · refine (agg_ends.yes_ g m h k s t W hgW hhW hgh (decide_eq_true hp)).mono fun e w' q => ?_
      obtain ⟨he, st, hg'⟩ := q
      exact ⟨he, Step.two st (.inl rfl), cell0 hg' f, { spS (spS s t.lo) t.hi with n := wrap64 (s.n + t.n) }, by unfold JoinR; rw [if_neg (by omega), if_neg (by omega), if_neg (by omega), if_pos hp], hg', es, clock, st.blk hmW hne, hs, fun h5 => (by have h6 : s.fn = 5 := h5; omega)⟩
    · refine (agg_ends.no_ g m h k s t W hgW hhW hgh (decide_eq_false hp)).mono fun e w' q => ?_
      obtain ⟨he, rfl⟩ := q
      exact ⟨he, Step2.of_below (Below.refl _ _), cell0 hgW f, s, by unfold JoinR; rw [if_neg (by omega), if_neg (by omega), if_neg (by omega), if_neg hp], hgW, es, clock, hmW, hs, fun h5 => (by have h6 : s.fn = 5 := h5; omega)⟩
  · refine agg_Join.do5 g m h k s t es clock et ct w hg hm hh hk f (hft.trans f) _ (fun W hgW hmW hhW hkW => (agg_joinSeen.calls g m h k s t W hgW hhW hmk es clock hmW hs (hbo f) et ct hkW ht (hbt (hft.trans f))).mono fun e w' q => ?_)
    obtain ⟨he, st, hg', ks, es', clk, hm', hs', hb', hks⟩ := q
    exact ⟨he, st, cell0 hg' f, { s with seen := ks.foldl addV s.seen }, by unfold JoinR; rw [if_neg (by omega), if_neg (by omega), if_pos f]; exact ⟨ks, hks, rfl⟩, hg', es', clk, hm', hs', fun _ => hb'⟩
theorem nodup_len {α : Type} : ∀ (a b : List α), a.Nodup → (∀ x, x ∈ a → x ∈ b) → a.length ≤ b.length
  | [], b, _, _ => Nat.zero_le _
  | x :: t, b, hn, hs => by
    obtain ⟨b1, b2, rfl⟩ := List.append_of_mem (hs x (List.mem_cons_self ..))
    have hx := (List.nodup_cons.1 hn)
    have := nodup_len t (b1 ++ b2) hx.2 (fun y hy => by
      have h := hs y (List.mem_cons_of_mem _ hy)
      rw [List.mem_append, List.mem_cons] at h
      rw [List.mem_append]
      rcases h with h | rfl | h
      · exact .inl h
      · exact absurd hy hx.1
      · exact .inr h)
    simp only [List.length_append, List.length_cons] at this ⊢
    omega
theorem mem_addV_iff {l : List S26} {v x : S26} : x ∈ addV l v ↔ x ∈ l ∨ x = v := by
  constructor
  · intro h
    unfold addV at h
    split at h
    · rw [List.mem_append, List.mem_singleton] at h
      exact h
    · exact .inl h
  · rintro (h | rfl)
    · exact sub_addV v h
    · exact mem_addV l x
theorem nodup_addV {l : List S26} (v : S26) (h : l.Nodup) : (addV l v).Nodup := by
  unfold addV
  cases hf : findV v l 0 with
  | none =>
    rw [if_pos (by rfl), List.nodup_append]
    refine ⟨h, by simp, ?_⟩
    intro x hx y hy
    rw [List.mem_singleton] at hy
    subst hy
    intro e
    subst e
    exact findV_none.1 hf hx
  | some j => rw [if_neg (by simp)]; exact h
theorem mem_foldV {x : S26} : ∀ (ks acc : List S26), x ∈ ks.foldl addV acc ↔ x ∈ acc ∨ x ∈ ks
  | [], acc => by simp
  | k :: t, acc => by
    rw [List.foldl_cons, mem_foldV t, mem_addV_iff, List.mem_cons, or_assoc]
theorem nodup_foldV : ∀ (ks acc : List S26), acc.Nodup → (ks.foldl addV acc).Nodup
  | [], acc, h => h
  | k :: t, acc, h => by
    rw [List.foldl_cons]
    exact nodup_foldV t _ (nodup_addV k h)
theorem foldV_same {a b : List S26} (ha : a.Nodup) (hb : b.Nodup) (h : ∀ x, x ∈ a ↔ x ∈ b) : a.length = b.length :=
  Nat.le_antisymm (nodup_len a b ha fun x hx => (h x).1 hx) (nodup_len b a hb fun x hx => (h x).2 hx)
theorem tsum_perm {a b : List Int} (h : a.Perm b) : tsum a = tsum b := by
  induction h with
  | nil => rfl
  | cons x _ ih => rw [tsum, tsum, ih]
  | swap x y l => simp only [tsum]; omega
  | trans _ _ i1 i2 => exact i1.trans i2
/-- a is as good as b. -/
def bt (fn : Int) (a b : S26) : Prop := (fn = 3 ∧ ov a b ≤ 0) ∨ (fn = 4 ∧ 0 ≤ ov a b)
theorem ov_anti (a b : S26) : ov a b = -ov b a := V.ord_anti _ _
theorem ov_self_ (a : S26) : ov a a = 0 := V.ord_self _
theorem bt_refl {fn : Int} (h : fn = 3 ∨ fn = 4) (a : S26) : bt fn a a := by
  have := ov_self_ a
  rcases h with h | h
  · exact .inl ⟨h, by omega⟩
  · exact .inr ⟨h, by omega⟩
theorem bt_trans {fn : Int} {a b c : S26} (h1 : bt fn a b) (h2 : bt fn b c) : bt fn a c := by
  rcases h1 with ⟨f1, h1⟩ | ⟨f1, h1⟩ <;> rcases h2 with ⟨f2, h2⟩ | ⟨f2, h2⟩
  · exact .inl ⟨f1, V.ord_le h1 h2⟩
  · omega
  · omega
  · refine .inr ⟨f1, ?_⟩
    have a1 := ov_anti a b
    have a2 := ov_anti b c
    have a3 := ov_anti a c
    have h : ov c a ≤ 0 := V.ord_le (x := toV c) (y := toV b) (z := toV a) (by show ov c b ≤ 0; omega) (by show ov b a ≤ 0; omega)
    omega
theorem bt_anti {fn : Int} {a b : S26} (ha : mv a = true) (hb : mv b = true) (h1 : bt fn a b) (h2 : bt fn b a) : a = b := by
  have a1 := ov_anti a b
  have h0 : ov a b = 0 := by rcases h1 with ⟨f1, h1⟩ | ⟨f1, h1⟩ <;> rcases h2 with ⟨f2, h2⟩ | ⟨f2, h2⟩ <;> omega
  have h := (V.ord_zero (x := toV a) (y := toV b) ha hb).1 h0
  cases a; cases b
  unfold toV at h
  injection h with e0 e1 e2 e3
  simp only at e0 e1 e2 e3
  subst e0 e1 e2 e3
  rfl
theorem pick_bt {fn : Int} (h : fn = 3 ∨ fn = 4) (b x : S26) : bt fn (pick fn b x) b ∧ bt fn (pick fn b x) x := by
  have a1 := ov_anti x b
  unfold pick
  by_cases hc : (fn = 3 ∧ ov x b < 0) ∨ (fn = 4 ∧ 0 < ov x b)
  · rw [if_pos hc]
    refine ⟨?_, bt_refl h x⟩
    rcases hc with ⟨f, hc⟩ | ⟨f, hc⟩
    · exact .inl ⟨f, by omega⟩
    · exact .inr ⟨f, by omega⟩
  · rw [if_neg hc]
    refine ⟨bt_refl h b, ?_⟩
    rcases h with h | h
    · exact .inl ⟨h, by omega⟩
    · exact .inr ⟨h, by omega⟩
theorem fold_bt {fn : Int} (h : fn = 3 ∨ fn = 4) : ∀ (t : List S26) (b : S26), bt fn (t.foldl (pick fn) b) b ∧ ∀ y ∈ t, bt fn (t.foldl (pick fn) b) y
  | [], b => ⟨bt_refl h b, fun y hy => by cases hy⟩
  | x :: t, b => by
    obtain ⟨h1, h2⟩ := fold_bt h t (pick fn b x)
    obtain ⟨p1, p2⟩ := pick_bt h b x
    rw [List.foldl_cons]
    refine ⟨bt_trans h1 p1, fun y hy => ?_⟩
    rcases List.mem_cons.1 hy with rfl | hy
    · exact bt_trans h1 p2
    · exact h2 y hy
theorem best_bt {fn : Int} (h : fn = 3 ∨ fn = 4) {L : List S26} {y : S26} (hy : y ∈ L) : bt fn (bestS fn L) y := by
  cases L with
  | nil => cases hy
  | cons x t =>
    obtain ⟨h1, h2⟩ := fold_bt h t x
    rcases List.mem_cons.1 hy with rfl | hy
    · exact h1
    · exact h2 y hy
theorem best_uniq {fn : Int} (h : fn = 3 ∨ fn = 4) {L L' : List S26} (hL : ∀ x ∈ L, mv x = true) (hL' : ∀ x ∈ L', mv x = true) (n1 : L ≠ []) (n2 : L' ≠ [])
    (h1 : ∀ y ∈ L', ∃ x ∈ L, bt fn x y) (h2 : ∀ y ∈ L, ∃ x ∈ L', bt fn x y) : bestS fn L = bestS fn L' := by
  have m1 := best_mem fn n1
  have m2 := best_mem fn n2
  obtain ⟨x, hx, hb⟩ := h1 _ m2
  obtain ⟨x', hx', hb'⟩ := h2 _ m1
  exact bt_anti (hL _ m1) (hL' _ m2) (bt_trans (best_bt h hx) hb) (bt_trans (best_bt h hx') hb')
theorem own_mv {fn : Int} {l : List S26} : ∀ x ∈ ownS fn l, mv x = true := fun x hx => (own_kind hx).2.1
theorem best_perm {fn : Int} (h : fn = 3 ∨ fn = 4) {l l' : List S26} (hp : (ownS fn l).Perm (ownS fn l')) : bestS fn (ownS fn l) = bestS fn (ownS fn l') := by
  cases hl : ownS fn l with
  | nil =>
    rw [hl] at hp
    rw [hp.nil_eq.symm]
  | cons a t =>
    rw [← hl]
    have n1 : ownS fn l ≠ [] := by rw [hl]; simp
    have n2 : ownS fn l' ≠ [] := fun e => by rw [e] at hp; exact n1 hp.eq_nil
    exact best_uniq h own_mv own_mv n1 n2 (fun y hy => ⟨y, hp.mem_iff.2 hy, bt_refl h y⟩) (fun y hy => ⟨y, hp.mem_iff.1 hy, bt_refl h y⟩)
/-- In which order values are added does not matter. -/
theorem order_perm {fn : Int} (h1 : 1 ≤ fn) (h2 : fn < 6) {l l' : List S26} (hp : l.Perm l') (hl : l.length ≤ 1000) : toldS fn l = toldS fn l' := by
  rw [toldS_own h1 h2 hl, toldS_own h1 h2 (by rw [← hp.length_eq]; exact hl)]
  have ho : ∀ g, (ownS g l).Perm (ownS g l') := fun g => hp.filter _
  rw [(ho 1).length_eq, (ho 2).length_eq, tsum_perm ((ho 2).map _), best_perm (.inl rfl) (ho 3), best_perm (.inr rfl) (ho 4)]
  have h5 : ((ownS 5 l).foldl addV []).length = ((ownS 5 l').foldl addV []).length :=
    foldV_same (nodup_foldV _ _ List.nodup_nil) (nodup_foldV _ _ List.nodup_nil) (fun x => by rw [mem_foldV, mem_foldV, (ho 5).mem_iff])
  rw [h5]
theorem fold_n34 : ∀ (l : List S26) (s : Acc18), (s.fn = 3 ∨ s.fn = 4) → 0 ≤ s.n → s.n + l.length ≤ 1000000 → (l.foldl addS s).n = s.n + l.length
  | [], s, _, _, _ => by simp
  | x :: t, s, h, h0, h1 => by
    simp only [List.length_cons] at h1 ⊢
    have hn : (addS s x).n = s.n + 1 := by rw [addS_34 h]; exact wrap1 h0 (by omega)
    rw [List.foldl_cons, fold_n34 t (addS s x) (by rw [addS_fn]; exact h) (by rw [hn]; omega) (by rw [hn]; omega), hn]
    omega
theorem own_app2 (fn : Int) (l m : List S26) : ownS fn (l ++ m) = ownS fn l ++ ownS fn m := List.filter_append ..
theorem fold_tell {fn : Int} (h1 : 1 ≤ fn) (h2 : fn < 6) (l : List S26) : valS (l.foldl takeS (new18 fn)) = toldS fn l := by
  unfold toldS
  rw [if_neg (by omega)]
theorem join_fn {s t s' : Acc18} (h : JoinR s t s') : s'.fn = s.fn := by
  unfold JoinR at h
  split at h
  · rw [h]
  · split at h
    · rw [h]
    · split at h
      · obtain ⟨ks, _, rfl⟩ := h; rfl
      · rw [h]; split <;> rfl
theorem join_tot {s t s' : Acc18} {B C : Int} (hB : -B ≤ s.tot ∧ s.tot ≤ B) (hC : -C ≤ t.tot ∧ t.tot ≤ C) (hC0 : 0 ≤ C) (h : JoinR s t s') : -(B + C) ≤ s'.tot ∧ s'.tot ≤ B + C := by
  have own : -(B + C) ≤ s.tot ∧ s.tot ≤ B + C := by omega
  unfold JoinR at h
  split at h
  · rw [h]; exact own
  · split at h
    · rw [h]; show -(B + C) ≤ s.tot + t.tot ∧ s.tot + t.tot ≤ B + C; omega
    · split at h
      · obtain ⟨ks, _, rfl⟩ := h; exact own
      · rw [h]
        split
        · exact own
        · exact own
theorem best_join {fn : Int} (h : fn = 3 ∨ fn = 4) (gn : Int) (hg : gn = 3 ∨ gn = 4) {l m : List S26} (hm : ownS fn m ≠ []) : bestS gn (ownS fn l ++ [bestS 3 (ownS fn m), bestS 4 (ownS fn m)]) = bestS gn (ownS fn l ++ ownS fn m) := by
  have m3 := best_mem 3 hm
  have m4 := best_mem 4 hm
  refine best_uniq hg ?_ ?_ (by simp) (by simp [hm]) ?_ ?_
  · intro x hx
    simp only [List.mem_append, List.mem_cons, List.not_mem_nil, or_false] at hx
    rcases hx with hx | rfl | rfl
    · exact own_mv x hx
    · exact own_mv _ m3
    · exact own_mv _ m4
  · intro x hx
    rw [List.mem_append] at hx
    rcases hx with hx | hx
    · exact own_mv x hx
    · exact own_mv x hx
  · intro y hy
    rw [List.mem_append] at hy
    rcases hy with hy | hy
    · exact ⟨y, List.mem_append_left _ hy, bt_refl hg y⟩
    · rcases hg with rfl | rfl
      · exact ⟨_, List.mem_append_right _ (List.mem_cons_self ..), best_bt (.inl rfl) hy⟩
      · exact ⟨_, List.mem_append_right _ (List.mem_cons_of_mem _ (List.mem_cons_self ..)), best_bt (.inr rfl) hy⟩
  · intro y hy
    simp only [List.mem_append, List.mem_cons, List.not_mem_nil, or_false] at hy
    rcases hy with hy | rfl | rfl
    · exact ⟨y, List.mem_append_left _ hy, bt_refl hg y⟩
    · exact ⟨_, List.mem_append_right _ m3, bt_refl hg _⟩
    · exact ⟨_, List.mem_append_right _ m4, bt_refl hg _⟩
theorem spS_add {s : Acc18} (h : s.fn = 3 ∨ s.fn = 4) (v : S26) : spS s v = addS s v := (addS_34 h v).symm
/-- What is joined comes to what all values come to. -/
theorem order_join {fn : Int} (h1 : 1 ≤ fn) (h2 : fn < 6) {l m : List S26} (hl : l.length ≤ 100) (hm : m.length ≤ 100) {s' : Acc18}
    (hJ : JoinR (l.foldl takeS (new18 fn)) (m.foldl takeS (new18 fn)) s') : valS s' = toldS fn (l ++ m) := by
  have hO := ownS_len fn l
  have hP := ownS_len fn m
  have f1 : (l.foldl takeS (new18 fn)).fn = fn := fold_fn (new18 fn) l
  have f3 := join_fn hJ
  rw [toldS_own h1 h2 (by rw [List.length_append]; omega)]
  rw [fold_own (fn := fn) l (new18 fn) rfl, fold_own (fn := fn) m (new18 fn) rfl] at hJ
  rw [fold_own (fn := fn) l (new18 fn) rfl] at f1 f3
  rw [f1] at f3
  have f2 : ((ownS fn m).foldl addS (new18 fn)).fn = fn := by
    have := fold_fn (new18 fn) m
    rw [fold_own (fn := fn) m (new18 fn) rfl] at this
    exact this
  unfold JoinR at hJ
  rw [f1] at hJ
  unfold valS
  rw [f3]
  by_cases k1 : fn = 1
  · subst k1
    rw [if_pos rfl] at hJ
    rw [if_pos rfl, if_pos rfl, hJ, own_app2, List.length_append]
    show (num26 (wrap64 (_ + _)), (0 : Int)) = _
    rw [fold_1 (ownS 1 l) (new18 1) rfl (by decide) (by show (0 : Int) + _ ≤ _; omega), fold_1 (ownS 1 m) (new18 1) rfl (by decide) (by show (0 : Int) + _ ≤ _; omega)]
    have e : (new18 1).n = 0 := rfl
    rw [e, Int.zero_add, Int.zero_add, wrapI (by omega) (by omega)]
    simp
  · rw [if_neg k1] at hJ
    rw [if_neg k1, if_neg k1]
    by_cases k2 : fn = 2
    · subst k2
      rw [if_pos rfl] at hJ
      rw [if_pos rfl, if_pos rfl, hJ, own_app2, List.length_append, List.map_append, tsum_app]
      have hk : ∀ l : List S26, ∀ x ∈ ownS 2 l, x.f0 = 1 := fun l x hx => by
        have := (List.mem_filter.1 hx).2
        unfold own1 at this
        simp only [ne_eq, not_true_eq_false, decide_false, Bool.false_or, Bool.and_eq_true, decide_eq_true_eq] at this
        exact this.2.2
      obtain ⟨a, b⟩ := fold_2 (ownS 2 l) (new18 2) rfl (hk l) (by decide) (by show (0 : Int) + _ ≤ _; omega)
      obtain ⟨c, d⟩ := fold_2 (ownS 2 m) (new18 2) rfl (hk m) (by decide) (by show (0 : Int) + _ ≤ _; omega)
      dsimp only
      have e : (new18 2).n = 0 := rfl
      have e' : (new18 2).tot = 0 := rfl
      rw [a, b, c, d, e, e', Int.zero_add, Int.zero_add, Int.zero_add, Int.zero_add, wrapI (by omega) (by omega)]
      by_cases h0 : (ownS 2 l).length + (ownS 2 m).length = 0
      · rw [if_pos (by omega), if_pos h0]
      · rw [if_neg (by omega), if_neg h0]
        rfl
    · rw [if_neg k2] at hJ
      rw [if_neg k2, if_neg k2]
      by_cases k5 : fn = 5
      · subst k5
        rw [if_pos rfl] at hJ
        obtain ⟨ks, hks, rfl⟩ := hJ
        rw [if_neg (by decide), if_neg (by decide), if_neg (by decide), if_neg (by decide), own_app2]
        dsimp only
        rw [fold_5 (ownS 5 l) (new18 5) rfl]
        rw [fold_5 (ownS 5 m) (new18 5) rfl] at hks
        have e : (new18 5).seen = [] := rfl
        rw [e]
        rw [e] at hks
        have hh : (ks.foldl addV ((ownS 5 l).foldl addV [])).length = ((ownS 5 l ++ ownS 5 m).foldl addV []).length :=
          foldV_same (nodup_foldV _ _ (nodup_foldV _ _ List.nodup_nil)) (nodup_foldV _ _ List.nodup_nil) (fun x => by
            rw [mem_foldV, mem_foldV, mem_foldV, hks x, mem_foldV, List.mem_append]
            simp)
        rw [hh]
      · rw [if_neg k5] at hJ
        have k34 : fn = 3 ∨ fn = 4 := by omega
        have nm := fold_n34 (ownS fn m) (new18 fn) k34 (by show (0 : Int) ≤ 0; omega) (by show (0 : Int) + _ ≤ _; omega)
        have e : (new18 fn).n = 0 := rfl
        rw [e, Int.zero_add] at nm
        have key : s'.lo = bestS 3 (ownS fn l ++ ownS fn m) ∧ s'.hi = bestS 4 (ownS fn l ++ ownS fn m) := by
          by_cases h0 : ownS fn m = []
          · rw [h0, List.length_nil] at nm
            rw [if_neg (by rw [h0, nm]; decide)] at hJ
            rw [hJ, h0, List.append_nil]
            exact best_34 fn k34 (ownS fn l) (by omega)
          · have hpos : 0 < (ownS fn m).length := List.length_pos_iff.2 h0
            rw [if_pos (by rw [nm]; omega)] at hJ
            have b := best_34 fn k34 (ownS fn m) (by omega)
            have k1' : ((ownS fn l).foldl addS (new18 fn)).fn = 3 ∨ ((ownS fn l).foldl addS (new18 fn)).fn = 4 := by rw [f1]; exact k34
            rw [b.1, b.2, spS_add k1', spS_add (by rw [addS_fn]; exact k1')] at hJ
            have ff : addS (addS ((ownS fn l).foldl addS (new18 fn)) (bestS 3 (ownS fn m))) (bestS 4 (ownS fn m)) = (ownS fn l ++ [bestS 3 (ownS fn m), bestS 4 (ownS fn m)]).foldl addS (new18 fn) := by
              rw [List.foldl_append]; rfl
            rw [ff] at hJ
            have c := best_34 fn k34 (ownS fn l ++ [bestS 3 (ownS fn m), bestS 4 (ownS fn m)]) (by rw [List.length_append]; simp only [List.length_cons, List.length_nil]; omega)
            rw [hJ]
            refine ⟨?_, ?_⟩
            · show (List.foldl addS (new18 fn) _).lo = _
              rw [c.1]; exact best_join k34 3 (.inl rfl) h0
            · show (List.foldl addS (new18 fn) _).hi = _
              rw [c.2]; exact best_join k34 4 (.inr rfl) h0
        rcases k34 with rfl | rfl
        · rw [if_pos rfl, if_pos rfl, key.1, own_app2]
        · rw [if_neg (by decide), if_pos rfl, if_neg (by decide), if_pos rfl, key.2, own_app2]
/-- All eight blocks lie below x. -/
def Up8 (x ga ma gb mb gc mc gd md : Nat) : Prop := ga < x ∧ ma < x ∧ gb < x ∧ mb < x ∧ gc < x ∧ mc < x ∧ gd < x ∧ md < x
/-- Each pair was made behind the one ahead. -/
def Dis8 (w0 ga ma gb mb gc mc gd md : Nat) : Prop := ∃ n1 n2 n3, w0 ≤ ga ∧ w0 ≤ ma ∧ ga < n1 ∧ ma < n1 ∧ n1 ≤ gb ∧ n1 ≤ mb ∧ gb < n2 ∧ mb < n2 ∧ n2 ≤ gc ∧ n2 ≤ mc ∧ gc < n3 ∧ mc < n3 ∧ n3 ≤ gd ∧ n3 ≤ md
structure Four (w wr : World) (ga ma gb mb gc mc gd md : Nat) (sa sb sc sd : Acc18) : Prop where
  below : Below w.heap.size w wr
  dis : Dis8 w.heap.size ga ma gb mb gc mc gd md
  ia : IsAccB wr ga ma sa
  ib : IsAccB wr gb mb sb
  ic : IsAccB wr gc mc sc
  id : IsAccB wr gd md sd
section
variable {w wr w' : World} {ga ma gb mb gc mc gd md : Nat} {sa sb sc sd s' : Acc18}
theorem IsAccB.lt {w : World} {g m : Nat} {s : Acc18} (h : IsAccB w g m s) : g < w.heap.size ∧ m < w.heap.size := by
  obtain ⟨hg, es, clock, hm, _⟩ := h
  exact ⟨blk_lt hg, blk_lt hm⟩
theorem Four.up (h : Four w wr ga ma gb mb gc mc gd md sa sb sc sd) : Up8 wr.heap.size ga ma gb mb gc mc gd md := ⟨h.ia.lt.1, h.ia.lt.2, h.ib.lt.1, h.ib.lt.2, h.ic.lt.1, h.ic.lt.2, h.id.lt.1, h.id.lt.2⟩
theorem Four.addA (h : Four w wr ga ma gb mb gc mc gd md sa sb sc sd) (st : Step2 ga ma wr w') (hi : IsAccB w' ga ma s') : Four w w' ga ma gb mb gc mc gd md s' sb sc sd := by
  have hd := h.dis
  obtain ⟨n1, n2, n3, e1, e2, e3, e4, e5, e6, e7, e8, e9, e10, e11, e12, e13, e14⟩ := hd
  exact ⟨st.low h.below e1 e2, h.dis, hi, h.ib.step2 st (by omega) (by omega) (by omega) (by omega), h.ic.step2 st (by omega) (by omega) (by omega) (by omega), h.id.step2 st (by omega) (by omega) (by omega) (by omega)⟩
theorem Four.addB (h : Four w wr ga ma gb mb gc mc gd md sa sb sc sd) (st : Step2 gb mb wr w') (hi : IsAccB w' gb mb s') : Four w w' ga ma gb mb gc mc gd md sa s' sc sd := by
  have hd := h.dis
  obtain ⟨n1, n2, n3, e1, e2, e3, e4, e5, e6, e7, e8, e9, e10, e11, e12, e13, e14⟩ := hd
  exact ⟨st.low h.below (by omega) (by omega), h.dis, h.ia.step2 st (by omega) (by omega) (by omega) (by omega), hi, h.ic.step2 st (by omega) (by omega) (by omega) (by omega), h.id.step2 st (by omega) (by omega) (by omega) (by omega)⟩
theorem Four.addC (h : Four w wr ga ma gb mb gc mc gd md sa sb sc sd) (st : Step2 gc mc wr w') (hi : IsAccB w' gc mc s') : Four w w' ga ma gb mb gc mc gd md sa sb s' sd := by
  have hd := h.dis
  obtain ⟨n1, n2, n3, e1, e2, e3, e4, e5, e6, e7, e8, e9, e10, e11, e12, e13, e14⟩ := hd
  exact ⟨st.low h.below (by omega) (by omega), h.dis, h.ia.step2 st (by omega) (by omega) (by omega) (by omega), h.ib.step2 st (by omega) (by omega) (by omega) (by omega), hi, h.id.step2 st (by omega) (by omega) (by omega) (by omega)⟩
theorem Four.addD (h : Four w wr ga ma gb mb gc mc gd md sa sb sc sd) (st : Step2 gd md wr w') (hi : IsAccB w' gd md s') : Four w w' ga ma gb mb gc mc gd md sa sb sc s' := by
  have hd := h.dis
  obtain ⟨n1, n2, n3, e1, e2, e3, e4, e5, e6, e7, e8, e9, e10, e11, e12, e13, e14⟩ := hd
  exact ⟨st.low h.below (by omega) (by omega), h.dis, h.ia.step2 st (by omega) (by omega) (by omega) (by omega), h.ib.step2 st (by omega) (by omega) (by omega) (by omega), h.ic.step2 st (by omega) (by omega) (by omega) (by omega), hi⟩
theorem Four.below_ (h : Four w wr ga ma gb mb gc mc gd md sa sb sc sd) (hb : Below wr.heap.size wr w') : Four w w' ga ma gb mb gc mc gd md sa sb sc sd :=
  ⟨below_step h.below hb, h.dis, h.ia.below hb, h.ib.below hb, h.ic.below hb, h.id.below hb⟩
theorem Four.step (h : Four w wr ga ma gb mb gc mc gd md sa sb sc sd) {x : Nat} (st : Step x wr w') (hx : Up8 x ga ma gb mb gc mc gd md) : Four w w' ga ma gb mb gc mc gd md sa sb sc sd := by
  have hd := h.dis
  obtain ⟨n1, n2, n3, e1, e2, e3, e4, e5, e6, e7, e8, e9, e10, e11, e12, e13, e14⟩ := hd
  obtain ⟨u1, u2, u3, u4, u5, u6, u7, u8⟩ := hx
  exact ⟨st.fresh h.below (by omega), h.dis, h.ia.step st (by omega) (by omega), h.ib.step st (by omega) (by omega), h.ic.step st (by omega) (by omega), h.id.step st (by omega) (by omega)⟩
/-- A block above all eight is not written by what an aggregate writes. -/
theorem Up8.blkA {x : Nat} (hx : Up8 x ga ma gb mb gc mc gd md) {o : Obj} (hb : wr.heap[x]? = some o) (st : Step2 ga ma wr w') : w'.heap[x]? = some o := by
  obtain ⟨u1, u2, u3, u4, u5, u6, u7, u8⟩ := hx
  exact st.blk hb (by omega) (by omega)
theorem Up8.blkB {x : Nat} (hx : Up8 x ga ma gb mb gc mc gd md) {o : Obj} (hb : wr.heap[x]? = some o) (st : Step2 gb mb wr w') : w'.heap[x]? = some o := by
  obtain ⟨u1, u2, u3, u4, u5, u6, u7, u8⟩ := hx
  exact st.blk hb (by omega) (by omega)
theorem Four.ab (h : Four w wr ga ma gb mb gc mc gd md sa sb sc sd) : gb ≠ ga ∧ ma ≠ mb := by
  have hd := h.dis
  obtain ⟨n1, n2, n3, e1, e2, e3, e4, e5, e6, e7, e8, e9, e10, e11, e12, e13, e14⟩ := hd
  exact ⟨by omega, by omega⟩
theorem Four.bd (h : Four w wr ga ma gb mb gc mc gd md sa sb sc sd) : gd ≠ gb ∧ mb ≠ md := by
  have hd := h.dis
  obtain ⟨n1, n2, n3, e1, e2, e3, e4, e5, e6, e7, e8, e9, e10, e11, e12, e13, e14⟩ := hd
  exact ⟨by omega, by omega⟩
end
theorem rd_rev {l : List S26} {k : Nat} (hk : k < l.length) : rd_T26 l.reverse (k : Int) = rd_T26 l ((l.length : Int) - 1 - (k : Int)) := by
  have e : (l.length : Int) - 1 - (k : Int) = ((l.length - 1 - k : Nat) : Int) := by omega
  rw [e]
  unfold rd_T26
  rw [Int.toNat_natCast, Int.toNat_natCast, List.getD_eq_getElem?_getD, List.getD_eq_getElem?_getD, List.getElem?_reverse hk]
theorem rd_mem {l : List S26} {i : Int} (h0 : 0 ≤ i) (h1 : i < (l.length : Int)) : rd_T26 l i ∈ l := by
  obtain ⟨k, rfl⟩ := Int.eq_ofNat_of_zero_le h0
  have hk : k < l.length := by omega
  show l.getD _ _ ∈ l
  rw [Int.toNat_natCast, List.getD_eq_getElem?_getD, List.getElem?_eq_getElem hk]
  exact List.getElem_mem hk
def BT (s : Acc18) : Prop := -85070591730234615865843651857942052864 ≤ s.tot ∧ s.tot ≤ 85070591730234615865843651857942052864
def BS (s : Acc18) : Prop := -3689348814741910323200 ≤ s.tot ∧ s.tot ≤ 3689348814741910323200
theorem BS.bt {s : Acc18} (h : BS s) : BT s := ⟨by have := h.1; omega, by have := h.2; omega⟩
theorem fold_bs {fn : Int} {l : List S26} (ho : okI l) (hl : l.length ≤ 200) : BS (l.foldl takeS (new18 fn)) := by
  have h := fold_tot l (new18 fn) 0 ho ⟨by simp [new18], by simp [new18]⟩
  exact ⟨by have := h.1; omega, by have := h.2; omega⟩
theorem join_bt {s t s' : Acc18} (hs : BS s) (ht : BS t) (h : JoinR s t s') : BT s' := by
  have := join_tot (B := 3689348814741910323200) (C := 3689348814741910323200) hs ht (by decide) h
  exact ⟨by omega, by omega⟩
theorem winnowerlaw18_AggOrder.no1 (fn : Int) (l : List S26) (A : Option Addr) (c : Nat) (m : List S26) (B : Option Addr) (d : Nat) (w : World) (hr : Kd.C k26 w A l.length l) (hc : l.length ≤ c) (ho : okI l) (hr2 : Kd.C k26 w B m.length m) (hc2 : m.length ≤ d) (ho2 : okI m) (b2 : Bool) (hf : fewS l = false) (hf2 : fewS m = b2) :
    Calls Try.prog 6 #[.int .i64 fn, .slice A l.length c, .slice B m.length d] w fun e w' => e = .returned (.bool true) ∧ Below w.heap.size w w' := by
  have HB := Aside0.mk (Below.refl w.heap.size w)
  have HR := Aside0.mk hr
  have HC := Aside0.mk hc
  have HO := Aside0.mk ho
  have HR2 := Aside0.mk hr2
  have HC2 := Aside0.mk hc2
  have HO2 := Aside0.mk ho2
  have hu26 := Try.underlying26
  clear hr hc ho hr2 hc2 ho2
  have HF := Aside0.mk (show winnowerlaw18_few.f (l.length + 1) l = some false by rw [few_tell, hf])
  have HF2 := Aside0.mk (show winnowerlaw18_few.f (m.length + 1) m = some b2 by rw [few_tell, hf2])
  clear hf hf2
  go_enter Try.func6, Try.ntmps6
  go_wp2_with (first
    | ((with_reducible refine gate_callee (f := 7) rfl ?_); refine goesL_ (some 34) rfl rfl Try.func7 (by kernel_rfl) rfl #[] rfl (by (try simp only [List.map_toArray, List.map_cons, List.map_nil]); first | done | rfl) ?_; go_loud (refine (winnowerlaw18_awake.calls _).mono ?_); rintro e w1 ⟨rfl, hb⟩; refine ⟨_, rfl, ?_⟩; have b_HB := Aside0.mk (below_step HB.out hb); clear HB hb; have HB := b_HB; clear b_HB)
    | ((with_reducible refine gate_callee (f := 8) rfl ?_); refine goesL_ (some 36) rfl rfl Try.func8 (by kernel_rfl) rfl #[.slice A l.length c] rfl (by (try simp only [List.map_toArray, List.map_cons, List.map_nil]); first | done | rfl) ?_; go_loud (refine (winnowerlaw18_few.calls (l.length + 1) A c l false _ (Kd.C_below HR.out HB.out) HC.out HF.out).mono ?_); rintro e w2 ⟨rfl, hd⟩; refine ⟨_, rfl, ?_⟩; have hb := hd.below; clear hd; have b_HB := Aside0.mk (below_step HB.out hb); clear HB hb; have HB := b_HB; clear b_HB)
    | ((with_reducible refine gate_callee (f := 8) rfl ?_); refine goesL_ (some 38) rfl rfl Try.func8 (by kernel_rfl) rfl #[.slice B m.length d] rfl (by (try simp only [List.map_toArray, List.map_cons, List.map_nil]); first | done | rfl) ?_; go_loud (refine (winnowerlaw18_few.calls (m.length + 1) B d m b2 _ (Kd.C_below HR2.out HB.out) HC2.out HF2.out).mono ?_); rintro e w3 ⟨rfl, hd⟩; refine ⟨_, rfl, ?_⟩; have hb := hd.below; clear hd; have b_HB := Aside0.mk (below_step HB.out hb); clear HB hb; have HB := b_HB; clear b_HB))
  go_ret
  exact ⟨rfl, HB.out⟩
theorem winnowerlaw18_AggOrder.no2 (fn : Int) (l : List S26) (A : Option Addr) (c : Nat) (m : List S26) (B : Option Addr) (d : Nat) (w : World) (hr : Kd.C k26 w A l.length l) (hc : l.length ≤ c) (ho : okI l) (hr2 : Kd.C k26 w B m.length m) (hc2 : m.length ≤ d) (ho2 : okI m) (hf : fewS l = true) (hf2 : fewS m = false) :
    Calls Try.prog 6 #[.int .i64 fn, .slice A l.length c, .slice B m.length d] w fun e w' => e = .returned (.bool true) ∧ Below w.heap.size w w' := by
  have HB := Aside0.mk (Below.refl w.heap.size w)
  have HR := Aside0.mk hr
  have HC := Aside0.mk hc
  have HO := Aside0.mk ho
  have HR2 := Aside0.mk hr2
  have HC2 := Aside0.mk hc2
  have HO2 := Aside0.mk ho2
  have hu26 := Try.underlying26
  clear hr hc ho hr2 hc2 ho2
  have HF := Aside0.mk (show winnowerlaw18_few.f (l.length + 1) l = some true by rw [few_tell, hf])
  have HF2 := Aside0.mk (show winnowerlaw18_few.f (m.length + 1) m = some false by rw [few_tell, hf2])
  clear hf hf2
  go_enter Try.func6, Try.ntmps6
  go_wp2_with (first
    | ((with_reducible refine gate_callee (f := 7) rfl ?_); refine goesL_ (some 34) rfl rfl Try.func7 (by kernel_rfl) rfl #[] rfl (by (try simp only [List.map_toArray, List.map_cons, List.map_nil]); first | done | rfl) ?_; go_loud (refine (winnowerlaw18_awake.calls _).mono ?_); rintro e w1 ⟨rfl, hb⟩; refine ⟨_, rfl, ?_⟩; have b_HB := Aside0.mk (below_step HB.out hb); clear HB hb; have HB := b_HB; clear b_HB)
    | ((with_reducible refine gate_callee (f := 8) rfl ?_); refine goesL_ (some 36) rfl rfl Try.func8 (by kernel_rfl) rfl #[.slice A l.length c] rfl (by (try simp only [List.map_toArray, List.map_cons, List.map_nil]); first | done | rfl) ?_; go_loud (refine (winnowerlaw18_few.calls (l.length + 1) A c l true _ (Kd.C_below HR.out HB.out) HC.out HF.out).mono ?_); rintro e w2 ⟨rfl, hd⟩; refine ⟨_, rfl, ?_⟩; have hb := hd.below; clear hd; have b_HB := Aside0.mk (below_step HB.out hb); clear HB hb; have HB := b_HB; clear b_HB)
    | ((with_reducible refine gate_callee (f := 8) rfl ?_); refine goesL_ (some 38) rfl rfl Try.func8 (by kernel_rfl) rfl #[.slice B m.length d] rfl (by (try simp only [List.map_toArray, List.map_cons, List.map_nil]); first | done | rfl) ?_; go_loud (refine (winnowerlaw18_few.calls (m.length + 1) B d m false _ (Kd.C_below HR2.out HB.out) HC2.out HF2.out).mono ?_); rintro e w3 ⟨rfl, hd⟩; refine ⟨_, rfl, ?_⟩; have hb := hd.below; clear hd; have b_HB := Aside0.mk (below_step HB.out hb); clear HB hb; have HB := b_HB; clear b_HB))
  go_ret
  exact ⟨rfl, HB.out⟩
theorem winnowerlaw18_AggOrder.bad1 (fn : Int) (l : List S26) (A : Option Addr) (c : Nat) (m : List S26) (B : Option Addr) (d : Nat) (w : World) (hr : Kd.C k26 w A l.length l) (hc : l.length ≤ c) (ho : okI l) (hr2 : Kd.C k26 w B m.length m) (hc2 : m.length ≤ d) (ho2 : okI m) (hf : fewS l = true) (hf2 : fewS m = true) (q1 : decide (fn < 1) = true) :
    Calls Try.prog 6 #[.int .i64 fn, .slice A l.length c, .slice B m.length d] w fun e w' => e = .returned (.bool true) ∧ Below w.heap.size w w' := by
  have HB := Aside0.mk (Below.refl w.heap.size w)
  have HR := Aside0.mk hr
  have HC := Aside0.mk hc
  have HO := Aside0.mk ho
  have HR2 := Aside0.mk hr2
  have HC2 := Aside0.mk hc2
  have HO2 := Aside0.mk ho2
  have hu26 := Try.underlying26
  clear hr hc ho hr2 hc2 ho2
  have HF := Aside0.mk (show winnowerlaw18_few.f (l.length + 1) l = some true by rw [few_tell, hf])
  have HF2 := Aside0.mk (show winnowerlaw18_few.f (m.length + 1) m = some true by rw [few_tell, hf2])
  clear hf hf2
  go_enter Try.func6, Try.ntmps6
  go_wp2_with (first
    | ((with_reducible refine gate_callee (f := 7) rfl ?_); refine goesL_ (some 34) rfl rfl Try.func7 (by kernel_rfl) rfl #[] rfl (by (try simp only [List.map_toArray, List.map_cons, List.map_nil]); first | done | rfl) ?_; go_loud (refine (winnowerlaw18_awake.calls _).mono ?_); rintro e w1 ⟨rfl, hb⟩; refine ⟨_, rfl, ?_⟩; have b_HB := Aside0.mk (below_step HB.out hb); clear HB hb; have HB := b_HB; clear b_HB)
    | ((with_reducible refine gate_callee (f := 8) rfl ?_); refine goesL_ (some 36) rfl rfl Try.func8 (by kernel_rfl) rfl #[.slice A l.length c] rfl (by (try simp only [List.map_toArray, List.map_cons, List.map_nil]); first | done | rfl) ?_; go_loud (refine (winnowerlaw18_few.calls (l.length + 1) A c l true _ (Kd.C_below HR.out HB.out) HC.out HF.out).mono ?_); rintro e w2 ⟨rfl, hd⟩; refine ⟨_, rfl, ?_⟩; have hb := hd.below; clear hd; have b_HB := Aside0.mk (below_step HB.out hb); clear HB hb; have HB := b_HB; clear b_HB)
    | ((with_reducible refine gate_callee (f := 8) rfl ?_); refine goesL_ (some 38) rfl rfl Try.func8 (by kernel_rfl) rfl #[.slice B m.length d] rfl (by (try simp only [List.map_toArray, List.map_cons, List.map_nil]); first | done | rfl) ?_; go_loud (refine (winnowerlaw18_few.calls (m.length + 1) B d m true _ (Kd.C_below HR2.out HB.out) HC2.out HF2.out).mono ?_); rintro e w3 ⟨rfl, hd⟩; refine ⟨_, rfl, ?_⟩; have hb := hd.below; clear hd; have b_HB := Aside0.mk (below_step HB.out hb); clear HB hb; have HB := b_HB; clear b_HB))
  go_ret
  exact ⟨rfl, HB.out⟩
theorem winnowerlaw18_AggOrder.bad2 (fn : Int) (l : List S26) (A : Option Addr) (c : Nat) (m : List S26) (B : Option Addr) (d : Nat) (w : World) (hr : Kd.C k26 w A l.length l) (hc : l.length ≤ c) (ho : okI l) (hr2 : Kd.C k26 w B m.length m) (hc2 : m.length ≤ d) (ho2 : okI m) (hf : fewS l = true) (hf2 : fewS m = true) (q1 : decide (fn < 1) = false) (q2 : decide (6 ≤ fn) = true) :
    Calls Try.prog 6 #[.int .i64 fn, .slice A l.length c, .slice B m.length d] w fun e w' => e = .returned (.bool true) ∧ Below w.heap.size w w' := by
  have HB := Aside0.mk (Below.refl w.heap.size w)
  have HR := Aside0.mk hr
  have HC := Aside0.mk hc
  have HO := Aside0.mk ho
  have HR2 := Aside0.mk hr2
  have HC2 := Aside0.mk hc2
  have HO2 := Aside0.mk ho2
  have hu26 := Try.underlying26
  clear hr hc ho hr2 hc2 ho2
  have HF := Aside0.mk (show winnowerlaw18_few.f (l.length + 1) l = some true by rw [few_tell, hf])
  have HF2 := Aside0.mk (show winnowerlaw18_few.f (m.length + 1) m = some true by rw [few_tell, hf2])
  clear hf hf2
  go_enter Try.func6, Try.ntmps6
  go_wp2_with (first
    | ((with_reducible refine gate_callee (f := 7) rfl ?_); refine goesL_ (some 34) rfl rfl Try.func7 (by kernel_rfl) rfl #[] rfl (by (try simp only [List.map_toArray, List.map_cons, List.map_nil]); first | done | rfl) ?_; go_loud (refine (winnowerlaw18_awake.calls _).mono ?_); rintro e w1 ⟨rfl, hb⟩; refine ⟨_, rfl, ?_⟩; have b_HB := Aside0.mk (below_step HB.out hb); clear HB hb; have HB := b_HB; clear b_HB)
    | ((with_reducible refine gate_callee (f := 8) rfl ?_); refine goesL_ (some 36) rfl rfl Try.func8 (by kernel_rfl) rfl #[.slice A l.length c] rfl (by (try simp only [List.map_toArray, List.map_cons, List.map_nil]); first | done | rfl) ?_; go_loud (refine (winnowerlaw18_few.calls (l.length + 1) A c l true _ (Kd.C_below HR.out HB.out) HC.out HF.out).mono ?_); rintro e w2 ⟨rfl, hd⟩; refine ⟨_, rfl, ?_⟩; have hb := hd.below; clear hd; have b_HB := Aside0.mk (below_step HB.out hb); clear HB hb; have HB := b_HB; clear b_HB)
    | ((with_reducible refine gate_callee (f := 8) rfl ?_); refine goesL_ (some 38) rfl rfl Try.func8 (by kernel_rfl) rfl #[.slice B m.length d] rfl (by (try simp only [List.map_toArray, List.map_cons, List.map_nil]); first | done | rfl) ?_; go_loud (refine (winnowerlaw18_few.calls (m.length + 1) B d m true _ (Kd.C_below HR2.out HB.out) HC2.out HF2.out).mono ?_); rintro e w3 ⟨rfl, hd⟩; refine ⟨_, rfl, ?_⟩; have hb := hd.below; clear hd; have b_HB := Aside0.mk (below_step HB.out hb); clear HB hb; have HB := b_HB; clear b_HB))
  go_ret
  exact ⟨rfl, HB.out⟩
theorem winnowerlaw18_AggOrder.ok_ (fn : Int) (l : List S26) (A : Option Addr) (c : Nat) (m : List S26) (B : Option Addr) (d : Nat) (w : World) (hr : Kd.C k26 w A l.length l) (hc : l.length ≤ c) (ho : okI l) (hr2 : Kd.C k26 w B m.length m) (hc2 : m.length ≤ d) (ho2 : okI m) (hf : fewS l = true) (hf2 : fewS m = true) (h1 : 1 ≤ fn) (h2 : fn < 6) :
    Calls Try.prog 6 #[.int .i64 fn, .slice A l.length c, .slice B m.length d] w fun e w' => e = .returned (.bool true) ∧ Below w.heap.size w w' := by
  have HB := Aside0.mk (Below.refl w.heap.size w)
  have HR := Aside0.mk hr
  have HC := Aside0.mk hc
  have HO := Aside0.mk ho
  have HR2 := Aside0.mk hr2
  have HC2 := Aside0.mk hc2
  have HO2 := Aside0.mk ho2
  have hu26 := Try.underlying26
  clear hr hc ho hr2 hc2 ho2
  have HF := Aside0.mk (show winnowerlaw18_few.f (l.length + 1) l = some true by rw [few_tell, hf])
  have HF2 := Aside0.mk (show winnowerlaw18_few.f (m.length + 1) m = some true by rw [few_tell, hf2])
  have HL := Aside0.mk (few_len hf).1
  have HL2 := Aside0.mk (few_len hf2).1
  have H1 := Aside0.mk h1
  have H2 := Aside0.mk h2
  have q1 : decide (fn < 1) = false := decide_eq_false (by omega)
  have q2 : decide (6 ≤ fn) = false := decide_eq_false (by omega)
  clear hf hf2 h1 h2
  go_enter Try.func6, Try.ntmps6
  go_wp2_with (first
    | ((with_reducible refine gate_callee (f := 7) rfl ?_); refine goesL_ (some 34) rfl rfl Try.func7 (by kernel_rfl) rfl #[] rfl (by (try simp only [List.map_toArray, List.map_cons, List.map_nil]); first | done | rfl) ?_; go_loud (refine (winnowerlaw18_awake.calls _).mono ?_); rintro e w1 ⟨rfl, hb⟩; refine ⟨_, rfl, ?_⟩; have b_HB := Aside0.mk (below_step HB.out hb); clear HB hb; have HB := b_HB; clear b_HB)
    | ((with_reducible refine gate_callee (f := 8) rfl ?_); refine goesL_ (some 36) rfl rfl Try.func8 (by kernel_rfl) rfl #[.slice A l.length c] rfl (by (try simp only [List.map_toArray, List.map_cons, List.map_nil]); first | done | rfl) ?_; go_loud (refine (winnowerlaw18_few.calls (l.length + 1) A c l true _ (Kd.C_below HR.out HB.out) HC.out HF.out).mono ?_); rintro e w2 ⟨rfl, hd⟩; refine ⟨_, rfl, ?_⟩; have hb := hd.below; clear hd; have b_HB := Aside0.mk (below_step HB.out hb); clear HB hb; have HB := b_HB; clear b_HB)
    | ((with_reducible refine gate_callee (f := 8) rfl ?_); refine goesL_ (some 38) rfl rfl Try.func8 (by kernel_rfl) rfl #[.slice B m.length d] rfl (by (try simp only [List.map_toArray, List.map_cons, List.map_nil]); first | done | rfl) ?_; go_loud (refine (winnowerlaw18_few.calls (m.length + 1) B d m true _ (Kd.C_below HR2.out HB.out) HC2.out HF2.out).mono ?_); rintro e w3 ⟨rfl, hd⟩; refine ⟨_, rfl, ?_⟩; have hb := hd.below; clear hd; have b_HB := Aside0.mk (below_step HB.out hb); clear HB hb; have HB := b_HB; clear b_HB; have SZ0 := Aside0.mk (show w.heap.size ≤ w3.heap.size from HB.out.size))
    | ((with_reducible refine gate_callee (f := 13) rfl ?_); refine goesL_ (some 60) rfl rfl Try.func13 (by kernel_rfl) rfl #[.int .i64 fn] rfl (by (try simp only [List.map_toArray, List.map_cons, List.map_nil]); first | done | rfl) ?_; go_loud (refine (agg_New.calls fn _ H1.out H2.out).mono ?_); rintro e w4 ⟨ga, ma, rfl, hgg, hgm, hg_, hm_, hb⟩; refine ⟨_, rfl, ?_⟩; have Ia := Aside0.mk (show IsAccB w4 ga ma (new18 fn) from ⟨hg_, #[], 0, hm_, rfl, fun _ => born_nil⟩); have La := Aside0.mk (show w3.heap.size ≤ ga ∧ w3.heap.size ≤ ma ∧ ga < w4.heap.size ∧ ma < w4.heap.size from ⟨hgg, hgm, blk_lt hg_, blk_lt hm_⟩); have b_HB := Aside0.mk (below_step HB.out hb); have SZa := Aside0.mk (show w3.heap.size ≤ w4.heap.size from hb.size); clear HB; have HB := b_HB; clear b_HB hgg hgm hg_ hm_ hb)
    | ((with_reducible refine gate_callee (f := 13) rfl ?_); refine goesL_ (some 65) rfl rfl Try.func13 (by kernel_rfl) rfl #[.int .i64 fn] rfl (by (try simp only [List.map_toArray, List.map_cons, List.map_nil]); first | done | rfl) ?_; go_loud (refine (agg_New.calls fn _ H1.out H2.out).mono ?_); rintro e w5 ⟨gb, mb, rfl, hgg, hgm, hg_, hm_, hb⟩; refine ⟨_, rfl, ?_⟩; have Ib := Aside0.mk (show IsAccB w5 gb mb (new18 fn) from ⟨hg_, #[], 0, hm_, rfl, fun _ => born_nil⟩); have Lb := Aside0.mk (show w4.heap.size ≤ gb ∧ w4.heap.size ≤ mb ∧ gb < w5.heap.size ∧ mb < w5.heap.size from ⟨hgg, hgm, blk_lt hg_, blk_lt hm_⟩); have b_Ia := Aside0.mk (Ia.out.below hb); clear Ia; have Ia := b_Ia; clear b_Ia; have b_HB := Aside0.mk (below_step HB.out hb); have SZb := Aside0.mk (show w4.heap.size ≤ w5.heap.size from hb.size); clear HB; have HB := b_HB; clear b_HB hgg hgm hg_ hm_ hb)
    | ((with_reducible refine gate_callee (f := 13) rfl ?_); refine goesL_ (some 70) rfl rfl Try.func13 (by kernel_rfl) rfl #[.int .i64 fn] rfl (by (try simp only [List.map_toArray, List.map_cons, List.map_nil]); first | done | rfl) ?_; go_loud (refine (agg_New.calls fn _ H1.out H2.out).mono ?_); rintro e w6 ⟨gc, mc, rfl, hgg, hgm, hg_, hm_, hb⟩; refine ⟨_, rfl, ?_⟩; have Ic := Aside0.mk (show IsAccB w6 gc mc (new18 fn) from ⟨hg_, #[], 0, hm_, rfl, fun _ => born_nil⟩); have Lc := Aside0.mk (show w5.heap.size ≤ gc ∧ w5.heap.size ≤ mc ∧ gc < w6.heap.size ∧ mc < w6.heap.size from ⟨hgg, hgm, blk_lt hg_, blk_lt hm_⟩); have b_Ia := Aside0.mk (Ia.out.below hb); clear Ia; have Ia := b_Ia; clear b_Ia; have b_Ib := Aside0.mk (Ib.out.below hb); clear Ib; have Ib := b_Ib; clear b_Ib; have b_HB := Aside0.mk (below_step HB.out hb); have SZc := Aside0.mk (show w5.heap.size ≤ w6.heap.size from hb.size); clear HB; have HB := b_HB; clear b_HB hgg hgm hg_ hm_ hb)
    | ((with_reducible refine gate_callee (f := 13) rfl ?_); refine goesL_ (some 75) rfl rfl Try.func13 (by kernel_rfl) rfl #[.int .i64 fn] rfl (by (try simp only [List.map_toArray, List.map_cons, List.map_nil]); first | done | rfl) ?_; go_loud (refine (agg_New.calls fn _ H1.out H2.out).mono ?_); rintro e w7 ⟨gd, md, rfl, hgg, hgm, hg_, hm_, hb⟩; refine ⟨_, rfl, ?_⟩; have Id := Aside0.mk (show IsAccB w7 gd md (new18 fn) from ⟨hg_, #[], 0, hm_, rfl, fun _ => born_nil⟩); have Ld := Aside0.mk (show w6.heap.size ≤ gd ∧ w6.heap.size ≤ md ∧ gd < w7.heap.size ∧ md < w7.heap.size from ⟨hgg, hgm, blk_lt hg_, blk_lt hm_⟩); have b_Ia := Aside0.mk (Ia.out.below hb); clear Ia; have Ia := b_Ia; clear b_Ia; have b_Ib := Aside0.mk (Ib.out.below hb); clear Ib; have Ib := b_Ib; clear b_Ib; have b_Ic := Aside0.mk (Ic.out.below hb); clear Ic; have Ic := b_Ic; clear b_Ic; have b_HB := Aside0.mk (below_step HB.out hb); have SZd := Aside0.mk (show w6.heap.size ≤ w7.heap.size from hb.size); clear HB; have HB := b_HB; clear b_HB hgg hgm hg_ hm_ hb; have F := Aside0.mk (show Four w w7 ga ma gb mb gc mc gd md (new18 fn) (new18 fn) (new18 fn) (new18 fn) from ⟨HB.out, ⟨w4.heap.size, w5.heap.size, w6.heap.size, Nat.le_trans SZ0.out La.out.1, Nat.le_trans SZ0.out La.out.2.1, La.out.2.2.1, La.out.2.2.2, Lb.out.1, Lb.out.2.1, Lb.out.2.2.1, Lb.out.2.2.2, Lc.out.1, Lc.out.2.1, Lc.out.2.2.1, Lc.out.2.2.2, Ld.out.1, Ld.out.2.1⟩, Ia.out, Ib.out, Ic.out, Id.out⟩); clear Ia Ib Ic Id La Lb Lc Ld SZa SZb SZc SZd SZ0 HB))
  go_loopg [18] l.length (fun m_ v18 wr => ∃ (k : Nat), v18 = .int .i64 (k : Int) ∧ Aside0 (k + m_ = l.length) ∧ Aside0 (Four w wr ga ma gb mb gc mc gd md ((l.take k).foldl takeS (new18 fn)) (new18 fn) ((l.take k).foldl takeS (new18 fn)) ((l.reverse.take k).foldl takeS (new18 fn))))
  case atStart => exact ⟨0, rfl, ⟨by omega⟩, ⟨F.out⟩⟩
  case round =>
    clear F
    obtain ⟨k, rfl, HK, F⟩ := hrel
    cases gk with
    | zero =>
      have hk : k = l.length := by have := HK.out; omega
      have r1 : decide ((k : Int) < (l.length : Int)) = false := decide_eq_false (by omega)
      have r2 : decide (k < l.length) = false := decide_eq_false (by omega)
      have F_ := Aside0.mk (show Four w wr ga ma gb mb gc mc gd md (l.foldl takeS (new18 fn)) (([] : List S26).foldl takeS (new18 fn)) (([] : List S26).foldl takeS (l.foldl takeS (new18 fn))) (l.reverse.foldl takeS (new18 fn)) by
        have h := F.out
        rw [hk, List.take_length, List.take_of_length_le (by rw [List.length_reverse]; exact Nat.le_refl _)] at h
        exact h)
      clear F
      have F := F_
      clear F_ hk
      go_wp2
      go_loopg [19] m.length (fun m_ v19 wr => ∃ (k : Nat), v19 = .int .i64 (k : Int) ∧ Aside0 (k + m_ = m.length) ∧ Aside0 (Four w wr ga ma gb mb gc mc gd md (l.foldl takeS (new18 fn)) ((m.take k).foldl takeS (new18 fn)) ((m.take k).foldl takeS (l.foldl takeS (new18 fn))) (l.reverse.foldl takeS (new18 fn))))
      case atStart => exact ⟨0, rfl, ⟨by omega⟩, ⟨F.out⟩⟩
      case round =>
        clear F r1 r2 HK
        obtain ⟨k2, rfl, HK, F⟩ := hrel
        cases gk with
        | zero =>
          have hk : k2 = m.length := by have := HK.out; omega
          have r1 : decide ((k2 : Int) < (m.length : Int)) = false := decide_eq_false (by omega)
          have r2 : decide (k2 < m.length) = false := decide_eq_false (by omega)
          have F_ := Aside0.mk (show Four w wr ga ma gb mb gc mc gd md (l.foldl takeS (new18 fn)) (m.foldl takeS (new18 fn)) ((l ++ m).foldl takeS (new18 fn)) (l.reverse.foldl takeS (new18 fn)) by
            have h := F.out
            rw [hk, List.take_length, ← List.foldl_append] at h
            exact h)
          clear F
          have F := F_
          clear F_ hk
          have HLR := Aside0.mk (show l.reverse.length ≤ 100 by rw [List.length_reverse]; exact HL.out)
          have HOR := Aside0.mk (show okI l.reverse from fun x hx => HO.out x (List.mem_reverse.1 hx))
          have HOA := Aside0.mk (show okI (l ++ m) from fun x hx => (List.mem_append.1 hx).elim (HO.out x) (HO2.out x))
          have BA := Aside0.mk (fold_bs (fn := fn) HO.out (by have := HL.out; omega))
          have BB := Aside0.mk (fold_bs (fn := fn) HO2.out (by have := HL2.out; omega))
          have BC := Aside0.mk (fold_bs (fn := fn) HOA.out (by rw [List.length_append]; have := HL.out; have := HL2.out; omega))
          have BD := Aside0.mk (fold_bs (fn := fn) HOR.out (by have := HLR.out; omega))
          have FA := Aside0.mk (show (l.foldl takeS (new18 fn)).fn = fn from fold_fn (new18 fn) l)
          have FB := Aside0.mk (show (m.foldl takeS (new18 fn)).fn = fn from fold_fn (new18 fn) m)
          have FC := Aside0.mk (show ((l ++ m).foldl takeS (new18 fn)).fn = fn from fold_fn (new18 fn) (l ++ m))
          have FD := Aside0.mk (show (l.reverse.foldl takeS (new18 fn)).fn = fn from fold_fn (new18 fn) l.reverse)
          have VA := Aside0.mk ((fold_tell H1.out H2.out l.reverse).trans ((order_perm H1.out H2.out (List.reverse_perm l) (by have := HLR.out; omega)).trans (fold_tell H1.out H2.out l).symm))
          have JA : Aside0 (∀ s', JoinR (l.foldl takeS (new18 fn)) (m.foldl takeS (new18 fn)) s' → s'.fn = fn ∧ BT s' ∧ valS s' = valS ((l ++ m).foldl takeS (new18 fn))) := Aside0.mk (fun s' hJ => ⟨(join_fn hJ).trans FA.out, join_bt BA.out BB.out hJ, (order_join H1.out H2.out HL.out HL2.out hJ).trans (fold_tell H1.out H2.out (l ++ m)).symm⟩)
          have JB : Aside0 (∀ s', JoinR (m.foldl takeS (new18 fn)) (l.reverse.foldl takeS (new18 fn)) s' → s'.fn = fn ∧ BT s' ∧ valS s' = valS ((l ++ m).foldl takeS (new18 fn))) := Aside0.mk (fun s' hJ => ⟨(join_fn hJ).trans FB.out, join_bt BB.out BD.out hJ, (order_join H1.out H2.out HL2.out HLR.out hJ).trans ((order_perm H1.out H2.out (l := m ++ l.reverse) (l' := l ++ m) (List.perm_append_comm.trans ((List.reverse_perm l).append_right m)) (by rw [List.length_append]; have := HL2.out; have := HLR.out; omega)).trans (fold_tell H1.out H2.out (l ++ m)).symm)⟩)
          generalize l.foldl takeS (new18 fn) = sA at F FA BA VA JA
          generalize m.foldl takeS (new18 fn) = sB at F FB BB JA JB
          generalize (l ++ m).foldl takeS (new18 fn) = sC at F FC BC JA JB
          generalize l.reverse.foldl takeS (new18 fn) = sD at F FD BD VA JB
          obtain ⟨x, ex, hvx⟩ : ∃ x ex, valS sA = (x, ex) := ⟨_, _, rfl⟩
          obtain ⟨y, ey, hvy⟩ : ∃ y ey, valS sB = (y, ey) := ⟨_, _, rfl⟩
          obtain ⟨z, ez, hvz⟩ : ∃ z ez, valS sC = (z, ez) := ⟨_, _, rfl⟩
          rw [hvx] at VA
          rw [hvz] at JA JB
          have VX := Aside0.mk hvx
          have VY := Aside0.mk hvy
          have VZ := Aside0.mk hvz
          clear hvx hvy hvz
          have H1a := Aside0.mk (show 1 ≤ sA.fn by rw [FA.out]; exact H1.out)
          have H2a := Aside0.mk (show sA.fn < 6 by rw [FA.out]; exact H2.out)
          have H1b := Aside0.mk (show 1 ≤ sB.fn by rw [FB.out]; exact H1.out)
          have H2b := Aside0.mk (show sB.fn < 6 by rw [FB.out]; exact H2.out)
          have H1c := Aside0.mk (show 1 ≤ sC.fn by rw [FC.out]; exact H1.out)
          have H2c := Aside0.mk (show sC.fn < 6 by rw [FC.out]; exact H2.out)
          have H1d := Aside0.mk (show 1 ≤ sD.fn by rw [FD.out]; exact H1.out)
          have H2d := Aside0.mk (show sD.fn < 6 by rw [FD.out]; exact H2.out)
          go_wp2_with (first
            | ((with_reducible refine gate_callee (f := 15) rfl ?_); refine goesL_ (some 126) rfl rfl Try.func15 (by kernel_rfl) rfl #[.pointer (some ⟨ga, 0, none⟩)] rfl (by (try simp only [List.map_toArray, List.map_cons, List.map_nil]); first | done | rfl) ?_; go_loud (refine (agg_Value.calls ga ma sA _ F.out.ia.acc H1a.out H2a.out BA.out.bt.1 BA.out.bt.2).mono ?_); rintro e u21 ⟨he, hb⟩; rw [VX.out] at he; subst he; refine ⟨_, rfl, ?_⟩; have F_ := Aside0.mk (F.out.below_ hb); clear F; have F := F_; clear F_; clear hb)
            | ((with_reducible refine gate_dst (N := 20) rfl ?_); refine box_event ?hg (N := 20) ?hd (cs := #[.int .i64 0, .int .i64 0, .string ⟨#[]⟩, .bool false]) (t := 26) ?hr ?_; (case hd => rfl); (case hg => rfl); (case hr => first | (go_simp; done) | (go_simp; rfl)); intro g20 hg u22 hbox hb; have B20 := Aside0.mk hbox; have U20 := Aside0.mk (show Up8 g20 ga ma gb mb gc mc gd md by rw [hg]; exact F.out.up); have F_ := Aside0.mk (F.out.below_ hb); clear F; have F := F_; clear F_; clear hbox hg hb)
            | ((with_reducible refine gate_ (.store 26 (.tmp 20) (.tmp 127)) rfl ?_); go_loud (refine wpList_storeR rfl rfl 26 (.tmp 20) (.tmp 127) rfl g20 (0) rfl (.agg (vc x)) rfl (vc x).toList rfl #[.int .i64 0, .int .i64 0, .string ⟨#[]⟩, .bool false] 26 B20.out size26 (by simp) (by simp [Value.oneCell']) (vc x) rfl ?_); intro u23 hs st; clear B20; have B20 := Aside0.mk hs; have F_ := Aside0.mk (F.out.step st U20.out); clear F; have F := F_; clear F_; clear hs st)
            | ((with_reducible refine gate_callee (f := 15) rfl ?_); refine goesL_ (some 131) rfl rfl Try.func15 (by kernel_rfl) rfl #[.pointer (some ⟨gd, 0, none⟩)] rfl (by (try simp only [List.map_toArray, List.map_cons, List.map_nil]); first | done | rfl) ?_; go_loud (refine (agg_Value.calls gd md sD _ F.out.id.acc H1d.out H2d.out BD.out.bt.1 BD.out.bt.2).mono ?_); rintro e u24 ⟨he, hb⟩; rw [VA.out] at he; subst he; refine ⟨_, rfl, ?_⟩; have F_ := Aside0.mk (F.out.below_ hb); clear F; have F := F_; clear F_; have b_ := Aside0.mk (blk_below B20.out hb); clear B20; have B20 := b_; clear b_; clear hb)
            | ((with_reducible refine gate_dst (N := 22) rfl ?_); refine box_event ?hg (N := 22) ?hd (cs := #[.int .i64 0, .int .i64 0, .string ⟨#[]⟩, .bool false]) (t := 26) ?hr ?_; (case hd => rfl); (case hg => rfl); (case hr => first | (go_simp; done) | (go_simp; rfl)); intro g22 hg u25 hbox hb; have B22 := Aside0.mk hbox; have U22 := Aside0.mk (show Up8 g22 ga ma gb mb gc mc gd md by rw [hg]; exact F.out.up); have N20_22 := Aside0.mk (show g20 ≠ g22 by rw [hg]; exact Nat.ne_of_lt (blk_lt B20.out)); have F_ := Aside0.mk (F.out.below_ hb); clear F; have F := F_; clear F_; have b_ := Aside0.mk (blk_below B20.out hb); clear B20; have B20 := b_; clear b_; clear hbox hg hb)
            | ((with_reducible refine gate_ (.store 26 (.tmp 22) (.tmp 132)) rfl ?_); go_loud (refine wpList_storeR rfl rfl 26 (.tmp 22) (.tmp 132) rfl g22 (0) rfl (.agg (vc x)) rfl (vc x).toList rfl #[.int .i64 0, .int .i64 0, .string ⟨#[]⟩, .bool false] 26 B22.out size26 (by simp) (by simp [Value.oneCell']) (vc x) rfl ?_); intro u26 hs st; clear B22; have B22 := Aside0.mk hs; have F_ := Aside0.mk (F.out.step st U22.out); clear F; have F := F_; clear F_; have b_ := Aside0.mk (st.blk B20.out N20_22.out); clear B20; have B20 := b_; clear b_; clear hs st)
            | ((with_reducible refine gate_dst (N := 134) rfl ?_); go_loud (refine wpList_load_row rfl 26 (.tmp 20) rfl g20 rfl 26 (vc x) (0, 0) _ B20.out Try.underlying26 rfl size26 ?_))
            | ((with_reducible refine gate_dst (N := 135) rfl ?_); go_loud (refine wpList_load_row rfl 26 (.tmp 22) rfl g22 rfl 26 (vc x) (0, 0) _ B22.out Try.underlying26 rfl size26 ?_))
            | ((with_reducible refine gate_callee (f := 15) rfl ?_); refine goesL_ (some 144) rfl rfl Try.func15 (by kernel_rfl) rfl #[.pointer (some ⟨gb, 0, none⟩)] rfl (by (try simp only [List.map_toArray, List.map_cons, List.map_nil]); first | done | rfl) ?_; go_loud (refine (agg_Value.calls gb mb sB _ F.out.ib.acc H1b.out H2b.out BB.out.bt.1 BB.out.bt.2).mono ?_); rintro e u27 ⟨he, hb⟩; rw [VY.out] at he; subst he; refine ⟨_, rfl, ?_⟩; clear B20 B22 U20 U22 N20_22; have F_ := Aside0.mk (F.out.below_ hb); clear F; have F := F_; clear F_; clear hb)
            | ((with_reducible refine gate_dst (N := 24) rfl ?_); refine box_event ?hg (N := 24) ?hd (cs := #[.int .i64 0, .int .i64 0, .string ⟨#[]⟩, .bool false]) (t := 26) ?hr ?_; (case hd => rfl); (case hg => rfl); (case hr => first | (go_simp; done) | (go_simp; rfl)); intro g24 hg u28 hbox hb; have B24 := Aside0.mk hbox; have U24 := Aside0.mk (show Up8 g24 ga ma gb mb gc mc gd md by rw [hg]; exact F.out.up); have F_ := Aside0.mk (F.out.below_ hb); clear F; have F := F_; clear F_; clear hbox hg hb)
            | ((with_reducible refine gate_ (.store 26 (.tmp 24) (.tmp 145)) rfl ?_); go_loud (refine wpList_storeR rfl rfl 26 (.tmp 24) (.tmp 145) rfl g24 (0) rfl (.agg (vc y)) rfl (vc y).toList rfl #[.int .i64 0, .int .i64 0, .string ⟨#[]⟩, .bool false] 26 B24.out size26 (by simp) (by simp [Value.oneCell']) (vc y) rfl ?_); intro u29 hs st; clear B24; have B24 := Aside0.mk hs; have F_ := Aside0.mk (F.out.step st U24.out); clear F; have F := F_; clear F_; clear hs st)
            | ((with_reducible refine gate_callee (f := 16) rfl ?_); refine goesL_ (some 149) rfl rfl Try.func16 (by kernel_rfl) rfl #[.pointer (some ⟨ga, 0, none⟩), .pointer (some ⟨gb, 0, none⟩)] rfl (by (try simp only [List.map_toArray, List.map_cons, List.map_nil]); first | done | rfl) ?_; go_loud (refine (agg_Join.calls ga ma gb mb sA sB _ F.out.ia F.out.ib (FB.out.trans FA.out.symm) H1a.out H2a.out F.out.ab.1 F.out.ab.2).mono ?_); rintro e u30 ⟨rfl, st, s1, hjr, hi⟩; refine ⟨_, rfl, ?_⟩; have hj := JA.out s1 hjr; have HV := Aside0.mk hj.2.2; have HT1 := Aside0.mk hj.2.1; have H11 := Aside0.mk (show 1 ≤ s1.fn by rw [hj.1]; exact H1.out); have H21 := Aside0.mk (show s1.fn < 6 by rw [hj.1]; exact H2.out); have VJ1 := HV; clear HV; have b_ := Aside0.mk (U24.out.blkA B24.out st); clear B24; have B24 := b_; clear b_; have F_ := Aside0.mk (F.out.addA st hi); clear F; have F := F_; clear F_; clear hj hjr st hi)
            | ((with_reducible refine gate_callee (f := 15) rfl ?_); refine goesL_ (some 152) rfl rfl Try.func15 (by kernel_rfl) rfl #[.pointer (some ⟨gb, 0, none⟩)] rfl (by (try simp only [List.map_toArray, List.map_cons, List.map_nil]); first | done | rfl) ?_; go_loud (refine (agg_Value.calls gb mb sB _ F.out.ib.acc H1b.out H2b.out BB.out.bt.1 BB.out.bt.2).mono ?_); rintro e u31 ⟨he, hb⟩; rw [VY.out] at he; subst he; refine ⟨_, rfl, ?_⟩; have F_ := Aside0.mk (F.out.below_ hb); clear F; have F := F_; clear F_; have b_ := Aside0.mk (blk_below B24.out hb); clear B24; have B24 := b_; clear b_; clear hb)
            | ((with_reducible refine gate_dst (N := 26) rfl ?_); refine box_event ?hg (N := 26) ?hd (cs := #[.int .i64 0, .int .i64 0, .string ⟨#[]⟩, .bool false]) (t := 26) ?hr ?_; (case hd => rfl); (case hg => rfl); (case hr => first | (go_simp; done) | (go_simp; rfl)); intro g26 hg u32 hbox hb; have B26 := Aside0.mk hbox; have U26 := Aside0.mk (show Up8 g26 ga ma gb mb gc mc gd md by rw [hg]; exact F.out.up); have N24_26 := Aside0.mk (show g24 ≠ g26 by rw [hg]; exact Nat.ne_of_lt (blk_lt B24.out)); have F_ := Aside0.mk (F.out.below_ hb); clear F; have F := F_; clear F_; have b_ := Aside0.mk (blk_below B24.out hb); clear B24; have B24 := b_; clear b_; clear hbox hg hb)
            | ((with_reducible refine gate_ (.store 26 (.tmp 26) (.tmp 153)) rfl ?_); go_loud (refine wpList_storeR rfl rfl 26 (.tmp 26) (.tmp 153) rfl g26 (0) rfl (.agg (vc y)) rfl (vc y).toList rfl #[.int .i64 0, .int .i64 0, .string ⟨#[]⟩, .bool false] 26 B26.out size26 (by simp) (by simp [Value.oneCell']) (vc y) rfl ?_); intro u33 hs st; clear B26; have B26 := Aside0.mk hs; have F_ := Aside0.mk (F.out.step st U26.out); clear F; have F := F_; clear F_; have b_ := Aside0.mk (st.blk B24.out N24_26.out); clear B24; have B24 := b_; clear b_; clear hs st)
            | ((with_reducible refine gate_callee (f := 15) rfl ?_); refine goesL_ (some 157) rfl rfl Try.func15 (by kernel_rfl) rfl #[.pointer (some ⟨ga, 0, none⟩)] rfl (by (try simp only [List.map_toArray, List.map_cons, List.map_nil]); first | done | rfl) ?_; go_loud (refine (agg_Value.calls ga ma s1 _ F.out.ia.acc H11.out H21.out HT1.out.1 HT1.out.2).mono ?_); rintro e u34 ⟨he, hb⟩; rw [VJ1.out] at he; subst he; refine ⟨_, rfl, ?_⟩; have F_ := Aside0.mk (F.out.below_ hb); clear F; have F := F_; clear F_; have b_ := Aside0.mk (blk_below B24.out hb); clear B24; have B24 := b_; clear b_; have b_ := Aside0.mk (blk_below B26.out hb); clear B26; have B26 := b_; clear b_; clear hb)
            | ((with_reducible refine gate_dst (N := 28) rfl ?_); refine box_event ?hg (N := 28) ?hd (cs := #[.int .i64 0, .int .i64 0, .string ⟨#[]⟩, .bool false]) (t := 26) ?hr ?_; (case hd => rfl); (case hg => rfl); (case hr => first | (go_simp; done) | (go_simp; rfl)); intro g28 hg u35 hbox hb; have B28 := Aside0.mk hbox; have U28 := Aside0.mk (show Up8 g28 ga ma gb mb gc mc gd md by rw [hg]; exact F.out.up); have N24_28 := Aside0.mk (show g24 ≠ g28 by rw [hg]; exact Nat.ne_of_lt (blk_lt B24.out)); have N26_28 := Aside0.mk (show g26 ≠ g28 by rw [hg]; exact Nat.ne_of_lt (blk_lt B26.out)); have F_ := Aside0.mk (F.out.below_ hb); clear F; have F := F_; clear F_; have b_ := Aside0.mk (blk_below B24.out hb); clear B24; have B24 := b_; clear b_; have b_ := Aside0.mk (blk_below B26.out hb); clear B26; have B26 := b_; clear b_; clear hbox hg hb)
            | ((with_reducible refine gate_ (.store 26 (.tmp 28) (.tmp 158)) rfl ?_); go_loud (refine wpList_storeR rfl rfl 26 (.tmp 28) (.tmp 158) rfl g28 (0) rfl (.agg (vc z)) rfl (vc z).toList rfl #[.int .i64 0, .int .i64 0, .string ⟨#[]⟩, .bool false] 26 B28.out size26 (by simp) (by simp [Value.oneCell']) (vc z) rfl ?_); intro u36 hs st; clear B28; have B28 := Aside0.mk hs; have F_ := Aside0.mk (F.out.step st U28.out); clear F; have F := F_; clear F_; have b_ := Aside0.mk (st.blk B24.out N24_28.out); clear B24; have B24 := b_; clear b_; have b_ := Aside0.mk (st.blk B26.out N26_28.out); clear B26; have B26 := b_; clear b_; clear hs st)
            | ((with_reducible refine gate_callee (f := 15) rfl ?_); refine goesL_ (some 162) rfl rfl Try.func15 (by kernel_rfl) rfl #[.pointer (some ⟨gc, 0, none⟩)] rfl (by (try simp only [List.map_toArray, List.map_cons, List.map_nil]); first | done | rfl) ?_; go_loud (refine (agg_Value.calls gc mc sC _ F.out.ic.acc H1c.out H2c.out BC.out.bt.1 BC.out.bt.2).mono ?_); rintro e u37 ⟨he, hb⟩; rw [VZ.out] at he; subst he; refine ⟨_, rfl, ?_⟩; have F_ := Aside0.mk (F.out.below_ hb); clear F; have F := F_; clear F_; have b_ := Aside0.mk (blk_below B24.out hb); clear B24; have B24 := b_; clear b_; have b_ := Aside0.mk (blk_below B26.out hb); clear B26; have B26 := b_; clear b_; have b_ := Aside0.mk (blk_below B28.out hb); clear B28; have B28 := b_; clear b_; clear hb)
            | ((with_reducible refine gate_dst (N := 30) rfl ?_); refine box_event ?hg (N := 30) ?hd (cs := #[.int .i64 0, .int .i64 0, .string ⟨#[]⟩, .bool false]) (t := 26) ?hr ?_; (case hd => rfl); (case hg => rfl); (case hr => first | (go_simp; done) | (go_simp; rfl)); intro g30 hg u38 hbox hb; have B30 := Aside0.mk hbox; have U30 := Aside0.mk (show Up8 g30 ga ma gb mb gc mc gd md by rw [hg]; exact F.out.up); have N24_30 := Aside0.mk (show g24 ≠ g30 by rw [hg]; exact Nat.ne_of_lt (blk_lt B24.out)); have N26_30 := Aside0.mk (show g26 ≠ g30 by rw [hg]; exact Nat.ne_of_lt (blk_lt B26.out)); have N28_30 := Aside0.mk (show g28 ≠ g30 by rw [hg]; exact Nat.ne_of_lt (blk_lt B28.out)); have F_ := Aside0.mk (F.out.below_ hb); clear F; have F := F_; clear F_; have b_ := Aside0.mk (blk_below B24.out hb); clear B24; have B24 := b_; clear b_; have b_ := Aside0.mk (blk_below B26.out hb); clear B26; have B26 := b_; clear b_; have b_ := Aside0.mk (blk_below B28.out hb); clear B28; have B28 := b_; clear b_; clear hbox hg hb)
            | ((with_reducible refine gate_ (.store 26 (.tmp 30) (.tmp 163)) rfl ?_); go_loud (refine wpList_storeR rfl rfl 26 (.tmp 30) (.tmp 163) rfl g30 (0) rfl (.agg (vc z)) rfl (vc z).toList rfl #[.int .i64 0, .int .i64 0, .string ⟨#[]⟩, .bool false] 26 B30.out size26 (by simp) (by simp [Value.oneCell']) (vc z) rfl ?_); intro u39 hs st; clear B30; have B30 := Aside0.mk hs; have F_ := Aside0.mk (F.out.step st U30.out); clear F; have F := F_; clear F_; have b_ := Aside0.mk (st.blk B24.out N24_30.out); clear B24; have B24 := b_; clear b_; have b_ := Aside0.mk (st.blk B26.out N26_30.out); clear B26; have B26 := b_; clear b_; have b_ := Aside0.mk (st.blk B28.out N28_30.out); clear B28; have B28 := b_; clear b_; clear hs st)
            | ((with_reducible refine gate_callee (f := 16) rfl ?_); refine goesL_ (some 167) rfl rfl Try.func16 (by kernel_rfl) rfl #[.pointer (some ⟨gb, 0, none⟩), .pointer (some ⟨gd, 0, none⟩)] rfl (by (try simp only [List.map_toArray, List.map_cons, List.map_nil]); first | done | rfl) ?_; go_loud (refine (agg_Join.calls gb mb gd md sB sD _ F.out.ib F.out.id (FD.out.trans FB.out.symm) H1b.out H2b.out F.out.bd.1 F.out.bd.2).mono ?_); rintro e u40 ⟨rfl, st, s2, hjr, hi⟩; refine ⟨_, rfl, ?_⟩; have hj := JB.out s2 hjr; have HV := Aside0.mk hj.2.2; have HT2 := Aside0.mk hj.2.1; have H12 := Aside0.mk (show 1 ≤ s2.fn by rw [hj.1]; exact H1.out); have H22 := Aside0.mk (show s2.fn < 6 by rw [hj.1]; exact H2.out); have VJ2 := HV; clear HV; have b_ := Aside0.mk (U24.out.blkB B24.out st); clear B24; have B24 := b_; clear b_; have b_ := Aside0.mk (U26.out.blkB B26.out st); clear B26; have B26 := b_; clear b_; have b_ := Aside0.mk (U28.out.blkB B28.out st); clear B28; have B28 := b_; clear b_; have b_ := Aside0.mk (U30.out.blkB B30.out st); clear B30; have B30 := b_; clear b_; have F_ := Aside0.mk (F.out.addB st hi); clear F; have F := F_; clear F_; clear hj hjr st hi)
            | ((with_reducible refine gate_callee (f := 15) rfl ?_); refine goesL_ (some 170) rfl rfl Try.func15 (by kernel_rfl) rfl #[.pointer (some ⟨gb, 0, none⟩)] rfl (by (try simp only [List.map_toArray, List.map_cons, List.map_nil]); first | done | rfl) ?_; go_loud (refine (agg_Value.calls gb mb s2 _ F.out.ib.acc H12.out H22.out HT2.out.1 HT2.out.2).mono ?_); rintro e u41 ⟨he, hb⟩; rw [VJ2.out] at he; subst he; refine ⟨_, rfl, ?_⟩; have F_ := Aside0.mk (F.out.below_ hb); clear F; have F := F_; clear F_; have b_ := Aside0.mk (blk_below B24.out hb); clear B24; have B24 := b_; clear b_; have b_ := Aside0.mk (blk_below B26.out hb); clear B26; have B26 := b_; clear b_; have b_ := Aside0.mk (blk_below B28.out hb); clear B28; have B28 := b_; clear b_; have b_ := Aside0.mk (blk_below B30.out hb); clear B30; have B30 := b_; clear b_; clear hb)
            | ((with_reducible refine gate_dst (N := 32) rfl ?_); refine box_event ?hg (N := 32) ?hd (cs := #[.int .i64 0, .int .i64 0, .string ⟨#[]⟩, .bool false]) (t := 26) ?hr ?_; (case hd => rfl); (case hg => rfl); (case hr => first | (go_simp; done) | (go_simp; rfl)); intro g32 hg u42 hbox hb; have B32 := Aside0.mk hbox; have U32 := Aside0.mk (show Up8 g32 ga ma gb mb gc mc gd md by rw [hg]; exact F.out.up); have N24_32 := Aside0.mk (show g24 ≠ g32 by rw [hg]; exact Nat.ne_of_lt (blk_lt B24.out)); have N26_32 := Aside0.mk (show g26 ≠ g32 by rw [hg]; exact Nat.ne_of_lt (blk_lt B26.out)); have N28_32 := Aside0.mk (show g28 ≠ g32 by rw [hg]; exact Nat.ne_of_lt (blk_lt B28.out)); have N30_32 := Aside0.mk (show g30 ≠ g32 by rw [hg]; exact Nat.ne_of_lt (blk_lt B30.out)); have F_ := Aside0.mk (F.out.below_ hb); clear F; have F := F_; clear F_; have b_ := Aside0.mk (blk_below B24.out hb); clear B24; have B24 := b_; clear b_; have b_ := Aside0.mk (blk_below B26.out hb); clear B26; have B26 := b_; clear b_; have b_ := Aside0.mk (blk_below B28.out hb); clear B28; have B28 := b_; clear b_; have b_ := Aside0.mk (blk_below B30.out hb); clear B30; have B30 := b_; clear b_; clear hbox hg hb)
            | ((with_reducible refine gate_ (.store 26 (.tmp 32) (.tmp 171)) rfl ?_); go_loud (refine wpList_storeR rfl rfl 26 (.tmp 32) (.tmp 171) rfl g32 (0) rfl (.agg (vc z)) rfl (vc z).toList rfl #[.int .i64 0, .int .i64 0, .string ⟨#[]⟩, .bool false] 26 B32.out size26 (by simp) (by simp [Value.oneCell']) (vc z) rfl ?_); intro u43 hs st; clear B32; have B32 := Aside0.mk hs; have F_ := Aside0.mk (F.out.step st U32.out); clear F; have F := F_; clear F_; have b_ := Aside0.mk (st.blk B24.out N24_32.out); clear B24; have B24 := b_; clear b_; have b_ := Aside0.mk (st.blk B26.out N26_32.out); clear B26; have B26 := b_; clear b_; have b_ := Aside0.mk (st.blk B28.out N28_32.out); clear B28; have B28 := b_; clear b_; have b_ := Aside0.mk (st.blk B30.out N30_32.out); clear B30; have B30 := b_; clear b_; clear hs st; have k24_0 : u43.cell? ⟨g24, 0, none⟩ = some (.int .i64 y.f0) := (blk_cell B24.out 0).trans rfl; have k24_1 : u43.cell? ⟨g24, 1, none⟩ = some (.int .i64 y.f1) := (blk_cell B24.out 1).trans rfl; have k24_2 : u43.cell? ⟨g24, 2, none⟩ = some (.string y.f2) := (blk_cell B24.out 2).trans rfl; have k24_3 : u43.cell? ⟨g24, 3, none⟩ = some (.bool y.f3) := (blk_cell B24.out 3).trans rfl; have k26_0 : u43.cell? ⟨g26, 0, none⟩ = some (.int .i64 y.f0) := (blk_cell B26.out 0).trans rfl; have k26_1 : u43.cell? ⟨g26, 1, none⟩ = some (.int .i64 y.f1) := (blk_cell B26.out 1).trans rfl; have k26_2 : u43.cell? ⟨g26, 2, none⟩ = some (.string y.f2) := (blk_cell B26.out 2).trans rfl; have k26_3 : u43.cell? ⟨g26, 3, none⟩ = some (.bool y.f3) := (blk_cell B26.out 3).trans rfl; have k28_0 : u43.cell? ⟨g28, 0, none⟩ = some (.int .i64 z.f0) := (blk_cell B28.out 0).trans rfl; have k28_1 : u43.cell? ⟨g28, 1, none⟩ = some (.int .i64 z.f1) := (blk_cell B28.out 1).trans rfl; have k28_2 : u43.cell? ⟨g28, 2, none⟩ = some (.string z.f2) := (blk_cell B28.out 2).trans rfl; have k28_3 : u43.cell? ⟨g28, 3, none⟩ = some (.bool z.f3) := (blk_cell B28.out 3).trans rfl; have k30_0 : u43.cell? ⟨g30, 0, none⟩ = some (.int .i64 z.f0) := (blk_cell B30.out 0).trans rfl; have k30_1 : u43.cell? ⟨g30, 1, none⟩ = some (.int .i64 z.f1) := (blk_cell B30.out 1).trans rfl; have k30_2 : u43.cell? ⟨g30, 2, none⟩ = some (.string z.f2) := (blk_cell B30.out 2).trans rfl; have k30_3 : u43.cell? ⟨g30, 3, none⟩ = some (.bool z.f3) := (blk_cell B30.out 3).trans rfl; have k32_0 : u43.cell? ⟨g32, 0, none⟩ = some (.int .i64 z.f0) := (blk_cell B32.out 0).trans rfl; have k32_1 : u43.cell? ⟨g32, 1, none⟩ = some (.int .i64 z.f1) := (blk_cell B32.out 1).trans rfl; have k32_2 : u43.cell? ⟨g32, 2, none⟩ = some (.string z.f2) := (blk_cell B32.out 2).trans rfl; have k32_3 : u43.cell? ⟨g32, 3, none⟩ = some (.bool z.f3) := (blk_cell B32.out 3).trans rfl))
          go_ret
          exact ⟨rfl, F.out.below⟩
        | succ m_ =>
          have hk : k2 < m.length := by have := HK.out; omega
          have HKI := Aside0.mk (show (k2 : Int) < (m.length : Int) by omega)
          have r1 : decide ((k2 : Int) < (m.length : Int)) = true := decide_eq_true HKI.out
          have r2 : decide (k2 < m.length) = true := decide_eq_true hk
          have r3 : (0 : Int) ≤ (k2 : Int) := by omega
          obtain ⟨x, hx⟩ : ∃ x, rd_T26 m (k2 : Int) = x := ⟨_, rfl⟩
          have HXE := Aside0.mk hx
          have HX := Aside0.mk (HO2.out x (by rw [← hx]; exact rd_mem r3 HKI.out))
          have HTB := Aside0.mk (show (m.take (k2 + 1)).foldl takeS (new18 fn) = takeS ((m.take k2).foldl takeS (new18 fn)) x by rw [← hx]; exact take_fold hk (new18 fn))
          have HTC := Aside0.mk (show (m.take (k2 + 1)).foldl takeS (l.foldl takeS (new18 fn)) = takeS ((m.take k2).foldl takeS (l.foldl takeS (new18 fn))) x by rw [← hx]; exact take_fold hk (l.foldl takeS (new18 fn)))
          have FB := Aside0.mk (show ((m.take k2).foldl takeS (new18 fn)).fn = fn from fold_fn (new18 fn) _)
          have FC := Aside0.mk (show ((m.take k2).foldl takeS (l.foldl takeS (new18 fn))).fn = fn from (fold_fn _ _).trans (fold_fn (new18 fn) l))
          generalize (m.take k2).foldl takeS (new18 fn) = sb at F FB HTB
          generalize (m.take k2).foldl takeS (l.foldl takeS (new18 fn)) = sc at F FC HTC
          have H1sb := Aside0.mk (show 1 ≤ sb.fn by rw [FB.out]; exact H1.out)
          have H2sb := Aside0.mk (show sb.fn < 6 by rw [FB.out]; exact H2.out)
          have H1sc := Aside0.mk (show 1 ≤ sc.fn by rw [FC.out]; exact H1.out)
          have H2sc := Aside0.mk (show sc.fn < 6 by rw [FC.out]; exact H2.out)
          clear hx
          obtain ⟨ad_, e_, x0, x1, x2, x3⟩ := at_T26 (Kd.C_below HR2.out F.out.below) ((k2 : Int)) r3 HKI.out
          cases e_
          rw [Int.toNat_natCast, HXE.out] at x0
          rw [Int.toNat_natCast, HXE.out] at x1
          rw [Int.toNat_natCast, HXE.out] at x2
          rw [Int.toNat_natCast, HXE.out] at x3
          go_wp2_with (first
            | ((with_reducible refine gate_callee (f := 14) rfl ?_); refine goesL_ (some 117) rfl rfl Try.func14 (by kernel_rfl) rfl #[.pointer (some ⟨gb, 0, none⟩), .agg (vc x)] rfl (by (try simp only [List.map_toArray, List.map_cons, List.map_nil]); first | done | rfl) ?_; go_loud (refine (agg_Add.callsB gb mb sb x _ F.out.ib H1sb.out H2sb.out HX.out.1 HX.out.2).mono ?_); rintro e w21 ⟨rfl, st, hi⟩; refine ⟨_, rfl, ?_⟩; have F_ := Aside0.mk (F.out.addB st hi); clear F; have F := F_; clear F_ st hi; clear x0 x1 x2 x3; obtain ⟨ad_, e_, x0, x1, x2, x3⟩ := at_T26 (Kd.C_below HR2.out F.out.below) ((k2 : Int)) r3 HKI.out; cases e_; rw [Int.toNat_natCast, HXE.out] at x0; rw [Int.toNat_natCast, HXE.out] at x1; rw [Int.toNat_natCast, HXE.out] at x2; rw [Int.toNat_natCast, HXE.out] at x3)
            | ((with_reducible refine gate_callee (f := 14) rfl ?_); refine goesL_ (some 123) rfl rfl Try.func14 (by kernel_rfl) rfl #[.pointer (some ⟨gc, 0, none⟩), .agg (vc x)] rfl (by (try simp only [List.map_toArray, List.map_cons, List.map_nil]); first | done | rfl) ?_; go_loud (refine (agg_Add.callsB gc mc sc x _ F.out.ic H1sc.out H2sc.out HX.out.1 HX.out.2).mono ?_); rintro e w22 ⟨rfl, st, hi⟩; refine ⟨_, rfl, ?_⟩; have F_ := Aside0.mk (F.out.addC st hi); clear F; have F := F_; clear F_ st hi; clear x0 x1 x2 x3))
          go_roundg m_
          case measure => omega
          case rel => exact ⟨k2 + 1, by rw [show ((k2 + 1 : Nat) : Int) = (k2 : Int) + 1 from by omega, wrapI (by omega) (by have := HL2.out; omega)], ⟨by have := HK.out; omega⟩, ⟨by rw [HTB.out, HTC.out]; exact F.out⟩⟩
    | succ m_ =>
      have hk : k < l.length := by have := HK.out; omega
      have HKI := Aside0.mk (show (k : Int) < (l.length : Int) by omega)
      have r1 : decide ((k : Int) < (l.length : Int)) = true := decide_eq_true HKI.out
      have r2 : decide (k < l.length) = true := decide_eq_true hk
      have r3 : (0 : Int) ≤ (k : Int) := by omega
      have HI0 := Aside0.mk (show (0 : Int) ≤ (l.length : Int) - 1 - (k : Int) by omega)
      have HI1 := Aside0.mk (show (l.length : Int) - 1 - (k : Int) < (l.length : Int) by omega)
      obtain ⟨x, hx⟩ : ∃ x, rd_T26 l (k : Int) = x := ⟨_, rfl⟩
      obtain ⟨y, hy⟩ : ∃ y, rd_T26 l ((l.length : Int) - 1 - (k : Int)) = y := ⟨_, rfl⟩
      have HTN := Aside0.mk (show ((l.length : Int) - 1 - (k : Int)).toNat = l.length - 1 - k by omega)
      have HXE := Aside0.mk hx
      have HYE := Aside0.mk hy
      have HX := Aside0.mk (HO.out x (by rw [← hx]; exact rd_mem r3 HKI.out))
      have HY := Aside0.mk (HO.out y (by rw [← hy]; exact rd_mem HI0.out HI1.out))
      have HTA := Aside0.mk (show (l.take (k + 1)).foldl takeS (new18 fn) = takeS ((l.take k).foldl takeS (new18 fn)) x by rw [← hx]; exact take_fold hk (new18 fn))
      have HTD := Aside0.mk (show (l.reverse.take (k + 1)).foldl takeS (new18 fn) = takeS ((l.reverse.take k).foldl takeS (new18 fn)) y by rw [← hy, ← rd_rev hk]; exact take_fold (by rw [List.length_reverse]; exact hk) (new18 fn))
      have FA := Aside0.mk (show ((l.take k).foldl takeS (new18 fn)).fn = fn from fold_fn (new18 fn) _)
      have FD := Aside0.mk (show ((l.reverse.take k).foldl takeS (new18 fn)).fn = fn from fold_fn (new18 fn) _)
      generalize (l.take k).foldl takeS (new18 fn) = sa at F FA HTA
      generalize (l.reverse.take k).foldl takeS (new18 fn) = sd at F FD HTD
      have H1sa := Aside0.mk (show 1 ≤ sa.fn by rw [FA.out]; exact H1.out)
      have H2sa := Aside0.mk (show sa.fn < 6 by rw [FA.out]; exact H2.out)
      have H1sd := Aside0.mk (show 1 ≤ sd.fn by rw [FD.out]; exact H1.out)
      have H2sd := Aside0.mk (show sd.fn < 6 by rw [FD.out]; exact H2.out)
      have e1 : Value.int .i64 (wrap64 ((l.length : Int) - 1)) = .int .i64 ((l.length : Int) - 1) := by rw [wrapI (by omega) (by have := HL.out; omega)]
      have e2 : Value.int .i64 (wrap64 ((l.length : Int) - 1 - (k : Int))) = .int .i64 ((l.length : Int) - 1 - (k : Int)) := by rw [wrapI (by have := HI0.out; omega) (by have := HL.out; omega)]
      have i0 : decide ((0 : Int) ≤ (l.length : Int) - 1 - (k : Int)) = true := decide_eq_true HI0.out
      have i1 : (0 : Int) ≤ (l.length : Int) - 1 - (k : Int) := HI0.out
      have i2 : (l.length : Int) - 1 - (k : Int) < (l.length : Int) := HI1.out
      clear hx hy
      obtain ⟨ad_, e_, x0, x1, x2, x3⟩ := at_T26 (Kd.C_below HR.out F.out.below) ((k : Int)) r3 HKI.out
      cases e_
      rw [Int.toNat_natCast, HXE.out] at x0
      rw [Int.toNat_natCast, HXE.out] at x1
      rw [Int.toNat_natCast, HXE.out] at x2
      rw [Int.toNat_natCast, HXE.out] at x3
      go_wp2_with (first
        | ((with_reducible refine gate_callee (f := 14) rfl ?_); refine goesL_ (some 89) rfl rfl Try.func14 (by kernel_rfl) rfl #[.pointer (some ⟨ga, 0, none⟩), .agg (vc x)] rfl (by (try simp only [List.map_toArray, List.map_cons, List.map_nil]); first | done | rfl) ?_; go_loud (refine (agg_Add.callsB ga ma sa x _ F.out.ia H1sa.out H2sa.out HX.out.1 HX.out.2).mono ?_); rintro e w11 ⟨rfl, st, hi⟩; refine ⟨_, rfl, ?_⟩; have F_ := Aside0.mk (F.out.addA st hi); clear F; have F := F_; clear F_ st hi; clear x0 x1 x2 x3; obtain ⟨ad_, e_, x0, x1, x2, x3⟩ := at_T26 (Kd.C_below HR.out F.out.below) ((k : Int)) r3 HKI.out; cases e_; rw [Int.toNat_natCast, HXE.out] at x0; rw [Int.toNat_natCast, HXE.out] at x1; rw [Int.toNat_natCast, HXE.out] at x2; rw [Int.toNat_natCast, HXE.out] at x3)
        | ((with_reducible refine gate_callee (f := 14) rfl ?_); refine goesL_ (some 95) rfl rfl Try.func14 (by kernel_rfl) rfl #[.pointer (some ⟨gc, 0, none⟩), .agg (vc x)] rfl (by (try simp only [List.map_toArray, List.map_cons, List.map_nil]); first | done | rfl) ?_; go_loud (refine (agg_Add.callsB gc mc sa x _ F.out.ic H1sa.out H2sa.out HX.out.1 HX.out.2).mono ?_); rintro e w12 ⟨rfl, st, hi⟩; refine ⟨_, rfl, ?_⟩; have F_ := Aside0.mk (F.out.addC st hi); clear F; have F := F_; clear F_ st hi; clear x0 x1 x2 x3; obtain ⟨ad_, e_, y0, y1, y2, y3⟩ := at_T26 (Kd.C_below HR.out F.out.below) (((l.length : Int) - 1 - (k : Int))) HI0.out HI1.out; cases e_; rw [HYE.out] at y0 y1 y2 y3; rw [HTN.out] at y0; rw [HTN.out] at y1; rw [HTN.out] at y2; rw [HTN.out] at y3)
        | ((with_reducible refine gate_callee (f := 14) rfl ?_); refine goesL_ (some 105) rfl rfl Try.func14 (by kernel_rfl) rfl #[.pointer (some ⟨gd, 0, none⟩), .agg (vc y)] rfl (by (try simp only [List.map_toArray, List.map_cons, List.map_nil]); first | done | rfl) ?_; go_loud (refine (agg_Add.callsB gd md sd y _ F.out.id H1sd.out H2sd.out HY.out.1 HY.out.2).mono ?_); rintro e w13 ⟨rfl, st, hi⟩; refine ⟨_, rfl, ?_⟩; have F_ := Aside0.mk (F.out.addD st hi); clear F; have F := F_; clear F_ st hi; clear y0 y1 y2 y3))
      clear e1 e2 i0 i1 i2
      go_roundg m_
      case measure => omega
      case rel => exact ⟨k + 1, by rw [show ((k + 1 : Nat) : Int) = (k : Int) + 1 from by omega, wrapI (by omega) (by have := HL.out; omega)], ⟨by have := HK.out; omega⟩, ⟨by rw [HTA.out, HTD.out]; exact F.out⟩⟩
theorem winnowerlaw18_AggOrder.calls (fn : Int) (l : List S26) (A : Option Addr) (c : Nat) (m : List S26) (B : Option Addr) (d : Nat) (w : World) (hr : Kd.C k26 w A l.length l) (hc : l.length ≤ c) (ho : okI l) (hr2 : Kd.C k26 w B m.length m) (hc2 : m.length ≤ d) (ho2 : okI m) :
    Calls Try.prog 6 #[.int .i64 fn, .slice A l.length c, .slice B m.length d] w fun e w' => e = .returned (.bool true) ∧ Below w.heap.size w w' := by
  cases hf : fewS l with
  | false => exact winnowerlaw18_AggOrder.no1 fn l A c m B d w hr hc ho hr2 hc2 ho2 _ hf rfl
  | true =>
    cases hf2 : fewS m with
    | false => exact winnowerlaw18_AggOrder.no2 fn l A c m B d w hr hc ho hr2 hc2 ho2 hf hf2
    | true =>
      by_cases h1 : fn < 1
      · exact winnowerlaw18_AggOrder.bad1 fn l A c m B d w hr hc ho hr2 hc2 ho2 hf hf2 (decide_eq_true h1)
      · by_cases h2 : 6 ≤ fn
        · exact winnowerlaw18_AggOrder.bad2 fn l A c m B d w hr hc ho hr2 hc2 ho2 hf hf2 (decide_eq_false h1) (decide_eq_true h2)
        · exact winnowerlaw18_AggOrder.ok_ fn l A c m B d w hr hc ho hr2 hc2 ho2 hf hf2 (by omega) (by omega)

end Go.Proofs.Ytgjmpancofjjbaa.Q
