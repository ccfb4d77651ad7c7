/- Chapter 18, part 5: statement AggMore. -/
import Derived.Laws.Rows
import Derived.Deep.MidRow
import Derived.Deep.WholeRow
import Derived.Deep.RegionHeld3
import Derived.Deep.RegionLaw
import Derived.Test.YtgjmpancofjjbaaHstep
import Derived.Test.YtgjmpancofjjbaaHmapint
import Derived.Test.YtgjmpancofjjbaaHnum
import Derived.Test.YtgjmpancofjjbaaHval
import Derived.Test.YtgjmpancofjjbaaHvalord
import Derived.Test.YtgjmpancofjjbaaHagg18
import Derived.Test.YtgjmpancofjjbaaHagg18p
import Derived.Test.YtgjmpancofjjbaaHagg18d
import Derived.Test.YtgjmpancofjjbaaQx0
import Derived.Test.YtgjmpancofjjbaaQx4
import Derived.Test.YtgjmpancofjjbaaQx5
import Derived.Test.YtgjmpancofjjbaaQx9
namespace Go.Proofs.Ytgjmpancofjjbaa.Q
open Go.RowKit Go.Proofs.YtgjmpancofjjbaaW.PrintWords Go.Proofs.YtgjmpancofjjbaaW.PrintLast Go.Proofs.YtgjmpancofjjbaaW.PrintMore
attribute [local go_sem] max2_int min2_int max_two min_two max_three min_three max_four min_four   -- for this text's walks alone
set_option linter.unusedVariables false
set_option linter.unusedSimpArgs false

-- SAYS Chapter 18, part 5: statement AggMore.
-- FUNCS winnower/winnowerlaw18.few winnower/winnowerref06.Order
-- NEEDS winnowerlaw18_few.calls winnowerref06_Order.calls
-- IMPORT Derived.Laws.Rows
-- IMPORT Derived.Deep.MidRow
-- IMPORT Derived.Deep.WholeRow
-- IMPORT Derived.Deep.RegionHeld3
-- IMPORT Derived.Deep.RegionLaw
-- IMPORT Derived.Test.YtgjmpancofjjbaaHstep
-- IMPORT Derived.Test.YtgjmpancofjjbaaHmapint
-- IMPORT Derived.Test.YtgjmpancofjjbaaHnum
-- IMPORT Derived.Test.YtgjmpancofjjbaaHval
-- IMPORT Derived.Test.YtgjmpancofjjbaaHvalord
-- IMPORT Derived.Test.YtgjmpancofjjbaaHagg18
-- IMPORT Derived.Test.YtgjmpancofjjbaaHagg18p
-- IMPORT Derived.Test.YtgjmpancofjjbaaHagg18d
open Go.Proofs.Ytgjmpancofjjbaa.Hstep Go.Proofs.Ytgjmpancofjjbaa.Hmapint Go.Proofs.Ytgjmpancofjjbaa.Hnum Go.Proofs.Ytgjmpancofjjbaa.Hval
attribute [local go_sem high] eqV_
set_option maxHeartbeats 8000000
set_option maxRecDepth 100000
theorem C_row26 {W : World} {k : Nat} (a : S26) (h : W.heap[k]? = some (.cells (vc a) 26 (0, 0))) : Kd.C k26 W (some ⟨k, 0, none⟩) 1 [a] := by
  refine C_rows26 h (by simp) ?_
  intro j p hp i u hu
  have hj : j < 1 := (List.getElem?_eq_some_iff.1 hp).1
  obtain rfl : j = 0 := by omega
  obtain rfl := Option.some.inj hp
  rw [Nat.zero_mul, Nat.zero_add, ← hu]
  simp
theorem AggMore.reg7 (fn : Int) (g5 : Nat) (v : S26) (l : List S26) (A : Option Addr) (c : Nat) (er : Int) (z : S26) (lv : List S26) {t2 t3 t4 t6 t7 t8 t9 t10 t11 t12 t13 t14 t15 t16 t17 t18 t19 t20 t21 t22 t23 t24 t25 t26 t27 t28 t29 t30 t31 t32 t33 t34 t35 t36 t37 t38 t39 t40 t41 t42 t43 t44 t45 t46 t47 t48 t49 t50 t51 t52 t53 t54 t55 t56 t57 t58 t59 t60 t61 t62 t63 t64 t65 t66 t67 t68 t69 t70 t71 t72 t73 t74 t75 t76 t77 t78 t79 t80 t81 t82 t83 t84 t85 t86 t87 t88 t89 t90 t91 t92 t93 t94 t95 t96 t97 t98 t99 t100 t101 t102 t103 t104 t105 t106 t107 t108 t109 t110 t111 t112 t113 t114 t115 : Value} (w0_ : World) (hb5 : w0_.heap[g5]? = some (.cells (vc v) 26 (0, 0))) (hr : Kd.C k26 w0_ A l.length l) (hl : l.length ≤ 1000) (hlv : l ++ [v] = lv) (hll : lv.length ≤ 1000) (hov : okI lv) (ht : toldS fn lv = (z, er)) (Q : Exit → Act → World → Prop) (hP : ∀ c (a : Act) (d : Option Nat) (u : Value) (w : World), Q (.panic c) (a.put d u) w → Q (.panic c) a w)
    (hQ : ∀ (y59 y61 y62 : Value) (g13 : Nat) (w' : World), Below w0_.heap.size w0_ w' → w0_.heap.size ≤ g13 → w'.heap[g13]? = some (.cells (vc z) 26 (0, 0)) → Q .normal { tmps := #[.int .i64 fn, .slice A l.length c, t2, t3, t4, .pointer (some ⟨g5, 0, none⟩), t6, t7, t8, t9, t10, t11, t12, .pointer (some ⟨g13, 0, none⟩), .int .i64 er, t15, t16, t17, t18, t19, t20, t21, t22, t23, t24, t25, t26, t27, t28, t29, t30, t31, t32, t33, t34, t35, t36, t37, t38, t39, t40, t41, t42, t43, t44, t45, t46, t47, t48, t49, t50, t51, t52, t53, t54, t55, .tuple #[.agg (vc z), .int .i64 er], .int .i64 fn, .slice A l.length c, y59, .agg (vc v), y61, y62, .tuple #[.agg (vc z), .int .i64 er], .agg (vc z), .int .i64 er, t66, t67, t68, t69, t70, t71, t72, t73, t74, t75, t76, t77, t78, t79, t80, t81, t82, t83, t84, t85, t86, t87, t88, t89, t90, t91, t92, t93, t94, t95, t96, t97, t98, t99, t100, t101, t102, t103, t104, t105, t106, t107, t108, t109, t110, t111, t112, t113, t114, t115], defers := [] } w') :
    (Code.region 7 #[{ dst := some 57, op := Op.move (Operand.tmp 0), type := 3, pos := "law.go:159", after := #[], guard := none }, { dst := some 58, op := Op.move (Operand.tmp 1), type := 22, pos := "law.go:159", after := #[], guard := none }, { dst := some 59, op := Op.call { callee := Callee.builtin Builtin.append, args := #[Operand.const (Value.slice none 0 0), Operand.tmp 58], argTypes := #[22, 22] }, type := 22, pos := "law.go:159", after := #[{ on := 1, ground := Ground.data }], guard := none }, { dst := some 60, op := Op.load 26 (Operand.tmp 5), type := 26, pos := "law.go:159", after := #[], guard := none }, { dst := some 61, op := Op.buildSlice 22 1 #[(0, Operand.tmp 60)], type := 22, pos := "law.go:159", after := #[{ on := 3, ground := Ground.data }], guard := none }, { dst := some 62, op := Op.call { callee := Callee.builtin Builtin.append, args := #[Operand.tmp 59, Operand.tmp 61], argTypes := #[22, 22] }, type := 22, pos := "law.go:159", after := #[{ on := 2, ground := Ground.data }, { on := 4, ground := Ground.data }, { on := 2, ground := Ground.chain }], guard := none }, { dst := some 63, op := Op.call { callee := Callee.value (Operand.func 9), args := #[Operand.tmp 57, Operand.tmp 62], argTypes := #[3, 22] }, type := 28, pos := "law.go:159", after := #[{ on := 0, ground := Ground.data }, { on := 5, ground := Ground.data }, { on := 5, ground := Ground.chain }], guard := none }, { dst := some 56, op := Op.move (Operand.tmp 63), type := 28, pos := "law.go:159", after := #[{ on := 6, ground := Ground.data }], guard := none }, { dst := some 64, op := Op.extract (Operand.tmp 56) 0, type := 26, pos := "law.go:159", after := #[{ on := 7, ground := Ground.data }], guard := none }, { dst := some 65, op := Op.extract (Operand.tmp 56) 1, type := 27, pos := "law.go:159", after := #[{ on := 7, ground := Ground.data }, { on := 11, ground := Ground.gcOnly Departure.lateStores }], guard := none }, { dst := some 13, op := Op.alloc 26, type := 0, pos := "law.go:159", after := #[], guard := none }, { dst := none, op := Op.store 26 (Operand.tmp 13) (Operand.tmp 64), type := 0, pos := "law.go:159", after := #[{ on := 10, ground := Ground.data }, { on := 8, ground := Ground.data }, { on := 6, ground := Ground.chain }, { on := 0, ground := Ground.phase }, { on := 1, ground := Ground.phase }, { on := 2, ground := Ground.phase }, { on := 3, ground := Ground.phase }, { on := 4, ground := Ground.phase }, { on := 5, ground := Ground.phase }, { on := 6, ground := Ground.phase }, { on := 7, ground := Ground.phase }, { on := 8, ground := Ground.phase }, { on := 9, ground := Ground.textOnly Departure.lateStores }, { on := 10, ground := Ground.phase }], guard := none }, { dst := some 14, op := Op.assign (Operand.tmp 65), type := 27, pos := "law.go:159", after := #[{ on := 9, ground := Ground.data }, { on := 11, ground := Ground.chain }, { on := 0, ground := Ground.phase }, { on := 1, ground := Ground.phase }, { on := 2, ground := Ground.phase }, { on := 3, ground := Ground.phase }, { on := 4, ground := Ground.phase }, { on := 5, ground := Ground.phase }, { on := 6, ground := Ground.phase }, { on := 7, ground := Ground.phase }, { on := 8, ground := Ground.phase }, { on := 9, ground := Ground.phase }, { on := 10, ground := Ground.phase }, { on := 11, ground := Ground.phase }], guard := none }] true).wp Try.prog Q { tmps := #[.int .i64 fn, .slice A l.length c, t2, t3, t4, .pointer (some ⟨g5, 0, none⟩), t6, t7, t8, t9, t10, t11, t12, t13, t14, t15, t16, t17, t18, t19, t20, t21, t22, t23, t24, t25, t26, t27, t28, t29, t30, t31, t32, t33, t34, t35, t36, t37, t38, t39, t40, t41, t42, t43, t44, t45, t46, t47, t48, t49, t50, t51, t52, t53, t54, t55, t56, t57, t58, t59, t60, t61, t62, t63, t64, t65, t66, t67, t68, t69, t70, t71, t72, t73, t74, t75, t76, t77, t78, t79, t80, t81, t82, t83, t84, t85, t86, t87, t88, t89, t90, t91, t92, t93, t94, t95, t96, t97, t98, t99, t100, t101, t102, t103, t104, t105, t106, t107, t108, t109, t110, t111, t112, t113, t114, t115], defers := [] } w0_ := by
  have hu26 := Try.underlying26
  have HB0 := Aside0.mk hb5
  have HR := Aside0.mk hr
  have HL := Aside0.mk hl
  have HLV := Aside0.mk hlv
  have HLL := Aside0.mk hll
  have HOV := Aside0.mk hov
  have HT := Aside0.mk ht
  have HQ := Aside0.mk hQ
  have HP := Aside0.mk hP
  clear hb5 hr hl hlv hll hov ht hQ hP
  refine wp_region_held (S := Below w0_.heap.size w0_) (by kernel_rfl) ?_
  have HB := Aside0.mk (below_drew1 (Below.refl w0_.heap.size w0_))
  have HRW := Aside0.mk (Kd.C_below HR.out HB.out)
  obtain ⟨W0, hW0⟩ : ∃ W, W = w0_.drew := ⟨_, rfl⟩
  have hW0_ : ({ w0_ with drawn := w0_.drawn + 1 } : World) = W0 := hW0.symm
  rw [hW0_]
  rw [← hW0] at HB HRW
  clear hW0 hW0_
  refine wpAnyH_take (i := 0) (oi := ({ dst := some 57, op := Op.move (Operand.tmp 0), type := 3, pos := "law.go:159", after := #[], guard := none } : Oper)) (v := ?_) rfl (by kernel_rfl) (by kernel_rfl) (by kernel_rfl) (fun c a w => HP.out c a _ _ w) (Or.inl ⟨by rfl, ?_⟩) HB.out ?_
  rotate_left
  · intro w_ _; go_simp; (try (with_reducible rfl))
  (try simp only [Act.put, List.setIfInBounds_toArray, List.set_cons_zero, List.set_cons_succ])
  refine wpAnyH_take (i := 1) (oi := ({ dst := some 58, op := Op.move (Operand.tmp 1), type := 22, pos := "law.go:159", after := #[], guard := none } : Oper)) (v := ?_) rfl (by kernel_rfl) (by kernel_rfl) (by kernel_rfl) (fun c a w => HP.out c a _ _ w) (Or.inl ⟨by rfl, ?_⟩) HB.out ?_
  rotate_left
  · intro w_ _; go_simp; (try (with_reducible rfl))
  (try simp only [Act.put, List.setIfInBounds_toArray, List.set_cons_zero, List.set_cons_succ])
  refine wpAnyH_take (i := 3) (oi := ({ dst := some 60, op := Op.load 26 (Operand.tmp 5), type := 26, pos := "law.go:159", after := #[], guard := none } : Oper)) (v := ?_) rfl (by kernel_rfl) (by kernel_rfl) (by kernel_rfl) (fun c a w => HP.out c a _ _ w) (Or.inl ⟨by rfl, ?_⟩) HB.out ?_
  rotate_left
  · intro w_ hS_; have B_ := blk_below HB0.out hS_; have hv0 : w_.cell? ⟨g5, 0, none⟩ = some (.int .i64 v.f0) := (blk_cell B_ 0).trans rfl; have hv1 : w_.cell? ⟨g5, 1, none⟩ = some (.int .i64 v.f1) := (blk_cell B_ 1).trans rfl; have hv2 : w_.cell? ⟨g5, 2, none⟩ = some (.string v.f2) := (blk_cell B_ 2).trans rfl; have hv3 : w_.cell? ⟨g5, 3, none⟩ = some (.bool v.f3) := (blk_cell B_ 3).trans rfl; clear B_ hS_; go_simp; (try (with_reducible rfl))
  (try simp only [Act.put, List.setIfInBounds_toArray, List.set_cons_zero, List.set_cons_succ])
  refine wpAnyH_ready (rs := [2, 4, 10]) (by kernel_rfl) (by simp) ?_
  refine AllReadyH.cons (o := ({ dst := some 59, op := Op.call { callee := Callee.builtin Builtin.append, args := #[Operand.const (Value.slice none 0 0), Operand.tmp 58], argTypes := #[22, 22] }, type := 22, pos := "law.go:159", after := #[{ on := 1, ground := Ground.data }], guard := none } : Oper)) rfl (fun K hK => ?_) ?_
  · refine Kd.R_append_rows_step k26 (w0 := w0_) w0_.heap.size (by rfl) (.const (.slice none 0 0)) (.tmp 58) 22 26 (.agg #[(.int .i64 0), (.int .i64 0), (.string ⟨#[]⟩), (.bool false)]) 40 rfl Try.underlying22 info26 rfl (by decide) (by omega) (.slice none 0 0) ([] : List S26) l A l.length c (fun _ => True) (fun _ => False) rfl rfl (Kd.R_nil _ _ _ _ _) (Kd.C_below HR.out HB.out) (fun _ _ h => h) (fun _ h => h.elim) (fun _ _ => trivial) HB.out HB.out.size (by have := HL.out; simp only [List.length_nil]; omega) ?_
    intro y59 W1 ho hbn hg hat
    rw [List.nil_append] at ho
    have HA := Aside0.mk ho
    clear HB
    have HB := Aside0.mk hbn
    clear ho hbn hg hat
    refine hK.out _ _ HB.out (fun _ => ?_)
    clear hK K
    (try simp only [Act.put, List.setIfInBounds_toArray, List.set_cons_zero, List.set_cons_succ])
    refine wpAnyH_ready (rs := [4, 10]) (by kernel_rfl) (by simp) ?_
    refine AllReadyH.cons (o := ({ dst := some 61, op := Op.buildSlice 22 1 #[(0, Operand.tmp 60)], type := 22, pos := "law.go:159", after := #[{ on := 3, ground := Ground.data }], guard := none } : Oper)) rfl (fun K hK => ?_) ?_
    · go_simp
      have hbn := below_alloc (Below.refl W1.heap.size W1) (.cells (vc v) 26 (0, 0))
      obtain ⟨gB, hgB⟩ : ∃ g, g = W1.heap.size := ⟨_, rfl⟩
      have BB := heap_alloc_last W1 (.cells (vc v) 26 (0, 0))
      obtain ⟨W2, hW2⟩ : ∃ W, W = W1.alloc (.cells (vc v) 26 (0, 0)) := ⟨_, rfl⟩
      have hW2_ : W2 = W1.alloc (.cells #[.int .i64 v.f0, .int .i64 v.f1, .string v.f2, .bool v.f3] 26 (0, 0)) := hW2
      (first | rw [← hW2] | rw [← hW2_])
      rw [← hgB]
      rw [← hW2] at hbn BB
      rw [← hgB] at BB
      have BB := Aside0.mk BB
      clear hgB hW2 hW2_
      have HA_ := Aside0.mk (Kd.R_below HA.out hbn); clear HA; have HA := HA_; clear HA_
      have HBn := Aside0.mk (below_step HB.out hbn); clear HB; have HB := HBn; clear HBn
      clear hbn
      refine hK.out _ _ HB.out (fun _ => ?_)
      clear hK K
      (try simp only [Act.put, List.setIfInBounds_toArray, List.set_cons_zero, List.set_cons_succ])
      refine wpAnyH_ready (rs := [5, 10]) (by kernel_rfl) (by simp) ?_
      refine AllReadyH.cons (o := ({ dst := some 62, op := Op.call { callee := Callee.builtin Builtin.append, args := #[Operand.tmp 59, Operand.tmp 61], argTypes := #[22, 22] }, type := 22, pos := "law.go:159", after := #[{ on := 2, ground := Ground.data }, { on := 4, ground := Ground.data }, { on := 2, ground := Ground.chain }], guard := none } : Oper)) rfl (fun K hK => ?_) ?_
      · refine Kd.R_append_rows_step k26 (w0 := w0_) w0_.heap.size (by rfl) (.tmp 59) (.tmp 61) 22 26 (.agg #[(.int .i64 0), (.int .i64 0), (.string ⟨#[]⟩), (.bool false)]) 40 rfl Try.underlying22 info26 rfl (by decide) (by omega) y59 l [v] (some ⟨gB, 0, none⟩) 1 1 (fun _ => True) (fun _ => False) rfl rfl HA.out (C_row26 v BB.out) (fun _ _ h => h) (fun _ h => h.elim) (fun _ _ => trivial) HB.out HB.out.size (by have := HL.out; omega) ?_
        intro y62 W3 ho hbn hg hat
        rw [HLV.out] at ho
        obtain ⟨Ap, cp, ep⟩ := Kd.R_slice ho
        subst ep
        have HC := Aside0.mk ho
        clear HB HA BB
        have HB := Aside0.mk hbn
        clear ho hbn hg hat
        refine hK.out _ _ HB.out (fun _ => ?_)
        clear hK K
        (try simp only [Act.put, List.setIfInBounds_toArray, List.set_cons_zero, List.set_cons_succ])
        refine wpAnyH_ready (rs := [6, 10]) (by kernel_rfl) (by simp) ?_
        refine AllReadyH.cons (o := ({ dst := some 63, op := Op.call { callee := Callee.value (Operand.func 9), args := #[Operand.tmp 57, Operand.tmp 62], argTypes := #[3, 22] }, type := 28, pos := "law.go:159", after := #[{ on := 0, ground := Ground.data }, { on := 5, ground := Ground.data }, { on := 5, ground := Ground.chain }], guard := none } : Oper)) rfl (fun K hK => ?_) ?_
        · go_simp
          go_at_call 9
          refine (winnowerlaw18_told.calls fn lv Ap cp z er _ (Kd.R_reads' HC.out).2.2 HLL.out HOV.out HT.out).mono ?_
          rintro e W4 ⟨rfl, hbn⟩
          have HBn := Aside0.mk (below_step HB.out hbn); clear HB; have HB := HBn; clear HBn
          clear hbn HC
          (try dsimp only)
          refine hK.out _ _ HB.out (fun _ => ?_)
          clear hK K
          (try simp only [Act.put, List.setIfInBounds_toArray, List.set_cons_zero, List.set_cons_succ])
          refine wpAnyH_take (i := 7) (oi := ({ dst := some 56, op := Op.move (Operand.tmp 63), type := 28, pos := "law.go:159", after := #[{ on := 6, ground := Ground.data }], guard := none } : Oper)) (v := ?_) rfl (by kernel_rfl) (by kernel_rfl) (by kernel_rfl) (fun c a w => HP.out c a _ _ w) (Or.inl ⟨by rfl, ?_⟩) HB.out ?_
          rotate_left
          · intro w_ _; go_simp; (try (with_reducible rfl))
          (try simp only [Act.put, List.setIfInBounds_toArray, List.set_cons_zero, List.set_cons_succ])
          refine wpAnyH_take (i := 8) (oi := ({ dst := some 64, op := Op.extract (Operand.tmp 56) 0, type := 26, pos := "law.go:159", after := #[{ on := 7, ground := Ground.data }], guard := none } : Oper)) (v := ?_) rfl (by kernel_rfl) (by kernel_rfl) (by kernel_rfl) (fun c a w => HP.out c a _ _ w) (Or.inl ⟨by rfl, ?_⟩) HB.out ?_
          rotate_left
          · intro w_ _; go_simp; (try (with_reducible rfl))
          (try simp only [Act.put, List.setIfInBounds_toArray, List.set_cons_zero, List.set_cons_succ])
          refine wpAnyH_take (i := 9) (oi := ({ dst := some 65, op := Op.extract (Operand.tmp 56) 1, type := 27, pos := "law.go:159", after := #[{ on := 7, ground := Ground.data }, { on := 11, ground := Ground.gcOnly Departure.lateStores }], guard := none } : Oper)) (v := ?_) rfl (by kernel_rfl) (by kernel_rfl) (by kernel_rfl) (fun c a w => HP.out c a _ _ w) (Or.inl ⟨by rfl, ?_⟩) HB.out ?_
          rotate_left
          · intro w_ _; go_simp; (try (with_reducible rfl))
          (try simp only [Act.put, List.setIfInBounds_toArray, List.set_cons_zero, List.set_cons_succ])
          refine wpAnyH_ready (rs := [10]) (by kernel_rfl) (by simp) ?_
          refine AllReadyH.cons (o := ({ dst := some 13, op := Op.alloc 26, type := 0, pos := "law.go:159", after := #[], guard := none } : Oper)) rfl (fun K hK => ?_) ?_
          · go_simp
            have hbn := below_alloc (Below.refl W4.heap.size W4) (.cells #[.int .i64 0, .int .i64 0, .string ⟨#[]⟩, .bool false] 26 (0, 0))
            have hge := HB.out.size
            obtain ⟨gE, hgE⟩ : ∃ g, g = W4.heap.size := ⟨_, rfl⟩
            have BE := heap_alloc_last W4 (.cells #[.int .i64 0, .int .i64 0, .string ⟨#[]⟩, .bool false] 26 (0, 0))
            obtain ⟨W5, hW5⟩ : ∃ W, W = W4.alloc (.cells #[.int .i64 0, .int .i64 0, .string ⟨#[]⟩, .bool false] 26 (0, 0)) := ⟨_, rfl⟩
            rw [← hW5]
            rw [← hgE]
            rw [← hW5] at hbn BE
            rw [← hgE] at BE hge
            have BE := Aside0.mk BE
            have GE := Aside0.mk hge
            clear hge hgE hW5
            have HBn := Aside0.mk (below_step HB.out hbn); clear HB; have HB := HBn; clear HBn
            clear hbn
            refine hK.out _ _ HB.out (fun _ => ?_)
            clear hK K
            (try simp only [Act.put, List.setIfInBounds_toArray, List.set_cons_zero, List.set_cons_succ])
            refine wpAnyH_ready (rs := [11]) (by kernel_rfl) (by simp) ?_
            refine AllReadyH.cons (o := ({ dst := none, op := Op.store 26 (Operand.tmp 13) (Operand.tmp 64), type := 0, pos := "law.go:159", after := #[{ on := 10, ground := Ground.data }, { on := 8, ground := Ground.data }, { on := 6, ground := Ground.chain }, { on := 0, ground := Ground.phase }, { on := 1, ground := Ground.phase }, { on := 2, ground := Ground.phase }, { on := 3, ground := Ground.phase }, { on := 4, ground := Ground.phase }, { on := 5, ground := Ground.phase }, { on := 6, ground := Ground.phase }, { on := 7, ground := Ground.phase }, { on := 8, ground := Ground.phase }, { on := 9, ground := Ground.textOnly Departure.lateStores }, { on := 10, ground := Ground.phase }], guard := none } : Oper)) rfl (fun K hK => ?_) ?_
            · have hz0 : W5.cell? ⟨gE, 0, none⟩ = some (.int .i64 0) := (blk_cell BE.out 0).trans rfl
              have fz0 := blk_frozen BE.out 0
              have hz1 : W5.cell? ⟨gE, 1, none⟩ = some (.int .i64 0) := (blk_cell BE.out 1).trans rfl
              have fz1 := blk_frozen BE.out 1
              have hz2 : W5.cell? ⟨gE, 2, none⟩ = some (.string ⟨#[]⟩) := (blk_cell BE.out 2).trans rfl
              have fz2 := blk_frozen BE.out 2
              have hz3 : W5.cell? ⟨gE, 3, none⟩ = some (.bool false) := (blk_cell BE.out 3).trans rfl
              have fz3 := blk_frozen BE.out 3
              go_simp
              obtain ⟨W6, hW6, b6, st6⟩ := nest4 W5 gE 26 (.int .i64 0) (.int .i64 0) (.string ⟨#[]⟩) (.bool false) (.int .i64 z.f0) (.int .i64 z.f1) (.string z.f2) (.bool z.f3) BE.out
              rw [← hW6]
              have HBn := Aside0.mk (st6.fresh HB.out GE.out)
              have BF := Aside0.mk b6
              clear hz0 hz1 hz2 hz3 fz0 fz1 fz2 fz3 HB BE hW6 b6 st6
              have HB := HBn
              clear HBn
              refine hK.out _ _ HB.out (fun _ => ?_)
              clear hK K
              (try simp only [Act.put, List.setIfInBounds_toArray, List.set_cons_zero, List.set_cons_succ])
              refine wpAnyH_ready (rs := [12]) (by kernel_rfl) (by simp) ?_
              refine AllReadyH.cons (o := ({ dst := some 14, op := Op.assign (Operand.tmp 65), type := 27, pos := "law.go:159", after := #[{ on := 9, ground := Ground.data }, { on := 11, ground := Ground.chain }, { on := 0, ground := Ground.phase }, { on := 1, ground := Ground.phase }, { on := 2, ground := Ground.phase }, { on := 3, ground := Ground.phase }, { on := 4, ground := Ground.phase }, { on := 5, ground := Ground.phase }, { on := 6, ground := Ground.phase }, { on := 7, ground := Ground.phase }, { on := 8, ground := Ground.phase }, { on := 9, ground := Ground.phase }, { on := 10, ground := Ground.phase }, { on := 11, ground := Ground.phase }], guard := none } : Oper)) rfl (fun K hK => ?_) ?_
              · go_simp
                refine hK.out _ _ HB.out (fun _ => ?_)
                clear hK K
                (try simp only [Act.put, List.setIfInBounds_toArray, List.set_cons_zero, List.set_cons_succ])
                refine wpAnyH_done (by kernel_rfl) ?_ _
                exact HQ.out _ _ _ _ _ HB.out GE.out BF.out
              exact AllReadyH.nil
            exact AllReadyH.nil
          exact AllReadyH.nil
        refine AllReadyH.cons (o := ({ dst := some 13, op := Op.alloc 26, type := 0, pos := "law.go:159", after := #[], guard := none } : Oper)) rfl (fun K hK => ?_) ?_
        · go_simp
          have hbn := below_alloc (Below.refl W3.heap.size W3) (.cells #[.int .i64 0, .int .i64 0, .string ⟨#[]⟩, .bool false] 26 (0, 0))
          have hge := HB.out.size
          obtain ⟨gE, hgE⟩ : ∃ g, g = W3.heap.size := ⟨_, rfl⟩
          have BE := heap_alloc_last W3 (.cells #[.int .i64 0, .int .i64 0, .string ⟨#[]⟩, .bool false] 26 (0, 0))
          obtain ⟨W8, hW8⟩ : ∃ W, W = W3.alloc (.cells #[.int .i64 0, .int .i64 0, .string ⟨#[]⟩, .bool false] 26 (0, 0)) := ⟨_, rfl⟩
          rw [← hW8]
          rw [← hgE]
          rw [← hW8] at hbn BE
          rw [← hgE] at BE hge
          have BE := Aside0.mk BE
          have GE := Aside0.mk hge
          clear hge hgE hW8
          have HC_ := Aside0.mk (Kd.R_below HC.out hbn); clear HC; have HC := HC_; clear HC_
          have HBn := Aside0.mk (below_step HB.out hbn); clear HB; have HB := HBn; clear HBn
          clear hbn
          refine hK.out _ _ HB.out (fun _ => ?_)
          clear hK K
          (try simp only [Act.put, List.setIfInBounds_toArray, List.set_cons_zero, List.set_cons_succ])
          refine wpAnyH_ready (rs := [6]) (by kernel_rfl) (by simp) ?_
          refine AllReadyH.cons (o := ({ dst := some 63, op := Op.call { callee := Callee.value (Operand.func 9), args := #[Operand.tmp 57, Operand.tmp 62], argTypes := #[3, 22] }, type := 28, pos := "law.go:159", after := #[{ on := 0, ground := Ground.data }, { on := 5, ground := Ground.data }, { on := 5, ground := Ground.chain }], guard := none } : Oper)) rfl (fun K hK => ?_) ?_
          · go_simp
            go_at_call 9
            refine (winnowerlaw18_told.calls fn lv Ap cp z er _ (Kd.R_reads' HC.out).2.2 HLL.out HOV.out HT.out).mono ?_
            rintro e W9 ⟨rfl, hbn⟩
            have BE_ := Aside0.mk (blk_below BE.out hbn); clear BE; have BE := BE_; clear BE_
            have HBn := Aside0.mk (below_step HB.out hbn); clear HB; have HB := HBn; clear HBn
            clear hbn HC
            (try dsimp only)
            refine hK.out _ _ HB.out (fun _ => ?_)
            clear hK K
            (try simp only [Act.put, List.setIfInBounds_toArray, List.set_cons_zero, List.set_cons_succ])
            refine wpAnyH_take (i := 7) (oi := ({ dst := some 56, op := Op.move (Operand.tmp 63), type := 28, pos := "law.go:159", after := #[{ on := 6, ground := Ground.data }], guard := none } : Oper)) (v := ?_) rfl (by kernel_rfl) (by kernel_rfl) (by kernel_rfl) (fun c a w => HP.out c a _ _ w) (Or.inl ⟨by rfl, ?_⟩) HB.out ?_
            rotate_left
            · intro w_ _; go_simp; (try (with_reducible rfl))
            (try simp only [Act.put, List.setIfInBounds_toArray, List.set_cons_zero, List.set_cons_succ])
            refine wpAnyH_take (i := 8) (oi := ({ dst := some 64, op := Op.extract (Operand.tmp 56) 0, type := 26, pos := "law.go:159", after := #[{ on := 7, ground := Ground.data }], guard := none } : Oper)) (v := ?_) rfl (by kernel_rfl) (by kernel_rfl) (by kernel_rfl) (fun c a w => HP.out c a _ _ w) (Or.inl ⟨by rfl, ?_⟩) HB.out ?_
            rotate_left
            · intro w_ _; go_simp; (try (with_reducible rfl))
            (try simp only [Act.put, List.setIfInBounds_toArray, List.set_cons_zero, List.set_cons_succ])
            refine wpAnyH_take (i := 9) (oi := ({ dst := some 65, op := Op.extract (Operand.tmp 56) 1, type := 27, pos := "law.go:159", after := #[{ on := 7, ground := Ground.data }, { on := 11, ground := Ground.gcOnly Departure.lateStores }], guard := none } : Oper)) (v := ?_) rfl (by kernel_rfl) (by kernel_rfl) (by kernel_rfl) (fun c a w => HP.out c a _ _ w) (Or.inl ⟨by rfl, ?_⟩) HB.out ?_
            rotate_left
            · intro w_ _; go_simp; (try (with_reducible rfl))
            (try simp only [Act.put, List.setIfInBounds_toArray, List.set_cons_zero, List.set_cons_succ])
            refine wpAnyH_ready (rs := [11]) (by kernel_rfl) (by simp) ?_
            refine AllReadyH.cons (o := ({ dst := none, op := Op.store 26 (Operand.tmp 13) (Operand.tmp 64), type := 0, pos := "law.go:159", after := #[{ on := 10, ground := Ground.data }, { on := 8, ground := Ground.data }, { on := 6, ground := Ground.chain }, { on := 0, ground := Ground.phase }, { on := 1, ground := Ground.phase }, { on := 2, ground := Ground.phase }, { on := 3, ground := Ground.phase }, { on := 4, ground := Ground.phase }, { on := 5, ground := Ground.phase }, { on := 6, ground := Ground.phase }, { on := 7, ground := Ground.phase }, { on := 8, ground := Ground.phase }, { on := 9, ground := Ground.textOnly Departure.lateStores }, { on := 10, ground := Ground.phase }], guard := none } : Oper)) rfl (fun K hK => ?_) ?_
            · have hz0 : W9.cell? ⟨gE, 0, none⟩ = some (.int .i64 0) := (blk_cell BE.out 0).trans rfl
              have fz0 := blk_frozen BE.out 0
              have hz1 : W9.cell? ⟨gE, 1, none⟩ = some (.int .i64 0) := (blk_cell BE.out 1).trans rfl
              have fz1 := blk_frozen BE.out 1
              have hz2 : W9.cell? ⟨gE, 2, none⟩ = some (.string ⟨#[]⟩) := (blk_cell BE.out 2).trans rfl
              have fz2 := blk_frozen BE.out 2
              have hz3 : W9.cell? ⟨gE, 3, none⟩ = some (.bool false) := (blk_cell BE.out 3).trans rfl
              have fz3 := blk_frozen BE.out 3
              go_simp
              obtain ⟨W10, hW10, b6, st6⟩ := nest4 W9 gE 26 (.int .i64 0) (.int .i64 0) (.string ⟨#[]⟩) (.bool false) (.int .i64 z.f0) (.int .i64 z.f1) (.string z.f2) (.bool z.f3) BE.out
              rw [← hW10]
              have HBn := Aside0.mk (st6.fresh HB.out GE.out)
              have BF := Aside0.mk b6
              clear hz0 hz1 hz2 hz3 fz0 fz1 fz2 fz3 HB BE hW10 b6 st6
              have HB := HBn
              clear HBn
              refine hK.out _ _ HB.out (fun _ => ?_)
              clear hK K
              (try simp only [Act.put, List.setIfInBounds_toArray, List.set_cons_zero, List.set_cons_succ])
              refine wpAnyH_ready (rs := [12]) (by kernel_rfl) (by simp) ?_
              refine AllReadyH.cons (o := ({ dst := some 14, op := Op.assign (Operand.tmp 65), type := 27, pos := "law.go:159", after := #[{ on := 9, ground := Ground.data }, { on := 11, ground := Ground.chain }, { on := 0, ground := Ground.phase }, { on := 1, ground := Ground.phase }, { on := 2, ground := Ground.phase }, { on := 3, ground := Ground.phase }, { on := 4, ground := Ground.phase }, { on := 5, ground := Ground.phase }, { on := 6, ground := Ground.phase }, { on := 7, ground := Ground.phase }, { on := 8, ground := Ground.phase }, { on := 9, ground := Ground.phase }, { on := 10, ground := Ground.phase }, { on := 11, ground := Ground.phase }], guard := none } : Oper)) rfl (fun K hK => ?_) ?_
              · go_simp
                refine hK.out _ _ HB.out (fun _ => ?_)
                clear hK K
                (try simp only [Act.put, List.setIfInBounds_toArray, List.set_cons_zero, List.set_cons_succ])
                refine wpAnyH_done (by kernel_rfl) ?_ _
                exact HQ.out _ _ _ _ _ HB.out GE.out BF.out
              exact AllReadyH.nil
            exact AllReadyH.nil
          exact AllReadyH.nil
        exact AllReadyH.nil
      refine AllReadyH.cons (o := ({ dst := some 13, op := Op.alloc 26, type := 0, pos := "law.go:159", after := #[], guard := none } : Oper)) rfl (fun K hK => ?_) ?_
      · go_simp
        have hbn := below_alloc (Below.refl W2.heap.size W2) (.cells #[.int .i64 0, .int .i64 0, .string ⟨#[]⟩, .bool false] 26 (0, 0))
        have hge := HB.out.size
        obtain ⟨gE, hgE⟩ : ∃ g, g = W2.heap.size := ⟨_, rfl⟩
        have BE := heap_alloc_last W2 (.cells #[.int .i64 0, .int .i64 0, .string ⟨#[]⟩, .bool false] 26 (0, 0))
        obtain ⟨W12, hW12⟩ : ∃ W, W = W2.alloc (.cells #[.int .i64 0, .int .i64 0, .string ⟨#[]⟩, .bool false] 26 (0, 0)) := ⟨_, rfl⟩
        rw [← hW12]
        rw [← hgE]
        rw [← hW12] at hbn BE
        rw [← hgE] at BE hge
        have BE := Aside0.mk BE
        have GE := Aside0.mk hge
        have NE := Aside0.mk (show some gE ≠ y59.ownBlock from fun he => by have := Kd.R_lt HA.out gE he.symm; omega)
        clear hge hgE hW12
        have BB_ := Aside0.mk (blk_below BB.out hbn); clear BB; have BB := BB_; clear BB_
        have HA_ := Aside0.mk (Kd.R_below HA.out hbn); clear HA; have HA := HA_; clear HA_
        have HBn := Aside0.mk (below_step HB.out hbn); clear HB; have HB := HBn; clear HBn
        clear hbn
        refine hK.out _ _ HB.out (fun _ => ?_)
        clear hK K
        (try simp only [Act.put, List.setIfInBounds_toArray, List.set_cons_zero, List.set_cons_succ])
        refine wpAnyH_ready (rs := [5]) (by kernel_rfl) (by simp) ?_
        refine AllReadyH.cons (o := ({ dst := some 62, op := Op.call { callee := Callee.builtin Builtin.append, args := #[Operand.tmp 59, Operand.tmp 61], argTypes := #[22, 22] }, type := 22, pos := "law.go:159", after := #[{ on := 2, ground := Ground.data }, { on := 4, ground := Ground.data }, { on := 2, ground := Ground.chain }], guard := none } : Oper)) rfl (fun K hK => ?_) ?_
        · refine Kd.R_append_rows_step k26 (w0 := w0_) w0_.heap.size (by rfl) (.tmp 59) (.tmp 61) 22 26 (.agg #[(.int .i64 0), (.int .i64 0), (.string ⟨#[]⟩), (.bool false)]) 40 rfl Try.underlying22 info26 rfl (by decide) (by omega) y59 l [v] (some ⟨gB, 0, none⟩) 1 1 (fun _ => True) (fun _ => False) rfl rfl HA.out (C_row26 v BB.out) (fun _ _ h => h) (fun _ h => h.elim) (fun _ _ => trivial) HB.out HB.out.size (by have := HL.out; omega) ?_
          intro y62 W13 ho hbn hg hat
          rw [HLV.out] at ho
          have BE_ := Aside0.mk ((hg.block gE (blk_lt BE.out) NE.out).trans BE.out)
          clear BE NE
          have BE := BE_
          clear BE_
          obtain ⟨Ap, cp, ep⟩ := Kd.R_slice ho
          subst ep
          have HC := Aside0.mk ho
          clear HB HA BB
          have HB := Aside0.mk hbn
          clear ho hbn hg hat
          refine hK.out _ _ HB.out (fun _ => ?_)
          clear hK K
          (try simp only [Act.put, List.setIfInBounds_toArray, List.set_cons_zero, List.set_cons_succ])
          refine wpAnyH_ready (rs := [6]) (by kernel_rfl) (by simp) ?_
          refine AllReadyH.cons (o := ({ dst := some 63, op := Op.call { callee := Callee.value (Operand.func 9), args := #[Operand.tmp 57, Operand.tmp 62], argTypes := #[3, 22] }, type := 28, pos := "law.go:159", after := #[{ on := 0, ground := Ground.data }, { on := 5, ground := Ground.data }, { on := 5, ground := Ground.chain }], guard := none } : Oper)) rfl (fun K hK => ?_) ?_
          · go_simp
            go_at_call 9
            refine (winnowerlaw18_told.calls fn lv Ap cp z er _ (Kd.R_reads' HC.out).2.2 HLL.out HOV.out HT.out).mono ?_
            rintro e W14 ⟨rfl, hbn⟩
            have BE_ := Aside0.mk (blk_below BE.out hbn); clear BE; have BE := BE_; clear BE_
            have HBn := Aside0.mk (below_step HB.out hbn); clear HB; have HB := HBn; clear HBn
            clear hbn HC
            (try dsimp only)
            refine hK.out _ _ HB.out (fun _ => ?_)
            clear hK K
            (try simp only [Act.put, List.setIfInBounds_toArray, List.set_cons_zero, List.set_cons_succ])
            refine wpAnyH_take (i := 7) (oi := ({ dst := some 56, op := Op.move (Operand.tmp 63), type := 28, pos := "law.go:159", after := #[{ on := 6, ground := Ground.data }], guard := none } : Oper)) (v := ?_) rfl (by kernel_rfl) (by kernel_rfl) (by kernel_rfl) (fun c a w => HP.out c a _ _ w) (Or.inl ⟨by rfl, ?_⟩) HB.out ?_
            rotate_left
            · intro w_ _; go_simp; (try (with_reducible rfl))
            (try simp only [Act.put, List.setIfInBounds_toArray, List.set_cons_zero, List.set_cons_succ])
            refine wpAnyH_take (i := 8) (oi := ({ dst := some 64, op := Op.extract (Operand.tmp 56) 0, type := 26, pos := "law.go:159", after := #[{ on := 7, ground := Ground.data }], guard := none } : Oper)) (v := ?_) rfl (by kernel_rfl) (by kernel_rfl) (by kernel_rfl) (fun c a w => HP.out c a _ _ w) (Or.inl ⟨by rfl, ?_⟩) HB.out ?_
            rotate_left
            · intro w_ _; go_simp; (try (with_reducible rfl))
            (try simp only [Act.put, List.setIfInBounds_toArray, List.set_cons_zero, List.set_cons_succ])
            refine wpAnyH_take (i := 9) (oi := ({ dst := some 65, op := Op.extract (Operand.tmp 56) 1, type := 27, pos := "law.go:159", after := #[{ on := 7, ground := Ground.data }, { on := 11, ground := Ground.gcOnly Departure.lateStores }], guard := none } : Oper)) (v := ?_) rfl (by kernel_rfl) (by kernel_rfl) (by kernel_rfl) (fun c a w => HP.out c a _ _ w) (Or.inl ⟨by rfl, ?_⟩) HB.out ?_
            rotate_left
            · intro w_ _; go_simp; (try (with_reducible rfl))
            (try simp only [Act.put, List.setIfInBounds_toArray, List.set_cons_zero, List.set_cons_succ])
            refine wpAnyH_ready (rs := [11]) (by kernel_rfl) (by simp) ?_
            refine AllReadyH.cons (o := ({ dst := none, op := Op.store 26 (Operand.tmp 13) (Operand.tmp 64), type := 0, pos := "law.go:159", after := #[{ on := 10, ground := Ground.data }, { on := 8, ground := Ground.data }, { on := 6, ground := Ground.chain }, { on := 0, ground := Ground.phase }, { on := 1, ground := Ground.phase }, { on := 2, ground := Ground.phase }, { on := 3, ground := Ground.phase }, { on := 4, ground := Ground.phase }, { on := 5, ground := Ground.phase }, { on := 6, ground := Ground.phase }, { on := 7, ground := Ground.phase }, { on := 8, ground := Ground.phase }, { on := 9, ground := Ground.textOnly Departure.lateStores }, { on := 10, ground := Ground.phase }], guard := none } : Oper)) rfl (fun K hK => ?_) ?_
            · have hz0 : W14.cell? ⟨gE, 0, none⟩ = some (.int .i64 0) := (blk_cell BE.out 0).trans rfl
              have fz0 := blk_frozen BE.out 0
              have hz1 : W14.cell? ⟨gE, 1, none⟩ = some (.int .i64 0) := (blk_cell BE.out 1).trans rfl
              have fz1 := blk_frozen BE.out 1
              have hz2 : W14.cell? ⟨gE, 2, none⟩ = some (.string ⟨#[]⟩) := (blk_cell BE.out 2).trans rfl
              have fz2 := blk_frozen BE.out 2
              have hz3 : W14.cell? ⟨gE, 3, none⟩ = some (.bool false) := (blk_cell BE.out 3).trans rfl
              have fz3 := blk_frozen BE.out 3
              go_simp
              obtain ⟨W15, hW15, b6, st6⟩ := nest4 W14 gE 26 (.int .i64 0) (.int .i64 0) (.string ⟨#[]⟩) (.bool false) (.int .i64 z.f0) (.int .i64 z.f1) (.string z.f2) (.bool z.f3) BE.out
              rw [← hW15]
              have HBn := Aside0.mk (st6.fresh HB.out GE.out)
              have BF := Aside0.mk b6
              clear hz0 hz1 hz2 hz3 fz0 fz1 fz2 fz3 HB BE hW15 b6 st6
              have HB := HBn
              clear HBn
              refine hK.out _ _ HB.out (fun _ => ?_)
              clear hK K
              (try simp only [Act.put, List.setIfInBounds_toArray, List.set_cons_zero, List.set_cons_succ])
              refine wpAnyH_ready (rs := [12]) (by kernel_rfl) (by simp) ?_
              refine AllReadyH.cons (o := ({ dst := some 14, op := Op.assign (Operand.tmp 65), type := 27, pos := "law.go:159", after := #[{ on := 9, ground := Ground.data }, { on := 11, ground := Ground.chain }, { on := 0, ground := Ground.phase }, { on := 1, ground := Ground.phase }, { on := 2, ground := Ground.phase }, { on := 3, ground := Ground.phase }, { on := 4, ground := Ground.phase }, { on := 5, ground := Ground.phase }, { on := 6, ground := Ground.phase }, { on := 7, ground := Ground.phase }, { on := 8, ground := Ground.phase }, { on := 9, ground := Ground.phase }, { on := 10, ground := Ground.phase }, { on := 11, ground := Ground.phase }], guard := none } : Oper)) rfl (fun K hK => ?_) ?_
              · go_simp
                refine hK.out _ _ HB.out (fun _ => ?_)
                clear hK K
                (try simp only [Act.put, List.setIfInBounds_toArray, List.set_cons_zero, List.set_cons_succ])
                refine wpAnyH_done (by kernel_rfl) ?_ _
                exact HQ.out _ _ _ _ _ HB.out GE.out BF.out
              exact AllReadyH.nil
            exact AllReadyH.nil
          exact AllReadyH.nil
        exact AllReadyH.nil
      exact AllReadyH.nil
    refine AllReadyH.cons (o := ({ dst := some 13, op := Op.alloc 26, type := 0, pos := "law.go:159", after := #[], guard := none } : Oper)) rfl (fun K hK => ?_) ?_
    · go_simp
      have hbn := below_alloc (Below.refl W1.heap.size W1) (.cells #[.int .i64 0, .int .i64 0, .string ⟨#[]⟩, .bool false] 26 (0, 0))
      have hge := HB.out.size
      obtain ⟨gE, hgE⟩ : ∃ g, g = W1.heap.size := ⟨_, rfl⟩
      have BE := heap_alloc_last W1 (.cells #[.int .i64 0, .int .i64 0, .string ⟨#[]⟩, .bool false] 26 (0, 0))
      obtain ⟨W17, hW17⟩ : ∃ W, W = W1.alloc (.cells #[.int .i64 0, .int .i64 0, .string ⟨#[]⟩, .bool false] 26 (0, 0)) := ⟨_, rfl⟩
      rw [← hW17]
      rw [← hgE]
      rw [← hW17] at hbn BE
      rw [← hgE] at BE hge
      have BE := Aside0.mk BE
      have GE := Aside0.mk hge
      have NE := Aside0.mk (show some gE ≠ y59.ownBlock from fun he => by have := Kd.R_lt HA.out gE he.symm; omega)
      clear hge hgE hW17
      have HA_ := Aside0.mk (Kd.R_below HA.out hbn); clear HA; have HA := HA_; clear HA_
      have HBn := Aside0.mk (below_step HB.out hbn); clear HB; have HB := HBn; clear HBn
      clear hbn
      refine hK.out _ _ HB.out (fun _ => ?_)
      clear hK K
      (try simp only [Act.put, List.setIfInBounds_toArray, List.set_cons_zero, List.set_cons_succ])
      refine wpAnyH_ready (rs := [4]) (by kernel_rfl) (by simp) ?_
      refine AllReadyH.cons (o := ({ dst := some 61, op := Op.buildSlice 22 1 #[(0, Operand.tmp 60)], type := 22, pos := "law.go:159", after := #[{ on := 3, ground := Ground.data }], guard := none } : Oper)) rfl (fun K hK => ?_) ?_
      · go_simp
        have hbn := below_alloc (Below.refl W17.heap.size W17) (.cells (vc v) 26 (0, 0))
        obtain ⟨gB, hgB⟩ : ∃ g, g = W17.heap.size := ⟨_, rfl⟩
        have BB := heap_alloc_last W17 (.cells (vc v) 26 (0, 0))
        obtain ⟨W18, hW18⟩ : ∃ W, W = W17.alloc (.cells (vc v) 26 (0, 0)) := ⟨_, rfl⟩
        have hW18_ : W18 = W17.alloc (.cells #[.int .i64 v.f0, .int .i64 v.f1, .string v.f2, .bool v.f3] 26 (0, 0)) := hW18
        (first | rw [← hW18] | rw [← hW18_])
        rw [← hgB]
        rw [← hW18] at hbn BB
        rw [← hgB] at BB
        have BB := Aside0.mk BB
        clear hgB hW18 hW18_
        have BE_ := Aside0.mk (blk_below BE.out hbn); clear BE; have BE := BE_; clear BE_
        have HA_ := Aside0.mk (Kd.R_below HA.out hbn); clear HA; have HA := HA_; clear HA_
        have HBn := Aside0.mk (below_step HB.out hbn); clear HB; have HB := HBn; clear HBn
        clear hbn
        refine hK.out _ _ HB.out (fun _ => ?_)
        clear hK K
        (try simp only [Act.put, List.setIfInBounds_toArray, List.set_cons_zero, List.set_cons_succ])
        refine wpAnyH_ready (rs := [5]) (by kernel_rfl) (by simp) ?_
        refine AllReadyH.cons (o := ({ dst := some 62, op := Op.call { callee := Callee.builtin Builtin.append, args := #[Operand.tmp 59, Operand.tmp 61], argTypes := #[22, 22] }, type := 22, pos := "law.go:159", after := #[{ on := 2, ground := Ground.data }, { on := 4, ground := Ground.data }, { on := 2, ground := Ground.chain }], guard := none } : Oper)) rfl (fun K hK => ?_) ?_
        · refine Kd.R_append_rows_step k26 (w0 := w0_) w0_.heap.size (by rfl) (.tmp 59) (.tmp 61) 22 26 (.agg #[(.int .i64 0), (.int .i64 0), (.string ⟨#[]⟩), (.bool false)]) 40 rfl Try.underlying22 info26 rfl (by decide) (by omega) y59 l [v] (some ⟨gB, 0, none⟩) 1 1 (fun _ => True) (fun _ => False) rfl rfl HA.out (C_row26 v BB.out) (fun _ _ h => h) (fun _ h => h.elim) (fun _ _ => trivial) HB.out HB.out.size (by have := HL.out; omega) ?_
          intro y62 W19 ho hbn hg hat
          rw [HLV.out] at ho
          have BE_ := Aside0.mk ((hg.block gE (blk_lt BE.out) NE.out).trans BE.out)
          clear BE NE
          have BE := BE_
          clear BE_
          obtain ⟨Ap, cp, ep⟩ := Kd.R_slice ho
          subst ep
          have HC := Aside0.mk ho
          clear HB HA BB
          have HB := Aside0.mk hbn
          clear ho hbn hg hat
          refine hK.out _ _ HB.out (fun _ => ?_)
          clear hK K
          (try simp only [Act.put, List.setIfInBounds_toArray, List.set_cons_zero, List.set_cons_succ])
          refine wpAnyH_ready (rs := [6]) (by kernel_rfl) (by simp) ?_
          refine AllReadyH.cons (o := ({ dst := some 63, op := Op.call { callee := Callee.value (Operand.func 9), args := #[Operand.tmp 57, Operand.tmp 62], argTypes := #[3, 22] }, type := 28, pos := "law.go:159", after := #[{ on := 0, ground := Ground.data }, { on := 5, ground := Ground.data }, { on := 5, ground := Ground.chain }], guard := none } : Oper)) rfl (fun K hK => ?_) ?_
          · go_simp
            go_at_call 9
            refine (winnowerlaw18_told.calls fn lv Ap cp z er _ (Kd.R_reads' HC.out).2.2 HLL.out HOV.out HT.out).mono ?_
            rintro e W20 ⟨rfl, hbn⟩
            have BE_ := Aside0.mk (blk_below BE.out hbn); clear BE; have BE := BE_; clear BE_
            have HBn := Aside0.mk (below_step HB.out hbn); clear HB; have HB := HBn; clear HBn
            clear hbn HC
            (try dsimp only)
            refine hK.out _ _ HB.out (fun _ => ?_)
            clear hK K
            (try simp only [Act.put, List.setIfInBounds_toArray, List.set_cons_zero, List.set_cons_succ])
            refine wpAnyH_take (i := 7) (oi := ({ dst := some 56, op := Op.move (Operand.tmp 63), type := 28, pos := "law.go:159", after := #[{ on := 6, ground := Ground.data }], guard := none } : Oper)) (v := ?_) rfl (by kernel_rfl) (by kernel_rfl) (by kernel_rfl) (fun c a w => HP.out c a _ _ w) (Or.inl ⟨by rfl, ?_⟩) HB.out ?_
            rotate_left
            · intro w_ _; go_simp; (try (with_reducible rfl))
            (try simp only [Act.put, List.setIfInBounds_toArray, List.set_cons_zero, List.set_cons_succ])
            refine wpAnyH_take (i := 8) (oi := ({ dst := some 64, op := Op.extract (Operand.tmp 56) 0, type := 26, pos := "law.go:159", after := #[{ on := 7, ground := Ground.data }], guard := none } : Oper)) (v := ?_) rfl (by kernel_rfl) (by kernel_rfl) (by kernel_rfl) (fun c a w => HP.out c a _ _ w) (Or.inl ⟨by rfl, ?_⟩) HB.out ?_
            rotate_left
            · intro w_ _; go_simp; (try (with_reducible rfl))
            (try simp only [Act.put, List.setIfInBounds_toArray, List.set_cons_zero, List.set_cons_succ])
            refine wpAnyH_take (i := 9) (oi := ({ dst := some 65, op := Op.extract (Operand.tmp 56) 1, type := 27, pos := "law.go:159", after := #[{ on := 7, ground := Ground.data }, { on := 11, ground := Ground.gcOnly Departure.lateStores }], guard := none } : Oper)) (v := ?_) rfl (by kernel_rfl) (by kernel_rfl) (by kernel_rfl) (fun c a w => HP.out c a _ _ w) (Or.inl ⟨by rfl, ?_⟩) HB.out ?_
            rotate_left
            · intro w_ _; go_simp; (try (with_reducible rfl))
            (try simp only [Act.put, List.setIfInBounds_toArray, List.set_cons_zero, List.set_cons_succ])
            refine wpAnyH_ready (rs := [11]) (by kernel_rfl) (by simp) ?_
            refine AllReadyH.cons (o := ({ dst := none, op := Op.store 26 (Operand.tmp 13) (Operand.tmp 64), type := 0, pos := "law.go:159", after := #[{ on := 10, ground := Ground.data }, { on := 8, ground := Ground.data }, { on := 6, ground := Ground.chain }, { on := 0, ground := Ground.phase }, { on := 1, ground := Ground.phase }, { on := 2, ground := Ground.phase }, { on := 3, ground := Ground.phase }, { on := 4, ground := Ground.phase }, { on := 5, ground := Ground.phase }, { on := 6, ground := Ground.phase }, { on := 7, ground := Ground.phase }, { on := 8, ground := Ground.phase }, { on := 9, ground := Ground.textOnly Departure.lateStores }, { on := 10, ground := Ground.phase }], guard := none } : Oper)) rfl (fun K hK => ?_) ?_
            · have hz0 : W20.cell? ⟨gE, 0, none⟩ = some (.int .i64 0) := (blk_cell BE.out 0).trans rfl
              have fz0 := blk_frozen BE.out 0
              have hz1 : W20.cell? ⟨gE, 1, none⟩ = some (.int .i64 0) := (blk_cell BE.out 1).trans rfl
              have fz1 := blk_frozen BE.out 1
              have hz2 : W20.cell? ⟨gE, 2, none⟩ = some (.string ⟨#[]⟩) := (blk_cell BE.out 2).trans rfl
              have fz2 := blk_frozen BE.out 2
              have hz3 : W20.cell? ⟨gE, 3, none⟩ = some (.bool false) := (blk_cell BE.out 3).trans rfl
              have fz3 := blk_frozen BE.out 3
              go_simp
              obtain ⟨W21, hW21, b6, st6⟩ := nest4 W20 gE 26 (.int .i64 0) (.int .i64 0) (.string ⟨#[]⟩) (.bool false) (.int .i64 z.f0) (.int .i64 z.f1) (.string z.f2) (.bool z.f3) BE.out
              rw [← hW21]
              have HBn := Aside0.mk (st6.fresh HB.out GE.out)
              have BF := Aside0.mk b6
              clear hz0 hz1 hz2 hz3 fz0 fz1 fz2 fz3 HB BE hW21 b6 st6
              have HB := HBn
              clear HBn
              refine hK.out _ _ HB.out (fun _ => ?_)
              clear hK K
              (try simp only [Act.put, List.setIfInBounds_toArray, List.set_cons_zero, List.set_cons_succ])
              refine wpAnyH_ready (rs := [12]) (by kernel_rfl) (by simp) ?_
              refine AllReadyH.cons (o := ({ dst := some 14, op := Op.assign (Operand.tmp 65), type := 27, pos := "law.go:159", after := #[{ on := 9, ground := Ground.data }, { on := 11, ground := Ground.chain }, { on := 0, ground := Ground.phase }, { on := 1, ground := Ground.phase }, { on := 2, ground := Ground.phase }, { on := 3, ground := Ground.phase }, { on := 4, ground := Ground.phase }, { on := 5, ground := Ground.phase }, { on := 6, ground := Ground.phase }, { on := 7, ground := Ground.phase }, { on := 8, ground := Ground.phase }, { on := 9, ground := Ground.phase }, { on := 10, ground := Ground.phase }, { on := 11, ground := Ground.phase }], guard := none } : Oper)) rfl (fun K hK => ?_) ?_
              · go_simp
                refine hK.out _ _ HB.out (fun _ => ?_)
                clear hK K
                (try simp only [Act.put, List.setIfInBounds_toArray, List.set_cons_zero, List.set_cons_succ])
                refine wpAnyH_done (by kernel_rfl) ?_ _
                exact HQ.out _ _ _ _ _ HB.out GE.out BF.out
              exact AllReadyH.nil
            exact AllReadyH.nil
          exact AllReadyH.nil
        exact AllReadyH.nil
      exact AllReadyH.nil
    exact AllReadyH.nil
  refine AllReadyH.cons (o := ({ dst := some 61, op := Op.buildSlice 22 1 #[(0, Operand.tmp 60)], type := 22, pos := "law.go:159", after := #[{ on := 3, ground := Ground.data }], guard := none } : Oper)) rfl (fun K hK => ?_) ?_
  · go_simp
    have hbn := below_alloc (Below.refl W0.heap.size W0) (.cells (vc v) 26 (0, 0))
    obtain ⟨gB, hgB⟩ : ∃ g, g = W0.heap.size := ⟨_, rfl⟩
    have BB := heap_alloc_last W0 (.cells (vc v) 26 (0, 0))
    obtain ⟨W23, hW23⟩ : ∃ W, W = W0.alloc (.cells (vc v) 26 (0, 0)) := ⟨_, rfl⟩
    have hW23_ : W23 = W0.alloc (.cells #[.int .i64 v.f0, .int .i64 v.f1, .string v.f2, .bool v.f3] 26 (0, 0)) := hW23
    (first | rw [← hW23] | rw [← hW23_])
    rw [← hgB]
    rw [← hW23] at hbn BB
    rw [← hgB] at BB
    have BB := Aside0.mk BB
    clear hgB hW23 hW23_
    have HBn := Aside0.mk (below_step HB.out hbn); clear HB; have HB := HBn; clear HBn
    clear hbn
    refine hK.out _ _ HB.out (fun _ => ?_)
    clear hK K
    (try simp only [Act.put, List.setIfInBounds_toArray, List.set_cons_zero, List.set_cons_succ])
    refine wpAnyH_ready (rs := [2, 10]) (by kernel_rfl) (by simp) ?_
    refine AllReadyH.cons (o := ({ dst := some 59, op := Op.call { callee := Callee.builtin Builtin.append, args := #[Operand.const (Value.slice none 0 0), Operand.tmp 58], argTypes := #[22, 22] }, type := 22, pos := "law.go:159", after := #[{ on := 1, ground := Ground.data }], guard := none } : Oper)) rfl (fun K hK => ?_) ?_
    · refine Kd.R_append_rows_step k26 (w0 := w0_) w0_.heap.size (by rfl) (.const (.slice none 0 0)) (.tmp 58) 22 26 (.agg #[(.int .i64 0), (.int .i64 0), (.string ⟨#[]⟩), (.bool false)]) 40 rfl Try.underlying22 info26 rfl (by decide) (by omega) (.slice none 0 0) ([] : List S26) l A l.length c (fun _ => True) (fun _ => False) rfl rfl (Kd.R_nil _ _ _ _ _) (Kd.C_below HR.out HB.out) (fun _ _ h => h) (fun _ h => h.elim) (fun _ _ => trivial) HB.out HB.out.size (by have := HL.out; simp only [List.length_nil]; omega) ?_
      intro y59 W24 ho hbn hg hat
      rw [List.nil_append] at ho
      have BB_ := Aside0.mk ((hg.block gB (blk_lt BB.out) (by simp [Value.ownBlock])).trans BB.out)
      clear BB
      have BB := BB_
      clear BB_
      have HA := Aside0.mk ho
      clear HB
      have HB := Aside0.mk hbn
      clear ho hbn hg hat
      refine hK.out _ _ HB.out (fun _ => ?_)
      clear hK K
      (try simp only [Act.put, List.setIfInBounds_toArray, List.set_cons_zero, List.set_cons_succ])
      refine wpAnyH_ready (rs := [5, 10]) (by kernel_rfl) (by simp) ?_
      refine AllReadyH.cons (o := ({ dst := some 62, op := Op.call { callee := Callee.builtin Builtin.append, args := #[Operand.tmp 59, Operand.tmp 61], argTypes := #[22, 22] }, type := 22, pos := "law.go:159", after := #[{ on := 2, ground := Ground.data }, { on := 4, ground := Ground.data }, { on := 2, ground := Ground.chain }], guard := none } : Oper)) rfl (fun K hK => ?_) ?_
      · refine Kd.R_append_rows_step k26 (w0 := w0_) w0_.heap.size (by rfl) (.tmp 59) (.tmp 61) 22 26 (.agg #[(.int .i64 0), (.int .i64 0), (.string ⟨#[]⟩), (.bool false)]) 40 rfl Try.underlying22 info26 rfl (by decide) (by omega) y59 l [v] (some ⟨gB, 0, none⟩) 1 1 (fun _ => True) (fun _ => False) rfl rfl HA.out (C_row26 v BB.out) (fun _ _ h => h) (fun _ h => h.elim) (fun _ _ => trivial) HB.out HB.out.size (by have := HL.out; omega) ?_
        intro y62 W25 ho hbn hg hat
        rw [HLV.out] at ho
        obtain ⟨Ap, cp, ep⟩ := Kd.R_slice ho
        subst ep
        have HC := Aside0.mk ho
        clear HB HA BB
        have HB := Aside0.mk hbn
        clear ho hbn hg hat
        refine hK.out _ _ HB.out (fun _ => ?_)
        clear hK K
        (try simp only [Act.put, List.setIfInBounds_toArray, List.set_cons_zero, List.set_cons_succ])
        refine wpAnyH_ready (rs := [6, 10]) (by kernel_rfl) (by simp) ?_
        refine AllReadyH.cons (o := ({ dst := some 63, op := Op.call { callee := Callee.value (Operand.func 9), args := #[Operand.tmp 57, Operand.tmp 62], argTypes := #[3, 22] }, type := 28, pos := "law.go:159", after := #[{ on := 0, ground := Ground.data }, { on := 5, ground := Ground.data }, { on := 5, ground := Ground.chain }], guard := none } : Oper)) rfl (fun K hK => ?_) ?_
        · go_simp
          go_at_call 9
          refine (winnowerlaw18_told.calls fn lv Ap cp z er _ (Kd.R_reads' HC.out).2.2 HLL.out HOV.out HT.out).mono ?_
          rintro e W26 ⟨rfl, hbn⟩
          have HBn := Aside0.mk (below_step HB.out hbn); clear HB; have HB := HBn; clear HBn
          clear hbn HC
          (try dsimp only)
          refine hK.out _ _ HB.out (fun _ => ?_)
          clear hK K
          (try simp only [Act.put, List.setIfInBounds_toArray, List.set_cons_zero, List.set_cons_succ])
          refine wpAnyH_take (i := 7) (oi := ({ dst := some 56, op := Op.move (Operand.tmp 63), type := 28, pos := "law.go:159", after := #[{ on := 6, ground := Ground.data }], guard := none } : Oper)) (v := ?_) rfl (by kernel_rfl) (by kernel_rfl) (by kernel_rfl) (fun c a w => HP.out c a _ _ w) (Or.inl ⟨by rfl, ?_⟩) HB.out ?_
          rotate_left
          · intro w_ _; go_simp; (try (with_reducible rfl))
          (try simp only [Act.put, List.setIfInBounds_toArray, List.set_cons_zero, List.set_cons_succ])
          refine wpAnyH_take (i := 8) (oi := ({ dst := some 64, op := Op.extract (Operand.tmp 56) 0, type := 26, pos := "law.go:159", after := #[{ on := 7, ground := Ground.data }], guard := none } : Oper)) (v := ?_) rfl (by kernel_rfl) (by kernel_rfl) (by kernel_rfl) (fun c a w => HP.out c a _ _ w) (Or.inl ⟨by rfl, ?_⟩) HB.out ?_
          rotate_left
          · intro w_ _; go_simp; (try (with_reducible rfl))
          (try simp only [Act.put, List.setIfInBounds_toArray, List.set_cons_zero, List.set_cons_succ])
          refine wpAnyH_take (i := 9) (oi := ({ dst := some 65, op := Op.extract (Operand.tmp 56) 1, type := 27, pos := "law.go:159", after := #[{ on := 7, ground := Ground.data }, { on := 11, ground := Ground.gcOnly Departure.lateStores }], guard := none } : Oper)) (v := ?_) rfl (by kernel_rfl) (by kernel_rfl) (by kernel_rfl) (fun c a w => HP.out c a _ _ w) (Or.inl ⟨by rfl, ?_⟩) HB.out ?_
          rotate_left
          · intro w_ _; go_simp; (try (with_reducible rfl))
          (try simp only [Act.put, List.setIfInBounds_toArray, List.set_cons_zero, List.set_cons_succ])
          refine wpAnyH_ready (rs := [10]) (by kernel_rfl) (by simp) ?_
          refine AllReadyH.cons (o := ({ dst := some 13, op := Op.alloc 26, type := 0, pos := "law.go:159", after := #[], guard := none } : Oper)) rfl (fun K hK => ?_) ?_
          · go_simp
            have hbn := below_alloc (Below.refl W26.heap.size W26) (.cells #[.int .i64 0, .int .i64 0, .string ⟨#[]⟩, .bool false] 26 (0, 0))
            have hge := HB.out.size
            obtain ⟨gE, hgE⟩ : ∃ g, g = W26.heap.size := ⟨_, rfl⟩
            have BE := heap_alloc_last W26 (.cells #[.int .i64 0, .int .i64 0, .string ⟨#[]⟩, .bool false] 26 (0, 0))
            obtain ⟨W27, hW27⟩ : ∃ W, W = W26.alloc (.cells #[.int .i64 0, .int .i64 0, .string ⟨#[]⟩, .bool false] 26 (0, 0)) := ⟨_, rfl⟩
            rw [← hW27]
            rw [← hgE]
            rw [← hW27] at hbn BE
            rw [← hgE] at BE hge
            have BE := Aside0.mk BE
            have GE := Aside0.mk hge
            clear hge hgE hW27
            have HBn := Aside0.mk (below_step HB.out hbn); clear HB; have HB := HBn; clear HBn
            clear hbn
            refine hK.out _ _ HB.out (fun _ => ?_)
            clear hK K
            (try simp only [Act.put, List.setIfInBounds_toArray, List.set_cons_zero, List.set_cons_succ])
            refine wpAnyH_ready (rs := [11]) (by kernel_rfl) (by simp) ?_
            refine AllReadyH.cons (o := ({ dst := none, op := Op.store 26 (Operand.tmp 13) (Operand.tmp 64), type := 0, pos := "law.go:159", after := #[{ on := 10, ground := Ground.data }, { on := 8, ground := Ground.data }, { on := 6, ground := Ground.chain }, { on := 0, ground := Ground.phase }, { on := 1, ground := Ground.phase }, { on := 2, ground := Ground.phase }, { on := 3, ground := Ground.phase }, { on := 4, ground := Ground.phase }, { on := 5, ground := Ground.phase }, { on := 6, ground := Ground.phase }, { on := 7, ground := Ground.phase }, { on := 8, ground := Ground.phase }, { on := 9, ground := Ground.textOnly Departure.lateStores }, { on := 10, ground := Ground.phase }], guard := none } : Oper)) rfl (fun K hK => ?_) ?_
            · have hz0 : W27.cell? ⟨gE, 0, none⟩ = some (.int .i64 0) := (blk_cell BE.out 0).trans rfl
              have fz0 := blk_frozen BE.out 0
              have hz1 : W27.cell? ⟨gE, 1, none⟩ = some (.int .i64 0) := (blk_cell BE.out 1).trans rfl
              have fz1 := blk_frozen BE.out 1
              have hz2 : W27.cell? ⟨gE, 2, none⟩ = some (.string ⟨#[]⟩) := (blk_cell BE.out 2).trans rfl
              have fz2 := blk_frozen BE.out 2
              have hz3 : W27.cell? ⟨gE, 3, none⟩ = some (.bool false) := (blk_cell BE.out 3).trans rfl
              have fz3 := blk_frozen BE.out 3
              go_simp
              obtain ⟨W28, hW28, b6, st6⟩ := nest4 W27 gE 26 (.int .i64 0) (.int .i64 0) (.string ⟨#[]⟩) (.bool false) (.int .i64 z.f0) (.int .i64 z.f1) (.string z.f2) (.bool z.f3) BE.out
              rw [← hW28]
              have HBn := Aside0.mk (st6.fresh HB.out GE.out)
              have BF := Aside0.mk b6
              clear hz0 hz1 hz2 hz3 fz0 fz1 fz2 fz3 HB BE hW28 b6 st6
              have HB := HBn
              clear HBn
              refine hK.out _ _ HB.out (fun _ => ?_)
              clear hK K
              (try simp only [Act.put, List.setIfInBounds_toArray, List.set_cons_zero, List.set_cons_succ])
              refine wpAnyH_ready (rs := [12]) (by kernel_rfl) (by simp) ?_
              refine AllReadyH.cons (o := ({ dst := some 14, op := Op.assign (Operand.tmp 65), type := 27, pos := "law.go:159", after := #[{ on := 9, ground := Ground.data }, { on := 11, ground := Ground.chain }, { on := 0, ground := Ground.phase }, { on := 1, ground := Ground.phase }, { on := 2, ground := Ground.phase }, { on := 3, ground := Ground.phase }, { on := 4, ground := Ground.phase }, { on := 5, ground := Ground.phase }, { on := 6, ground := Ground.phase }, { on := 7, ground := Ground.phase }, { on := 8, ground := Ground.phase }, { on := 9, ground := Ground.phase }, { on := 10, ground := Ground.phase }, { on := 11, ground := Ground.phase }], guard := none } : Oper)) rfl (fun K hK => ?_) ?_
              · go_simp
                refine hK.out _ _ HB.out (fun _ => ?_)
                clear hK K
                (try simp only [Act.put, List.setIfInBounds_toArray, List.set_cons_zero, List.set_cons_succ])
                refine wpAnyH_done (by kernel_rfl) ?_ _
                exact HQ.out _ _ _ _ _ HB.out GE.out BF.out
              exact AllReadyH.nil
            exact AllReadyH.nil
          exact AllReadyH.nil
        refine AllReadyH.cons (o := ({ dst := some 13, op := Op.alloc 26, type := 0, pos := "law.go:159", after := #[], guard := none } : Oper)) rfl (fun K hK => ?_) ?_
        · go_simp
          have hbn := below_alloc (Below.refl W25.heap.size W25) (.cells #[.int .i64 0, .int .i64 0, .string ⟨#[]⟩, .bool false] 26 (0, 0))
          have hge := HB.out.size
          obtain ⟨gE, hgE⟩ : ∃ g, g = W25.heap.size := ⟨_, rfl⟩
          have BE := heap_alloc_last W25 (.cells #[.int .i64 0, .int .i64 0, .string ⟨#[]⟩, .bool false] 26 (0, 0))
          obtain ⟨W30, hW30⟩ : ∃ W, W = W25.alloc (.cells #[.int .i64 0, .int .i64 0, .string ⟨#[]⟩, .bool false] 26 (0, 0)) := ⟨_, rfl⟩
          rw [← hW30]
          rw [← hgE]
          rw [← hW30] at hbn BE
          rw [← hgE] at BE hge
          have BE := Aside0.mk BE
          have GE := Aside0.mk hge
          clear hge hgE hW30
          have HC_ := Aside0.mk (Kd.R_below HC.out hbn); clear HC; have HC := HC_; clear HC_
          have HBn := Aside0.mk (below_step HB.out hbn); clear HB; have HB := HBn; clear HBn
          clear hbn
          refine hK.out _ _ HB.out (fun _ => ?_)
          clear hK K
          (try simp only [Act.put, List.setIfInBounds_toArray, List.set_cons_zero, List.set_cons_succ])
          refine wpAnyH_ready (rs := [6]) (by kernel_rfl) (by simp) ?_
          refine AllReadyH.cons (o := ({ dst := some 63, op := Op.call { callee := Callee.value (Operand.func 9), args := #[Operand.tmp 57, Operand.tmp 62], argTypes := #[3, 22] }, type := 28, pos := "law.go:159", after := #[{ on := 0, ground := Ground.data }, { on := 5, ground := Ground.data }, { on := 5, ground := Ground.chain }], guard := none } : Oper)) rfl (fun K hK => ?_) ?_
          · go_simp
            go_at_call 9
            refine (winnowerlaw18_told.calls fn lv Ap cp z er _ (Kd.R_reads' HC.out).2.2 HLL.out HOV.out HT.out).mono ?_
            rintro e W31 ⟨rfl, hbn⟩
            have BE_ := Aside0.mk (blk_below BE.out hbn); clear BE; have BE := BE_; clear BE_
            have HBn := Aside0.mk (below_step HB.out hbn); clear HB; have HB := HBn; clear HBn
            clear hbn HC
            (try dsimp only)
            refine hK.out _ _ HB.out (fun _ => ?_)
            clear hK K
            (try simp only [Act.put, List.setIfInBounds_toArray, List.set_cons_zero, List.set_cons_succ])
            refine wpAnyH_take (i := 7) (oi := ({ dst := some 56, op := Op.move (Operand.tmp 63), type := 28, pos := "law.go:159", after := #[{ on := 6, ground := Ground.data }], guard := none } : Oper)) (v := ?_) rfl (by kernel_rfl) (by kernel_rfl) (by kernel_rfl) (fun c a w => HP.out c a _ _ w) (Or.inl ⟨by rfl, ?_⟩) HB.out ?_
            rotate_left
            · intro w_ _; go_simp; (try (with_reducible rfl))
            (try simp only [Act.put, List.setIfInBounds_toArray, List.set_cons_zero, List.set_cons_succ])
            refine wpAnyH_take (i := 8) (oi := ({ dst := some 64, op := Op.extract (Operand.tmp 56) 0, type := 26, pos := "law.go:159", after := #[{ on := 7, ground := Ground.data }], guard := none } : Oper)) (v := ?_) rfl (by kernel_rfl) (by kernel_rfl) (by kernel_rfl) (fun c a w => HP.out c a _ _ w) (Or.inl ⟨by rfl, ?_⟩) HB.out ?_
            rotate_left
            · intro w_ _; go_simp; (try (with_reducible rfl))
            (try simp only [Act.put, List.setIfInBounds_toArray, List.set_cons_zero, List.set_cons_succ])
            refine wpAnyH_take (i := 9) (oi := ({ dst := some 65, op := Op.extract (Operand.tmp 56) 1, type := 27, pos := "law.go:159", after := #[{ on := 7, ground := Ground.data }, { on := 11, ground := Ground.gcOnly Departure.lateStores }], guard := none } : Oper)) (v := ?_) rfl (by kernel_rfl) (by kernel_rfl) (by kernel_rfl) (fun c a w => HP.out c a _ _ w) (Or.inl ⟨by rfl, ?_⟩) HB.out ?_
            rotate_left
            · intro w_ _; go_simp; (try (with_reducible rfl))
            (try simp only [Act.put, List.setIfInBounds_toArray, List.set_cons_zero, List.set_cons_succ])
            refine wpAnyH_ready (rs := [11]) (by kernel_rfl) (by simp) ?_
            refine AllReadyH.cons (o := ({ dst := none, op := Op.store 26 (Operand.tmp 13) (Operand.tmp 64), type := 0, pos := "law.go:159", after := #[{ on := 10, ground := Ground.data }, { on := 8, ground := Ground.data }, { on := 6, ground := Ground.chain }, { on := 0, ground := Ground.phase }, { on := 1, ground := Ground.phase }, { on := 2, ground := Ground.phase }, { on := 3, ground := Ground.phase }, { on := 4, ground := Ground.phase }, { on := 5, ground := Ground.phase }, { on := 6, ground := Ground.phase }, { on := 7, ground := Ground.phase }, { on := 8, ground := Ground.phase }, { on := 9, ground := Ground.textOnly Departure.lateStores }, { on := 10, ground := Ground.phase }], guard := none } : Oper)) rfl (fun K hK => ?_) ?_
            · have hz0 : W31.cell? ⟨gE, 0, none⟩ = some (.int .i64 0) := (blk_cell BE.out 0).trans rfl
              have fz0 := blk_frozen BE.out 0
              have hz1 : W31.cell? ⟨gE, 1, none⟩ = some (.int .i64 0) := (blk_cell BE.out 1).trans rfl
              have fz1 := blk_frozen BE.out 1
              have hz2 : W31.cell? ⟨gE, 2, none⟩ = some (.string ⟨#[]⟩) := (blk_cell BE.out 2).trans rfl
              have fz2 := blk_frozen BE.out 2
              have hz3 : W31.cell? ⟨gE, 3, none⟩ = some (.bool false) := (blk_cell BE.out 3).trans rfl
              have fz3 := blk_frozen BE.out 3
              go_simp
              obtain ⟨W32, hW32, b6, st6⟩ := nest4 W31 gE 26 (.int .i64 0) (.int .i64 0) (.string ⟨#[]⟩) (.bool false) (.int .i64 z.f0) (.int .i64 z.f1) (.string z.f2) (.bool z.f3) BE.out
              rw [← hW32]
              have HBn := Aside0.mk (st6.fresh HB.out GE.out)
              have BF := Aside0.mk b6
              clear hz0 hz1 hz2 hz3 fz0 fz1 fz2 fz3 HB BE hW32 b6 st6
              have HB := HBn
              clear HBn
              refine hK.out _ _ HB.out (fun _ => ?_)
              clear hK K
              (try simp only [Act.put, List.setIfInBounds_toArray, List.set_cons_zero, List.set_cons_succ])
              refine wpAnyH_ready (rs := [12]) (by kernel_rfl) (by simp) ?_
              refine AllReadyH.cons (o := ({ dst := some 14, op := Op.assign (Operand.tmp 65), type := 27, pos := "law.go:159", after := #[{ on := 9, ground := Ground.data }, { on := 11, ground := Ground.chain }, { on := 0, ground := Ground.phase }, { on := 1, ground := Ground.phase }, { on := 2, ground := Ground.phase }, { on := 3, ground := Ground.phase }, { on := 4, ground := Ground.phase }, { on := 5, ground := Ground.phase }, { on := 6, ground := Ground.phase }, { on := 7, ground := Ground.phase }, { on := 8, ground := Ground.phase }, { on := 9, ground := Ground.phase }, { on := 10, ground := Ground.phase }, { on := 11, ground := Ground.phase }], guard := none } : Oper)) rfl (fun K hK => ?_) ?_
              · go_simp
                refine hK.out _ _ HB.out (fun _ => ?_)
                clear hK K
                (try simp only [Act.put, List.setIfInBounds_toArray, List.set_cons_zero, List.set_cons_succ])
                refine wpAnyH_done (by kernel_rfl) ?_ _
                exact HQ.out _ _ _ _ _ HB.out GE.out BF.out
              exact AllReadyH.nil
            exact AllReadyH.nil
          exact AllReadyH.nil
        exact AllReadyH.nil
      refine AllReadyH.cons (o := ({ dst := some 13, op := Op.alloc 26, type := 0, pos := "law.go:159", after := #[], guard := none } : Oper)) rfl (fun K hK => ?_) ?_
      · go_simp
        have hbn := below_alloc (Below.refl W24.heap.size W24) (.cells #[.int .i64 0, .int .i64 0, .string ⟨#[]⟩, .bool false] 26 (0, 0))
        have hge := HB.out.size
        obtain ⟨gE, hgE⟩ : ∃ g, g = W24.heap.size := ⟨_, rfl⟩
        have BE := heap_alloc_last W24 (.cells #[.int .i64 0, .int .i64 0, .string ⟨#[]⟩, .bool false] 26 (0, 0))
        obtain ⟨W34, hW34⟩ : ∃ W, W = W24.alloc (.cells #[.int .i64 0, .int .i64 0, .string ⟨#[]⟩, .bool false] 26 (0, 0)) := ⟨_, rfl⟩
        rw [← hW34]
        rw [← hgE]
        rw [← hW34] at hbn BE
        rw [← hgE] at BE hge
        have BE := Aside0.mk BE
        have GE := Aside0.mk hge
        have NE := Aside0.mk (show some gE ≠ y59.ownBlock from fun he => by have := Kd.R_lt HA.out gE he.symm; omega)
        clear hge hgE hW34
        have BB_ := Aside0.mk (blk_below BB.out hbn); clear BB; have BB := BB_; clear BB_
        have HA_ := Aside0.mk (Kd.R_below HA.out hbn); clear HA; have HA := HA_; clear HA_
        have HBn := Aside0.mk (below_step HB.out hbn); clear HB; have HB := HBn; clear HBn
        clear hbn
        refine hK.out _ _ HB.out (fun _ => ?_)
        clear hK K
        (try simp only [Act.put, List.setIfInBounds_toArray, List.set_cons_zero, List.set_cons_succ])
        refine wpAnyH_ready (rs := [5]) (by kernel_rfl) (by simp) ?_
        refine AllReadyH.cons (o := ({ dst := some 62, op := Op.call { callee := Callee.builtin Builtin.append, args := #[Operand.tmp 59, Operand.tmp 61], argTypes := #[22, 22] }, type := 22, pos := "law.go:159", after := #[{ on := 2, ground := Ground.data }, { on := 4, ground := Ground.data }, { on := 2, ground := Ground.chain }], guard := none } : Oper)) rfl (fun K hK => ?_) ?_
        · refine Kd.R_append_rows_step k26 (w0 := w0_) w0_.heap.size (by rfl) (.tmp 59) (.tmp 61) 22 26 (.agg #[(.int .i64 0), (.int .i64 0), (.string ⟨#[]⟩), (.bool false)]) 40 rfl Try.underlying22 info26 rfl (by decide) (by omega) y59 l [v] (some ⟨gB, 0, none⟩) 1 1 (fun _ => True) (fun _ => False) rfl rfl HA.out (C_row26 v BB.out) (fun _ _ h => h) (fun _ h => h.elim) (fun _ _ => trivial) HB.out HB.out.size (by have := HL.out; omega) ?_
          intro y62 W35 ho hbn hg hat
          rw [HLV.out] at ho
          have BE_ := Aside0.mk ((hg.block gE (blk_lt BE.out) NE.out).trans BE.out)
          clear BE NE
          have BE := BE_
          clear BE_
          obtain ⟨Ap, cp, ep⟩ := Kd.R_slice ho
          subst ep
          have HC := Aside0.mk ho
          clear HB HA BB
          have HB := Aside0.mk hbn
          clear ho hbn hg hat
          refine hK.out _ _ HB.out (fun _ => ?_)
          clear hK K
          (try simp only [Act.put, List.setIfInBounds_toArray, List.set_cons_zero, List.set_cons_succ])
          refine wpAnyH_ready (rs := [6]) (by kernel_rfl) (by simp) ?_
          refine AllReadyH.cons (o := ({ dst := some 63, op := Op.call { callee := Callee.value (Operand.func 9), args := #[Operand.tmp 57, Operand.tmp 62], argTypes := #[3, 22] }, type := 28, pos := "law.go:159", after := #[{ on := 0, ground := Ground.data }, { on := 5, ground := Ground.data }, { on := 5, ground := Ground.chain }], guard := none } : Oper)) rfl (fun K hK => ?_) ?_
          · go_simp
            go_at_call 9
            refine (winnowerlaw18_told.calls fn lv Ap cp z er _ (Kd.R_reads' HC.out).2.2 HLL.out HOV.out HT.out).mono ?_
            rintro e W36 ⟨rfl, hbn⟩
            have BE_ := Aside0.mk (blk_below BE.out hbn); clear BE; have BE := BE_; clear BE_
            have HBn := Aside0.mk (below_step HB.out hbn); clear HB; have HB := HBn; clear HBn
            clear hbn HC
            (try dsimp only)
            refine hK.out _ _ HB.out (fun _ => ?_)
            clear hK K
            (try simp only [Act.put, List.setIfInBounds_toArray, List.set_cons_zero, List.set_cons_succ])
            refine wpAnyH_take (i := 7) (oi := ({ dst := some 56, op := Op.move (Operand.tmp 63), type := 28, pos := "law.go:159", after := #[{ on := 6, ground := Ground.data }], guard := none } : Oper)) (v := ?_) rfl (by kernel_rfl) (by kernel_rfl) (by kernel_rfl) (fun c a w => HP.out c a _ _ w) (Or.inl ⟨by rfl, ?_⟩) HB.out ?_
            rotate_left
            · intro w_ _; go_simp; (try (with_reducible rfl))
            (try simp only [Act.put, List.setIfInBounds_toArray, List.set_cons_zero, List.set_cons_succ])
            refine wpAnyH_take (i := 8) (oi := ({ dst := some 64, op := Op.extract (Operand.tmp 56) 0, type := 26, pos := "law.go:159", after := #[{ on := 7, ground := Ground.data }], guard := none } : Oper)) (v := ?_) rfl (by kernel_rfl) (by kernel_rfl) (by kernel_rfl) (fun c a w => HP.out c a _ _ w) (Or.inl ⟨by rfl, ?_⟩) HB.out ?_
            rotate_left
            · intro w_ _; go_simp; (try (with_reducible rfl))
            (try simp only [Act.put, List.setIfInBounds_toArray, List.set_cons_zero, List.set_cons_succ])
            refine wpAnyH_take (i := 9) (oi := ({ dst := some 65, op := Op.extract (Operand.tmp 56) 1, type := 27, pos := "law.go:159", after := #[{ on := 7, ground := Ground.data }, { on := 11, ground := Ground.gcOnly Departure.lateStores }], guard := none } : Oper)) (v := ?_) rfl (by kernel_rfl) (by kernel_rfl) (by kernel_rfl) (fun c a w => HP.out c a _ _ w) (Or.inl ⟨by rfl, ?_⟩) HB.out ?_
            rotate_left
            · intro w_ _; go_simp; (try (with_reducible rfl))
            (try simp only [Act.put, List.setIfInBounds_toArray, List.set_cons_zero, List.set_cons_succ])
            refine wpAnyH_ready (rs := [11]) (by kernel_rfl) (by simp) ?_
            refine AllReadyH.cons (o := ({ dst := none, op := Op.store 26 (Operand.tmp 13) (Operand.tmp 64), type := 0, pos := "law.go:159", after := #[{ on := 10, ground := Ground.data }, { on := 8, ground := Ground.data }, { on := 6, ground := Ground.chain }, { on := 0, ground := Ground.phase }, { on := 1, ground := Ground.phase }, { on := 2, ground := Ground.phase }, { on := 3, ground := Ground.phase }, { on := 4, ground := Ground.phase }, { on := 5, ground := Ground.phase }, { on := 6, ground := Ground.phase }, { on := 7, ground := Ground.phase }, { on := 8, ground := Ground.phase }, { on := 9, ground := Ground.textOnly Departure.lateStores }, { on := 10, ground := Ground.phase }], guard := none } : Oper)) rfl (fun K hK => ?_) ?_
            · have hz0 : W36.cell? ⟨gE, 0, none⟩ = some (.int .i64 0) := (blk_cell BE.out 0).trans rfl
              have fz0 := blk_frozen BE.out 0
              have hz1 : W36.cell? ⟨gE, 1, none⟩ = some (.int .i64 0) := (blk_cell BE.out 1).trans rfl
              have fz1 := blk_frozen BE.out 1
              have hz2 : W36.cell? ⟨gE, 2, none⟩ = some (.string ⟨#[]⟩) := (blk_cell BE.out 2).trans rfl
              have fz2 := blk_frozen BE.out 2
              have hz3 : W36.cell? ⟨gE, 3, none⟩ = some (.bool false) := (blk_cell BE.out 3).trans rfl
              have fz3 := blk_frozen BE.out 3
              go_simp
              obtain ⟨W37, hW37, b6, st6⟩ := nest4 W36 gE 26 (.int .i64 0) (.int .i64 0) (.string ⟨#[]⟩) (.bool false) (.int .i64 z.f0) (.int .i64 z.f1) (.string z.f2) (.bool z.f3) BE.out
              rw [← hW37]
              have HBn := Aside0.mk (st6.fresh HB.out GE.out)
              have BF := Aside0.mk b6
              clear hz0 hz1 hz2 hz3 fz0 fz1 fz2 fz3 HB BE hW37 b6 st6
              have HB := HBn
              clear HBn
              refine hK.out _ _ HB.out (fun _ => ?_)
              clear hK K
              (try simp only [Act.put, List.setIfInBounds_toArray, List.set_cons_zero, List.set_cons_succ])
              refine wpAnyH_ready (rs := [12]) (by kernel_rfl) (by simp) ?_
              refine AllReadyH.cons (o := ({ dst := some 14, op := Op.assign (Operand.tmp 65), type := 27, pos := "law.go:159", after := #[{ on := 9, ground := Ground.data }, { on := 11, ground := Ground.chain }, { on := 0, ground := Ground.phase }, { on := 1, ground := Ground.phase }, { on := 2, ground := Ground.phase }, { on := 3, ground := Ground.phase }, { on := 4, ground := Ground.phase }, { on := 5, ground := Ground.phase }, { on := 6, ground := Ground.phase }, { on := 7, ground := Ground.phase }, { on := 8, ground := Ground.phase }, { on := 9, ground := Ground.phase }, { on := 10, ground := Ground.phase }, { on := 11, ground := Ground.phase }], guard := none } : Oper)) rfl (fun K hK => ?_) ?_
              · go_simp
                refine hK.out _ _ HB.out (fun _ => ?_)
                clear hK K
                (try simp only [Act.put, List.setIfInBounds_toArray, List.set_cons_zero, List.set_cons_succ])
                refine wpAnyH_done (by kernel_rfl) ?_ _
                exact HQ.out _ _ _ _ _ HB.out GE.out BF.out
              exact AllReadyH.nil
            exact AllReadyH.nil
          exact AllReadyH.nil
        exact AllReadyH.nil
      exact AllReadyH.nil
    refine AllReadyH.cons (o := ({ dst := some 13, op := Op.alloc 26, type := 0, pos := "law.go:159", after := #[], guard := none } : Oper)) rfl (fun K hK => ?_) ?_
    · go_simp
      have hbn := below_alloc (Below.refl W23.heap.size W23) (.cells #[.int .i64 0, .int .i64 0, .string ⟨#[]⟩, .bool false] 26 (0, 0))
      have hge := HB.out.size
      obtain ⟨gE, hgE⟩ : ∃ g, g = W23.heap.size := ⟨_, rfl⟩
      have BE := heap_alloc_last W23 (.cells #[.int .i64 0, .int .i64 0, .string ⟨#[]⟩, .bool false] 26 (0, 0))
      obtain ⟨W39, hW39⟩ : ∃ W, W = W23.alloc (.cells #[.int .i64 0, .int .i64 0, .string ⟨#[]⟩, .bool false] 26 (0, 0)) := ⟨_, rfl⟩
      rw [← hW39]
      rw [← hgE]
      rw [← hW39] at hbn BE
      rw [← hgE] at BE hge
      have BE := Aside0.mk BE
      have GE := Aside0.mk hge
      clear hge hgE hW39
      have BB_ := Aside0.mk (blk_below BB.out hbn); clear BB; have BB := BB_; clear BB_
      have HBn := Aside0.mk (below_step HB.out hbn); clear HB; have HB := HBn; clear HBn
      clear hbn
      refine hK.out _ _ HB.out (fun _ => ?_)
      clear hK K
      (try simp only [Act.put, List.setIfInBounds_toArray, List.set_cons_zero, List.set_cons_succ])
      refine wpAnyH_ready (rs := [2]) (by kernel_rfl) (by simp) ?_
      refine AllReadyH.cons (o := ({ dst := some 59, op := Op.call { callee := Callee.builtin Builtin.append, args := #[Operand.const (Value.slice none 0 0), Operand.tmp 58], argTypes := #[22, 22] }, type := 22, pos := "law.go:159", after := #[{ on := 1, ground := Ground.data }], guard := none } : Oper)) rfl (fun K hK => ?_) ?_
      · refine Kd.R_append_rows_step k26 (w0 := w0_) w0_.heap.size (by rfl) (.const (.slice none 0 0)) (.tmp 58) 22 26 (.agg #[(.int .i64 0), (.int .i64 0), (.string ⟨#[]⟩), (.bool false)]) 40 rfl Try.underlying22 info26 rfl (by decide) (by omega) (.slice none 0 0) ([] : List S26) l A l.length c (fun _ => True) (fun _ => False) rfl rfl (Kd.R_nil _ _ _ _ _) (Kd.C_below HR.out HB.out) (fun _ _ h => h) (fun _ h => h.elim) (fun _ _ => trivial) HB.out HB.out.size (by have := HL.out; simp only [List.length_nil]; omega) ?_
        intro y59 W40 ho hbn hg hat
        rw [List.nil_append] at ho
        have BB_ := Aside0.mk ((hg.block gB (blk_lt BB.out) (by simp [Value.ownBlock])).trans BB.out)
        clear BB
        have BB := BB_
        clear BB_
        have BE_ := Aside0.mk ((hg.block gE (blk_lt BE.out) (by simp [Value.ownBlock])).trans BE.out)
        have NE := Aside0.mk (show some gE ≠ y59.ownBlock from by have hlt := blk_lt BE.out; rcases hat with h | ⟨b, h, h2⟩ <;> rw [h] <;> first | (simp [Value.ownBlock]; done) | (intro he; have h3_ := Option.some.inj he; omega))
        clear BE
        have BE := BE_
        clear BE_
        have HA := Aside0.mk ho
        clear HB
        have HB := Aside0.mk hbn
        clear ho hbn hg hat
        refine hK.out _ _ HB.out (fun _ => ?_)
        clear hK K
        (try simp only [Act.put, List.setIfInBounds_toArray, List.set_cons_zero, List.set_cons_succ])
        refine wpAnyH_ready (rs := [5]) (by kernel_rfl) (by simp) ?_
        refine AllReadyH.cons (o := ({ dst := some 62, op := Op.call { callee := Callee.builtin Builtin.append, args := #[Operand.tmp 59, Operand.tmp 61], argTypes := #[22, 22] }, type := 22, pos := "law.go:159", after := #[{ on := 2, ground := Ground.data }, { on := 4, ground := Ground.data }, { on := 2, ground := Ground.chain }], guard := none } : Oper)) rfl (fun K hK => ?_) ?_
        · refine Kd.R_append_rows_step k26 (w0 := w0_) w0_.heap.size (by rfl) (.tmp 59) (.tmp 61) 22 26 (.agg #[(.int .i64 0), (.int .i64 0), (.string ⟨#[]⟩), (.bool false)]) 40 rfl Try.underlying22 info26 rfl (by decide) (by omega) y59 l [v] (some ⟨gB, 0, none⟩) 1 1 (fun _ => True) (fun _ => False) rfl rfl HA.out (C_row26 v BB.out) (fun _ _ h => h) (fun _ h => h.elim) (fun _ _ => trivial) HB.out HB.out.size (by have := HL.out; omega) ?_
          intro y62 W41 ho hbn hg hat
          rw [HLV.out] at ho
          have BE_ := Aside0.mk ((hg.block gE (blk_lt BE.out) NE.out).trans BE.out)
          clear BE NE
          have BE := BE_
          clear BE_
          obtain ⟨Ap, cp, ep⟩ := Kd.R_slice ho
          subst ep
          have HC := Aside0.mk ho
          clear HB HA BB
          have HB := Aside0.mk hbn
          clear ho hbn hg hat
          refine hK.out _ _ HB.out (fun _ => ?_)
          clear hK K
          (try simp only [Act.put, List.setIfInBounds_toArray, List.set_cons_zero, List.set_cons_succ])
          refine wpAnyH_ready (rs := [6]) (by kernel_rfl) (by simp) ?_
          refine AllReadyH.cons (o := ({ dst := some 63, op := Op.call { callee := Callee.value (Operand.func 9), args := #[Operand.tmp 57, Operand.tmp 62], argTypes := #[3, 22] }, type := 28, pos := "law.go:159", after := #[{ on := 0, ground := Ground.data }, { on := 5, ground := Ground.data }, { on := 5, ground := Ground.chain }], guard := none } : Oper)) rfl (fun K hK => ?_) ?_
          · go_simp
            go_at_call 9
            refine (winnowerlaw18_told.calls fn lv Ap cp z er _ (Kd.R_reads' HC.out).2.2 HLL.out HOV.out HT.out).mono ?_
            rintro e W42 ⟨rfl, hbn⟩
            have BE_ := Aside0.mk (blk_below BE.out hbn); clear BE; have BE := BE_; clear BE_
            have HBn := Aside0.mk (below_step HB.out hbn); clear HB; have HB := HBn; clear HBn
            clear hbn HC
            (try dsimp only)
            refine hK.out _ _ HB.out (fun _ => ?_)
            clear hK K
            (try simp only [Act.put, List.setIfInBounds_toArray, List.set_cons_zero, List.set_cons_succ])
            refine wpAnyH_take (i := 7) (oi := ({ dst := some 56, op := Op.move (Operand.tmp 63), type := 28, pos := "law.go:159", after := #[{ on := 6, ground := Ground.data }], guard := none } : Oper)) (v := ?_) rfl (by kernel_rfl) (by kernel_rfl) (by kernel_rfl) (fun c a w => HP.out c a _ _ w) (Or.inl ⟨by rfl, ?_⟩) HB.out ?_
            rotate_left
            · intro w_ _; go_simp; (try (with_reducible rfl))
            (try simp only [Act.put, List.setIfInBounds_toArray, List.set_cons_zero, List.set_cons_succ])
            refine wpAnyH_take (i := 8) (oi := ({ dst := some 64, op := Op.extract (Operand.tmp 56) 0, type := 26, pos := "law.go:159", after := #[{ on := 7, ground := Ground.data }], guard := none } : Oper)) (v := ?_) rfl (by kernel_rfl) (by kernel_rfl) (by kernel_rfl) (fun c a w => HP.out c a _ _ w) (Or.inl ⟨by rfl, ?_⟩) HB.out ?_
            rotate_left
            · intro w_ _; go_simp; (try (with_reducible rfl))
            (try simp only [Act.put, List.setIfInBounds_toArray, List.set_cons_zero, List.set_cons_succ])
            refine wpAnyH_take (i := 9) (oi := ({ dst := some 65, op := Op.extract (Operand.tmp 56) 1, type := 27, pos := "law.go:159", after := #[{ on := 7, ground := Ground.data }, { on := 11, ground := Ground.gcOnly Departure.lateStores }], guard := none } : Oper)) (v := ?_) rfl (by kernel_rfl) (by kernel_rfl) (by kernel_rfl) (fun c a w => HP.out c a _ _ w) (Or.inl ⟨by rfl, ?_⟩) HB.out ?_
            rotate_left
            · intro w_ _; go_simp; (try (with_reducible rfl))
            (try simp only [Act.put, List.setIfInBounds_toArray, List.set_cons_zero, List.set_cons_succ])
            refine wpAnyH_ready (rs := [11]) (by kernel_rfl) (by simp) ?_
            refine AllReadyH.cons (o := ({ dst := none, op := Op.store 26 (Operand.tmp 13) (Operand.tmp 64), type := 0, pos := "law.go:159", after := #[{ on := 10, ground := Ground.data }, { on := 8, ground := Ground.data }, { on := 6, ground := Ground.chain }, { on := 0, ground := Ground.phase }, { on := 1, ground := Ground.phase }, { on := 2, ground := Ground.phase }, { on := 3, ground := Ground.phase }, { on := 4, ground := Ground.phase }, { on := 5, ground := Ground.phase }, { on := 6, ground := Ground.phase }, { on := 7, ground := Ground.phase }, { on := 8, ground := Ground.phase }, { on := 9, ground := Ground.textOnly Departure.lateStores }, { on := 10, ground := Ground.phase }], guard := none } : Oper)) rfl (fun K hK => ?_) ?_
            · have hz0 : W42.cell? ⟨gE, 0, none⟩ = some (.int .i64 0) := (blk_cell BE.out 0).trans rfl
              have fz0 := blk_frozen BE.out 0
              have hz1 : W42.cell? ⟨gE, 1, none⟩ = some (.int .i64 0) := (blk_cell BE.out 1).trans rfl
              have fz1 := blk_frozen BE.out 1
              have hz2 : W42.cell? ⟨gE, 2, none⟩ = some (.string ⟨#[]⟩) := (blk_cell BE.out 2).trans rfl
              have fz2 := blk_frozen BE.out 2
              have hz3 : W42.cell? ⟨gE, 3, none⟩ = some (.bool false) := (blk_cell BE.out 3).trans rfl
              have fz3 := blk_frozen BE.out 3
              go_simp
              obtain ⟨W43, hW43, b6, st6⟩ := nest4 W42 gE 26 (.int .i64 0) (.int .i64 0) (.string ⟨#[]⟩) (.bool false) (.int .i64 z.f0) (.int .i64 z.f1) (.string z.f2) (.bool z.f3) BE.out
              rw [← hW43]
              have HBn := Aside0.mk (st6.fresh HB.out GE.out)
              have BF := Aside0.mk b6
              clear hz0 hz1 hz2 hz3 fz0 fz1 fz2 fz3 HB BE hW43 b6 st6
              have HB := HBn
              clear HBn
              refine hK.out _ _ HB.out (fun _ => ?_)
              clear hK K
              (try simp only [Act.put, List.setIfInBounds_toArray, List.set_cons_zero, List.set_cons_succ])
              refine wpAnyH_ready (rs := [12]) (by kernel_rfl) (by simp) ?_
              refine AllReadyH.cons (o := ({ dst := some 14, op := Op.assign (Operand.tmp 65), type := 27, pos := "law.go:159", after := #[{ on := 9, ground := Ground.data }, { on := 11, ground := Ground.chain }, { on := 0, ground := Ground.phase }, { on := 1, ground := Ground.phase }, { on := 2, ground := Ground.phase }, { on := 3, ground := Ground.phase }, { on := 4, ground := Ground.phase }, { on := 5, ground := Ground.phase }, { on := 6, ground := Ground.phase }, { on := 7, ground := Ground.phase }, { on := 8, ground := Ground.phase }, { on := 9, ground := Ground.phase }, { on := 10, ground := Ground.phase }, { on := 11, ground := Ground.phase }], guard := none } : Oper)) rfl (fun K hK => ?_) ?_
              · go_simp
                refine hK.out _ _ HB.out (fun _ => ?_)
                clear hK K
                (try simp only [Act.put, List.setIfInBounds_toArray, List.set_cons_zero, List.set_cons_succ])
                refine wpAnyH_done (by kernel_rfl) ?_ _
                exact HQ.out _ _ _ _ _ HB.out GE.out BF.out
              exact AllReadyH.nil
            exact AllReadyH.nil
          exact AllReadyH.nil
        exact AllReadyH.nil
      exact AllReadyH.nil
    exact AllReadyH.nil
  refine AllReadyH.cons (o := ({ dst := some 13, op := Op.alloc 26, type := 0, pos := "law.go:159", after := #[], guard := none } : Oper)) rfl (fun K hK => ?_) ?_
  · go_simp
    have hbn := below_alloc (Below.refl W0.heap.size W0) (.cells #[.int .i64 0, .int .i64 0, .string ⟨#[]⟩, .bool false] 26 (0, 0))
    have hge := HB.out.size
    obtain ⟨gE, hgE⟩ : ∃ g, g = W0.heap.size := ⟨_, rfl⟩
    have BE := heap_alloc_last W0 (.cells #[.int .i64 0, .int .i64 0, .string ⟨#[]⟩, .bool false] 26 (0, 0))
    obtain ⟨W45, hW45⟩ : ∃ W, W = W0.alloc (.cells #[.int .i64 0, .int .i64 0, .string ⟨#[]⟩, .bool false] 26 (0, 0)) := ⟨_, rfl⟩
    rw [← hW45]
    rw [← hgE]
    rw [← hW45] at hbn BE
    rw [← hgE] at BE hge
    have BE := Aside0.mk BE
    have GE := Aside0.mk hge
    clear hge hgE hW45
    have HBn := Aside0.mk (below_step HB.out hbn); clear HB; have HB := HBn; clear HBn
    clear hbn
    refine hK.out _ _ HB.out (fun _ => ?_)
    clear hK K
    (try simp only [Act.put, List.setIfInBounds_toArray, List.set_cons_zero, List.set_cons_succ])
    refine wpAnyH_ready (rs := [2, 4]) (by kernel_rfl) (by simp) ?_
    refine AllReadyH.cons (o := ({ dst := some 59, op := Op.call { callee := Callee.builtin Builtin.append, args := #[Operand.const (Value.slice none 0 0), Operand.tmp 58], argTypes := #[22, 22] }, type := 22, pos := "law.go:159", after := #[{ on := 1, ground := Ground.data }], guard := none } : Oper)) rfl (fun K hK => ?_) ?_
    · refine Kd.R_append_rows_step k26 (w0 := w0_) w0_.heap.size (by rfl) (.const (.slice none 0 0)) (.tmp 58) 22 26 (.agg #[(.int .i64 0), (.int .i64 0), (.string ⟨#[]⟩), (.bool false)]) 40 rfl Try.underlying22 info26 rfl (by decide) (by omega) (.slice none 0 0) ([] : List S26) l A l.length c (fun _ => True) (fun _ => False) rfl rfl (Kd.R_nil _ _ _ _ _) (Kd.C_below HR.out HB.out) (fun _ _ h => h) (fun _ h => h.elim) (fun _ _ => trivial) HB.out HB.out.size (by have := HL.out; simp only [List.length_nil]; omega) ?_
      intro y59 W46 ho hbn hg hat
      rw [List.nil_append] at ho
      have BE_ := Aside0.mk ((hg.block gE (blk_lt BE.out) (by simp [Value.ownBlock])).trans BE.out)
      have NE := Aside0.mk (show some gE ≠ y59.ownBlock from by have hlt := blk_lt BE.out; rcases hat with h | ⟨b, h, h2⟩ <;> rw [h] <;> first | (simp [Value.ownBlock]; done) | (intro he; have h3_ := Option.some.inj he; omega))
      clear BE
      have BE := BE_
      clear BE_
      have HA := Aside0.mk ho
      clear HB
      have HB := Aside0.mk hbn
      clear ho hbn hg hat
      refine hK.out _ _ HB.out (fun _ => ?_)
      clear hK K
      (try simp only [Act.put, List.setIfInBounds_toArray, List.set_cons_zero, List.set_cons_succ])
      refine wpAnyH_ready (rs := [4]) (by kernel_rfl) (by simp) ?_
      refine AllReadyH.cons (o := ({ dst := some 61, op := Op.buildSlice 22 1 #[(0, Operand.tmp 60)], type := 22, pos := "law.go:159", after := #[{ on := 3, ground := Ground.data }], guard := none } : Oper)) rfl (fun K hK => ?_) ?_
      · go_simp
        have hbn := below_alloc (Below.refl W46.heap.size W46) (.cells (vc v) 26 (0, 0))
        obtain ⟨gB, hgB⟩ : ∃ g, g = W46.heap.size := ⟨_, rfl⟩
        have BB := heap_alloc_last W46 (.cells (vc v) 26 (0, 0))
        obtain ⟨W47, hW47⟩ : ∃ W, W = W46.alloc (.cells (vc v) 26 (0, 0)) := ⟨_, rfl⟩
        have hW47_ : W47 = W46.alloc (.cells #[.int .i64 v.f0, .int .i64 v.f1, .string v.f2, .bool v.f3] 26 (0, 0)) := hW47
        (first | rw [← hW47] | rw [← hW47_])
        rw [← hgB]
        rw [← hW47] at hbn BB
        rw [← hgB] at BB
        have BB := Aside0.mk BB
        clear hgB hW47 hW47_
        have BE_ := Aside0.mk (blk_below BE.out hbn); clear BE; have BE := BE_; clear BE_
        have HA_ := Aside0.mk (Kd.R_below HA.out hbn); clear HA; have HA := HA_; clear HA_
        have HBn := Aside0.mk (below_step HB.out hbn); clear HB; have HB := HBn; clear HBn
        clear hbn
        refine hK.out _ _ HB.out (fun _ => ?_)
        clear hK K
        (try simp only [Act.put, List.setIfInBounds_toArray, List.set_cons_zero, List.set_cons_succ])
        refine wpAnyH_ready (rs := [5]) (by kernel_rfl) (by simp) ?_
        refine AllReadyH.cons (o := ({ dst := some 62, op := Op.call { callee := Callee.builtin Builtin.append, args := #[Operand.tmp 59, Operand.tmp 61], argTypes := #[22, 22] }, type := 22, pos := "law.go:159", after := #[{ on := 2, ground := Ground.data }, { on := 4, ground := Ground.data }, { on := 2, ground := Ground.chain }], guard := none } : Oper)) rfl (fun K hK => ?_) ?_
        · refine Kd.R_append_rows_step k26 (w0 := w0_) w0_.heap.size (by rfl) (.tmp 59) (.tmp 61) 22 26 (.agg #[(.int .i64 0), (.int .i64 0), (.string ⟨#[]⟩), (.bool false)]) 40 rfl Try.underlying22 info26 rfl (by decide) (by omega) y59 l [v] (some ⟨gB, 0, none⟩) 1 1 (fun _ => True) (fun _ => False) rfl rfl HA.out (C_row26 v BB.out) (fun _ _ h => h) (fun _ h => h.elim) (fun _ _ => trivial) HB.out HB.out.size (by have := HL.out; omega) ?_
          intro y62 W48 ho hbn hg hat
          rw [HLV.out] at ho
          have BE_ := Aside0.mk ((hg.block gE (blk_lt BE.out) NE.out).trans BE.out)
          clear BE NE
          have BE := BE_
          clear BE_
          obtain ⟨Ap, cp, ep⟩ := Kd.R_slice ho
          subst ep
          have HC := Aside0.mk ho
          clear HB HA BB
          have HB := Aside0.mk hbn
          clear ho hbn hg hat
          refine hK.out _ _ HB.out (fun _ => ?_)
          clear hK K
          (try simp only [Act.put, List.setIfInBounds_toArray, List.set_cons_zero, List.set_cons_succ])
          refine wpAnyH_ready (rs := [6]) (by kernel_rfl) (by simp) ?_
          refine AllReadyH.cons (o := ({ dst := some 63, op := Op.call { callee := Callee.value (Operand.func 9), args := #[Operand.tmp 57, Operand.tmp 62], argTypes := #[3, 22] }, type := 28, pos := "law.go:159", after := #[{ on := 0, ground := Ground.data }, { on := 5, ground := Ground.data }, { on := 5, ground := Ground.chain }], guard := none } : Oper)) rfl (fun K hK => ?_) ?_
          · go_simp
            go_at_call 9
            refine (winnowerlaw18_told.calls fn lv Ap cp z er _ (Kd.R_reads' HC.out).2.2 HLL.out HOV.out HT.out).mono ?_
            rintro e W49 ⟨rfl, hbn⟩
            have BE_ := Aside0.mk (blk_below BE.out hbn); clear BE; have BE := BE_; clear BE_
            have HBn := Aside0.mk (below_step HB.out hbn); clear HB; have HB := HBn; clear HBn
            clear hbn HC
            (try dsimp only)
            refine hK.out _ _ HB.out (fun _ => ?_)
            clear hK K
            (try simp only [Act.put, List.setIfInBounds_toArray, List.set_cons_zero, List.set_cons_succ])
            refine wpAnyH_take (i := 7) (oi := ({ dst := some 56, op := Op.move (Operand.tmp 63), type := 28, pos := "law.go:159", after := #[{ on := 6, ground := Ground.data }], guard := none } : Oper)) (v := ?_) rfl (by kernel_rfl) (by kernel_rfl) (by kernel_rfl) (fun c a w => HP.out c a _ _ w) (Or.inl ⟨by rfl, ?_⟩) HB.out ?_
            rotate_left
            · intro w_ _; go_simp; (try (with_reducible rfl))
            (try simp only [Act.put, List.setIfInBounds_toArray, List.set_cons_zero, List.set_cons_succ])
            refine wpAnyH_take (i := 8) (oi := ({ dst := some 64, op := Op.extract (Operand.tmp 56) 0, type := 26, pos := "law.go:159", after := #[{ on := 7, ground := Ground.data }], guard := none } : Oper)) (v := ?_) rfl (by kernel_rfl) (by kernel_rfl) (by kernel_rfl) (fun c a w => HP.out c a _ _ w) (Or.inl ⟨by rfl, ?_⟩) HB.out ?_
            rotate_left
            · intro w_ _; go_simp; (try (with_reducible rfl))
            (try simp only [Act.put, List.setIfInBounds_toArray, List.set_cons_zero, List.set_cons_succ])
            refine wpAnyH_take (i := 9) (oi := ({ dst := some 65, op := Op.extract (Operand.tmp 56) 1, type := 27, pos := "law.go:159", after := #[{ on := 7, ground := Ground.data }, { on := 11, ground := Ground.gcOnly Departure.lateStores }], guard := none } : Oper)) (v := ?_) rfl (by kernel_rfl) (by kernel_rfl) (by kernel_rfl) (fun c a w => HP.out c a _ _ w) (Or.inl ⟨by rfl, ?_⟩) HB.out ?_
            rotate_left
            · intro w_ _; go_simp; (try (with_reducible rfl))
            (try simp only [Act.put, List.setIfInBounds_toArray, List.set_cons_zero, List.set_cons_succ])
            refine wpAnyH_ready (rs := [11]) (by kernel_rfl) (by simp) ?_
            refine AllReadyH.cons (o := ({ dst := none, op := Op.store 26 (Operand.tmp 13) (Operand.tmp 64), type := 0, pos := "law.go:159", after := #[{ on := 10, ground := Ground.data }, { on := 8, ground := Ground.data }, { on := 6, ground := Ground.chain }, { on := 0, ground := Ground.phase }, { on := 1, ground := Ground.phase }, { on := 2, ground := Ground.phase }, { on := 3, ground := Ground.phase }, { on := 4, ground := Ground.phase }, { on := 5, ground := Ground.phase }, { on := 6, ground := Ground.phase }, { on := 7, ground := Ground.phase }, { on := 8, ground := Ground.phase }, { on := 9, ground := Ground.textOnly Departure.lateStores }, { on := 10, ground := Ground.phase }], guard := none } : Oper)) rfl (fun K hK => ?_) ?_
            · have hz0 : W49.cell? ⟨gE, 0, none⟩ = some (.int .i64 0) := (blk_cell BE.out 0).trans rfl
              have fz0 := blk_frozen BE.out 0
              have hz1 : W49.cell? ⟨gE, 1, none⟩ = some (.int .i64 0) := (blk_cell BE.out 1).trans rfl
              have fz1 := blk_frozen BE.out 1
              have hz2 : W49.cell? ⟨gE, 2, none⟩ = some (.string ⟨#[]⟩) := (blk_cell BE.out 2).trans rfl
              have fz2 := blk_frozen BE.out 2
              have hz3 : W49.cell? ⟨gE, 3, none⟩ = some (.bool false) := (blk_cell BE.out 3).trans rfl
              have fz3 := blk_frozen BE.out 3
              go_simp
              obtain ⟨W50, hW50, b6, st6⟩ := nest4 W49 gE 26 (.int .i64 0) (.int .i64 0) (.string ⟨#[]⟩) (.bool false) (.int .i64 z.f0) (.int .i64 z.f1) (.string z.f2) (.bool z.f3) BE.out
              rw [← hW50]
              have HBn := Aside0.mk (st6.fresh HB.out GE.out)
              have BF := Aside0.mk b6
              clear hz0 hz1 hz2 hz3 fz0 fz1 fz2 fz3 HB BE hW50 b6 st6
              have HB := HBn
              clear HBn
              refine hK.out _ _ HB.out (fun _ => ?_)
              clear hK K
              (try simp only [Act.put, List.setIfInBounds_toArray, List.set_cons_zero, List.set_cons_succ])
              refine wpAnyH_ready (rs := [12]) (by kernel_rfl) (by simp) ?_
              refine AllReadyH.cons (o := ({ dst := some 14, op := Op.assign (Operand.tmp 65), type := 27, pos := "law.go:159", after := #[{ on := 9, ground := Ground.data }, { on := 11, ground := Ground.chain }, { on := 0, ground := Ground.phase }, { on := 1, ground := Ground.phase }, { on := 2, ground := Ground.phase }, { on := 3, ground := Ground.phase }, { on := 4, ground := Ground.phase }, { on := 5, ground := Ground.phase }, { on := 6, ground := Ground.phase }, { on := 7, ground := Ground.phase }, { on := 8, ground := Ground.phase }, { on := 9, ground := Ground.phase }, { on := 10, ground := Ground.phase }, { on := 11, ground := Ground.phase }], guard := none } : Oper)) rfl (fun K hK => ?_) ?_
              · go_simp
                refine hK.out _ _ HB.out (fun _ => ?_)
                clear hK K
                (try simp only [Act.put, List.setIfInBounds_toArray, List.set_cons_zero, List.set_cons_succ])
                refine wpAnyH_done (by kernel_rfl) ?_ _
                exact HQ.out _ _ _ _ _ HB.out GE.out BF.out
              exact AllReadyH.nil
            exact AllReadyH.nil
          exact AllReadyH.nil
        exact AllReadyH.nil
      exact AllReadyH.nil
    refine AllReadyH.cons (o := ({ dst := some 61, op := Op.buildSlice 22 1 #[(0, Operand.tmp 60)], type := 22, pos := "law.go:159", after := #[{ on := 3, ground := Ground.data }], guard := none } : Oper)) rfl (fun K hK => ?_) ?_
    · go_simp
      have hbn := below_alloc (Below.refl W45.heap.size W45) (.cells (vc v) 26 (0, 0))
      obtain ⟨gB, hgB⟩ : ∃ g, g = W45.heap.size := ⟨_, rfl⟩
      have BB := heap_alloc_last W45 (.cells (vc v) 26 (0, 0))
      obtain ⟨W52, hW52⟩ : ∃ W, W = W45.alloc (.cells (vc v) 26 (0, 0)) := ⟨_, rfl⟩
      have hW52_ : W52 = W45.alloc (.cells #[.int .i64 v.f0, .int .i64 v.f1, .string v.f2, .bool v.f3] 26 (0, 0)) := hW52
      (first | rw [← hW52] | rw [← hW52_])
      rw [← hgB]
      rw [← hW52] at hbn BB
      rw [← hgB] at BB
      have BB := Aside0.mk BB
      clear hgB hW52 hW52_
      have BE_ := Aside0.mk (blk_below BE.out hbn); clear BE; have BE := BE_; clear BE_
      have HBn := Aside0.mk (below_step HB.out hbn); clear HB; have HB := HBn; clear HBn
      clear hbn
      refine hK.out _ _ HB.out (fun _ => ?_)
      clear hK K
      (try simp only [Act.put, List.setIfInBounds_toArray, List.set_cons_zero, List.set_cons_succ])
      refine wpAnyH_ready (rs := [2]) (by kernel_rfl) (by simp) ?_
      refine AllReadyH.cons (o := ({ dst := some 59, op := Op.call { callee := Callee.builtin Builtin.append, args := #[Operand.const (Value.slice none 0 0), Operand.tmp 58], argTypes := #[22, 22] }, type := 22, pos := "law.go:159", after := #[{ on := 1, ground := Ground.data }], guard := none } : Oper)) rfl (fun K hK => ?_) ?_
      · refine Kd.R_append_rows_step k26 (w0 := w0_) w0_.heap.size (by rfl) (.const (.slice none 0 0)) (.tmp 58) 22 26 (.agg #[(.int .i64 0), (.int .i64 0), (.string ⟨#[]⟩), (.bool false)]) 40 rfl Try.underlying22 info26 rfl (by decide) (by omega) (.slice none 0 0) ([] : List S26) l A l.length c (fun _ => True) (fun _ => False) rfl rfl (Kd.R_nil _ _ _ _ _) (Kd.C_below HR.out HB.out) (fun _ _ h => h) (fun _ h => h.elim) (fun _ _ => trivial) HB.out HB.out.size (by have := HL.out; simp only [List.length_nil]; omega) ?_
        intro y59 W53 ho hbn hg hat
        rw [List.nil_append] at ho
        have BB_ := Aside0.mk ((hg.block gB (blk_lt BB.out) (by simp [Value.ownBlock])).trans BB.out)
        clear BB
        have BB := BB_
        clear BB_
        have BE_ := Aside0.mk ((hg.block gE (blk_lt BE.out) (by simp [Value.ownBlock])).trans BE.out)
        have NE := Aside0.mk (show some gE ≠ y59.ownBlock from by have hlt := blk_lt BE.out; rcases hat with h | ⟨b, h, h2⟩ <;> rw [h] <;> first | (simp [Value.ownBlock]; done) | (intro he; have h3_ := Option.some.inj he; omega))
        clear BE
        have BE := BE_
        clear BE_
        have HA := Aside0.mk ho
        clear HB
        have HB := Aside0.mk hbn
        clear ho hbn hg hat
        refine hK.out _ _ HB.out (fun _ => ?_)
        clear hK K
        (try simp only [Act.put, List.setIfInBounds_toArray, List.set_cons_zero, List.set_cons_succ])
        refine wpAnyH_ready (rs := [5]) (by kernel_rfl) (by simp) ?_
        refine AllReadyH.cons (o := ({ dst := some 62, op := Op.call { callee := Callee.builtin Builtin.append, args := #[Operand.tmp 59, Operand.tmp 61], argTypes := #[22, 22] }, type := 22, pos := "law.go:159", after := #[{ on := 2, ground := Ground.data }, { on := 4, ground := Ground.data }, { on := 2, ground := Ground.chain }], guard := none } : Oper)) rfl (fun K hK => ?_) ?_
        · refine Kd.R_append_rows_step k26 (w0 := w0_) w0_.heap.size (by rfl) (.tmp 59) (.tmp 61) 22 26 (.agg #[(.int .i64 0), (.int .i64 0), (.string ⟨#[]⟩), (.bool false)]) 40 rfl Try.underlying22 info26 rfl (by decide) (by omega) y59 l [v] (some ⟨gB, 0, none⟩) 1 1 (fun _ => True) (fun _ => False) rfl rfl HA.out (C_row26 v BB.out) (fun _ _ h => h) (fun _ h => h.elim) (fun _ _ => trivial) HB.out HB.out.size (by have := HL.out; omega) ?_
          intro y62 W54 ho hbn hg hat
          rw [HLV.out] at ho
          have BE_ := Aside0.mk ((hg.block gE (blk_lt BE.out) NE.out).trans BE.out)
          clear BE NE
          have BE := BE_
          clear BE_
          obtain ⟨Ap, cp, ep⟩ := Kd.R_slice ho
          subst ep
          have HC := Aside0.mk ho
          clear HB HA BB
          have HB := Aside0.mk hbn
          clear ho hbn hg hat
          refine hK.out _ _ HB.out (fun _ => ?_)
          clear hK K
          (try simp only [Act.put, List.setIfInBounds_toArray, List.set_cons_zero, List.set_cons_succ])
          refine wpAnyH_ready (rs := [6]) (by kernel_rfl) (by simp) ?_
          refine AllReadyH.cons (o := ({ dst := some 63, op := Op.call { callee := Callee.value (Operand.func 9), args := #[Operand.tmp 57, Operand.tmp 62], argTypes := #[3, 22] }, type := 28, pos := "law.go:159", after := #[{ on := 0, ground := Ground.data }, { on := 5, ground := Ground.data }, { on := 5, ground := Ground.chain }], guard := none } : Oper)) rfl (fun K hK => ?_) ?_
          · go_simp
            go_at_call 9
            refine (winnowerlaw18_told.calls fn lv Ap cp z er _ (Kd.R_reads' HC.out).2.2 HLL.out HOV.out HT.out).mono ?_
            rintro e W55 ⟨rfl, hbn⟩
            have BE_ := Aside0.mk (blk_below BE.out hbn); clear BE; have BE := BE_; clear BE_
            have HBn := Aside0.mk (below_step HB.out hbn); clear HB; have HB := HBn; clear HBn
            clear hbn HC
            (try dsimp only)
            refine hK.out _ _ HB.out (fun _ => ?_)
            clear hK K
            (try simp only [Act.put, List.setIfInBounds_toArray, List.set_cons_zero, List.set_cons_succ])
            refine wpAnyH_take (i := 7) (oi := ({ dst := some 56, op := Op.move (Operand.tmp 63), type := 28, pos := "law.go:159", after := #[{ on := 6, ground := Ground.data }], guard := none } : Oper)) (v := ?_) rfl (by kernel_rfl) (by kernel_rfl) (by kernel_rfl) (fun c a w => HP.out c a _ _ w) (Or.inl ⟨by rfl, ?_⟩) HB.out ?_
            rotate_left
            · intro w_ _; go_simp; (try (with_reducible rfl))
            (try simp only [Act.put, List.setIfInBounds_toArray, List.set_cons_zero, List.set_cons_succ])
            refine wpAnyH_take (i := 8) (oi := ({ dst := some 64, op := Op.extract (Operand.tmp 56) 0, type := 26, pos := "law.go:159", after := #[{ on := 7, ground := Ground.data }], guard := none } : Oper)) (v := ?_) rfl (by kernel_rfl) (by kernel_rfl) (by kernel_rfl) (fun c a w => HP.out c a _ _ w) (Or.inl ⟨by rfl, ?_⟩) HB.out ?_
            rotate_left
            · intro w_ _; go_simp; (try (with_reducible rfl))
            (try simp only [Act.put, List.setIfInBounds_toArray, List.set_cons_zero, List.set_cons_succ])
            refine wpAnyH_take (i := 9) (oi := ({ dst := some 65, op := Op.extract (Operand.tmp 56) 1, type := 27, pos := "law.go:159", after := #[{ on := 7, ground := Ground.data }, { on := 11, ground := Ground.gcOnly Departure.lateStores }], guard := none } : Oper)) (v := ?_) rfl (by kernel_rfl) (by kernel_rfl) (by kernel_rfl) (fun c a w => HP.out c a _ _ w) (Or.inl ⟨by rfl, ?_⟩) HB.out ?_
            rotate_left
            · intro w_ _; go_simp; (try (with_reducible rfl))
            (try simp only [Act.put, List.setIfInBounds_toArray, List.set_cons_zero, List.set_cons_succ])
            refine wpAnyH_ready (rs := [11]) (by kernel_rfl) (by simp) ?_
            refine AllReadyH.cons (o := ({ dst := none, op := Op.store 26 (Operand.tmp 13) (Operand.tmp 64), type := 0, pos := "law.go:159", after := #[{ on := 10, ground := Ground.data }, { on := 8, ground := Ground.data }, { on := 6, ground := Ground.chain }, { on := 0, ground := Ground.phase }, { on := 1, ground := Ground.phase }, { on := 2, ground := Ground.phase }, { on := 3, ground := Ground.phase }, { on := 4, ground := Ground.phase }, { on := 5, ground := Ground.phase }, { on := 6, ground := Ground.phase }, { on := 7, ground := Ground.phase }, { on := 8, ground := Ground.phase }, { on := 9, ground := Ground.textOnly Departure.lateStores }, { on := 10, ground := Ground.phase }], guard := none } : Oper)) rfl (fun K hK => ?_) ?_
            · have hz0 : W55.cell? ⟨gE, 0, none⟩ = some (.int .i64 0) := (blk_cell BE.out 0).trans rfl
              have fz0 := blk_frozen BE.out 0
              have hz1 : W55.cell? ⟨gE, 1, none⟩ = some (.int .i64 0) := (blk_cell BE.out 1).trans rfl
              have fz1 := blk_frozen BE.out 1
              have hz2 : W55.cell? ⟨gE, 2, none⟩ = some (.string ⟨#[]⟩) := (blk_cell BE.out 2).trans rfl
              have fz2 := blk_frozen BE.out 2
              have hz3 : W55.cell? ⟨gE, 3, none⟩ = some (.bool false) := (blk_cell BE.out 3).trans rfl
              have fz3 := blk_frozen BE.out 3
              go_simp
              obtain ⟨W56, hW56, b6, st6⟩ := nest4 W55 gE 26 (.int .i64 0) (.int .i64 0) (.string ⟨#[]⟩) (.bool false) (.int .i64 z.f0) (.int .i64 z.f1) (.string z.f2) (.bool z.f3) BE.out
              rw [← hW56]
              have HBn := Aside0.mk (st6.fresh HB.out GE.out)
              have BF := Aside0.mk b6
              clear hz0 hz1 hz2 hz3 fz0 fz1 fz2 fz3 HB BE hW56 b6 st6
              have HB := HBn
              clear HBn
              refine hK.out _ _ HB.out (fun _ => ?_)
              clear hK K
              (try simp only [Act.put, List.setIfInBounds_toArray, List.set_cons_zero, List.set_cons_succ])
              refine wpAnyH_ready (rs := [12]) (by kernel_rfl) (by simp) ?_
              refine AllReadyH.cons (o := ({ dst := some 14, op := Op.assign (Operand.tmp 65), type := 27, pos := "law.go:159", after := #[{ on := 9, ground := Ground.data }, { on := 11, ground := Ground.chain }, { on := 0, ground := Ground.phase }, { on := 1, ground := Ground.phase }, { on := 2, ground := Ground.phase }, { on := 3, ground := Ground.phase }, { on := 4, ground := Ground.phase }, { on := 5, ground := Ground.phase }, { on := 6, ground := Ground.phase }, { on := 7, ground := Ground.phase }, { on := 8, ground := Ground.phase }, { on := 9, ground := Ground.phase }, { on := 10, ground := Ground.phase }, { on := 11, ground := Ground.phase }], guard := none } : Oper)) rfl (fun K hK => ?_) ?_
              · go_simp
                refine hK.out _ _ HB.out (fun _ => ?_)
                clear hK K
                (try simp only [Act.put, List.setIfInBounds_toArray, List.set_cons_zero, List.set_cons_succ])
                refine wpAnyH_done (by kernel_rfl) ?_ _
                exact HQ.out _ _ _ _ _ HB.out GE.out BF.out
              exact AllReadyH.nil
            exact AllReadyH.nil
          exact AllReadyH.nil
        exact AllReadyH.nil
      exact AllReadyH.nil
    exact AllReadyH.nil
  exact AllReadyH.nil
theorem winnowerlaw18_AggMore.no_ (fn : Int) (l : List S26) (A : Option Addr) (c : Nat) (v : S26) (w : World) (hr : Kd.C k26 w A l.length l) (hc : l.length ≤ c) (ho : okI l) (hf : fewS l = false) :
    Calls Try.prog 5 #[.int .i64 fn, .slice A l.length c, .agg (vc v)] w fun e w' => e = .returned (.bool true) ∧ Below w.heap.size w w' := by
  have HB := Aside0.mk (Below.refl w.heap.size w)
  have HR := Aside0.mk hr
  have HC := Aside0.mk hc
  have HO := Aside0.mk ho
  have hu26 := Try.underlying26
  clear hr hc ho
  have HF := Aside0.mk (show winnowerlaw18_few.f (l.length + 1) l = some false by rw [few_tell, hf])
  clear hf
  go_enter Try.func5, Try.ntmps5
  go_wp2_with (first
    | ((with_reducible refine gate_dst (N := 5) rfl ?_); refine box_event ?hg (N := 5) ?hd (cs := (vc v)) (t := 26) ?hr ?_; (case hd => rfl); (case hg => rfl); (case hr => first | (go_simp; done) | (go_simp; rfl)); intro g5 hg w0 hbox hb; have B5 := Aside0.mk hbox; have GEB5 := Aside0.mk ((by rw [hg]; exact (below_size HB.out)) : w.heap.size ≤ g5); have b_HB := Aside0.mk (below_step HB.out hb); clear HB; have HB := b_HB; clear b_HB; clear hbox hg hb)
    | ((with_reducible refine gate_callee (f := 7) rfl ?_); refine goesL_ (some 16) rfl rfl Try.func7 (by kernel_rfl) rfl #[] rfl (by (try simp only [List.map_toArray, List.map_cons, List.map_nil]); first | done | rfl) ?_; go_loud (refine (winnowerlaw18_awake.calls _).mono ?_); rintro e w1 ⟨rfl, hb⟩; refine ⟨_, rfl, ?_⟩; have b_B5 := Aside0.mk (blk_below B5.out hb); have b_HB := Aside0.mk (below_step HB.out hb); clear HB B5; have HB := b_HB; have B5 := b_B5; clear b_HB b_B5; clear hb)
    | ((with_reducible refine gate_callee (f := 8) rfl ?_); refine goesL_ (some 18) rfl rfl Try.func8 (by kernel_rfl) rfl #[.slice A l.length c] rfl (by (try simp only [List.map_toArray, List.map_cons, List.map_nil]); first | done | rfl) ?_; go_loud (refine (winnowerlaw18_few.calls (l.length + 1) A c l false _ (Kd.C_below HR.out HB.out) HC.out HF.out).mono ?_); rintro e w2 ⟨rfl, hd⟩; refine ⟨_, rfl, ?_⟩; have hb := hd.below; clear hd; have b_B5 := Aside0.mk (blk_below B5.out hb); have b_HB := Aside0.mk (below_step HB.out hb); clear HB B5; have HB := b_HB; have B5 := b_B5; clear b_HB b_B5; clear hb; have hv2 : w2.cell? ⟨g5, 2, none⟩ = some (.string v.f2) := (blk_cell B5.out 2).trans rfl))
  go_ret
  exact ⟨rfl, HB.out⟩
theorem winnowerlaw18_AggMore.long_ (fn : Int) (l : List S26) (A : Option Addr) (c : Nat) (v : S26) (w : World) (hr : Kd.C k26 w A l.length l) (hc : l.length ≤ c) (ho : okI l) (hf : fewS l = true) (q0 : decide ((300 : Int) < (v.f2.size : Int)) = true) (q0n : decide (300 < v.f2.size) = true) :
    Calls Try.prog 5 #[.int .i64 fn, .slice A l.length c, .agg (vc v)] w fun e w' => e = .returned (.bool true) ∧ Below w.heap.size w w' := by
  have HB := Aside0.mk (Below.refl w.heap.size w)
  have HR := Aside0.mk hr
  have HC := Aside0.mk hc
  have HO := Aside0.mk ho
  have hu26 := Try.underlying26
  clear hr hc ho
  have HF := Aside0.mk (show winnowerlaw18_few.f (l.length + 1) l = some true by rw [few_tell, hf])
  clear hf
  go_enter Try.func5, Try.ntmps5
  go_wp2_with (first
    | ((with_reducible refine gate_dst (N := 5) rfl ?_); refine box_event ?hg (N := 5) ?hd (cs := (vc v)) (t := 26) ?hr ?_; (case hd => rfl); (case hg => rfl); (case hr => first | (go_simp; done) | (go_simp; rfl)); intro g5 hg w0 hbox hb; have B5 := Aside0.mk hbox; have GEB5 := Aside0.mk ((by rw [hg]; exact (below_size HB.out)) : w.heap.size ≤ g5); have b_HB := Aside0.mk (below_step HB.out hb); clear HB; have HB := b_HB; clear b_HB; clear hbox hg hb)
    | ((with_reducible refine gate_callee (f := 7) rfl ?_); refine goesL_ (some 16) rfl rfl Try.func7 (by kernel_rfl) rfl #[] rfl (by (try simp only [List.map_toArray, List.map_cons, List.map_nil]); first | done | rfl) ?_; go_loud (refine (winnowerlaw18_awake.calls _).mono ?_); rintro e w1 ⟨rfl, hb⟩; refine ⟨_, rfl, ?_⟩; have b_B5 := Aside0.mk (blk_below B5.out hb); have b_HB := Aside0.mk (below_step HB.out hb); clear HB B5; have HB := b_HB; have B5 := b_B5; clear b_HB b_B5; clear hb)
    | ((with_reducible refine gate_callee (f := 8) rfl ?_); refine goesL_ (some 18) rfl rfl Try.func8 (by kernel_rfl) rfl #[.slice A l.length c] rfl (by (try simp only [List.map_toArray, List.map_cons, List.map_nil]); first | done | rfl) ?_; go_loud (refine (winnowerlaw18_few.calls (l.length + 1) A c l true _ (Kd.C_below HR.out HB.out) HC.out HF.out).mono ?_); rintro e w2 ⟨rfl, hd⟩; refine ⟨_, rfl, ?_⟩; have hb := hd.below; clear hd; have b_B5 := Aside0.mk (blk_below B5.out hb); have b_HB := Aside0.mk (below_step HB.out hb); clear HB B5; have HB := b_HB; have B5 := b_B5; clear b_HB b_B5; clear hb; have hv2 : w2.cell? ⟨g5, 2, none⟩ = some (.string v.f2) := (blk_cell B5.out 2).trans rfl))
  go_ret
  exact ⟨rfl, HB.out⟩
theorem winnowerlaw18_AggMore.bad1 (fn : Int) (l : List S26) (A : Option Addr) (c : Nat) (v : S26) (w : World) (hr : Kd.C k26 w A l.length l) (hc : l.length ≤ c) (ho : okI l) (hf : fewS l = true) (q0 : decide ((300 : Int) < (v.f2.size : Int)) = false) (q0n : decide (300 < v.f2.size) = false) (q1 : decide (fn < 1) = true) :
    Calls Try.prog 5 #[.int .i64 fn, .slice A l.length c, .agg (vc v)] w fun e w' => e = .returned (.bool true) ∧ Below w.heap.size w w' := by
  have HB := Aside0.mk (Below.refl w.heap.size w)
  have HR := Aside0.mk hr
  have HC := Aside0.mk hc
  have HO := Aside0.mk ho
  have hu26 := Try.underlying26
  clear hr hc ho
  have HF := Aside0.mk (show winnowerlaw18_few.f (l.length + 1) l = some true by rw [few_tell, hf])
  clear hf
  go_enter Try.func5, Try.ntmps5
  go_wp2_with (first
    | ((with_reducible refine gate_dst (N := 5) rfl ?_); refine box_event ?hg (N := 5) ?hd (cs := (vc v)) (t := 26) ?hr ?_; (case hd => rfl); (case hg => rfl); (case hr => first | (go_simp; done) | (go_simp; rfl)); intro g5 hg w0 hbox hb; have B5 := Aside0.mk hbox; have GEB5 := Aside0.mk ((by rw [hg]; exact (below_size HB.out)) : w.heap.size ≤ g5); have b_HB := Aside0.mk (below_step HB.out hb); clear HB; have HB := b_HB; clear b_HB; clear hbox hg hb)
    | ((with_reducible refine gate_callee (f := 7) rfl ?_); refine goesL_ (some 16) rfl rfl Try.func7 (by kernel_rfl) rfl #[] rfl (by (try simp only [List.map_toArray, List.map_cons, List.map_nil]); first | done | rfl) ?_; go_loud (refine (winnowerlaw18_awake.calls _).mono ?_); rintro e w1 ⟨rfl, hb⟩; refine ⟨_, rfl, ?_⟩; have b_B5 := Aside0.mk (blk_below B5.out hb); have b_HB := Aside0.mk (below_step HB.out hb); clear HB B5; have HB := b_HB; have B5 := b_B5; clear b_HB b_B5; clear hb)
    | ((with_reducible refine gate_callee (f := 8) rfl ?_); refine goesL_ (some 18) rfl rfl Try.func8 (by kernel_rfl) rfl #[.slice A l.length c] rfl (by (try simp only [List.map_toArray, List.map_cons, List.map_nil]); first | done | rfl) ?_; go_loud (refine (winnowerlaw18_few.calls (l.length + 1) A c l true _ (Kd.C_below HR.out HB.out) HC.out HF.out).mono ?_); rintro e w2 ⟨rfl, hd⟩; refine ⟨_, rfl, ?_⟩; have hb := hd.below; clear hd; have b_B5 := Aside0.mk (blk_below B5.out hb); have b_HB := Aside0.mk (below_step HB.out hb); clear HB B5; have HB := b_HB; have B5 := b_B5; clear b_HB b_B5; clear hb; have hv2 : w2.cell? ⟨g5, 2, none⟩ = some (.string v.f2) := (blk_cell B5.out 2).trans rfl))
  go_ret
  exact ⟨rfl, HB.out⟩
theorem winnowerlaw18_AggMore.bad2 (fn : Int) (l : List S26) (A : Option Addr) (c : Nat) (v : S26) (w : World) (hr : Kd.C k26 w A l.length l) (hc : l.length ≤ c) (ho : okI l) (hf : fewS l = true) (q0 : decide ((300 : Int) < (v.f2.size : Int)) = false) (q0n : decide (300 < v.f2.size) = false) (q1 : decide (fn < 1) = false) (q2 : decide (6 ≤ fn) = true) :
    Calls Try.prog 5 #[.int .i64 fn, .slice A l.length c, .agg (vc v)] w fun e w' => e = .returned (.bool true) ∧ Below w.heap.size w w' := by
  have HB := Aside0.mk (Below.refl w.heap.size w)
  have HR := Aside0.mk hr
  have HC := Aside0.mk hc
  have HO := Aside0.mk ho
  have hu26 := Try.underlying26
  clear hr hc ho
  have HF := Aside0.mk (show winnowerlaw18_few.f (l.length + 1) l = some true by rw [few_tell, hf])
  clear hf
  go_enter Try.func5, Try.ntmps5
  go_wp2_with (first
    | ((with_reducible refine gate_dst (N := 5) rfl ?_); refine box_event ?hg (N := 5) ?hd (cs := (vc v)) (t := 26) ?hr ?_; (case hd => rfl); (case hg => rfl); (case hr => first | (go_simp; done) | (go_simp; rfl)); intro g5 hg w0 hbox hb; have B5 := Aside0.mk hbox; have GEB5 := Aside0.mk ((by rw [hg]; exact (below_size HB.out)) : w.heap.size ≤ g5); have b_HB := Aside0.mk (below_step HB.out hb); clear HB; have HB := b_HB; clear b_HB; clear hbox hg hb)
    | ((with_reducible refine gate_callee (f := 7) rfl ?_); refine goesL_ (some 16) rfl rfl Try.func7 (by kernel_rfl) rfl #[] rfl (by (try simp only [List.map_toArray, List.map_cons, List.map_nil]); first | done | rfl) ?_; go_loud (refine (winnowerlaw18_awake.calls _).mono ?_); rintro e w1 ⟨rfl, hb⟩; refine ⟨_, rfl, ?_⟩; have b_B5 := Aside0.mk (blk_below B5.out hb); have b_HB := Aside0.mk (below_step HB.out hb); clear HB B5; have HB := b_HB; have B5 := b_B5; clear b_HB b_B5; clear hb)
    | ((with_reducible refine gate_callee (f := 8) rfl ?_); refine goesL_ (some 18) rfl rfl Try.func8 (by kernel_rfl) rfl #[.slice A l.length c] rfl (by (try simp only [List.map_toArray, List.map_cons, List.map_nil]); first | done | rfl) ?_; go_loud (refine (winnowerlaw18_few.calls (l.length + 1) A c l true _ (Kd.C_below HR.out HB.out) HC.out HF.out).mono ?_); rintro e w2 ⟨rfl, hd⟩; refine ⟨_, rfl, ?_⟩; have hb := hd.below; clear hd; have b_B5 := Aside0.mk (blk_below B5.out hb); have b_HB := Aside0.mk (below_step HB.out hb); clear HB B5; have HB := b_HB; have B5 := b_B5; clear b_HB b_B5; clear hb; have hv2 : w2.cell? ⟨g5, 2, none⟩ = some (.string v.f2) := (blk_cell B5.out 2).trans rfl))
  go_ret
  exact ⟨rfl, HB.out⟩
theorem winnowerlaw18_AggMore.over (fn : Int) (l : List S26) (A : Option Addr) (c : Nat) (v : S26) (w : World) (hr : Kd.C k26 w A l.length l) (hc : l.length ≤ c) (ho : okI l) (hf : fewS l = true) (q0 : decide ((300 : Int) < (v.f2.size : Int)) = false) (q0n : decide (300 < v.f2.size) = false) (hfn1 : 1 ≤ fn) (hfn2 : fn < 6) (x z : S26) (gz : Int) (hT : toldS fn l = (x, 10)) (lv : List S26) (hlv : l ++ [v] = lv) (hTz : toldS fn lv = (z, gz)) (hov : okI lv) :
    Calls Try.prog 5 #[.int .i64 fn, .slice A l.length c, .agg (vc v)] w fun e w' => e = .returned (.bool true) ∧ Below w.heap.size w w' := by
  have HB := Aside0.mk (Below.refl w.heap.size w)
  have HR := Aside0.mk hr
  have HC := Aside0.mk hc
  have HO := Aside0.mk ho
  have hu26 := Try.underlying26
  clear hr hc ho
  have HF := Aside0.mk (show winnowerlaw18_few.f (l.length + 1) l = some true by rw [few_tell, hf])
  have HL := Aside0.mk (show l.length ≤ 1000 by have := (few_len hf).1; omega)
  have HLV := Aside0.mk (show lv.length ≤ 1000 by rw [← hlv, List.length_append]; have := (few_len hf).1; simp only [List.length_cons, List.length_nil]; omega)
  have HLZ := Aside0.mk (show (l ++ [(⟨0, 0, ⟨#[]⟩, false⟩ : S26)]).length ≤ 1000 by rw [List.length_append]; have := (few_len hf).1; simp only [List.length_cons, List.length_nil]; omega)
  have HOZ := Aside0.mk (show okI (l ++ [(⟨0, 0, ⟨#[]⟩, false⟩ : S26)]) from okI_app HO.out (by decide))
  have HOV := Aside0.mk hov
  have HT := Aside0.mk hT
  have HTZ := Aside0.mk (show toldS fn (l ++ [(⟨0, 0, ⟨#[]⟩, false⟩ : S26)]) = (x, 10) from (told_z hfn1 hfn2 (by have := (few_len hf).1; omega)).trans hT)
  have HTV := Aside0.mk hTz
  have HLL := Aside0.mk hlv
  have q1 : decide (fn < 1) = false := decide_eq_false (by omega)
  have q2 : decide (6 ≤ fn) = false := decide_eq_false (by omega)
  clear hfn1 hfn2

  clear hf hT hTz hlv hov
  go_enter Try.func5, Try.ntmps5
  go_wp2_with (first
    | ((with_reducible refine gate_dst (N := 5) rfl ?_); refine box_event ?hg (N := 5) ?hd (cs := (vc v)) (t := 26) ?hr ?_; (case hd => rfl); (case hg => rfl); (case hr => first | (go_simp; done) | (go_simp; rfl)); intro g5 hg w0 hbox hb; have B5 := Aside0.mk hbox; have GEB5 := Aside0.mk ((by rw [hg]; exact (below_size HB.out)) : w.heap.size ≤ g5); have b_HB := Aside0.mk (below_step HB.out hb); clear HB; have HB := b_HB; clear b_HB; clear hbox hg hb)
    | ((with_reducible refine gate_callee (f := 7) rfl ?_); refine goesL_ (some 16) rfl rfl Try.func7 (by kernel_rfl) rfl #[] rfl (by (try simp only [List.map_toArray, List.map_cons, List.map_nil]); first | done | rfl) ?_; go_loud (refine (winnowerlaw18_awake.calls _).mono ?_); rintro e w1 ⟨rfl, hb⟩; refine ⟨_, rfl, ?_⟩; have b_B5 := Aside0.mk (blk_below B5.out hb); have b_HB := Aside0.mk (below_step HB.out hb); clear HB B5; have HB := b_HB; have B5 := b_B5; clear b_HB b_B5; clear hb)
    | ((with_reducible refine gate_callee (f := 8) rfl ?_); refine goesL_ (some 18) rfl rfl Try.func8 (by kernel_rfl) rfl #[.slice A l.length c] rfl (by (try simp only [List.map_toArray, List.map_cons, List.map_nil]); first | done | rfl) ?_; go_loud (refine (winnowerlaw18_few.calls (l.length + 1) A c l true _ (Kd.C_below HR.out HB.out) HC.out HF.out).mono ?_); rintro e w2 ⟨rfl, hd⟩; refine ⟨_, rfl, ?_⟩; have hb := hd.below; clear hd; have b_B5 := Aside0.mk (blk_below B5.out hb); have b_HB := Aside0.mk (below_step HB.out hb); clear HB B5; have HB := b_HB; have B5 := b_B5; clear b_HB b_B5; clear hb; have hv2 : w2.cell? ⟨g5, 2, none⟩ = some (.string v.f2) := (blk_cell B5.out 2).trans rfl)
    | ((with_reducible refine gate_callee (f := 9) rfl ?_); refine goesL_ (some 43) rfl rfl Try.func9 (by kernel_rfl) rfl #[.int .i64 fn, .slice A l.length c] rfl (by (try simp only [List.map_toArray, List.map_cons, List.map_nil]); first | done | rfl) ?_; go_loud (refine (winnowerlaw18_told.calls fn l A c x 10 _ (Kd.C_below HR.out HB.out) HL.out HO.out HT.out).mono ?_); rintro e w3 ⟨rfl, hb⟩; refine ⟨_, rfl, ?_⟩; have b_B5 := Aside0.mk (blk_below B5.out hb); have b_HB := Aside0.mk (below_step HB.out hb); clear HB B5; have HB := b_HB; have B5 := b_B5; clear b_HB b_B5; clear hb; clear hv2)
    | ((with_reducible refine gate_dst (N := 9) rfl ?_); refine box_event ?hg (N := 9) ?hd (cs := #[.int .i64 0, .int .i64 0, .string ⟨#[]⟩, .bool false]) (t := 26) ?hr ?_; (case hd => rfl); (case hg => rfl); (case hr => first | (go_simp; done) | (go_simp; rfl)); intro g9 hg w4 hbox hb; have B9 := Aside0.mk hbox; have GEB9 := Aside0.mk ((by rw [hg]; exact (below_size HB.out)) : w.heap.size ≤ g9); have NB5B9 := Aside0.mk ((by rw [hg]; exact Nat.ne_of_lt (blk_lt B5.out)) : g5 ≠ g9); have b_B5 := Aside0.mk (blk_below B5.out hb); have b_HB := Aside0.mk (below_step HB.out hb); clear HB B5; have HB := b_HB; have B5 := b_B5; clear b_HB b_B5; clear hbox hg hb)
    | ((with_reducible refine gate_ (.store 26 (.tmp 9) (.tmp 44)) rfl ?_); go_loud (refine wpList_storeR rfl rfl 26 (.tmp 9) (.tmp 44) rfl g9 (0) rfl (.agg (vc x)) rfl (vc x).toList rfl #[.int .i64 0, .int .i64 0, .string ⟨#[]⟩, .bool false] 26 B9.out size26 (by simp) (by simp [Value.oneCell']) (vc x) rfl ?_); intro w5 hs st; have b_B5 := Aside0.mk (Step.blk st B5.out (NB5B9.out)); have b_HB := Aside0.mk (Step.fresh st HB.out GEB9.out); clear HB B5; have HB := b_HB; have B5 := b_B5; clear b_HB b_B5; clear B9; have B9 := Aside0.mk hs; clear hs st)
    | ((with_reducible refine gate_builtin (b := .append) (xs := #[.const (.slice none 0 0), .tmp 48]) rfl ?_); at_builtin; go_loud (refine Kd.R_append_rows k26 (w0 := w5) w5.heap.size rfl (.const (.slice none 0 0)) (.tmp 48) 22 26 (.agg #[(.int .i64 0), (.int .i64 0), (.string ⟨#[]⟩), (.bool false)]) 40 rfl Try.underlying22 info26 rfl (by decide) (by omega) (.slice none 0 0) ([] : List S26) l A l.length c (fun _ => True) (fun _ => False) rfl rfl ?aO ?aR (fun _ _ h => h) (fun _ h => h.elim) ?aF ?aB ?aS ?aL ?_); (case aR => exact (Kd.C_below HR.out HB.out)); (case aB => exact Below.refl _ _); (case aF => exact (fun _ _ => trivial)); (case aO => exact Kd.R_nil _ _ _ _ _); (case aS => exact Nat.le_refl _); (case aL => have := HL.out; simp only [List.length_nil]; omega); intro v49 w6 ho hb hg hat; rw [List.nil_append] at ho; have HA := Aside0.mk hb; have HOA := Aside0.mk ho; clear ho hb hg hat)
    | ((with_reducible refine gate_builtin (b := .append) (xs := #[.tmp 49, .tmp 51]) rfl ?_); at_builtin; go_loud (refine Kd.R_append k26 (w0 := w5) w5.heap.size rfl (.tmp 49) (.tmp 51) 22 26 (.agg #[(.int .i64 0), (.int .i64 0), (.string ⟨#[]⟩), (.bool false)]) 40 rfl Try.underlying22 info26 rfl (by decide) (by omega) v49 l (⟨0, 0, ⟨#[]⟩, false⟩ : S26) [.int .i64 0, .int .i64 0, .string ⟨#[]⟩, .bool false] (fun _ => True) (fun _ => False) rfl rfl ?aP (fun _ hk => hk.elim) ?aF ?aO ?aB ?aS ?aL ?_); (case aP => exact k26_mkM _ _ _ _); (case aB => exact HA.out); (case aF => exact (fun _ _ => trivial)); (case aO => exact HOA.out); (case aS => exact HA.out.size); (case aL => have := HL.out; omega); intro v52 w7 ho hb hg hat; have HA_ := Aside0.mk hb; have HOB := Aside0.mk ho; clear HA HOA ho hb hg hat; have HA := HA_; clear HA_; obtain ⟨Ap, cp, ep⟩ := Kd.R_slice HOB.out; subst ep)
    | ((with_reducible refine gate_callee (f := 9) rfl ?_); refine goesL_ (some 53) rfl rfl Try.func9 (by kernel_rfl) rfl #[.int .i64 fn, .slice Ap (l ++ [(⟨0, 0, ⟨#[]⟩, false⟩ : S26)]).length cp] rfl (by (try simp only [List.map_toArray, List.map_cons, List.map_nil]); first | done | rfl) ?_; go_loud (refine (winnowerlaw18_told.calls fn (l ++ [(⟨0, 0, ⟨#[]⟩, false⟩ : S26)]) Ap cp x 10 _ (Kd.R_reads' HOB.out).2.2 HLZ.out HOZ.out HTZ.out).mono ?_); rintro e w8 ⟨rfl, hb⟩; refine ⟨_, rfl, ?_⟩; have b_B5 := Aside0.mk (blk_below (blk_below B5.out HA.out) hb); have b_B9 := Aside0.mk (blk_below (blk_below B9.out HA.out) hb); have b_HB := Aside0.mk (below_step (below_step HB.out HA.out) hb); clear HB B5 B9 HA HOB hb; have HB := b_HB; have B9 := b_B9; have B5 := b_B5; clear b_HB b_B9 b_B5)
    | ((with_reducible refine gate_dst (N := 11) rfl ?_); refine box_event ?hg (N := 11) ?hd (cs := #[.int .i64 0, .int .i64 0, .string ⟨#[]⟩, .bool false]) (t := 26) ?hr ?_; (case hd => rfl); (case hg => rfl); (case hr => first | (go_simp; done) | (go_simp; rfl)); intro g11 hg w9 hbox hb; have B11 := Aside0.mk hbox; have GEB11 := Aside0.mk ((by rw [hg]; exact (below_size HB.out)) : w.heap.size ≤ g11); have NB5B11 := Aside0.mk ((by rw [hg]; exact Nat.ne_of_lt (blk_lt B5.out)) : g5 ≠ g11); have NB9B11 := Aside0.mk ((by rw [hg]; exact Nat.ne_of_lt (blk_lt B9.out)) : g9 ≠ g11); have b_B5 := Aside0.mk (blk_below B5.out hb); have b_B9 := Aside0.mk (blk_below B9.out hb); have b_HB := Aside0.mk (below_step HB.out hb); clear HB B5 B9; have HB := b_HB; have B5 := b_B5; have B9 := b_B9; clear b_HB b_B5 b_B9; clear hbox hg hb)
    | ((with_reducible refine gate_ (.store 26 (.tmp 11) (.tmp 54)) rfl ?_); go_loud (refine wpList_storeR rfl rfl 26 (.tmp 11) (.tmp 54) rfl g11 (0) rfl (.agg (vc x)) rfl (vc x).toList rfl #[.int .i64 0, .int .i64 0, .string ⟨#[]⟩, .bool false] 26 B11.out size26 (by simp) (by simp [Value.oneCell']) (vc x) rfl ?_); intro w10 hs st; have b_B5 := Aside0.mk (Step.blk st B5.out (NB5B11.out)); have b_B9 := Aside0.mk (Step.blk st B9.out (NB9B11.out)); have b_HB := Aside0.mk (Step.fresh st HB.out GEB11.out); clear HB B5 B9; have HB := b_HB; have B5 := b_B5; have B9 := b_B9; clear b_HB b_B5 b_B9; clear B11; have B11 := Aside0.mk hs; clear hs st))
  refine AggMore.reg7 fn g5 v l A c gz z lv w10 B5.out (Kd.C_below HR.out HB.out) HL.out HLL.out HLV.out HOV.out HTV.out _ (fun c a d u w h => by cases d <;> exact h) ?_
  intro y59 y61 y62 g13 w11 hb ge hB13
  have B13 := Aside0.mk hB13
  have NE9 := Aside0.mk (show g9 ≠ g13 from Nat.ne_of_lt (Nat.lt_of_lt_of_le (blk_lt B9.out) ge))
  have b_B5 := Aside0.mk (blk_below B5.out hb)
  have b_B9 := Aside0.mk (blk_below B9.out hb)
  have b_B11 := Aside0.mk (blk_below B11.out hb)
  have b_HB := Aside0.mk (below_step HB.out hb)
  clear HB B5 B9 B11 hb hB13 ge
  have HB := b_HB
  have B9 := b_B9
  have B11 := b_B11
  have B5 := b_B5
  clear b_HB b_B9 b_B5 b_B11
  have hx0 : w11.cell? ⟨g9, 0, none⟩ = some (.int .i64 x.f0) := (blk_cell B9.out 0).trans rfl
  have hx1 : w11.cell? ⟨g9, 1, none⟩ = some (.int .i64 x.f1) := (blk_cell B9.out 1).trans rfl
  have hx2 : w11.cell? ⟨g9, 2, none⟩ = some (.string x.f2) := (blk_cell B9.out 2).trans rfl
  have hx3 : w11.cell? ⟨g9, 3, none⟩ = some (.bool x.f3) := (blk_cell B9.out 3).trans rfl
  have hz0 : w11.cell? ⟨g13, 0, none⟩ = some (.int .i64 z.f0) := (blk_cell B13.out 0).trans rfl
  have hz1 : w11.cell? ⟨g13, 1, none⟩ = some (.int .i64 z.f1) := (blk_cell B13.out 1).trans rfl
  have hz2 : w11.cell? ⟨g13, 2, none⟩ = some (.string z.f2) := (blk_cell B13.out 2).trans rfl
  have hz3 : w11.cell? ⟨g13, 3, none⟩ = some (.bool z.f3) := (blk_cell B13.out 3).trans rfl
  go_wp2_with (first
    | ((with_reducible refine gate_dst (N := 66) rfl ?_); go_loud (refine wpList_load_row rfl 26 (.tmp 9) rfl g9 rfl 26 (vc x) (0, 0) _ B9.out Try.underlying26 rfl size26 ?_))
    | ((with_reducible refine gate_dst (N := 67) rfl ?_); go_loud (refine wpList_load_row rfl 26 (.tmp 11) rfl g11 rfl 26 (vc x) (0, 0) _ B11.out Try.underlying26 rfl size26 ?_)))
  go_ret
  exact ⟨rfl, HB.out⟩
theorem winnowerlaw18_AggMore.gbad (fn : Int) (l : List S26) (A : Option Addr) (c : Nat) (v : S26) (w : World) (hr : Kd.C k26 w A l.length l) (hc : l.length ≤ c) (ho : okI l) (hf : fewS l = true) (q0 : decide ((300 : Int) < (v.f2.size : Int)) = false) (q0n : decide (300 < v.f2.size) = false) (hfn1 : 1 ≤ fn) (hfn2 : fn < 6) (x z : S26) (gz : Int) (hT : toldS fn l = (x, 0)) (lv : List S26) (hlv : l ++ [v] = lv) (hTz : toldS fn lv = (z, gz)) (hov : okI lv) (q3 : (gz == 0) = false) (q4 : (gz != 0) = true) (q5 : decide (gz = 0) = false) :
    Calls Try.prog 5 #[.int .i64 fn, .slice A l.length c, .agg (vc v)] w fun e w' => e = .returned (.bool true) ∧ Below w.heap.size w w' := by
  have HB := Aside0.mk (Below.refl w.heap.size w)
  have HR := Aside0.mk hr
  have HC := Aside0.mk hc
  have HO := Aside0.mk ho
  have hu26 := Try.underlying26
  clear hr hc ho
  have HF := Aside0.mk (show winnowerlaw18_few.f (l.length + 1) l = some true by rw [few_tell, hf])
  have HL := Aside0.mk (show l.length ≤ 1000 by have := (few_len hf).1; omega)
  have HLV := Aside0.mk (show lv.length ≤ 1000 by rw [← hlv, List.length_append]; have := (few_len hf).1; simp only [List.length_cons, List.length_nil]; omega)
  have HLZ := Aside0.mk (show (l ++ [(⟨0, 0, ⟨#[]⟩, false⟩ : S26)]).length ≤ 1000 by rw [List.length_append]; have := (few_len hf).1; simp only [List.length_cons, List.length_nil]; omega)
  have HOZ := Aside0.mk (show okI (l ++ [(⟨0, 0, ⟨#[]⟩, false⟩ : S26)]) from okI_app HO.out (by decide))
  have HOV := Aside0.mk hov
  have HT := Aside0.mk hT
  have HTZ := Aside0.mk (show toldS fn (l ++ [(⟨0, 0, ⟨#[]⟩, false⟩ : S26)]) = (x, 0) from (told_z hfn1 hfn2 (by have := (few_len hf).1; omega)).trans hT)
  have HTV := Aside0.mk hTz
  have HLL := Aside0.mk hlv
  have q1 : decide (fn < 1) = false := decide_eq_false (by omega)
  have q2 : decide (6 ≤ fn) = false := decide_eq_false (by omega)
  clear hfn1 hfn2

  clear hf hT hTz hlv hov
  go_enter Try.func5, Try.ntmps5
  go_wp2_with (first
    | ((with_reducible refine gate_dst (N := 5) rfl ?_); refine box_event ?hg (N := 5) ?hd (cs := (vc v)) (t := 26) ?hr ?_; (case hd => rfl); (case hg => rfl); (case hr => first | (go_simp; done) | (go_simp; rfl)); intro g5 hg w0 hbox hb; have B5 := Aside0.mk hbox; have GEB5 := Aside0.mk ((by rw [hg]; exact (below_size HB.out)) : w.heap.size ≤ g5); have b_HB := Aside0.mk (below_step HB.out hb); clear HB; have HB := b_HB; clear b_HB; clear hbox hg hb)
    | ((with_reducible refine gate_callee (f := 7) rfl ?_); refine goesL_ (some 16) rfl rfl Try.func7 (by kernel_rfl) rfl #[] rfl (by (try simp only [List.map_toArray, List.map_cons, List.map_nil]); first | done | rfl) ?_; go_loud (refine (winnowerlaw18_awake.calls _).mono ?_); rintro e w1 ⟨rfl, hb⟩; refine ⟨_, rfl, ?_⟩; have b_B5 := Aside0.mk (blk_below B5.out hb); have b_HB := Aside0.mk (below_step HB.out hb); clear HB B5; have HB := b_HB; have B5 := b_B5; clear b_HB b_B5; clear hb)
    | ((with_reducible refine gate_callee (f := 8) rfl ?_); refine goesL_ (some 18) rfl rfl Try.func8 (by kernel_rfl) rfl #[.slice A l.length c] rfl (by (try simp only [List.map_toArray, List.map_cons, List.map_nil]); first | done | rfl) ?_; go_loud (refine (winnowerlaw18_few.calls (l.length + 1) A c l true _ (Kd.C_below HR.out HB.out) HC.out HF.out).mono ?_); rintro e w2 ⟨rfl, hd⟩; refine ⟨_, rfl, ?_⟩; have hb := hd.below; clear hd; have b_B5 := Aside0.mk (blk_below B5.out hb); have b_HB := Aside0.mk (below_step HB.out hb); clear HB B5; have HB := b_HB; have B5 := b_B5; clear b_HB b_B5; clear hb; have hv2 : w2.cell? ⟨g5, 2, none⟩ = some (.string v.f2) := (blk_cell B5.out 2).trans rfl)
    | ((with_reducible refine gate_callee (f := 9) rfl ?_); refine goesL_ (some 43) rfl rfl Try.func9 (by kernel_rfl) rfl #[.int .i64 fn, .slice A l.length c] rfl (by (try simp only [List.map_toArray, List.map_cons, List.map_nil]); first | done | rfl) ?_; go_loud (refine (winnowerlaw18_told.calls fn l A c x 0 _ (Kd.C_below HR.out HB.out) HL.out HO.out HT.out).mono ?_); rintro e w3 ⟨rfl, hb⟩; refine ⟨_, rfl, ?_⟩; have b_B5 := Aside0.mk (blk_below B5.out hb); have b_HB := Aside0.mk (below_step HB.out hb); clear HB B5; have HB := b_HB; have B5 := b_B5; clear b_HB b_B5; clear hb; clear hv2)
    | ((with_reducible refine gate_dst (N := 9) rfl ?_); refine box_event ?hg (N := 9) ?hd (cs := #[.int .i64 0, .int .i64 0, .string ⟨#[]⟩, .bool false]) (t := 26) ?hr ?_; (case hd => rfl); (case hg => rfl); (case hr => first | (go_simp; done) | (go_simp; rfl)); intro g9 hg w4 hbox hb; have B9 := Aside0.mk hbox; have GEB9 := Aside0.mk ((by rw [hg]; exact (below_size HB.out)) : w.heap.size ≤ g9); have NB5B9 := Aside0.mk ((by rw [hg]; exact Nat.ne_of_lt (blk_lt B5.out)) : g5 ≠ g9); have b_B5 := Aside0.mk (blk_below B5.out hb); have b_HB := Aside0.mk (below_step HB.out hb); clear HB B5; have HB := b_HB; have B5 := b_B5; clear b_HB b_B5; clear hbox hg hb)
    | ((with_reducible refine gate_ (.store 26 (.tmp 9) (.tmp 44)) rfl ?_); go_loud (refine wpList_storeR rfl rfl 26 (.tmp 9) (.tmp 44) rfl g9 (0) rfl (.agg (vc x)) rfl (vc x).toList rfl #[.int .i64 0, .int .i64 0, .string ⟨#[]⟩, .bool false] 26 B9.out size26 (by simp) (by simp [Value.oneCell']) (vc x) rfl ?_); intro w5 hs st; have b_B5 := Aside0.mk (Step.blk st B5.out (NB5B9.out)); have b_HB := Aside0.mk (Step.fresh st HB.out GEB9.out); clear HB B5; have HB := b_HB; have B5 := b_B5; clear b_HB b_B5; clear B9; have B9 := Aside0.mk hs; clear hs st)
    | ((with_reducible refine gate_builtin (b := .append) (xs := #[.const (.slice none 0 0), .tmp 48]) rfl ?_); at_builtin; go_loud (refine Kd.R_append_rows k26 (w0 := w5) w5.heap.size rfl (.const (.slice none 0 0)) (.tmp 48) 22 26 (.agg #[(.int .i64 0), (.int .i64 0), (.string ⟨#[]⟩), (.bool false)]) 40 rfl Try.underlying22 info26 rfl (by decide) (by omega) (.slice none 0 0) ([] : List S26) l A l.length c (fun _ => True) (fun _ => False) rfl rfl ?aO ?aR (fun _ _ h => h) (fun _ h => h.elim) ?aF ?aB ?aS ?aL ?_); (case aR => exact (Kd.C_below HR.out HB.out)); (case aB => exact Below.refl _ _); (case aF => exact (fun _ _ => trivial)); (case aO => exact Kd.R_nil _ _ _ _ _); (case aS => exact Nat.le_refl _); (case aL => have := HL.out; simp only [List.length_nil]; omega); intro v49 w6 ho hb hg hat; rw [List.nil_append] at ho; have HA := Aside0.mk hb; have HOA := Aside0.mk ho; clear ho hb hg hat)
    | ((with_reducible refine gate_builtin (b := .append) (xs := #[.tmp 49, .tmp 51]) rfl ?_); at_builtin; go_loud (refine Kd.R_append k26 (w0 := w5) w5.heap.size rfl (.tmp 49) (.tmp 51) 22 26 (.agg #[(.int .i64 0), (.int .i64 0), (.string ⟨#[]⟩), (.bool false)]) 40 rfl Try.underlying22 info26 rfl (by decide) (by omega) v49 l (⟨0, 0, ⟨#[]⟩, false⟩ : S26) [.int .i64 0, .int .i64 0, .string ⟨#[]⟩, .bool false] (fun _ => True) (fun _ => False) rfl rfl ?aP (fun _ hk => hk.elim) ?aF ?aO ?aB ?aS ?aL ?_); (case aP => exact k26_mkM _ _ _ _); (case aB => exact HA.out); (case aF => exact (fun _ _ => trivial)); (case aO => exact HOA.out); (case aS => exact HA.out.size); (case aL => have := HL.out; omega); intro v52 w7 ho hb hg hat; have HA_ := Aside0.mk hb; have HOB := Aside0.mk ho; clear HA HOA ho hb hg hat; have HA := HA_; clear HA_; obtain ⟨Ap, cp, ep⟩ := Kd.R_slice HOB.out; subst ep)
    | ((with_reducible refine gate_callee (f := 9) rfl ?_); refine goesL_ (some 53) rfl rfl Try.func9 (by kernel_rfl) rfl #[.int .i64 fn, .slice Ap (l ++ [(⟨0, 0, ⟨#[]⟩, false⟩ : S26)]).length cp] rfl (by (try simp only [List.map_toArray, List.map_cons, List.map_nil]); first | done | rfl) ?_; go_loud (refine (winnowerlaw18_told.calls fn (l ++ [(⟨0, 0, ⟨#[]⟩, false⟩ : S26)]) Ap cp x 0 _ (Kd.R_reads' HOB.out).2.2 HLZ.out HOZ.out HTZ.out).mono ?_); rintro e w8 ⟨rfl, hb⟩; refine ⟨_, rfl, ?_⟩; have b_B5 := Aside0.mk (blk_below (blk_below B5.out HA.out) hb); have b_B9 := Aside0.mk (blk_below (blk_below B9.out HA.out) hb); have b_HB := Aside0.mk (below_step (below_step HB.out HA.out) hb); clear HB B5 B9 HA HOB hb; have HB := b_HB; have B9 := b_B9; have B5 := b_B5; clear b_HB b_B9 b_B5)
    | ((with_reducible refine gate_dst (N := 11) rfl ?_); refine box_event ?hg (N := 11) ?hd (cs := #[.int .i64 0, .int .i64 0, .string ⟨#[]⟩, .bool false]) (t := 26) ?hr ?_; (case hd => rfl); (case hg => rfl); (case hr => first | (go_simp; done) | (go_simp; rfl)); intro g11 hg w9 hbox hb; have B11 := Aside0.mk hbox; have GEB11 := Aside0.mk ((by rw [hg]; exact (below_size HB.out)) : w.heap.size ≤ g11); have NB5B11 := Aside0.mk ((by rw [hg]; exact Nat.ne_of_lt (blk_lt B5.out)) : g5 ≠ g11); have NB9B11 := Aside0.mk ((by rw [hg]; exact Nat.ne_of_lt (blk_lt B9.out)) : g9 ≠ g11); have b_B5 := Aside0.mk (blk_below B5.out hb); have b_B9 := Aside0.mk (blk_below B9.out hb); have b_HB := Aside0.mk (below_step HB.out hb); clear HB B5 B9; have HB := b_HB; have B5 := b_B5; have B9 := b_B9; clear b_HB b_B5 b_B9; clear hbox hg hb)
    | ((with_reducible refine gate_ (.store 26 (.tmp 11) (.tmp 54)) rfl ?_); go_loud (refine wpList_storeR rfl rfl 26 (.tmp 11) (.tmp 54) rfl g11 (0) rfl (.agg (vc x)) rfl (vc x).toList rfl #[.int .i64 0, .int .i64 0, .string ⟨#[]⟩, .bool false] 26 B11.out size26 (by simp) (by simp [Value.oneCell']) (vc x) rfl ?_); intro w10 hs st; have b_B5 := Aside0.mk (Step.blk st B5.out (NB5B11.out)); have b_B9 := Aside0.mk (Step.blk st B9.out (NB9B11.out)); have b_HB := Aside0.mk (Step.fresh st HB.out GEB11.out); clear HB B5 B9; have HB := b_HB; have B5 := b_B5; have B9 := b_B9; clear b_HB b_B5 b_B9; clear B11; have B11 := Aside0.mk hs; clear hs st))
  refine AggMore.reg7 fn g5 v l A c gz z lv w10 B5.out (Kd.C_below HR.out HB.out) HL.out HLL.out HLV.out HOV.out HTV.out _ (fun c a d u w h => by cases d <;> exact h) ?_
  intro y59 y61 y62 g13 w11 hb ge hB13
  have B13 := Aside0.mk hB13
  have NE9 := Aside0.mk (show g9 ≠ g13 from Nat.ne_of_lt (Nat.lt_of_lt_of_le (blk_lt B9.out) ge))
  have b_B5 := Aside0.mk (blk_below B5.out hb)
  have b_B9 := Aside0.mk (blk_below B9.out hb)
  have b_B11 := Aside0.mk (blk_below B11.out hb)
  have b_HB := Aside0.mk (below_step HB.out hb)
  clear HB B5 B9 B11 hb hB13 ge
  have HB := b_HB
  have B9 := b_B9
  have B11 := b_B11
  have B5 := b_B5
  clear b_HB b_B9 b_B5 b_B11
  have hx0 : w11.cell? ⟨g9, 0, none⟩ = some (.int .i64 x.f0) := (blk_cell B9.out 0).trans rfl
  have hx1 : w11.cell? ⟨g9, 1, none⟩ = some (.int .i64 x.f1) := (blk_cell B9.out 1).trans rfl
  have hx2 : w11.cell? ⟨g9, 2, none⟩ = some (.string x.f2) := (blk_cell B9.out 2).trans rfl
  have hx3 : w11.cell? ⟨g9, 3, none⟩ = some (.bool x.f3) := (blk_cell B9.out 3).trans rfl
  have hz0 : w11.cell? ⟨g13, 0, none⟩ = some (.int .i64 z.f0) := (blk_cell B13.out 0).trans rfl
  have hz1 : w11.cell? ⟨g13, 1, none⟩ = some (.int .i64 z.f1) := (blk_cell B13.out 1).trans rfl
  have hz2 : w11.cell? ⟨g13, 2, none⟩ = some (.string z.f2) := (blk_cell B13.out 2).trans rfl
  have hz3 : w11.cell? ⟨g13, 3, none⟩ = some (.bool z.f3) := (blk_cell B13.out 3).trans rfl
  go_wp2_with (first
    | ((with_reducible refine gate_dst (N := 66) rfl ?_); go_loud (refine wpList_load_row rfl 26 (.tmp 9) rfl g9 rfl 26 (vc x) (0, 0) _ B9.out Try.underlying26 rfl size26 ?_))
    | ((with_reducible refine gate_dst (N := 67) rfl ?_); go_loud (refine wpList_load_row rfl 26 (.tmp 11) rfl g11 rfl 26 (vc x) (0, 0) _ B11.out Try.underlying26 rfl size26 ?_)))
  go_ret
  exact ⟨rfl, HB.out⟩
theorem winnowerlaw18_AggMore.null (fn : Int) (l : List S26) (A : Option Addr) (c : Nat) (v : S26) (w : World) (hr : Kd.C k26 w A l.length l) (hc : l.length ≤ c) (ho : okI l) (hf : fewS l = true) (q0 : decide ((300 : Int) < (v.f2.size : Int)) = false) (q0n : decide (300 < v.f2.size) = false) (hfn1 : 1 ≤ fn) (hfn2 : fn < 6) (x z : S26) (hT : toldS fn l = (x, 0)) (lv : List S26) (hlv : l ++ [v] = lv) (hTz : toldS fn lv = (z, 0)) (hov : okI lv) (q3 : (x.f0 == 0) = true) (q4 : decide (x.f0 = 0) = true) :
    Calls Try.prog 5 #[.int .i64 fn, .slice A l.length c, .agg (vc v)] w fun e w' => e = .returned (.bool true) ∧ Below w.heap.size w w' := by
  have HB := Aside0.mk (Below.refl w.heap.size w)
  have HR := Aside0.mk hr
  have HC := Aside0.mk hc
  have HO := Aside0.mk ho
  have hu26 := Try.underlying26
  clear hr hc ho
  have HF := Aside0.mk (show winnowerlaw18_few.f (l.length + 1) l = some true by rw [few_tell, hf])
  have HL := Aside0.mk (show l.length ≤ 1000 by have := (few_len hf).1; omega)
  have HLV := Aside0.mk (show lv.length ≤ 1000 by rw [← hlv, List.length_append]; have := (few_len hf).1; simp only [List.length_cons, List.length_nil]; omega)
  have HLZ := Aside0.mk (show (l ++ [(⟨0, 0, ⟨#[]⟩, false⟩ : S26)]).length ≤ 1000 by rw [List.length_append]; have := (few_len hf).1; simp only [List.length_cons, List.length_nil]; omega)
  have HOZ := Aside0.mk (show okI (l ++ [(⟨0, 0, ⟨#[]⟩, false⟩ : S26)]) from okI_app HO.out (by decide))
  have HOV := Aside0.mk hov
  have HT := Aside0.mk hT
  have HTZ := Aside0.mk (show toldS fn (l ++ [(⟨0, 0, ⟨#[]⟩, false⟩ : S26)]) = (x, 0) from (told_z hfn1 hfn2 (by have := (few_len hf).1; omega)).trans hT)
  have HTV := Aside0.mk hTz
  have HLL := Aside0.mk hlv
  have q1 : decide (fn < 1) = false := decide_eq_false (by omega)
  have q2 : decide (6 ≤ fn) = false := decide_eq_false (by omega)
  clear hfn1 hfn2

  clear hf hT hTz hlv hov
  go_enter Try.func5, Try.ntmps5
  go_wp2_with (first
    | ((with_reducible refine gate_dst (N := 5) rfl ?_); refine box_event ?hg (N := 5) ?hd (cs := (vc v)) (t := 26) ?hr ?_; (case hd => rfl); (case hg => rfl); (case hr => first | (go_simp; done) | (go_simp; rfl)); intro g5 hg w0 hbox hb; have B5 := Aside0.mk hbox; have GEB5 := Aside0.mk ((by rw [hg]; exact (below_size HB.out)) : w.heap.size ≤ g5); have b_HB := Aside0.mk (below_step HB.out hb); clear HB; have HB := b_HB; clear b_HB; clear hbox hg hb)
    | ((with_reducible refine gate_callee (f := 7) rfl ?_); refine goesL_ (some 16) rfl rfl Try.func7 (by kernel_rfl) rfl #[] rfl (by (try simp only [List.map_toArray, List.map_cons, List.map_nil]); first | done | rfl) ?_; go_loud (refine (winnowerlaw18_awake.calls _).mono ?_); rintro e w1 ⟨rfl, hb⟩; refine ⟨_, rfl, ?_⟩; have b_B5 := Aside0.mk (blk_below B5.out hb); have b_HB := Aside0.mk (below_step HB.out hb); clear HB B5; have HB := b_HB; have B5 := b_B5; clear b_HB b_B5; clear hb)
    | ((with_reducible refine gate_callee (f := 8) rfl ?_); refine goesL_ (some 18) rfl rfl Try.func8 (by kernel_rfl) rfl #[.slice A l.length c] rfl (by (try simp only [List.map_toArray, List.map_cons, List.map_nil]); first | done | rfl) ?_; go_loud (refine (winnowerlaw18_few.calls (l.length + 1) A c l true _ (Kd.C_below HR.out HB.out) HC.out HF.out).mono ?_); rintro e w2 ⟨rfl, hd⟩; refine ⟨_, rfl, ?_⟩; have hb := hd.below; clear hd; have b_B5 := Aside0.mk (blk_below B5.out hb); have b_HB := Aside0.mk (below_step HB.out hb); clear HB B5; have HB := b_HB; have B5 := b_B5; clear b_HB b_B5; clear hb; have hv2 : w2.cell? ⟨g5, 2, none⟩ = some (.string v.f2) := (blk_cell B5.out 2).trans rfl)
    | ((with_reducible refine gate_callee (f := 9) rfl ?_); refine goesL_ (some 43) rfl rfl Try.func9 (by kernel_rfl) rfl #[.int .i64 fn, .slice A l.length c] rfl (by (try simp only [List.map_toArray, List.map_cons, List.map_nil]); first | done | rfl) ?_; go_loud (refine (winnowerlaw18_told.calls fn l A c x 0 _ (Kd.C_below HR.out HB.out) HL.out HO.out HT.out).mono ?_); rintro e w3 ⟨rfl, hb⟩; refine ⟨_, rfl, ?_⟩; have b_B5 := Aside0.mk (blk_below B5.out hb); have b_HB := Aside0.mk (below_step HB.out hb); clear HB B5; have HB := b_HB; have B5 := b_B5; clear b_HB b_B5; clear hb; clear hv2)
    | ((with_reducible refine gate_dst (N := 9) rfl ?_); refine box_event ?hg (N := 9) ?hd (cs := #[.int .i64 0, .int .i64 0, .string ⟨#[]⟩, .bool false]) (t := 26) ?hr ?_; (case hd => rfl); (case hg => rfl); (case hr => first | (go_simp; done) | (go_simp; rfl)); intro g9 hg w4 hbox hb; have B9 := Aside0.mk hbox; have GEB9 := Aside0.mk ((by rw [hg]; exact (below_size HB.out)) : w.heap.size ≤ g9); have NB5B9 := Aside0.mk ((by rw [hg]; exact Nat.ne_of_lt (blk_lt B5.out)) : g5 ≠ g9); have b_B5 := Aside0.mk (blk_below B5.out hb); have b_HB := Aside0.mk (below_step HB.out hb); clear HB B5; have HB := b_HB; have B5 := b_B5; clear b_HB b_B5; clear hbox hg hb)
    | ((with_reducible refine gate_ (.store 26 (.tmp 9) (.tmp 44)) rfl ?_); go_loud (refine wpList_storeR rfl rfl 26 (.tmp 9) (.tmp 44) rfl g9 (0) rfl (.agg (vc x)) rfl (vc x).toList rfl #[.int .i64 0, .int .i64 0, .string ⟨#[]⟩, .bool false] 26 B9.out size26 (by simp) (by simp [Value.oneCell']) (vc x) rfl ?_); intro w5 hs st; have b_B5 := Aside0.mk (Step.blk st B5.out (NB5B9.out)); have b_HB := Aside0.mk (Step.fresh st HB.out GEB9.out); clear HB B5; have HB := b_HB; have B5 := b_B5; clear b_HB b_B5; clear B9; have B9 := Aside0.mk hs; clear hs st)
    | ((with_reducible refine gate_builtin (b := .append) (xs := #[.const (.slice none 0 0), .tmp 48]) rfl ?_); at_builtin; go_loud (refine Kd.R_append_rows k26 (w0 := w5) w5.heap.size rfl (.const (.slice none 0 0)) (.tmp 48) 22 26 (.agg #[(.int .i64 0), (.int .i64 0), (.string ⟨#[]⟩), (.bool false)]) 40 rfl Try.underlying22 info26 rfl (by decide) (by omega) (.slice none 0 0) ([] : List S26) l A l.length c (fun _ => True) (fun _ => False) rfl rfl ?aO ?aR (fun _ _ h => h) (fun _ h => h.elim) ?aF ?aB ?aS ?aL ?_); (case aR => exact (Kd.C_below HR.out HB.out)); (case aB => exact Below.refl _ _); (case aF => exact (fun _ _ => trivial)); (case aO => exact Kd.R_nil _ _ _ _ _); (case aS => exact Nat.le_refl _); (case aL => have := HL.out; simp only [List.length_nil]; omega); intro v49 w6 ho hb hg hat; rw [List.nil_append] at ho; have HA := Aside0.mk hb; have HOA := Aside0.mk ho; clear ho hb hg hat)
    | ((with_reducible refine gate_builtin (b := .append) (xs := #[.tmp 49, .tmp 51]) rfl ?_); at_builtin; go_loud (refine Kd.R_append k26 (w0 := w5) w5.heap.size rfl (.tmp 49) (.tmp 51) 22 26 (.agg #[(.int .i64 0), (.int .i64 0), (.string ⟨#[]⟩), (.bool false)]) 40 rfl Try.underlying22 info26 rfl (by decide) (by omega) v49 l (⟨0, 0, ⟨#[]⟩, false⟩ : S26) [.int .i64 0, .int .i64 0, .string ⟨#[]⟩, .bool false] (fun _ => True) (fun _ => False) rfl rfl ?aP (fun _ hk => hk.elim) ?aF ?aO ?aB ?aS ?aL ?_); (case aP => exact k26_mkM _ _ _ _); (case aB => exact HA.out); (case aF => exact (fun _ _ => trivial)); (case aO => exact HOA.out); (case aS => exact HA.out.size); (case aL => have := HL.out; omega); intro v52 w7 ho hb hg hat; have HA_ := Aside0.mk hb; have HOB := Aside0.mk ho; clear HA HOA ho hb hg hat; have HA := HA_; clear HA_; obtain ⟨Ap, cp, ep⟩ := Kd.R_slice HOB.out; subst ep)
    | ((with_reducible refine gate_callee (f := 9) rfl ?_); refine goesL_ (some 53) rfl rfl Try.func9 (by kernel_rfl) rfl #[.int .i64 fn, .slice Ap (l ++ [(⟨0, 0, ⟨#[]⟩, false⟩ : S26)]).length cp] rfl (by (try simp only [List.map_toArray, List.map_cons, List.map_nil]); first | done | rfl) ?_; go_loud (refine (winnowerlaw18_told.calls fn (l ++ [(⟨0, 0, ⟨#[]⟩, false⟩ : S26)]) Ap cp x 0 _ (Kd.R_reads' HOB.out).2.2 HLZ.out HOZ.out HTZ.out).mono ?_); rintro e w8 ⟨rfl, hb⟩; refine ⟨_, rfl, ?_⟩; have b_B5 := Aside0.mk (blk_below (blk_below B5.out HA.out) hb); have b_B9 := Aside0.mk (blk_below (blk_below B9.out HA.out) hb); have b_HB := Aside0.mk (below_step (below_step HB.out HA.out) hb); clear HB B5 B9 HA HOB hb; have HB := b_HB; have B9 := b_B9; have B5 := b_B5; clear b_HB b_B9 b_B5)
    | ((with_reducible refine gate_dst (N := 11) rfl ?_); refine box_event ?hg (N := 11) ?hd (cs := #[.int .i64 0, .int .i64 0, .string ⟨#[]⟩, .bool false]) (t := 26) ?hr ?_; (case hd => rfl); (case hg => rfl); (case hr => first | (go_simp; done) | (go_simp; rfl)); intro g11 hg w9 hbox hb; have B11 := Aside0.mk hbox; have GEB11 := Aside0.mk ((by rw [hg]; exact (below_size HB.out)) : w.heap.size ≤ g11); have NB5B11 := Aside0.mk ((by rw [hg]; exact Nat.ne_of_lt (blk_lt B5.out)) : g5 ≠ g11); have NB9B11 := Aside0.mk ((by rw [hg]; exact Nat.ne_of_lt (blk_lt B9.out)) : g9 ≠ g11); have b_B5 := Aside0.mk (blk_below B5.out hb); have b_B9 := Aside0.mk (blk_below B9.out hb); have b_HB := Aside0.mk (below_step HB.out hb); clear HB B5 B9; have HB := b_HB; have B5 := b_B5; have B9 := b_B9; clear b_HB b_B5 b_B9; clear hbox hg hb)
    | ((with_reducible refine gate_ (.store 26 (.tmp 11) (.tmp 54)) rfl ?_); go_loud (refine wpList_storeR rfl rfl 26 (.tmp 11) (.tmp 54) rfl g11 (0) rfl (.agg (vc x)) rfl (vc x).toList rfl #[.int .i64 0, .int .i64 0, .string ⟨#[]⟩, .bool false] 26 B11.out size26 (by simp) (by simp [Value.oneCell']) (vc x) rfl ?_); intro w10 hs st; have b_B5 := Aside0.mk (Step.blk st B5.out (NB5B11.out)); have b_B9 := Aside0.mk (Step.blk st B9.out (NB9B11.out)); have b_HB := Aside0.mk (Step.fresh st HB.out GEB11.out); clear HB B5 B9; have HB := b_HB; have B5 := b_B5; have B9 := b_B9; clear b_HB b_B5 b_B9; clear B11; have B11 := Aside0.mk hs; clear hs st))
  refine AggMore.reg7 fn g5 v l A c 0 z lv w10 B5.out (Kd.C_below HR.out HB.out) HL.out HLL.out HLV.out HOV.out HTV.out _ (fun c a d u w h => by cases d <;> exact h) ?_
  intro y59 y61 y62 g13 w11 hb ge hB13
  have B13 := Aside0.mk hB13
  have NE9 := Aside0.mk (show g9 ≠ g13 from Nat.ne_of_lt (Nat.lt_of_lt_of_le (blk_lt B9.out) ge))
  have b_B5 := Aside0.mk (blk_below B5.out hb)
  have b_B9 := Aside0.mk (blk_below B9.out hb)
  have b_B11 := Aside0.mk (blk_below B11.out hb)
  have b_HB := Aside0.mk (below_step HB.out hb)
  clear HB B5 B9 B11 hb hB13 ge
  have HB := b_HB
  have B9 := b_B9
  have B11 := b_B11
  have B5 := b_B5
  clear b_HB b_B9 b_B5 b_B11
  have hx0 : w11.cell? ⟨g9, 0, none⟩ = some (.int .i64 x.f0) := (blk_cell B9.out 0).trans rfl
  have hx1 : w11.cell? ⟨g9, 1, none⟩ = some (.int .i64 x.f1) := (blk_cell B9.out 1).trans rfl
  have hx2 : w11.cell? ⟨g9, 2, none⟩ = some (.string x.f2) := (blk_cell B9.out 2).trans rfl
  have hx3 : w11.cell? ⟨g9, 3, none⟩ = some (.bool x.f3) := (blk_cell B9.out 3).trans rfl
  have hz0 : w11.cell? ⟨g13, 0, none⟩ = some (.int .i64 z.f0) := (blk_cell B13.out 0).trans rfl
  have hz1 : w11.cell? ⟨g13, 1, none⟩ = some (.int .i64 z.f1) := (blk_cell B13.out 1).trans rfl
  have hz2 : w11.cell? ⟨g13, 2, none⟩ = some (.string z.f2) := (blk_cell B13.out 2).trans rfl
  have hz3 : w11.cell? ⟨g13, 3, none⟩ = some (.bool z.f3) := (blk_cell B13.out 3).trans rfl
  go_wp2_with (first
    | ((with_reducible refine gate_dst (N := 66) rfl ?_); go_loud (refine wpList_load_row rfl 26 (.tmp 9) rfl g9 rfl 26 (vc x) (0, 0) _ B9.out Try.underlying26 rfl size26 ?_))
    | ((with_reducible refine gate_dst (N := 67) rfl ?_); go_loud (refine wpList_load_row rfl 26 (.tmp 11) rfl g11 rfl 26 (vc x) (0, 0) _ B11.out Try.underlying26 rfl size26 ?_)))
  go_ret
  exact ⟨rfl, HB.out⟩
theorem winnowerlaw18_AggMore.c1 (l : List S26) (A : Option Addr) (c : Nat) (v : S26) (w : World) (hr : Kd.C k26 w A l.length l) (hc : l.length ≤ c) (ho : okI l) (hf : fewS l = true) (q0 : decide ((300 : Int) < (v.f2.size : Int)) = false) (q0n : decide (300 < v.f2.size) = false) (x z : S26) (hT : toldS 1 l = (x, 0)) (lv : List S26) (hlv : l ++ [v] = lv) (hTz : toldS 1 lv = (z, 0)) (hov : okI lv) (q3 : (x.f0 == 0) = false) (q4 : decide (x.f0 = 0) = false) (hsz : z.f2.size ≤ 9223372036854775807) (r : Int) (hrr : ov z x = r) (r1 : decide (0 ≤ r) = true) (r2 : decide (wrap64 (z.f1 - x.f1) ≤ 1) = true) (r3 : decide (IntKind.i64.wrap (z.f1 - x.f1) ≤ 1) = true) :
    Calls Try.prog 5 #[.int .i64 1, .slice A l.length c, .agg (vc v)] w fun e w' => e = .returned (.bool true) ∧ Below w.heap.size w w' := by
  have HB := Aside0.mk (Below.refl w.heap.size w)
  have HR := Aside0.mk hr
  have HC := Aside0.mk hc
  have HO := Aside0.mk ho
  have hu26 := Try.underlying26
  clear hr hc ho
  have HF := Aside0.mk (show winnowerlaw18_few.f (l.length + 1) l = some true by rw [few_tell, hf])
  have HL := Aside0.mk (show l.length ≤ 1000 by have := (few_len hf).1; omega)
  have HLV := Aside0.mk (show lv.length ≤ 1000 by rw [← hlv, List.length_append]; have := (few_len hf).1; simp only [List.length_cons, List.length_nil]; omega)
  have HLZ := Aside0.mk (show (l ++ [(⟨0, 0, ⟨#[]⟩, false⟩ : S26)]).length ≤ 1000 by rw [List.length_append]; have := (few_len hf).1; simp only [List.length_cons, List.length_nil]; omega)
  have HOZ := Aside0.mk (show okI (l ++ [(⟨0, 0, ⟨#[]⟩, false⟩ : S26)]) from okI_app HO.out (by decide))
  have HOV := Aside0.mk hov
  have HT := Aside0.mk hT
  have HTZ := Aside0.mk (show toldS 1 (l ++ [(⟨0, 0, ⟨#[]⟩, false⟩ : S26)]) = (x, 0) from (told_z (by decide) (by decide) (by have := (few_len hf).1; omega)).trans hT)
  have HTV := Aside0.mk hTz
  have HLL := Aside0.mk hlv
  have HOR := Aside0.mk (show winnowerref06_Order.f z.f0 z.f1 z.f2 z.f3 x.f0 x.f1 x.f2 x.f3 = some r by rw [order_tell z x hsz, hrr])
  clear hsz hrr
  clear hf hT hTz hlv hov
  go_enter Try.func5, Try.ntmps5
  go_wp2_with (first
    | ((with_reducible refine gate_dst (N := 5) rfl ?_); refine box_event ?hg (N := 5) ?hd (cs := (vc v)) (t := 26) ?hr ?_; (case hd => rfl); (case hg => rfl); (case hr => first | (go_simp; done) | (go_simp; rfl)); intro g5 hg w0 hbox hb; have B5 := Aside0.mk hbox; have GEB5 := Aside0.mk ((by rw [hg]; exact (below_size HB.out)) : w.heap.size ≤ g5); have b_HB := Aside0.mk (below_step HB.out hb); clear HB; have HB := b_HB; clear b_HB; clear hbox hg hb)
    | ((with_reducible refine gate_callee (f := 7) rfl ?_); refine goesL_ (some 16) rfl rfl Try.func7 (by kernel_rfl) rfl #[] rfl (by (try simp only [List.map_toArray, List.map_cons, List.map_nil]); first | done | rfl) ?_; go_loud (refine (winnowerlaw18_awake.calls _).mono ?_); rintro e w1 ⟨rfl, hb⟩; refine ⟨_, rfl, ?_⟩; have b_B5 := Aside0.mk (blk_below B5.out hb); have b_HB := Aside0.mk (below_step HB.out hb); clear HB B5; have HB := b_HB; have B5 := b_B5; clear b_HB b_B5; clear hb)
    | ((with_reducible refine gate_callee (f := 8) rfl ?_); refine goesL_ (some 18) rfl rfl Try.func8 (by kernel_rfl) rfl #[.slice A l.length c] rfl (by (try simp only [List.map_toArray, List.map_cons, List.map_nil]); first | done | rfl) ?_; go_loud (refine (winnowerlaw18_few.calls (l.length + 1) A c l true _ (Kd.C_below HR.out HB.out) HC.out HF.out).mono ?_); rintro e w2 ⟨rfl, hd⟩; refine ⟨_, rfl, ?_⟩; have hb := hd.below; clear hd; have b_B5 := Aside0.mk (blk_below B5.out hb); have b_HB := Aside0.mk (below_step HB.out hb); clear HB B5; have HB := b_HB; have B5 := b_B5; clear b_HB b_B5; clear hb; have hv2 : w2.cell? ⟨g5, 2, none⟩ = some (.string v.f2) := (blk_cell B5.out 2).trans rfl)
    | ((with_reducible refine gate_callee (f := 9) rfl ?_); refine goesL_ (some 43) rfl rfl Try.func9 (by kernel_rfl) rfl #[.int .i64 1, .slice A l.length c] rfl (by (try simp only [List.map_toArray, List.map_cons, List.map_nil]); first | done | rfl) ?_; go_loud (refine (winnowerlaw18_told.calls 1 l A c x 0 _ (Kd.C_below HR.out HB.out) HL.out HO.out HT.out).mono ?_); rintro e w3 ⟨rfl, hb⟩; refine ⟨_, rfl, ?_⟩; have b_B5 := Aside0.mk (blk_below B5.out hb); have b_HB := Aside0.mk (below_step HB.out hb); clear HB B5; have HB := b_HB; have B5 := b_B5; clear b_HB b_B5; clear hb; clear hv2)
    | ((with_reducible refine gate_dst (N := 9) rfl ?_); refine box_event ?hg (N := 9) ?hd (cs := #[.int .i64 0, .int .i64 0, .string ⟨#[]⟩, .bool false]) (t := 26) ?hr ?_; (case hd => rfl); (case hg => rfl); (case hr => first | (go_simp; done) | (go_simp; rfl)); intro g9 hg w4 hbox hb; have B9 := Aside0.mk hbox; have GEB9 := Aside0.mk ((by rw [hg]; exact (below_size HB.out)) : w.heap.size ≤ g9); have NB5B9 := Aside0.mk ((by rw [hg]; exact Nat.ne_of_lt (blk_lt B5.out)) : g5 ≠ g9); have b_B5 := Aside0.mk (blk_below B5.out hb); have b_HB := Aside0.mk (below_step HB.out hb); clear HB B5; have HB := b_HB; have B5 := b_B5; clear b_HB b_B5; clear hbox hg hb)
    | ((with_reducible refine gate_ (.store 26 (.tmp 9) (.tmp 44)) rfl ?_); go_loud (refine wpList_storeR rfl rfl 26 (.tmp 9) (.tmp 44) rfl g9 (0) rfl (.agg (vc x)) rfl (vc x).toList rfl #[.int .i64 0, .int .i64 0, .string ⟨#[]⟩, .bool false] 26 B9.out size26 (by simp) (by simp [Value.oneCell']) (vc x) rfl ?_); intro w5 hs st; have b_B5 := Aside0.mk (Step.blk st B5.out (NB5B9.out)); have b_HB := Aside0.mk (Step.fresh st HB.out GEB9.out); clear HB B5; have HB := b_HB; have B5 := b_B5; clear b_HB b_B5; clear B9; have B9 := Aside0.mk hs; clear hs st)
    | ((with_reducible refine gate_builtin (b := .append) (xs := #[.const (.slice none 0 0), .tmp 48]) rfl ?_); at_builtin; go_loud (refine Kd.R_append_rows k26 (w0 := w5) w5.heap.size rfl (.const (.slice none 0 0)) (.tmp 48) 22 26 (.agg #[(.int .i64 0), (.int .i64 0), (.string ⟨#[]⟩), (.bool false)]) 40 rfl Try.underlying22 info26 rfl (by decide) (by omega) (.slice none 0 0) ([] : List S26) l A l.length c (fun _ => True) (fun _ => False) rfl rfl ?aO ?aR (fun _ _ h => h) (fun _ h => h.elim) ?aF ?aB ?aS ?aL ?_); (case aR => exact (Kd.C_below HR.out HB.out)); (case aB => exact Below.refl _ _); (case aF => exact (fun _ _ => trivial)); (case aO => exact Kd.R_nil _ _ _ _ _); (case aS => exact Nat.le_refl _); (case aL => have := HL.out; simp only [List.length_nil]; omega); intro v49 w6 ho hb hg hat; rw [List.nil_append] at ho; have HA := Aside0.mk hb; have HOA := Aside0.mk ho; clear ho hb hg hat)
    | ((with_reducible refine gate_builtin (b := .append) (xs := #[.tmp 49, .tmp 51]) rfl ?_); at_builtin; go_loud (refine Kd.R_append k26 (w0 := w5) w5.heap.size rfl (.tmp 49) (.tmp 51) 22 26 (.agg #[(.int .i64 0), (.int .i64 0), (.string ⟨#[]⟩), (.bool false)]) 40 rfl Try.underlying22 info26 rfl (by decide) (by omega) v49 l (⟨0, 0, ⟨#[]⟩, false⟩ : S26) [.int .i64 0, .int .i64 0, .string ⟨#[]⟩, .bool false] (fun _ => True) (fun _ => False) rfl rfl ?aP (fun _ hk => hk.elim) ?aF ?aO ?aB ?aS ?aL ?_); (case aP => exact k26_mkM _ _ _ _); (case aB => exact HA.out); (case aF => exact (fun _ _ => trivial)); (case aO => exact HOA.out); (case aS => exact HA.out.size); (case aL => have := HL.out; omega); intro v52 w7 ho hb hg hat; have HA_ := Aside0.mk hb; have HOB := Aside0.mk ho; clear HA HOA ho hb hg hat; have HA := HA_; clear HA_; obtain ⟨Ap, cp, ep⟩ := Kd.R_slice HOB.out; subst ep)
    | ((with_reducible refine gate_callee (f := 9) rfl ?_); refine goesL_ (some 53) rfl rfl Try.func9 (by kernel_rfl) rfl #[.int .i64 1, .slice Ap (l ++ [(⟨0, 0, ⟨#[]⟩, false⟩ : S26)]).length cp] rfl (by (try simp only [List.map_toArray, List.map_cons, List.map_nil]); first | done | rfl) ?_; go_loud (refine (winnowerlaw18_told.calls 1 (l ++ [(⟨0, 0, ⟨#[]⟩, false⟩ : S26)]) Ap cp x 0 _ (Kd.R_reads' HOB.out).2.2 HLZ.out HOZ.out HTZ.out).mono ?_); rintro e w8 ⟨rfl, hb⟩; refine ⟨_, rfl, ?_⟩; have b_B5 := Aside0.mk (blk_below (blk_below B5.out HA.out) hb); have b_B9 := Aside0.mk (blk_below (blk_below B9.out HA.out) hb); have b_HB := Aside0.mk (below_step (below_step HB.out HA.out) hb); clear HB B5 B9 HA HOB hb; have HB := b_HB; have B9 := b_B9; have B5 := b_B5; clear b_HB b_B9 b_B5)
    | ((with_reducible refine gate_dst (N := 11) rfl ?_); refine box_event ?hg (N := 11) ?hd (cs := #[.int .i64 0, .int .i64 0, .string ⟨#[]⟩, .bool false]) (t := 26) ?hr ?_; (case hd => rfl); (case hg => rfl); (case hr => first | (go_simp; done) | (go_simp; rfl)); intro g11 hg w9 hbox hb; have B11 := Aside0.mk hbox; have GEB11 := Aside0.mk ((by rw [hg]; exact (below_size HB.out)) : w.heap.size ≤ g11); have NB5B11 := Aside0.mk ((by rw [hg]; exact Nat.ne_of_lt (blk_lt B5.out)) : g5 ≠ g11); have NB9B11 := Aside0.mk ((by rw [hg]; exact Nat.ne_of_lt (blk_lt B9.out)) : g9 ≠ g11); have b_B5 := Aside0.mk (blk_below B5.out hb); have b_B9 := Aside0.mk (blk_below B9.out hb); have b_HB := Aside0.mk (below_step HB.out hb); clear HB B5 B9; have HB := b_HB; have B5 := b_B5; have B9 := b_B9; clear b_HB b_B5 b_B9; clear hbox hg hb)
    | ((with_reducible refine gate_ (.store 26 (.tmp 11) (.tmp 54)) rfl ?_); go_loud (refine wpList_storeR rfl rfl 26 (.tmp 11) (.tmp 54) rfl g11 (0) rfl (.agg (vc x)) rfl (vc x).toList rfl #[.int .i64 0, .int .i64 0, .string ⟨#[]⟩, .bool false] 26 B11.out size26 (by simp) (by simp [Value.oneCell']) (vc x) rfl ?_); intro w10 hs st; have b_B5 := Aside0.mk (Step.blk st B5.out (NB5B11.out)); have b_B9 := Aside0.mk (Step.blk st B9.out (NB9B11.out)); have b_HB := Aside0.mk (Step.fresh st HB.out GEB11.out); clear HB B5 B9; have HB := b_HB; have B5 := b_B5; have B9 := b_B9; clear b_HB b_B5 b_B9; clear B11; have B11 := Aside0.mk hs; clear hs st))
  refine AggMore.reg7 1 g5 v l A c 0 z lv w10 B5.out (Kd.C_below HR.out HB.out) HL.out HLL.out HLV.out HOV.out HTV.out _ (fun c a d u w h => by cases d <;> exact h) ?_
  intro y59 y61 y62 g13 w11 hb ge hB13
  have B13 := Aside0.mk hB13
  have NE9 := Aside0.mk (show g9 ≠ g13 from Nat.ne_of_lt (Nat.lt_of_lt_of_le (blk_lt B9.out) ge))
  have b_B5 := Aside0.mk (blk_below B5.out hb)
  have b_B9 := Aside0.mk (blk_below B9.out hb)
  have b_B11 := Aside0.mk (blk_below B11.out hb)
  have b_HB := Aside0.mk (below_step HB.out hb)
  clear HB B5 B9 B11 hb hB13 ge
  have HB := b_HB
  have B9 := b_B9
  have B11 := b_B11
  have B5 := b_B5
  clear b_HB b_B9 b_B5 b_B11
  have hx0 : w11.cell? ⟨g9, 0, none⟩ = some (.int .i64 x.f0) := (blk_cell B9.out 0).trans rfl
  have hx1 : w11.cell? ⟨g9, 1, none⟩ = some (.int .i64 x.f1) := (blk_cell B9.out 1).trans rfl
  have hx2 : w11.cell? ⟨g9, 2, none⟩ = some (.string x.f2) := (blk_cell B9.out 2).trans rfl
  have hx3 : w11.cell? ⟨g9, 3, none⟩ = some (.bool x.f3) := (blk_cell B9.out 3).trans rfl
  have hz0 : w11.cell? ⟨g13, 0, none⟩ = some (.int .i64 z.f0) := (blk_cell B13.out 0).trans rfl
  have hz1 : w11.cell? ⟨g13, 1, none⟩ = some (.int .i64 z.f1) := (blk_cell B13.out 1).trans rfl
  have hz2 : w11.cell? ⟨g13, 2, none⟩ = some (.string z.f2) := (blk_cell B13.out 2).trans rfl
  have hz3 : w11.cell? ⟨g13, 3, none⟩ = some (.bool z.f3) := (blk_cell B13.out 3).trans rfl
  go_wp2_with (first
    | ((with_reducible refine gate_dst (N := 66) rfl ?_); go_loud (refine wpList_load_row rfl 26 (.tmp 9) rfl g9 rfl 26 (vc x) (0, 0) _ B9.out Try.underlying26 rfl size26 ?_))
    | ((with_reducible refine gate_dst (N := 67) rfl ?_); go_loud (refine wpList_load_row rfl 26 (.tmp 11) rfl g11 rfl 26 (vc x) (0, 0) _ B11.out Try.underlying26 rfl size26 ?_))
    | ((with_reducible refine gate_dst (N := 91) rfl ?_); go_loud (refine wpList_load_row rfl 26 (.tmp 13) rfl g13 rfl 26 (vc z) (0, 0) _ B13.out Try.underlying26 rfl size26 ?_))
    | ((with_reducible refine gate_dst (N := 92) rfl ?_); go_loud (refine wpList_load_row rfl 26 (.tmp 9) rfl g9 rfl 26 (vc x) (0, 0) _ B9.out Try.underlying26 rfl size26 ?_))
    | ((with_reducible refine gate_callee (f := 12) rfl ?_); refine goesL_ (some 93) rfl rfl Try.func12 (by kernel_rfl) rfl #[.agg (vc z), .agg (vc x)] rfl (by (try simp only [List.map_toArray, List.map_cons, List.map_nil]); first | done | rfl) ?_; go_loud (refine (winnowerref06_Order.calls z.f0 z.f1 z.f2 z.f3 x.f0 x.f1 x.f2 x.f3 r _ HOR.out).mono ?_); rintro e w12 ⟨rfl, hb⟩; refine ⟨_, rfl, ?_⟩; clear hx0 hx1 hx2 hx3 hz0 hz1 hz2 hz3; have b_B9 := Aside0.mk (blk_below B9.out hb); have b_B13 := Aside0.mk (blk_below B13.out hb); have b_HB := Aside0.mk (below_step HB.out hb); clear HB B9 B13 hb; have HB := b_HB; have B9 := b_B9; have B13 := b_B13; clear b_HB b_B9 b_B13; have hx0 : w12.cell? ⟨g9, 0, none⟩ = some (.int .i64 x.f0) := (blk_cell B9.out 0).trans rfl; have hx1 : w12.cell? ⟨g9, 1, none⟩ = some (.int .i64 x.f1) := (blk_cell B9.out 1).trans rfl; have hx2 : w12.cell? ⟨g9, 2, none⟩ = some (.string x.f2) := (blk_cell B9.out 2).trans rfl; have hx3 : w12.cell? ⟨g9, 3, none⟩ = some (.bool x.f3) := (blk_cell B9.out 3).trans rfl; have hz0 : w12.cell? ⟨g13, 0, none⟩ = some (.int .i64 z.f0) := (blk_cell B13.out 0).trans rfl; have hz1 : w12.cell? ⟨g13, 1, none⟩ = some (.int .i64 z.f1) := (blk_cell B13.out 1).trans rfl; have hz2 : w12.cell? ⟨g13, 2, none⟩ = some (.string z.f2) := (blk_cell B13.out 2).trans rfl; have hz3 : w12.cell? ⟨g13, 3, none⟩ = some (.bool z.f3) := (blk_cell B13.out 3).trans rfl))
  go_ret
  exact ⟨rfl, HB.out⟩
theorem winnowerlaw18_AggMore.c2 (l : List S26) (A : Option Addr) (c : Nat) (v : S26) (w : World) (hr : Kd.C k26 w A l.length l) (hc : l.length ≤ c) (ho : okI l) (hf : fewS l = true) (q0 : decide ((300 : Int) < (v.f2.size : Int)) = false) (q0n : decide (300 < v.f2.size) = false) (x z : S26) (hT : toldS 2 l = (x, 0)) (lv : List S26) (hlv : l ++ [v] = lv) (hTz : toldS 2 lv = (z, 0)) (hov : okI lv) (q3 : (x.f0 == 0) = false) (q4 : decide (x.f0 = 0) = false) (hsz : z.f2.size ≤ 9223372036854775807) (r : Int) (hrr : ov z x = r) :
    Calls Try.prog 5 #[.int .i64 2, .slice A l.length c, .agg (vc v)] w fun e w' => e = .returned (.bool true) ∧ Below w.heap.size w w' := by
  have HB := Aside0.mk (Below.refl w.heap.size w)
  have HR := Aside0.mk hr
  have HC := Aside0.mk hc
  have HO := Aside0.mk ho
  have hu26 := Try.underlying26
  clear hr hc ho
  have HF := Aside0.mk (show winnowerlaw18_few.f (l.length + 1) l = some true by rw [few_tell, hf])
  have HL := Aside0.mk (show l.length ≤ 1000 by have := (few_len hf).1; omega)
  have HLV := Aside0.mk (show lv.length ≤ 1000 by rw [← hlv, List.length_append]; have := (few_len hf).1; simp only [List.length_cons, List.length_nil]; omega)
  have HLZ := Aside0.mk (show (l ++ [(⟨0, 0, ⟨#[]⟩, false⟩ : S26)]).length ≤ 1000 by rw [List.length_append]; have := (few_len hf).1; simp only [List.length_cons, List.length_nil]; omega)
  have HOZ := Aside0.mk (show okI (l ++ [(⟨0, 0, ⟨#[]⟩, false⟩ : S26)]) from okI_app HO.out (by decide))
  have HOV := Aside0.mk hov
  have HT := Aside0.mk hT
  have HTZ := Aside0.mk (show toldS 2 (l ++ [(⟨0, 0, ⟨#[]⟩, false⟩ : S26)]) = (x, 0) from (told_z (by decide) (by decide) (by have := (few_len hf).1; omega)).trans hT)
  have HTV := Aside0.mk hTz
  have HLL := Aside0.mk hlv
  have HOR := Aside0.mk (show winnowerref06_Order.f z.f0 z.f1 z.f2 z.f3 x.f0 x.f1 x.f2 x.f3 = some r by rw [order_tell z x hsz, hrr])
  clear hsz hrr
  clear hf hT hTz hlv hov
  go_enter Try.func5, Try.ntmps5
  go_wp2_with (first
    | ((with_reducible refine gate_dst (N := 5) rfl ?_); refine box_event ?hg (N := 5) ?hd (cs := (vc v)) (t := 26) ?hr ?_; (case hd => rfl); (case hg => rfl); (case hr => first | (go_simp; done) | (go_simp; rfl)); intro g5 hg w0 hbox hb; have B5 := Aside0.mk hbox; have GEB5 := Aside0.mk ((by rw [hg]; exact (below_size HB.out)) : w.heap.size ≤ g5); have b_HB := Aside0.mk (below_step HB.out hb); clear HB; have HB := b_HB; clear b_HB; clear hbox hg hb)
    | ((with_reducible refine gate_callee (f := 7) rfl ?_); refine goesL_ (some 16) rfl rfl Try.func7 (by kernel_rfl) rfl #[] rfl (by (try simp only [List.map_toArray, List.map_cons, List.map_nil]); first | done | rfl) ?_; go_loud (refine (winnowerlaw18_awake.calls _).mono ?_); rintro e w1 ⟨rfl, hb⟩; refine ⟨_, rfl, ?_⟩; have b_B5 := Aside0.mk (blk_below B5.out hb); have b_HB := Aside0.mk (below_step HB.out hb); clear HB B5; have HB := b_HB; have B5 := b_B5; clear b_HB b_B5; clear hb)
    | ((with_reducible refine gate_callee (f := 8) rfl ?_); refine goesL_ (some 18) rfl rfl Try.func8 (by kernel_rfl) rfl #[.slice A l.length c] rfl (by (try simp only [List.map_toArray, List.map_cons, List.map_nil]); first | done | rfl) ?_; go_loud (refine (winnowerlaw18_few.calls (l.length + 1) A c l true _ (Kd.C_below HR.out HB.out) HC.out HF.out).mono ?_); rintro e w2 ⟨rfl, hd⟩; refine ⟨_, rfl, ?_⟩; have hb := hd.below; clear hd; have b_B5 := Aside0.mk (blk_below B5.out hb); have b_HB := Aside0.mk (below_step HB.out hb); clear HB B5; have HB := b_HB; have B5 := b_B5; clear b_HB b_B5; clear hb; have hv2 : w2.cell? ⟨g5, 2, none⟩ = some (.string v.f2) := (blk_cell B5.out 2).trans rfl)
    | ((with_reducible refine gate_callee (f := 9) rfl ?_); refine goesL_ (some 43) rfl rfl Try.func9 (by kernel_rfl) rfl #[.int .i64 2, .slice A l.length c] rfl (by (try simp only [List.map_toArray, List.map_cons, List.map_nil]); first | done | rfl) ?_; go_loud (refine (winnowerlaw18_told.calls 2 l A c x 0 _ (Kd.C_below HR.out HB.out) HL.out HO.out HT.out).mono ?_); rintro e w3 ⟨rfl, hb⟩; refine ⟨_, rfl, ?_⟩; have b_B5 := Aside0.mk (blk_below B5.out hb); have b_HB := Aside0.mk (below_step HB.out hb); clear HB B5; have HB := b_HB; have B5 := b_B5; clear b_HB b_B5; clear hb; clear hv2)
    | ((with_reducible refine gate_dst (N := 9) rfl ?_); refine box_event ?hg (N := 9) ?hd (cs := #[.int .i64 0, .int .i64 0, .string ⟨#[]⟩, .bool false]) (t := 26) ?hr ?_; (case hd => rfl); (case hg => rfl); (case hr => first | (go_simp; done) | (go_simp; rfl)); intro g9 hg w4 hbox hb; have B9 := Aside0.mk hbox; have GEB9 := Aside0.mk ((by rw [hg]; exact (below_size HB.out)) : w.heap.size ≤ g9); have NB5B9 := Aside0.mk ((by rw [hg]; exact Nat.ne_of_lt (blk_lt B5.out)) : g5 ≠ g9); have b_B5 := Aside0.mk (blk_below B5.out hb); have b_HB := Aside0.mk (below_step HB.out hb); clear HB B5; have HB := b_HB; have B5 := b_B5; clear b_HB b_B5; clear hbox hg hb)
    | ((with_reducible refine gate_ (.store 26 (.tmp 9) (.tmp 44)) rfl ?_); go_loud (refine wpList_storeR rfl rfl 26 (.tmp 9) (.tmp 44) rfl g9 (0) rfl (.agg (vc x)) rfl (vc x).toList rfl #[.int .i64 0, .int .i64 0, .string ⟨#[]⟩, .bool false] 26 B9.out size26 (by simp) (by simp [Value.oneCell']) (vc x) rfl ?_); intro w5 hs st; have b_B5 := Aside0.mk (Step.blk st B5.out (NB5B9.out)); have b_HB := Aside0.mk (Step.fresh st HB.out GEB9.out); clear HB B5; have HB := b_HB; have B5 := b_B5; clear b_HB b_B5; clear B9; have B9 := Aside0.mk hs; clear hs st)
    | ((with_reducible refine gate_builtin (b := .append) (xs := #[.const (.slice none 0 0), .tmp 48]) rfl ?_); at_builtin; go_loud (refine Kd.R_append_rows k26 (w0 := w5) w5.heap.size rfl (.const (.slice none 0 0)) (.tmp 48) 22 26 (.agg #[(.int .i64 0), (.int .i64 0), (.string ⟨#[]⟩), (.bool false)]) 40 rfl Try.underlying22 info26 rfl (by decide) (by omega) (.slice none 0 0) ([] : List S26) l A l.length c (fun _ => True) (fun _ => False) rfl rfl ?aO ?aR (fun _ _ h => h) (fun _ h => h.elim) ?aF ?aB ?aS ?aL ?_); (case aR => exact (Kd.C_below HR.out HB.out)); (case aB => exact Below.refl _ _); (case aF => exact (fun _ _ => trivial)); (case aO => exact Kd.R_nil _ _ _ _ _); (case aS => exact Nat.le_refl _); (case aL => have := HL.out; simp only [List.length_nil]; omega); intro v49 w6 ho hb hg hat; rw [List.nil_append] at ho; have HA := Aside0.mk hb; have HOA := Aside0.mk ho; clear ho hb hg hat)
    | ((with_reducible refine gate_builtin (b := .append) (xs := #[.tmp 49, .tmp 51]) rfl ?_); at_builtin; go_loud (refine Kd.R_append k26 (w0 := w5) w5.heap.size rfl (.tmp 49) (.tmp 51) 22 26 (.agg #[(.int .i64 0), (.int .i64 0), (.string ⟨#[]⟩), (.bool false)]) 40 rfl Try.underlying22 info26 rfl (by decide) (by omega) v49 l (⟨0, 0, ⟨#[]⟩, false⟩ : S26) [.int .i64 0, .int .i64 0, .string ⟨#[]⟩, .bool false] (fun _ => True) (fun _ => False) rfl rfl ?aP (fun _ hk => hk.elim) ?aF ?aO ?aB ?aS ?aL ?_); (case aP => exact k26_mkM _ _ _ _); (case aB => exact HA.out); (case aF => exact (fun _ _ => trivial)); (case aO => exact HOA.out); (case aS => exact HA.out.size); (case aL => have := HL.out; omega); intro v52 w7 ho hb hg hat; have HA_ := Aside0.mk hb; have HOB := Aside0.mk ho; clear HA HOA ho hb hg hat; have HA := HA_; clear HA_; obtain ⟨Ap, cp, ep⟩ := Kd.R_slice HOB.out; subst ep)
    | ((with_reducible refine gate_callee (f := 9) rfl ?_); refine goesL_ (some 53) rfl rfl Try.func9 (by kernel_rfl) rfl #[.int .i64 2, .slice Ap (l ++ [(⟨0, 0, ⟨#[]⟩, false⟩ : S26)]).length cp] rfl (by (try simp only [List.map_toArray, List.map_cons, List.map_nil]); first | done | rfl) ?_; go_loud (refine (winnowerlaw18_told.calls 2 (l ++ [(⟨0, 0, ⟨#[]⟩, false⟩ : S26)]) Ap cp x 0 _ (Kd.R_reads' HOB.out).2.2 HLZ.out HOZ.out HTZ.out).mono ?_); rintro e w8 ⟨rfl, hb⟩; refine ⟨_, rfl, ?_⟩; have b_B5 := Aside0.mk (blk_below (blk_below B5.out HA.out) hb); have b_B9 := Aside0.mk (blk_below (blk_below B9.out HA.out) hb); have b_HB := Aside0.mk (below_step (below_step HB.out HA.out) hb); clear HB B5 B9 HA HOB hb; have HB := b_HB; have B9 := b_B9; have B5 := b_B5; clear b_HB b_B9 b_B5)
    | ((with_reducible refine gate_dst (N := 11) rfl ?_); refine box_event ?hg (N := 11) ?hd (cs := #[.int .i64 0, .int .i64 0, .string ⟨#[]⟩, .bool false]) (t := 26) ?hr ?_; (case hd => rfl); (case hg => rfl); (case hr => first | (go_simp; done) | (go_simp; rfl)); intro g11 hg w9 hbox hb; have B11 := Aside0.mk hbox; have GEB11 := Aside0.mk ((by rw [hg]; exact (below_size HB.out)) : w.heap.size ≤ g11); have NB5B11 := Aside0.mk ((by rw [hg]; exact Nat.ne_of_lt (blk_lt B5.out)) : g5 ≠ g11); have NB9B11 := Aside0.mk ((by rw [hg]; exact Nat.ne_of_lt (blk_lt B9.out)) : g9 ≠ g11); have b_B5 := Aside0.mk (blk_below B5.out hb); have b_B9 := Aside0.mk (blk_below B9.out hb); have b_HB := Aside0.mk (below_step HB.out hb); clear HB B5 B9; have HB := b_HB; have B5 := b_B5; have B9 := b_B9; clear b_HB b_B5 b_B9; clear hbox hg hb)
    | ((with_reducible refine gate_ (.store 26 (.tmp 11) (.tmp 54)) rfl ?_); go_loud (refine wpList_storeR rfl rfl 26 (.tmp 11) (.tmp 54) rfl g11 (0) rfl (.agg (vc x)) rfl (vc x).toList rfl #[.int .i64 0, .int .i64 0, .string ⟨#[]⟩, .bool false] 26 B11.out size26 (by simp) (by simp [Value.oneCell']) (vc x) rfl ?_); intro w10 hs st; have b_B5 := Aside0.mk (Step.blk st B5.out (NB5B11.out)); have b_B9 := Aside0.mk (Step.blk st B9.out (NB9B11.out)); have b_HB := Aside0.mk (Step.fresh st HB.out GEB11.out); clear HB B5 B9; have HB := b_HB; have B5 := b_B5; have B9 := b_B9; clear b_HB b_B5 b_B9; clear B11; have B11 := Aside0.mk hs; clear hs st))
  refine AggMore.reg7 2 g5 v l A c 0 z lv w10 B5.out (Kd.C_below HR.out HB.out) HL.out HLL.out HLV.out HOV.out HTV.out _ (fun c a d u w h => by cases d <;> exact h) ?_
  intro y59 y61 y62 g13 w11 hb ge hB13
  have B13 := Aside0.mk hB13
  have NE9 := Aside0.mk (show g9 ≠ g13 from Nat.ne_of_lt (Nat.lt_of_lt_of_le (blk_lt B9.out) ge))
  have b_B5 := Aside0.mk (blk_below B5.out hb)
  have b_B9 := Aside0.mk (blk_below B9.out hb)
  have b_B11 := Aside0.mk (blk_below B11.out hb)
  have b_HB := Aside0.mk (below_step HB.out hb)
  clear HB B5 B9 B11 hb hB13 ge
  have HB := b_HB
  have B9 := b_B9
  have B11 := b_B11
  have B5 := b_B5
  clear b_HB b_B9 b_B5 b_B11
  have hx0 : w11.cell? ⟨g9, 0, none⟩ = some (.int .i64 x.f0) := (blk_cell B9.out 0).trans rfl
  have hx1 : w11.cell? ⟨g9, 1, none⟩ = some (.int .i64 x.f1) := (blk_cell B9.out 1).trans rfl
  have hx2 : w11.cell? ⟨g9, 2, none⟩ = some (.string x.f2) := (blk_cell B9.out 2).trans rfl
  have hx3 : w11.cell? ⟨g9, 3, none⟩ = some (.bool x.f3) := (blk_cell B9.out 3).trans rfl
  have hz0 : w11.cell? ⟨g13, 0, none⟩ = some (.int .i64 z.f0) := (blk_cell B13.out 0).trans rfl
  have hz1 : w11.cell? ⟨g13, 1, none⟩ = some (.int .i64 z.f1) := (blk_cell B13.out 1).trans rfl
  have hz2 : w11.cell? ⟨g13, 2, none⟩ = some (.string z.f2) := (blk_cell B13.out 2).trans rfl
  have hz3 : w11.cell? ⟨g13, 3, none⟩ = some (.bool z.f3) := (blk_cell B13.out 3).trans rfl
  go_wp2_with (first
    | ((with_reducible refine gate_dst (N := 66) rfl ?_); go_loud (refine wpList_load_row rfl 26 (.tmp 9) rfl g9 rfl 26 (vc x) (0, 0) _ B9.out Try.underlying26 rfl size26 ?_))
    | ((with_reducible refine gate_dst (N := 67) rfl ?_); go_loud (refine wpList_load_row rfl 26 (.tmp 11) rfl g11 rfl 26 (vc x) (0, 0) _ B11.out Try.underlying26 rfl size26 ?_))
    | ((with_reducible refine gate_dst (N := 91) rfl ?_); go_loud (refine wpList_load_row rfl 26 (.tmp 13) rfl g13 rfl 26 (vc z) (0, 0) _ B13.out Try.underlying26 rfl size26 ?_))
    | ((with_reducible refine gate_dst (N := 92) rfl ?_); go_loud (refine wpList_load_row rfl 26 (.tmp 9) rfl g9 rfl 26 (vc x) (0, 0) _ B9.out Try.underlying26 rfl size26 ?_))
    | ((with_reducible refine gate_callee (f := 12) rfl ?_); refine goesL_ (some 93) rfl rfl Try.func12 (by kernel_rfl) rfl #[.agg (vc z), .agg (vc x)] rfl (by (try simp only [List.map_toArray, List.map_cons, List.map_nil]); first | done | rfl) ?_; go_loud (refine (winnowerref06_Order.calls z.f0 z.f1 z.f2 z.f3 x.f0 x.f1 x.f2 x.f3 r _ HOR.out).mono ?_); rintro e w12 ⟨rfl, hb⟩; refine ⟨_, rfl, ?_⟩; clear hx0 hx1 hx2 hx3 hz0 hz1 hz2 hz3; have b_B9 := Aside0.mk (blk_below B9.out hb); have b_B13 := Aside0.mk (blk_below B13.out hb); have b_HB := Aside0.mk (below_step HB.out hb); clear HB B9 B13 hb; have HB := b_HB; have B9 := b_B9; have B13 := b_B13; clear b_HB b_B9 b_B13; have hx0 : w12.cell? ⟨g9, 0, none⟩ = some (.int .i64 x.f0) := (blk_cell B9.out 0).trans rfl; have hx1 : w12.cell? ⟨g9, 1, none⟩ = some (.int .i64 x.f1) := (blk_cell B9.out 1).trans rfl; have hx2 : w12.cell? ⟨g9, 2, none⟩ = some (.string x.f2) := (blk_cell B9.out 2).trans rfl; have hx3 : w12.cell? ⟨g9, 3, none⟩ = some (.bool x.f3) := (blk_cell B9.out 3).trans rfl; have hz0 : w12.cell? ⟨g13, 0, none⟩ = some (.int .i64 z.f0) := (blk_cell B13.out 0).trans rfl; have hz1 : w12.cell? ⟨g13, 1, none⟩ = some (.int .i64 z.f1) := (blk_cell B13.out 1).trans rfl; have hz2 : w12.cell? ⟨g13, 2, none⟩ = some (.string z.f2) := (blk_cell B13.out 2).trans rfl; have hz3 : w12.cell? ⟨g13, 3, none⟩ = some (.bool z.f3) := (blk_cell B13.out 3).trans rfl))
  go_ret
  exact ⟨rfl, HB.out⟩
theorem winnowerlaw18_AggMore.c3 (l : List S26) (A : Option Addr) (c : Nat) (v : S26) (w : World) (hr : Kd.C k26 w A l.length l) (hc : l.length ≤ c) (ho : okI l) (hf : fewS l = true) (q0 : decide ((300 : Int) < (v.f2.size : Int)) = false) (q0n : decide (300 < v.f2.size) = false) (x z : S26) (hT : toldS 3 l = (x, 0)) (lv : List S26) (hlv : l ++ [v] = lv) (hTz : toldS 3 lv = (z, 0)) (hov : okI lv) (q3 : (x.f0 == 0) = false) (q4 : decide (x.f0 = 0) = false) (hsz : z.f2.size ≤ 9223372036854775807) (r : Int) (hrr : ov z x = r) (r1 : decide (r ≤ 0) = true) :
    Calls Try.prog 5 #[.int .i64 3, .slice A l.length c, .agg (vc v)] w fun e w' => e = .returned (.bool true) ∧ Below w.heap.size w w' := by
  have HB := Aside0.mk (Below.refl w.heap.size w)
  have HR := Aside0.mk hr
  have HC := Aside0.mk hc
  have HO := Aside0.mk ho
  have hu26 := Try.underlying26
  clear hr hc ho
  have HF := Aside0.mk (show winnowerlaw18_few.f (l.length + 1) l = some true by rw [few_tell, hf])
  have HL := Aside0.mk (show l.length ≤ 1000 by have := (few_len hf).1; omega)
  have HLV := Aside0.mk (show lv.length ≤ 1000 by rw [← hlv, List.length_append]; have := (few_len hf).1; simp only [List.length_cons, List.length_nil]; omega)
  have HLZ := Aside0.mk (show (l ++ [(⟨0, 0, ⟨#[]⟩, false⟩ : S26)]).length ≤ 1000 by rw [List.length_append]; have := (few_len hf).1; simp only [List.length_cons, List.length_nil]; omega)
  have HOZ := Aside0.mk (show okI (l ++ [(⟨0, 0, ⟨#[]⟩, false⟩ : S26)]) from okI_app HO.out (by decide))
  have HOV := Aside0.mk hov
  have HT := Aside0.mk hT
  have HTZ := Aside0.mk (show toldS 3 (l ++ [(⟨0, 0, ⟨#[]⟩, false⟩ : S26)]) = (x, 0) from (told_z (by decide) (by decide) (by have := (few_len hf).1; omega)).trans hT)
  have HTV := Aside0.mk hTz
  have HLL := Aside0.mk hlv
  have HOR := Aside0.mk (show winnowerref06_Order.f z.f0 z.f1 z.f2 z.f3 x.f0 x.f1 x.f2 x.f3 = some r by rw [order_tell z x hsz, hrr])
  clear hsz hrr
  clear hf hT hTz hlv hov
  go_enter Try.func5, Try.ntmps5
  go_wp2_with (first
    | ((with_reducible refine gate_dst (N := 5) rfl ?_); refine box_event ?hg (N := 5) ?hd (cs := (vc v)) (t := 26) ?hr ?_; (case hd => rfl); (case hg => rfl); (case hr => first | (go_simp; done) | (go_simp; rfl)); intro g5 hg w0 hbox hb; have B5 := Aside0.mk hbox; have GEB5 := Aside0.mk ((by rw [hg]; exact (below_size HB.out)) : w.heap.size ≤ g5); have b_HB := Aside0.mk (below_step HB.out hb); clear HB; have HB := b_HB; clear b_HB; clear hbox hg hb)
    | ((with_reducible refine gate_callee (f := 7) rfl ?_); refine goesL_ (some 16) rfl rfl Try.func7 (by kernel_rfl) rfl #[] rfl (by (try simp only [List.map_toArray, List.map_cons, List.map_nil]); first | done | rfl) ?_; go_loud (refine (winnowerlaw18_awake.calls _).mono ?_); rintro e w1 ⟨rfl, hb⟩; refine ⟨_, rfl, ?_⟩; have b_B5 := Aside0.mk (blk_below B5.out hb); have b_HB := Aside0.mk (below_step HB.out hb); clear HB B5; have HB := b_HB; have B5 := b_B5; clear b_HB b_B5; clear hb)
    | ((with_reducible refine gate_callee (f := 8) rfl ?_); refine goesL_ (some 18) rfl rfl Try.func8 (by kernel_rfl) rfl #[.slice A l.length c] rfl (by (try simp only [List.map_toArray, List.map_cons, List.map_nil]); first | done | rfl) ?_; go_loud (refine (winnowerlaw18_few.calls (l.length + 1) A c l true _ (Kd.C_below HR.out HB.out) HC.out HF.out).mono ?_); rintro e w2 ⟨rfl, hd⟩; refine ⟨_, rfl, ?_⟩; have hb := hd.below; clear hd; have b_B5 := Aside0.mk (blk_below B5.out hb); have b_HB := Aside0.mk (below_step HB.out hb); clear HB B5; have HB := b_HB; have B5 := b_B5; clear b_HB b_B5; clear hb; have hv2 : w2.cell? ⟨g5, 2, none⟩ = some (.string v.f2) := (blk_cell B5.out 2).trans rfl)
    | ((with_reducible refine gate_callee (f := 9) rfl ?_); refine goesL_ (some 43) rfl rfl Try.func9 (by kernel_rfl) rfl #[.int .i64 3, .slice A l.length c] rfl (by (try simp only [List.map_toArray, List.map_cons, List.map_nil]); first | done | rfl) ?_; go_loud (refine (winnowerlaw18_told.calls 3 l A c x 0 _ (Kd.C_below HR.out HB.out) HL.out HO.out HT.out).mono ?_); rintro e w3 ⟨rfl, hb⟩; refine ⟨_, rfl, ?_⟩; have b_B5 := Aside0.mk (blk_below B5.out hb); have b_HB := Aside0.mk (below_step HB.out hb); clear HB B5; have HB := b_HB; have B5 := b_B5; clear b_HB b_B5; clear hb; clear hv2)
    | ((with_reducible refine gate_dst (N := 9) rfl ?_); refine box_event ?hg (N := 9) ?hd (cs := #[.int .i64 0, .int .i64 0, .string ⟨#[]⟩, .bool false]) (t := 26) ?hr ?_; (case hd => rfl); (case hg => rfl); (case hr => first | (go_simp; done) | (go_simp; rfl)); intro g9 hg w4 hbox hb; have B9 := Aside0.mk hbox; have GEB9 := Aside0.mk ((by rw [hg]; exact (below_size HB.out)) : w.heap.size ≤ g9); have NB5B9 := Aside0.mk ((by rw [hg]; exact Nat.ne_of_lt (blk_lt B5.out)) : g5 ≠ g9); have b_B5 := Aside0.mk (blk_below B5.out hb); have b_HB := Aside0.mk (below_step HB.out hb); clear HB B5; have HB := b_HB; have B5 := b_B5; clear b_HB b_B5; clear hbox hg hb)
    | ((with_reducible refine gate_ (.store 26 (.tmp 9) (.tmp 44)) rfl ?_); go_loud (refine wpList_storeR rfl rfl 26 (.tmp 9) (.tmp 44) rfl g9 (0) rfl (.agg (vc x)) rfl (vc x).toList rfl #[.int .i64 0, .int .i64 0, .string ⟨#[]⟩, .bool false] 26 B9.out size26 (by simp) (by simp [Value.oneCell']) (vc x) rfl ?_); intro w5 hs st; have b_B5 := Aside0.mk (Step.blk st B5.out (NB5B9.out)); have b_HB := Aside0.mk (Step.fresh st HB.out GEB9.out); clear HB B5; have HB := b_HB; have B5 := b_B5; clear b_HB b_B5; clear B9; have B9 := Aside0.mk hs; clear hs st)
    | ((with_reducible refine gate_builtin (b := .append) (xs := #[.const (.slice none 0 0), .tmp 48]) rfl ?_); at_builtin; go_loud (refine Kd.R_append_rows k26 (w0 := w5) w5.heap.size rfl (.const (.slice none 0 0)) (.tmp 48) 22 26 (.agg #[(.int .i64 0), (.int .i64 0), (.string ⟨#[]⟩), (.bool false)]) 40 rfl Try.underlying22 info26 rfl (by decide) (by omega) (.slice none 0 0) ([] : List S26) l A l.length c (fun _ => True) (fun _ => False) rfl rfl ?aO ?aR (fun _ _ h => h) (fun _ h => h.elim) ?aF ?aB ?aS ?aL ?_); (case aR => exact (Kd.C_below HR.out HB.out)); (case aB => exact Below.refl _ _); (case aF => exact (fun _ _ => trivial)); (case aO => exact Kd.R_nil _ _ _ _ _); (case aS => exact Nat.le_refl _); (case aL => have := HL.out; simp only [List.length_nil]; omega); intro v49 w6 ho hb hg hat; rw [List.nil_append] at ho; have HA := Aside0.mk hb; have HOA := Aside0.mk ho; clear ho hb hg hat)
    | ((with_reducible refine gate_builtin (b := .append) (xs := #[.tmp 49, .tmp 51]) rfl ?_); at_builtin; go_loud (refine Kd.R_append k26 (w0 := w5) w5.heap.size rfl (.tmp 49) (.tmp 51) 22 26 (.agg #[(.int .i64 0), (.int .i64 0), (.string ⟨#[]⟩), (.bool false)]) 40 rfl Try.underlying22 info26 rfl (by decide) (by omega) v49 l (⟨0, 0, ⟨#[]⟩, false⟩ : S26) [.int .i64 0, .int .i64 0, .string ⟨#[]⟩, .bool false] (fun _ => True) (fun _ => False) rfl rfl ?aP (fun _ hk => hk.elim) ?aF ?aO ?aB ?aS ?aL ?_); (case aP => exact k26_mkM _ _ _ _); (case aB => exact HA.out); (case aF => exact (fun _ _ => trivial)); (case aO => exact HOA.out); (case aS => exact HA.out.size); (case aL => have := HL.out; omega); intro v52 w7 ho hb hg hat; have HA_ := Aside0.mk hb; have HOB := Aside0.mk ho; clear HA HOA ho hb hg hat; have HA := HA_; clear HA_; obtain ⟨Ap, cp, ep⟩ := Kd.R_slice HOB.out; subst ep)
    | ((with_reducible refine gate_callee (f := 9) rfl ?_); refine goesL_ (some 53) rfl rfl Try.func9 (by kernel_rfl) rfl #[.int .i64 3, .slice Ap (l ++ [(⟨0, 0, ⟨#[]⟩, false⟩ : S26)]).length cp] rfl (by (try simp only [List.map_toArray, List.map_cons, List.map_nil]); first | done | rfl) ?_; go_loud (refine (winnowerlaw18_told.calls 3 (l ++ [(⟨0, 0, ⟨#[]⟩, false⟩ : S26)]) Ap cp x 0 _ (Kd.R_reads' HOB.out).2.2 HLZ.out HOZ.out HTZ.out).mono ?_); rintro e w8 ⟨rfl, hb⟩; refine ⟨_, rfl, ?_⟩; have b_B5 := Aside0.mk (blk_below (blk_below B5.out HA.out) hb); have b_B9 := Aside0.mk (blk_below (blk_below B9.out HA.out) hb); have b_HB := Aside0.mk (below_step (below_step HB.out HA.out) hb); clear HB B5 B9 HA HOB hb; have HB := b_HB; have B9 := b_B9; have B5 := b_B5; clear b_HB b_B9 b_B5)
    | ((with_reducible refine gate_dst (N := 11) rfl ?_); refine box_event ?hg (N := 11) ?hd (cs := #[.int .i64 0, .int .i64 0, .string ⟨#[]⟩, .bool false]) (t := 26) ?hr ?_; (case hd => rfl); (case hg => rfl); (case hr => first | (go_simp; done) | (go_simp; rfl)); intro g11 hg w9 hbox hb; have B11 := Aside0.mk hbox; have GEB11 := Aside0.mk ((by rw [hg]; exact (below_size HB.out)) : w.heap.size ≤ g11); have NB5B11 := Aside0.mk ((by rw [hg]; exact Nat.ne_of_lt (blk_lt B5.out)) : g5 ≠ g11); have NB9B11 := Aside0.mk ((by rw [hg]; exact Nat.ne_of_lt (blk_lt B9.out)) : g9 ≠ g11); have b_B5 := Aside0.mk (blk_below B5.out hb); have b_B9 := Aside0.mk (blk_below B9.out hb); have b_HB := Aside0.mk (below_step HB.out hb); clear HB B5 B9; have HB := b_HB; have B5 := b_B5; have B9 := b_B9; clear b_HB b_B5 b_B9; clear hbox hg hb)
    | ((with_reducible refine gate_ (.store 26 (.tmp 11) (.tmp 54)) rfl ?_); go_loud (refine wpList_storeR rfl rfl 26 (.tmp 11) (.tmp 54) rfl g11 (0) rfl (.agg (vc x)) rfl (vc x).toList rfl #[.int .i64 0, .int .i64 0, .string ⟨#[]⟩, .bool false] 26 B11.out size26 (by simp) (by simp [Value.oneCell']) (vc x) rfl ?_); intro w10 hs st; have b_B5 := Aside0.mk (Step.blk st B5.out (NB5B11.out)); have b_B9 := Aside0.mk (Step.blk st B9.out (NB9B11.out)); have b_HB := Aside0.mk (Step.fresh st HB.out GEB11.out); clear HB B5 B9; have HB := b_HB; have B5 := b_B5; have B9 := b_B9; clear b_HB b_B5 b_B9; clear B11; have B11 := Aside0.mk hs; clear hs st))
  refine AggMore.reg7 3 g5 v l A c 0 z lv w10 B5.out (Kd.C_below HR.out HB.out) HL.out HLL.out HLV.out HOV.out HTV.out _ (fun c a d u w h => by cases d <;> exact h) ?_
  intro y59 y61 y62 g13 w11 hb ge hB13
  have B13 := Aside0.mk hB13
  have NE9 := Aside0.mk (show g9 ≠ g13 from Nat.ne_of_lt (Nat.lt_of_lt_of_le (blk_lt B9.out) ge))
  have b_B5 := Aside0.mk (blk_below B5.out hb)
  have b_B9 := Aside0.mk (blk_below B9.out hb)
  have b_B11 := Aside0.mk (blk_below B11.out hb)
  have b_HB := Aside0.mk (below_step HB.out hb)
  clear HB B5 B9 B11 hb hB13 ge
  have HB := b_HB
  have B9 := b_B9
  have B11 := b_B11
  have B5 := b_B5
  clear b_HB b_B9 b_B5 b_B11
  have hx0 : w11.cell? ⟨g9, 0, none⟩ = some (.int .i64 x.f0) := (blk_cell B9.out 0).trans rfl
  have hx1 : w11.cell? ⟨g9, 1, none⟩ = some (.int .i64 x.f1) := (blk_cell B9.out 1).trans rfl
  have hx2 : w11.cell? ⟨g9, 2, none⟩ = some (.string x.f2) := (blk_cell B9.out 2).trans rfl
  have hx3 : w11.cell? ⟨g9, 3, none⟩ = some (.bool x.f3) := (blk_cell B9.out 3).trans rfl
  have hz0 : w11.cell? ⟨g13, 0, none⟩ = some (.int .i64 z.f0) := (blk_cell B13.out 0).trans rfl
  have hz1 : w11.cell? ⟨g13, 1, none⟩ = some (.int .i64 z.f1) := (blk_cell B13.out 1).trans rfl
  have hz2 : w11.cell? ⟨g13, 2, none⟩ = some (.string z.f2) := (blk_cell B13.out 2).trans rfl
  have hz3 : w11.cell? ⟨g13, 3, none⟩ = some (.bool z.f3) := (blk_cell B13.out 3).trans rfl
  go_wp2_with (first
    | ((with_reducible refine gate_dst (N := 66) rfl ?_); go_loud (refine wpList_load_row rfl 26 (.tmp 9) rfl g9 rfl 26 (vc x) (0, 0) _ B9.out Try.underlying26 rfl size26 ?_))
    | ((with_reducible refine gate_dst (N := 67) rfl ?_); go_loud (refine wpList_load_row rfl 26 (.tmp 11) rfl g11 rfl 26 (vc x) (0, 0) _ B11.out Try.underlying26 rfl size26 ?_))
    | ((with_reducible refine gate_dst (N := 91) rfl ?_); go_loud (refine wpList_load_row rfl 26 (.tmp 13) rfl g13 rfl 26 (vc z) (0, 0) _ B13.out Try.underlying26 rfl size26 ?_))
    | ((with_reducible refine gate_dst (N := 92) rfl ?_); go_loud (refine wpList_load_row rfl 26 (.tmp 9) rfl g9 rfl 26 (vc x) (0, 0) _ B9.out Try.underlying26 rfl size26 ?_))
    | ((with_reducible refine gate_callee (f := 12) rfl ?_); refine goesL_ (some 93) rfl rfl Try.func12 (by kernel_rfl) rfl #[.agg (vc z), .agg (vc x)] rfl (by (try simp only [List.map_toArray, List.map_cons, List.map_nil]); first | done | rfl) ?_; go_loud (refine (winnowerref06_Order.calls z.f0 z.f1 z.f2 z.f3 x.f0 x.f1 x.f2 x.f3 r _ HOR.out).mono ?_); rintro e w12 ⟨rfl, hb⟩; refine ⟨_, rfl, ?_⟩; clear hx0 hx1 hx2 hx3 hz0 hz1 hz2 hz3; have b_B9 := Aside0.mk (blk_below B9.out hb); have b_B13 := Aside0.mk (blk_below B13.out hb); have b_HB := Aside0.mk (below_step HB.out hb); clear HB B9 B13 hb; have HB := b_HB; have B9 := b_B9; have B13 := b_B13; clear b_HB b_B9 b_B13; have hx0 : w12.cell? ⟨g9, 0, none⟩ = some (.int .i64 x.f0) := (blk_cell B9.out 0).trans rfl; have hx1 : w12.cell? ⟨g9, 1, none⟩ = some (.int .i64 x.f1) := (blk_cell B9.out 1).trans rfl; have hx2 : w12.cell? ⟨g9, 2, none⟩ = some (.string x.f2) := (blk_cell B9.out 2).trans rfl; have hx3 : w12.cell? ⟨g9, 3, none⟩ = some (.bool x.f3) := (blk_cell B9.out 3).trans rfl; have hz0 : w12.cell? ⟨g13, 0, none⟩ = some (.int .i64 z.f0) := (blk_cell B13.out 0).trans rfl; have hz1 : w12.cell? ⟨g13, 1, none⟩ = some (.int .i64 z.f1) := (blk_cell B13.out 1).trans rfl; have hz2 : w12.cell? ⟨g13, 2, none⟩ = some (.string z.f2) := (blk_cell B13.out 2).trans rfl; have hz3 : w12.cell? ⟨g13, 3, none⟩ = some (.bool z.f3) := (blk_cell B13.out 3).trans rfl))
  go_ret
  exact ⟨rfl, HB.out⟩
theorem winnowerlaw18_AggMore.c4 (l : List S26) (A : Option Addr) (c : Nat) (v : S26) (w : World) (hr : Kd.C k26 w A l.length l) (hc : l.length ≤ c) (ho : okI l) (hf : fewS l = true) (q0 : decide ((300 : Int) < (v.f2.size : Int)) = false) (q0n : decide (300 < v.f2.size) = false) (x z : S26) (hT : toldS 4 l = (x, 0)) (lv : List S26) (hlv : l ++ [v] = lv) (hTz : toldS 4 lv = (z, 0)) (hov : okI lv) (q3 : (x.f0 == 0) = false) (q4 : decide (x.f0 = 0) = false) (hsz : z.f2.size ≤ 9223372036854775807) (r : Int) (hrr : ov z x = r) (r1 : decide (0 ≤ r) = true) :
    Calls Try.prog 5 #[.int .i64 4, .slice A l.length c, .agg (vc v)] w fun e w' => e = .returned (.bool true) ∧ Below w.heap.size w w' := by
  have HB := Aside0.mk (Below.refl w.heap.size w)
  have HR := Aside0.mk hr
  have HC := Aside0.mk hc
  have HO := Aside0.mk ho
  have hu26 := Try.underlying26
  clear hr hc ho
  have HF := Aside0.mk (show winnowerlaw18_few.f (l.length + 1) l = some true by rw [few_tell, hf])
  have HL := Aside0.mk (show l.length ≤ 1000 by have := (few_len hf).1; omega)
  have HLV := Aside0.mk (show lv.length ≤ 1000 by rw [← hlv, List.length_append]; have := (few_len hf).1; simp only [List.length_cons, List.length_nil]; omega)
  have HLZ := Aside0.mk (show (l ++ [(⟨0, 0, ⟨#[]⟩, false⟩ : S26)]).length ≤ 1000 by rw [List.length_append]; have := (few_len hf).1; simp only [List.length_cons, List.length_nil]; omega)
  have HOZ := Aside0.mk (show okI (l ++ [(⟨0, 0, ⟨#[]⟩, false⟩ : S26)]) from okI_app HO.out (by decide))
  have HOV := Aside0.mk hov
  have HT := Aside0.mk hT
  have HTZ := Aside0.mk (show toldS 4 (l ++ [(⟨0, 0, ⟨#[]⟩, false⟩ : S26)]) = (x, 0) from (told_z (by decide) (by decide) (by have := (few_len hf).1; omega)).trans hT)
  have HTV := Aside0.mk hTz
  have HLL := Aside0.mk hlv
  have HOR := Aside0.mk (show winnowerref06_Order.f z.f0 z.f1 z.f2 z.f3 x.f0 x.f1 x.f2 x.f3 = some r by rw [order_tell z x hsz, hrr])
  clear hsz hrr
  clear hf hT hTz hlv hov
  go_enter Try.func5, Try.ntmps5
  go_wp2_with (first
    | ((with_reducible refine gate_dst (N := 5) rfl ?_); refine box_event ?hg (N := 5) ?hd (cs := (vc v)) (t := 26) ?hr ?_; (case hd => rfl); (case hg => rfl); (case hr => first | (go_simp; done) | (go_simp; rfl)); intro g5 hg w0 hbox hb; have B5 := Aside0.mk hbox; have GEB5 := Aside0.mk ((by rw [hg]; exact (below_size HB.out)) : w.heap.size ≤ g5); have b_HB := Aside0.mk (below_step HB.out hb); clear HB; have HB := b_HB; clear b_HB; clear hbox hg hb)
    | ((with_reducible refine gate_callee (f := 7) rfl ?_); refine goesL_ (some 16) rfl rfl Try.func7 (by kernel_rfl) rfl #[] rfl (by (try simp only [List.map_toArray, List.map_cons, List.map_nil]); first | done | rfl) ?_; go_loud (refine (winnowerlaw18_awake.calls _).mono ?_); rintro e w1 ⟨rfl, hb⟩; refine ⟨_, rfl, ?_⟩; have b_B5 := Aside0.mk (blk_below B5.out hb); have b_HB := Aside0.mk (below_step HB.out hb); clear HB B5; have HB := b_HB; have B5 := b_B5; clear b_HB b_B5; clear hb)
    | ((with_reducible refine gate_callee (f := 8) rfl ?_); refine goesL_ (some 18) rfl rfl Try.func8 (by kernel_rfl) rfl #[.slice A l.length c] rfl (by (try simp only [List.map_toArray, List.map_cons, List.map_nil]); first | done | rfl) ?_; go_loud (refine (winnowerlaw18_few.calls (l.length + 1) A c l true _ (Kd.C_below HR.out HB.out) HC.out HF.out).mono ?_); rintro e w2 ⟨rfl, hd⟩; refine ⟨_, rfl, ?_⟩; have hb := hd.below; clear hd; have b_B5 := Aside0.mk (blk_below B5.out hb); have b_HB := Aside0.mk (below_step HB.out hb); clear HB B5; have HB := b_HB; have B5 := b_B5; clear b_HB b_B5; clear hb; have hv2 : w2.cell? ⟨g5, 2, none⟩ = some (.string v.f2) := (blk_cell B5.out 2).trans rfl)
    | ((with_reducible refine gate_callee (f := 9) rfl ?_); refine goesL_ (some 43) rfl rfl Try.func9 (by kernel_rfl) rfl #[.int .i64 4, .slice A l.length c] rfl (by (try simp only [List.map_toArray, List.map_cons, List.map_nil]); first | done | rfl) ?_; go_loud (refine (winnowerlaw18_told.calls 4 l A c x 0 _ (Kd.C_below HR.out HB.out) HL.out HO.out HT.out).mono ?_); rintro e w3 ⟨rfl, hb⟩; refine ⟨_, rfl, ?_⟩; have b_B5 := Aside0.mk (blk_below B5.out hb); have b_HB := Aside0.mk (below_step HB.out hb); clear HB B5; have HB := b_HB; have B5 := b_B5; clear b_HB b_B5; clear hb; clear hv2)
    | ((with_reducible refine gate_dst (N := 9) rfl ?_); refine box_event ?hg (N := 9) ?hd (cs := #[.int .i64 0, .int .i64 0, .string ⟨#[]⟩, .bool false]) (t := 26) ?hr ?_; (case hd => rfl); (case hg => rfl); (case hr => first | (go_simp; done) | (go_simp; rfl)); intro g9 hg w4 hbox hb; have B9 := Aside0.mk hbox; have GEB9 := Aside0.mk ((by rw [hg]; exact (below_size HB.out)) : w.heap.size ≤ g9); have NB5B9 := Aside0.mk ((by rw [hg]; exact Nat.ne_of_lt (blk_lt B5.out)) : g5 ≠ g9); have b_B5 := Aside0.mk (blk_below B5.out hb); have b_HB := Aside0.mk (below_step HB.out hb); clear HB B5; have HB := b_HB; have B5 := b_B5; clear b_HB b_B5; clear hbox hg hb)
    | ((with_reducible refine gate_ (.store 26 (.tmp 9) (.tmp 44)) rfl ?_); go_loud (refine wpList_storeR rfl rfl 26 (.tmp 9) (.tmp 44) rfl g9 (0) rfl (.agg (vc x)) rfl (vc x).toList rfl #[.int .i64 0, .int .i64 0, .string ⟨#[]⟩, .bool false] 26 B9.out size26 (by simp) (by simp [Value.oneCell']) (vc x) rfl ?_); intro w5 hs st; have b_B5 := Aside0.mk (Step.blk st B5.out (NB5B9.out)); have b_HB := Aside0.mk (Step.fresh st HB.out GEB9.out); clear HB B5; have HB := b_HB; have B5 := b_B5; clear b_HB b_B5; clear B9; have B9 := Aside0.mk hs; clear hs st)
    | ((with_reducible refine gate_builtin (b := .append) (xs := #[.const (.slice none 0 0), .tmp 48]) rfl ?_); at_builtin; go_loud (refine Kd.R_append_rows k26 (w0 := w5) w5.heap.size rfl (.const (.slice none 0 0)) (.tmp 48) 22 26 (.agg #[(.int .i64 0), (.int .i64 0), (.string ⟨#[]⟩), (.bool false)]) 40 rfl Try.underlying22 info26 rfl (by decide) (by omega) (.slice none 0 0) ([] : List S26) l A l.length c (fun _ => True) (fun _ => False) rfl rfl ?aO ?aR (fun _ _ h => h) (fun _ h => h.elim) ?aF ?aB ?aS ?aL ?_); (case aR => exact (Kd.C_below HR.out HB.out)); (case aB => exact Below.refl _ _); (case aF => exact (fun _ _ => trivial)); (case aO => exact Kd.R_nil _ _ _ _ _); (case aS => exact Nat.le_refl _); (case aL => have := HL.out; simp only [List.length_nil]; omega); intro v49 w6 ho hb hg hat; rw [List.nil_append] at ho; have HA := Aside0.mk hb; have HOA := Aside0.mk ho; clear ho hb hg hat)
    | ((with_reducible refine gate_builtin (b := .append) (xs := #[.tmp 49, .tmp 51]) rfl ?_); at_builtin; go_loud (refine Kd.R_append k26 (w0 := w5) w5.heap.size rfl (.tmp 49) (.tmp 51) 22 26 (.agg #[(.int .i64 0), (.int .i64 0), (.string ⟨#[]⟩), (.bool false)]) 40 rfl Try.underlying22 info26 rfl (by decide) (by omega) v49 l (⟨0, 0, ⟨#[]⟩, false⟩ : S26) [.int .i64 0, .int .i64 0, .string ⟨#[]⟩, .bool false] (fun _ => True) (fun _ => False) rfl rfl ?aP (fun _ hk => hk.elim) ?aF ?aO ?aB ?aS ?aL ?_); (case aP => exact k26_mkM _ _ _ _); (case aB => exact HA.out); (case aF => exact (fun _ _ => trivial)); (case aO => exact HOA.out); (case aS => exact HA.out.size); (case aL => have := HL.out; omega); intro v52 w7 ho hb hg hat; have HA_ := Aside0.mk hb; have HOB := Aside0.mk ho; clear HA HOA ho hb hg hat; have HA := HA_; clear HA_; obtain ⟨Ap, cp, ep⟩ := Kd.R_slice HOB.out; subst ep)
    | ((with_reducible refine gate_callee (f := 9) rfl ?_); refine goesL_ (some 53) rfl rfl Try.func9 (by kernel_rfl) rfl #[.int .i64 4, .slice Ap (l ++ [(⟨0, 0, ⟨#[]⟩, false⟩ : S26)]).length cp] rfl (by (try simp only [List.map_toArray, List.map_cons, List.map_nil]); first | done | rfl) ?_; go_loud (refine (winnowerlaw18_told.calls 4 (l ++ [(⟨0, 0, ⟨#[]⟩, false⟩ : S26)]) Ap cp x 0 _ (Kd.R_reads' HOB.out).2.2 HLZ.out HOZ.out HTZ.out).mono ?_); rintro e w8 ⟨rfl, hb⟩; refine ⟨_, rfl, ?_⟩; have b_B5 := Aside0.mk (blk_below (blk_below B5.out HA.out) hb); have b_B9 := Aside0.mk (blk_below (blk_below B9.out HA.out) hb); have b_HB := Aside0.mk (below_step (below_step HB.out HA.out) hb); clear HB B5 B9 HA HOB hb; have HB := b_HB; have B9 := b_B9; have B5 := b_B5; clear b_HB b_B9 b_B5)
    | ((with_reducible refine gate_dst (N := 11) rfl ?_); refine box_event ?hg (N := 11) ?hd (cs := #[.int .i64 0, .int .i64 0, .string ⟨#[]⟩, .bool false]) (t := 26) ?hr ?_; (case hd => rfl); (case hg => rfl); (case hr => first | (go_simp; done) | (go_simp; rfl)); intro g11 hg w9 hbox hb; have B11 := Aside0.mk hbox; have GEB11 := Aside0.mk ((by rw [hg]; exact (below_size HB.out)) : w.heap.size ≤ g11); have NB5B11 := Aside0.mk ((by rw [hg]; exact Nat.ne_of_lt (blk_lt B5.out)) : g5 ≠ g11); have NB9B11 := Aside0.mk ((by rw [hg]; exact Nat.ne_of_lt (blk_lt B9.out)) : g9 ≠ g11); have b_B5 := Aside0.mk (blk_below B5.out hb); have b_B9 := Aside0.mk (blk_below B9.out hb); have b_HB := Aside0.mk (below_step HB.out hb); clear HB B5 B9; have HB := b_HB; have B5 := b_B5; have B9 := b_B9; clear b_HB b_B5 b_B9; clear hbox hg hb)
    | ((with_reducible refine gate_ (.store 26 (.tmp 11) (.tmp 54)) rfl ?_); go_loud (refine wpList_storeR rfl rfl 26 (.tmp 11) (.tmp 54) rfl g11 (0) rfl (.agg (vc x)) rfl (vc x).toList rfl #[.int .i64 0, .int .i64 0, .string ⟨#[]⟩, .bool false] 26 B11.out size26 (by simp) (by simp [Value.oneCell']) (vc x) rfl ?_); intro w10 hs st; have b_B5 := Aside0.mk (Step.blk st B5.out (NB5B11.out)); have b_B9 := Aside0.mk (Step.blk st B9.out (NB9B11.out)); have b_HB := Aside0.mk (Step.fresh st HB.out GEB11.out); clear HB B5 B9; have HB := b_HB; have B5 := b_B5; have B9 := b_B9; clear b_HB b_B5 b_B9; clear B11; have B11 := Aside0.mk hs; clear hs st))
  refine AggMore.reg7 4 g5 v l A c 0 z lv w10 B5.out (Kd.C_below HR.out HB.out) HL.out HLL.out HLV.out HOV.out HTV.out _ (fun c a d u w h => by cases d <;> exact h) ?_
  intro y59 y61 y62 g13 w11 hb ge hB13
  have B13 := Aside0.mk hB13
  have NE9 := Aside0.mk (show g9 ≠ g13 from Nat.ne_of_lt (Nat.lt_of_lt_of_le (blk_lt B9.out) ge))
  have b_B5 := Aside0.mk (blk_below B5.out hb)
  have b_B9 := Aside0.mk (blk_below B9.out hb)
  have b_B11 := Aside0.mk (blk_below B11.out hb)
  have b_HB := Aside0.mk (below_step HB.out hb)
  clear HB B5 B9 B11 hb hB13 ge
  have HB := b_HB
  have B9 := b_B9
  have B11 := b_B11
  have B5 := b_B5
  clear b_HB b_B9 b_B5 b_B11
  have hx0 : w11.cell? ⟨g9, 0, none⟩ = some (.int .i64 x.f0) := (blk_cell B9.out 0).trans rfl
  have hx1 : w11.cell? ⟨g9, 1, none⟩ = some (.int .i64 x.f1) := (blk_cell B9.out 1).trans rfl
  have hx2 : w11.cell? ⟨g9, 2, none⟩ = some (.string x.f2) := (blk_cell B9.out 2).trans rfl
  have hx3 : w11.cell? ⟨g9, 3, none⟩ = some (.bool x.f3) := (blk_cell B9.out 3).trans rfl
  have hz0 : w11.cell? ⟨g13, 0, none⟩ = some (.int .i64 z.f0) := (blk_cell B13.out 0).trans rfl
  have hz1 : w11.cell? ⟨g13, 1, none⟩ = some (.int .i64 z.f1) := (blk_cell B13.out 1).trans rfl
  have hz2 : w11.cell? ⟨g13, 2, none⟩ = some (.string z.f2) := (blk_cell B13.out 2).trans rfl
  have hz3 : w11.cell? ⟨g13, 3, none⟩ = some (.bool z.f3) := (blk_cell B13.out 3).trans rfl
  go_wp2_with (first
    | ((with_reducible refine gate_dst (N := 66) rfl ?_); go_loud (refine wpList_load_row rfl 26 (.tmp 9) rfl g9 rfl 26 (vc x) (0, 0) _ B9.out Try.underlying26 rfl size26 ?_))
    | ((with_reducible refine gate_dst (N := 67) rfl ?_); go_loud (refine wpList_load_row rfl 26 (.tmp 11) rfl g11 rfl 26 (vc x) (0, 0) _ B11.out Try.underlying26 rfl size26 ?_))
    | ((with_reducible refine gate_dst (N := 91) rfl ?_); go_loud (refine wpList_load_row rfl 26 (.tmp 13) rfl g13 rfl 26 (vc z) (0, 0) _ B13.out Try.underlying26 rfl size26 ?_))
    | ((with_reducible refine gate_dst (N := 92) rfl ?_); go_loud (refine wpList_load_row rfl 26 (.tmp 9) rfl g9 rfl 26 (vc x) (0, 0) _ B9.out Try.underlying26 rfl size26 ?_))
    | ((with_reducible refine gate_callee (f := 12) rfl ?_); refine goesL_ (some 93) rfl rfl Try.func12 (by kernel_rfl) rfl #[.agg (vc z), .agg (vc x)] rfl (by (try simp only [List.map_toArray, List.map_cons, List.map_nil]); first | done | rfl) ?_; go_loud (refine (winnowerref06_Order.calls z.f0 z.f1 z.f2 z.f3 x.f0 x.f1 x.f2 x.f3 r _ HOR.out).mono ?_); rintro e w12 ⟨rfl, hb⟩; refine ⟨_, rfl, ?_⟩; clear hx0 hx1 hx2 hx3 hz0 hz1 hz2 hz3; have b_B9 := Aside0.mk (blk_below B9.out hb); have b_B13 := Aside0.mk (blk_below B13.out hb); have b_HB := Aside0.mk (below_step HB.out hb); clear HB B9 B13 hb; have HB := b_HB; have B9 := b_B9; have B13 := b_B13; clear b_HB b_B9 b_B13; have hx0 : w12.cell? ⟨g9, 0, none⟩ = some (.int .i64 x.f0) := (blk_cell B9.out 0).trans rfl; have hx1 : w12.cell? ⟨g9, 1, none⟩ = some (.int .i64 x.f1) := (blk_cell B9.out 1).trans rfl; have hx2 : w12.cell? ⟨g9, 2, none⟩ = some (.string x.f2) := (blk_cell B9.out 2).trans rfl; have hx3 : w12.cell? ⟨g9, 3, none⟩ = some (.bool x.f3) := (blk_cell B9.out 3).trans rfl; have hz0 : w12.cell? ⟨g13, 0, none⟩ = some (.int .i64 z.f0) := (blk_cell B13.out 0).trans rfl; have hz1 : w12.cell? ⟨g13, 1, none⟩ = some (.int .i64 z.f1) := (blk_cell B13.out 1).trans rfl; have hz2 : w12.cell? ⟨g13, 2, none⟩ = some (.string z.f2) := (blk_cell B13.out 2).trans rfl; have hz3 : w12.cell? ⟨g13, 3, none⟩ = some (.bool z.f3) := (blk_cell B13.out 3).trans rfl))
  go_ret
  exact ⟨rfl, HB.out⟩
theorem winnowerlaw18_AggMore.c5 (l : List S26) (A : Option Addr) (c : Nat) (v : S26) (w : World) (hr : Kd.C k26 w A l.length l) (hc : l.length ≤ c) (ho : okI l) (hf : fewS l = true) (q0 : decide ((300 : Int) < (v.f2.size : Int)) = false) (q0n : decide (300 < v.f2.size) = false) (x z : S26) (hT : toldS 5 l = (x, 0)) (lv : List S26) (hlv : l ++ [v] = lv) (hTz : toldS 5 lv = (z, 0)) (hov : okI lv) (q3 : (x.f0 == 0) = false) (q4 : decide (x.f0 = 0) = false) (hsz : z.f2.size ≤ 9223372036854775807) (r : Int) (hrr : ov z x = r) (r1 : decide (0 ≤ r) = true) (r2 : decide (wrap64 (z.f1 - x.f1) ≤ 1) = true) (r3 : decide (IntKind.i64.wrap (z.f1 - x.f1) ≤ 1) = true) :
    Calls Try.prog 5 #[.int .i64 5, .slice A l.length c, .agg (vc v)] w fun e w' => e = .returned (.bool true) ∧ Below w.heap.size w w' := by
  have HB := Aside0.mk (Below.refl w.heap.size w)
  have HR := Aside0.mk hr
  have HC := Aside0.mk hc
  have HO := Aside0.mk ho
  have hu26 := Try.underlying26
  clear hr hc ho
  have HF := Aside0.mk (show winnowerlaw18_few.f (l.length + 1) l = some true by rw [few_tell, hf])
  have HL := Aside0.mk (show l.length ≤ 1000 by have := (few_len hf).1; omega)
  have HLV := Aside0.mk (show lv.length ≤ 1000 by rw [← hlv, List.length_append]; have := (few_len hf).1; simp only [List.length_cons, List.length_nil]; omega)
  have HLZ := Aside0.mk (show (l ++ [(⟨0, 0, ⟨#[]⟩, false⟩ : S26)]).length ≤ 1000 by rw [List.length_append]; have := (few_len hf).1; simp only [List.length_cons, List.length_nil]; omega)
  have HOZ := Aside0.mk (show okI (l ++ [(⟨0, 0, ⟨#[]⟩, false⟩ : S26)]) from okI_app HO.out (by decide))
  have HOV := Aside0.mk hov
  have HT := Aside0.mk hT
  have HTZ := Aside0.mk (show toldS 5 (l ++ [(⟨0, 0, ⟨#[]⟩, false⟩ : S26)]) = (x, 0) from (told_z (by decide) (by decide) (by have := (few_len hf).1; omega)).trans hT)
  have HTV := Aside0.mk hTz
  have HLL := Aside0.mk hlv
  have HOR := Aside0.mk (show winnowerref06_Order.f z.f0 z.f1 z.f2 z.f3 x.f0 x.f1 x.f2 x.f3 = some r by rw [order_tell z x hsz, hrr])
  clear hsz hrr
  clear hf hT hTz hlv hov
  go_enter Try.func5, Try.ntmps5
  go_wp2_with (first
    | ((with_reducible refine gate_dst (N := 5) rfl ?_); refine box_event ?hg (N := 5) ?hd (cs := (vc v)) (t := 26) ?hr ?_; (case hd => rfl); (case hg => rfl); (case hr => first | (go_simp; done) | (go_simp; rfl)); intro g5 hg w0 hbox hb; have B5 := Aside0.mk hbox; have GEB5 := Aside0.mk ((by rw [hg]; exact (below_size HB.out)) : w.heap.size ≤ g5); have b_HB := Aside0.mk (below_step HB.out hb); clear HB; have HB := b_HB; clear b_HB; clear hbox hg hb)
    | ((with_reducible refine gate_callee (f := 7) rfl ?_); refine goesL_ (some 16) rfl rfl Try.func7 (by kernel_rfl) rfl #[] rfl (by (try simp only [List.map_toArray, List.map_cons, List.map_nil]); first | done | rfl) ?_; go_loud (refine (winnowerlaw18_awake.calls _).mono ?_); rintro e w1 ⟨rfl, hb⟩; refine ⟨_, rfl, ?_⟩; have b_B5 := Aside0.mk (blk_below B5.out hb); have b_HB := Aside0.mk (below_step HB.out hb); clear HB B5; have HB := b_HB; have B5 := b_B5; clear b_HB b_B5; clear hb)
    | ((with_reducible refine gate_callee (f := 8) rfl ?_); refine goesL_ (some 18) rfl rfl Try.func8 (by kernel_rfl) rfl #[.slice A l.length c] rfl (by (try simp only [List.map_toArray, List.map_cons, List.map_nil]); first | done | rfl) ?_; go_loud (refine (winnowerlaw18_few.calls (l.length + 1) A c l true _ (Kd.C_below HR.out HB.out) HC.out HF.out).mono ?_); rintro e w2 ⟨rfl, hd⟩; refine ⟨_, rfl, ?_⟩; have hb := hd.below; clear hd; have b_B5 := Aside0.mk (blk_below B5.out hb); have b_HB := Aside0.mk (below_step HB.out hb); clear HB B5; have HB := b_HB; have B5 := b_B5; clear b_HB b_B5; clear hb; have hv2 : w2.cell? ⟨g5, 2, none⟩ = some (.string v.f2) := (blk_cell B5.out 2).trans rfl)
    | ((with_reducible refine gate_callee (f := 9) rfl ?_); refine goesL_ (some 43) rfl rfl Try.func9 (by kernel_rfl) rfl #[.int .i64 5, .slice A l.length c] rfl (by (try simp only [List.map_toArray, List.map_cons, List.map_nil]); first | done | rfl) ?_; go_loud (refine (winnowerlaw18_told.calls 5 l A c x 0 _ (Kd.C_below HR.out HB.out) HL.out HO.out HT.out).mono ?_); rintro e w3 ⟨rfl, hb⟩; refine ⟨_, rfl, ?_⟩; have b_B5 := Aside0.mk (blk_below B5.out hb); have b_HB := Aside0.mk (below_step HB.out hb); clear HB B5; have HB := b_HB; have B5 := b_B5; clear b_HB b_B5; clear hb; clear hv2)
    | ((with_reducible refine gate_dst (N := 9) rfl ?_); refine box_event ?hg (N := 9) ?hd (cs := #[.int .i64 0, .int .i64 0, .string ⟨#[]⟩, .bool false]) (t := 26) ?hr ?_; (case hd => rfl); (case hg => rfl); (case hr => first | (go_simp; done) | (go_simp; rfl)); intro g9 hg w4 hbox hb; have B9 := Aside0.mk hbox; have GEB9 := Aside0.mk ((by rw [hg]; exact (below_size HB.out)) : w.heap.size ≤ g9); have NB5B9 := Aside0.mk ((by rw [hg]; exact Nat.ne_of_lt (blk_lt B5.out)) : g5 ≠ g9); have b_B5 := Aside0.mk (blk_below B5.out hb); have b_HB := Aside0.mk (below_step HB.out hb); clear HB B5; have HB := b_HB; have B5 := b_B5; clear b_HB b_B5; clear hbox hg hb)
    | ((with_reducible refine gate_ (.store 26 (.tmp 9) (.tmp 44)) rfl ?_); go_loud (refine wpList_storeR rfl rfl 26 (.tmp 9) (.tmp 44) rfl g9 (0) rfl (.agg (vc x)) rfl (vc x).toList rfl #[.int .i64 0, .int .i64 0, .string ⟨#[]⟩, .bool false] 26 B9.out size26 (by simp) (by simp [Value.oneCell']) (vc x) rfl ?_); intro w5 hs st; have b_B5 := Aside0.mk (Step.blk st B5.out (NB5B9.out)); have b_HB := Aside0.mk (Step.fresh st HB.out GEB9.out); clear HB B5; have HB := b_HB; have B5 := b_B5; clear b_HB b_B5; clear B9; have B9 := Aside0.mk hs; clear hs st)
    | ((with_reducible refine gate_builtin (b := .append) (xs := #[.const (.slice none 0 0), .tmp 48]) rfl ?_); at_builtin; go_loud (refine Kd.R_append_rows k26 (w0 := w5) w5.heap.size rfl (.const (.slice none 0 0)) (.tmp 48) 22 26 (.agg #[(.int .i64 0), (.int .i64 0), (.string ⟨#[]⟩), (.bool false)]) 40 rfl Try.underlying22 info26 rfl (by decide) (by omega) (.slice none 0 0) ([] : List S26) l A l.length c (fun _ => True) (fun _ => False) rfl rfl ?aO ?aR (fun _ _ h => h) (fun _ h => h.elim) ?aF ?aB ?aS ?aL ?_); (case aR => exact (Kd.C_below HR.out HB.out)); (case aB => exact Below.refl _ _); (case aF => exact (fun _ _ => trivial)); (case aO => exact Kd.R_nil _ _ _ _ _); (case aS => exact Nat.le_refl _); (case aL => have := HL.out; simp only [List.length_nil]; omega); intro v49 w6 ho hb hg hat; rw [List.nil_append] at ho; have HA := Aside0.mk hb; have HOA := Aside0.mk ho; clear ho hb hg hat)
    | ((with_reducible refine gate_builtin (b := .append) (xs := #[.tmp 49, .tmp 51]) rfl ?_); at_builtin; go_loud (refine Kd.R_append k26 (w0 := w5) w5.heap.size rfl (.tmp 49) (.tmp 51) 22 26 (.agg #[(.int .i64 0), (.int .i64 0), (.string ⟨#[]⟩), (.bool false)]) 40 rfl Try.underlying22 info26 rfl (by decide) (by omega) v49 l (⟨0, 0, ⟨#[]⟩, false⟩ : S26) [.int .i64 0, .int .i64 0, .string ⟨#[]⟩, .bool false] (fun _ => True) (fun _ => False) rfl rfl ?aP (fun _ hk => hk.elim) ?aF ?aO ?aB ?aS ?aL ?_); (case aP => exact k26_mkM _ _ _ _); (case aB => exact HA.out); (case aF => exact (fun _ _ => trivial)); (case aO => exact HOA.out); (case aS => exact HA.out.size); (case aL => have := HL.out; omega); intro v52 w7 ho hb hg hat; have HA_ := Aside0.mk hb; have HOB := Aside0.mk ho; clear HA HOA ho hb hg hat; have HA := HA_; clear HA_; obtain ⟨Ap, cp, ep⟩ := Kd.R_slice HOB.out; subst ep)
    | ((with_reducible refine gate_callee (f := 9) rfl ?_); refine goesL_ (some 53) rfl rfl Try.func9 (by kernel_rfl) rfl #[.int .i64 5, .slice Ap (l ++ [(⟨0, 0, ⟨#[]⟩, false⟩ : S26)]).length cp] rfl (by (try simp only [List.map_toArray, List.map_cons, List.map_nil]); first | done | rfl) ?_; go_loud (refine (winnowerlaw18_told.calls 5 (l ++ [(⟨0, 0, ⟨#[]⟩, false⟩ : S26)]) Ap cp x 0 _ (Kd.R_reads' HOB.out).2.2 HLZ.out HOZ.out HTZ.out).mono ?_); rintro e w8 ⟨rfl, hb⟩; refine ⟨_, rfl, ?_⟩; have b_B5 := Aside0.mk (blk_below (blk_below B5.out HA.out) hb); have b_B9 := Aside0.mk (blk_below (blk_below B9.out HA.out) hb); have b_HB := Aside0.mk (below_step (below_step HB.out HA.out) hb); clear HB B5 B9 HA HOB hb; have HB := b_HB; have B9 := b_B9; have B5 := b_B5; clear b_HB b_B9 b_B5)
    | ((with_reducible refine gate_dst (N := 11) rfl ?_); refine box_event ?hg (N := 11) ?hd (cs := #[.int .i64 0, .int .i64 0, .string ⟨#[]⟩, .bool false]) (t := 26) ?hr ?_; (case hd => rfl); (case hg => rfl); (case hr => first | (go_simp; done) | (go_simp; rfl)); intro g11 hg w9 hbox hb; have B11 := Aside0.mk hbox; have GEB11 := Aside0.mk ((by rw [hg]; exact (below_size HB.out)) : w.heap.size ≤ g11); have NB5B11 := Aside0.mk ((by rw [hg]; exact Nat.ne_of_lt (blk_lt B5.out)) : g5 ≠ g11); have NB9B11 := Aside0.mk ((by rw [hg]; exact Nat.ne_of_lt (blk_lt B9.out)) : g9 ≠ g11); have b_B5 := Aside0.mk (blk_below B5.out hb); have b_B9 := Aside0.mk (blk_below B9.out hb); have b_HB := Aside0.mk (below_step HB.out hb); clear HB B5 B9; have HB := b_HB; have B5 := b_B5; have B9 := b_B9; clear b_HB b_B5 b_B9; clear hbox hg hb)
    | ((with_reducible refine gate_ (.store 26 (.tmp 11) (.tmp 54)) rfl ?_); go_loud (refine wpList_storeR rfl rfl 26 (.tmp 11) (.tmp 54) rfl g11 (0) rfl (.agg (vc x)) rfl (vc x).toList rfl #[.int .i64 0, .int .i64 0, .string ⟨#[]⟩, .bool false] 26 B11.out size26 (by simp) (by simp [Value.oneCell']) (vc x) rfl ?_); intro w10 hs st; have b_B5 := Aside0.mk (Step.blk st B5.out (NB5B11.out)); have b_B9 := Aside0.mk (Step.blk st B9.out (NB9B11.out)); have b_HB := Aside0.mk (Step.fresh st HB.out GEB11.out); clear HB B5 B9; have HB := b_HB; have B5 := b_B5; have B9 := b_B9; clear b_HB b_B5 b_B9; clear B11; have B11 := Aside0.mk hs; clear hs st))
  refine AggMore.reg7 5 g5 v l A c 0 z lv w10 B5.out (Kd.C_below HR.out HB.out) HL.out HLL.out HLV.out HOV.out HTV.out _ (fun c a d u w h => by cases d <;> exact h) ?_
  intro y59 y61 y62 g13 w11 hb ge hB13
  have B13 := Aside0.mk hB13
  have NE9 := Aside0.mk (show g9 ≠ g13 from Nat.ne_of_lt (Nat.lt_of_lt_of_le (blk_lt B9.out) ge))
  have b_B5 := Aside0.mk (blk_below B5.out hb)
  have b_B9 := Aside0.mk (blk_below B9.out hb)
  have b_B11 := Aside0.mk (blk_below B11.out hb)
  have b_HB := Aside0.mk (below_step HB.out hb)
  clear HB B5 B9 B11 hb hB13 ge
  have HB := b_HB
  have B9 := b_B9
  have B11 := b_B11
  have B5 := b_B5
  clear b_HB b_B9 b_B5 b_B11
  have hx0 : w11.cell? ⟨g9, 0, none⟩ = some (.int .i64 x.f0) := (blk_cell B9.out 0).trans rfl
  have hx1 : w11.cell? ⟨g9, 1, none⟩ = some (.int .i64 x.f1) := (blk_cell B9.out 1).trans rfl
  have hx2 : w11.cell? ⟨g9, 2, none⟩ = some (.string x.f2) := (blk_cell B9.out 2).trans rfl
  have hx3 : w11.cell? ⟨g9, 3, none⟩ = some (.bool x.f3) := (blk_cell B9.out 3).trans rfl
  have hz0 : w11.cell? ⟨g13, 0, none⟩ = some (.int .i64 z.f0) := (blk_cell B13.out 0).trans rfl
  have hz1 : w11.cell? ⟨g13, 1, none⟩ = some (.int .i64 z.f1) := (blk_cell B13.out 1).trans rfl
  have hz2 : w11.cell? ⟨g13, 2, none⟩ = some (.string z.f2) := (blk_cell B13.out 2).trans rfl
  have hz3 : w11.cell? ⟨g13, 3, none⟩ = some (.bool z.f3) := (blk_cell B13.out 3).trans rfl
  go_wp2_with (first
    | ((with_reducible refine gate_dst (N := 66) rfl ?_); go_loud (refine wpList_load_row rfl 26 (.tmp 9) rfl g9 rfl 26 (vc x) (0, 0) _ B9.out Try.underlying26 rfl size26 ?_))
    | ((with_reducible refine gate_dst (N := 67) rfl ?_); go_loud (refine wpList_load_row rfl 26 (.tmp 11) rfl g11 rfl 26 (vc x) (0, 0) _ B11.out Try.underlying26 rfl size26 ?_))
    | ((with_reducible refine gate_dst (N := 91) rfl ?_); go_loud (refine wpList_load_row rfl 26 (.tmp 13) rfl g13 rfl 26 (vc z) (0, 0) _ B13.out Try.underlying26 rfl size26 ?_))
    | ((with_reducible refine gate_dst (N := 92) rfl ?_); go_loud (refine wpList_load_row rfl 26 (.tmp 9) rfl g9 rfl 26 (vc x) (0, 0) _ B9.out Try.underlying26 rfl size26 ?_))
    | ((with_reducible refine gate_callee (f := 12) rfl ?_); refine goesL_ (some 93) rfl rfl Try.func12 (by kernel_rfl) rfl #[.agg (vc z), .agg (vc x)] rfl (by (try simp only [List.map_toArray, List.map_cons, List.map_nil]); first | done | rfl) ?_; go_loud (refine (winnowerref06_Order.calls z.f0 z.f1 z.f2 z.f3 x.f0 x.f1 x.f2 x.f3 r _ HOR.out).mono ?_); rintro e w12 ⟨rfl, hb⟩; refine ⟨_, rfl, ?_⟩; clear hx0 hx1 hx2 hx3 hz0 hz1 hz2 hz3; have b_B9 := Aside0.mk (blk_below B9.out hb); have b_B13 := Aside0.mk (blk_below B13.out hb); have b_HB := Aside0.mk (below_step HB.out hb); clear HB B9 B13 hb; have HB := b_HB; have B9 := b_B9; have B13 := b_B13; clear b_HB b_B9 b_B13; have hx0 : w12.cell? ⟨g9, 0, none⟩ = some (.int .i64 x.f0) := (blk_cell B9.out 0).trans rfl; have hx1 : w12.cell? ⟨g9, 1, none⟩ = some (.int .i64 x.f1) := (blk_cell B9.out 1).trans rfl; have hx2 : w12.cell? ⟨g9, 2, none⟩ = some (.string x.f2) := (blk_cell B9.out 2).trans rfl; have hx3 : w12.cell? ⟨g9, 3, none⟩ = some (.bool x.f3) := (blk_cell B9.out 3).trans rfl; have hz0 : w12.cell? ⟨g13, 0, none⟩ = some (.int .i64 z.f0) := (blk_cell B13.out 0).trans rfl; have hz1 : w12.cell? ⟨g13, 1, none⟩ = some (.int .i64 z.f1) := (blk_cell B13.out 1).trans rfl; have hz2 : w12.cell? ⟨g13, 2, none⟩ = some (.string z.f2) := (blk_cell B13.out 2).trans rfl; have hz3 : w12.cell? ⟨g13, 3, none⟩ = some (.bool z.f3) := (blk_cell B13.out 3).trans rfl))
  go_ret
  exact ⟨rfl, HB.out⟩
theorem winnowerlaw18_AggMore.calls (fn : Int) (l : List S26) (A : Option Addr) (c : Nat) (v : S26) (w : World) (hr : Kd.C k26 w A l.length l) (hc : l.length ≤ c) (ho : okI l) (hv : -9223372036854775808 ≤ v.f1 ∧ v.f1 ≤ 9223372036854775807) :
    Calls Try.prog 5 #[.int .i64 fn, .slice A l.length c, .agg (vc v)] w fun e w' => e = .returned (.bool true) ∧ Below w.heap.size w w' := by
  cases hf : fewS l with
  | false => exact winnowerlaw18_AggMore.no_ fn l A c v w hr hc ho hf
  | true =>
    by_cases hs : 300 < v.f2.size
    · exact winnowerlaw18_AggMore.long_ fn l A c v w hr hc ho hf (decide_eq_true (by omega)) (decide_eq_true hs)
    have q0 : decide ((300 : Int) < (v.f2.size : Int)) = false := decide_eq_false (by omega)
    have q0n : decide (300 < v.f2.size) = false := decide_eq_false hs
    by_cases h1 : fn < 1
    · exact winnowerlaw18_AggMore.bad1 fn l A c v w hr hc ho hf q0 q0n (decide_eq_true h1)
    by_cases h2 : 6 ≤ fn
    · exact winnowerlaw18_AggMore.bad2 fn l A c v w hr hc ho hf q0 q0n (decide_eq_false h1) (decide_eq_true h2)
    have hl := (few_len hf).1
    have hov : okI (l ++ [v]) := okI_app ho hv
    have f1 : 1 ≤ fn := by omega
    have f2 : fn < 6 := by omega
    obtain ⟨x, e, hx⟩ : ∃ x e, toldS fn l = (x, e) := ⟨_, _, rfl⟩
    obtain ⟨z, g, hz⟩ : ∃ z g, toldS fn (l ++ [v]) = (z, g) := ⟨_, _, rfl⟩
    have he : e = 0 ∨ e = 10 := by
      have h := told_err f1 f2 (l := l) (by omega)
      rw [hx] at h
      exact h
    rcases he with rfl | rfl
    · by_cases hg : g = 0
      · subst hg
        by_cases hk : x.f0 = 0
        · exact winnowerlaw18_AggMore.null fn l A c v w hr hc ho hf q0 q0n f1 f2 x z hx _ rfl hz hov (beq_iff_eq.mpr hk) (decide_eq_true hk)
        · have hsz : z.f2.size ≤ 9223372036854775807 := told_size f1 f2 (by rw [List.length_append]; simp only [List.length_cons, List.length_nil]; omega) (by
            intro y hy
            rw [List.mem_append, List.mem_singleton] at hy
            rcases hy with hy | rfl
            · exact (few_len hf).2 y hy
            · omega) hz
          have q3 : (x.f0 == 0) = false := beq_eq_false_iff_ne.mpr hk
          have q4 : decide (x.f0 = 0) = false := decide_eq_false hk
          have hfn : fn = 1 ∨ fn = 2 ∨ fn = 3 ∨ fn = 4 ∨ fn = 5 := by omega
          rcases hfn with rfl | rfl | rfl | rfl | rfl
          · obtain ⟨m1, m2, m3⟩ := more_1 (by omega) v x z hx hz
            have m2 : wrap64 (z.f1 - x.f1) ≤ 1 := by rw [wrapI (by omega) (by omega)]; exact m2
            exact winnowerlaw18_AggMore.c1 l A c v w hr hc ho hf q0 q0n x z hx _ rfl hz hov q3 q4 hsz _ rfl (decide_eq_true m1) (decide_eq_true m2) (decide_eq_true (by rw [i64_w]; exact m2))
          · exact winnowerlaw18_AggMore.c2 l A c v w hr hc ho hf q0 q0n x z hx _ rfl hz hov q3 q4 hsz _ rfl
          · exact winnowerlaw18_AggMore.c3 l A c v w hr hc ho hf q0 q0n x z hx _ rfl hz hov q3 q4 hsz _ rfl (decide_eq_true (more_3 (by omega) v x z hx hz hk))
          · exact winnowerlaw18_AggMore.c4 l A c v w hr hc ho hf q0 q0n x z hx _ rfl hz hov q3 q4 hsz _ rfl (decide_eq_true (more_4 (by omega) v x z hx hz hk))
          · obtain ⟨m1, m2, m3⟩ := more_5 (by omega) v x z hx hz
            have m2 : wrap64 (z.f1 - x.f1) ≤ 1 := by rw [wrapI (by omega) (by omega)]; exact m2
            exact winnowerlaw18_AggMore.c5 l A c v w hr hc ho hf q0 q0n x z hx _ rfl hz hov q3 q4 hsz _ rfl (decide_eq_true m1) (decide_eq_true m2) (decide_eq_true (by rw [i64_w]; exact m2))
      · exact winnowerlaw18_AggMore.gbad fn l A c v w hr hc ho hf q0 q0n f1 f2 x z g hx _ rfl hz hov (beq_eq_false_iff_ne.mpr hg) (bne_iff_ne.mpr hg) (decide_eq_false hg)
    · exact winnowerlaw18_AggMore.over fn l A c v w hr hc ho hf q0 q0n f1 f2 x z g hx _ rfl hz hov

end Go.Proofs.Ytgjmpancofjjbaa.Q
