/- Chapter 18, part 6: what joining aggregates does, a function each; the ranges over their maps. -/
import Derived.Laws.Rows
import Derived.Deep.MidRow
import Derived.Deep.WholeRow
import Derived.Deep.RegionHeld3
import Derived.Deep.RegionLaw
import Derived.Test.YtgjmpancofjjbaaHstep
import Derived.Test.YtgjmpancofjjbaaHlate
import Derived.Test.YtgjmpancofjjbaaHmapint
import Derived.Test.YtgjmpancofjjbaaHnum
import Derived.Test.YtgjmpancofjjbaaHval
import Derived.Test.YtgjmpancofjjbaaHvalord
import Derived.Test.YtgjmpancofjjbaaHagg18
import Derived.Test.YtgjmpancofjjbaaHagg18p
import Derived.Maps.RangeRun
import Derived.Maps.RangeWalk
import Derived.Test.YtgjmpancofjjbaaQx0
import Derived.Test.YtgjmpancofjjbaaQx4
import Derived.Test.YtgjmpancofjjbaaQx5
namespace Go.Proofs.Ytgjmpancofjjbaa.Q
open Go.RowKit Go.Proofs.YtgjmpancofjjbaaW.PrintWords Go.Proofs.YtgjmpancofjjbaaW.PrintLast Go.Proofs.YtgjmpancofjjbaaW.PrintMore
attribute [local go_sem] max2_int min2_int max_two min_two max_three min_three max_four min_four   -- for this text's walks alone
set_option linter.unusedVariables false
set_option linter.unusedSimpArgs false

-- SAYS Chapter 18, part 6: what joining aggregates does, a function each; the ranges over their maps.
-- FUNCS winnower/winnowerlaw18.few
-- NEEDS winnowerlaw18_few.calls
-- IMPORT Derived.Laws.Rows
-- IMPORT Derived.Deep.MidRow
-- IMPORT Derived.Deep.WholeRow
-- IMPORT Derived.Deep.RegionHeld3
-- IMPORT Derived.Deep.RegionLaw
-- IMPORT Derived.Test.YtgjmpancofjjbaaHstep
-- IMPORT Derived.Test.YtgjmpancofjjbaaHlate
-- IMPORT Derived.Test.YtgjmpancofjjbaaHmapint
-- IMPORT Derived.Test.YtgjmpancofjjbaaHnum
-- IMPORT Derived.Test.YtgjmpancofjjbaaHval
-- IMPORT Derived.Test.YtgjmpancofjjbaaHvalord
-- IMPORT Derived.Test.YtgjmpancofjjbaaHagg18
-- IMPORT Derived.Test.YtgjmpancofjjbaaHagg18p
-- IMPORT Derived.Maps.RangeRun
-- IMPORT Derived.Maps.RangeWalk
open Go.Proofs.Ytgjmpancofjjbaa.Hlate Go.Proofs.Ytgjmpancofjjbaa.Hstep Go.Proofs.Ytgjmpancofjjbaa.Hmapint Go.Proofs.Ytgjmpancofjjbaa.Hnum Go.Proofs.Ytgjmpancofjjbaa.Hval
attribute [local go_sem high] eqV_
set_option maxHeartbeats 8000000
set_option maxRecDepth 100000
theorem own_ne2 {fn gn : Int} (h1 : fn ≠ 2) (h2 : gn ≠ 2) (l : List S26) : ownS fn l = ownS gn l := by
  unfold ownS own1
  rw [decide_eq_true h1, decide_eq_true h2]
theorem own_kind {fn : Int} {l : List S26} {x : S26} (h : x ∈ ownS fn l) : x ∈ l ∧ mv x = true ∧ x.f0 ≠ 0 := by
  unfold ownS at h
  rw [List.mem_filter] at h
  obtain ⟨h1, h2⟩ := h
  unfold own1 at h2
  rw [Bool.and_eq_true, Bool.and_eq_true, decide_eq_true_eq] at h2
  exact ⟨h1, h2.1, h2.2.1⟩
theorem addV_grow (l : List S26) (v : S26) : l.length ≤ (addV l v).length := by
  unfold addV
  split
  · rw [List.length_append]; omega
  · omega
theorem foldV_len : ∀ (l acc : List S26), (l.foldl addV acc).length ≤ acc.length + l.length
  | [], acc => by simp
  | x :: t, acc => by
    have h1 := foldV_len t (addV acc x)
    have h2 := addV_len acc x
    rw [List.foldl_cons]
    simp only [List.length_cons]
    omega
theorem foldV_grow : ∀ (l acc : List S26), acc.length ≤ (l.foldl addV acc).length
  | [], acc => by simp
  | x :: t, acc => by
    have h1 := foldV_grow t (addV acc x)
    have h2 := addV_grow acc x
    rw [List.foldl_cons]
    omega
theorem addV_nil (x : S26) : addV [] x = [x] := rfl
theorem foldV_one (x : S26) (t : List S26) : 1 ≤ ((x :: t).foldl addV []).length := by
  rw [List.foldl_cons, addV_nil]
  exact foldV_grow t [x]
theorem addV_mem {l : List S26} {v : S26} (h : v ∈ l) : addV l v = l := by
  unfold addV
  cases hf : findV v l 0 with
  | none => exact absurd h (findV_none.1 hf)
  | some j => rfl
theorem mem_addV (l : List S26) (v : S26) : v ∈ addV l v := by
  unfold addV
  cases hf : findV v l 0 with
  | none => rw [if_pos (by rfl)]; exact List.mem_append_right _ (List.mem_cons_self ..)
  | some j =>
    rw [if_neg (by simp)]
    obtain ⟨_, h⟩ := findV_some hf
    exact List.mem_of_getElem? h
theorem sub_addV {l : List S26} {u : S26} (v : S26) (h : u ∈ l) : u ∈ addV l v := by
  unfold addV
  split
  · exact List.mem_append_left _ h
  · exact h
theorem three_two (p : S26 → Bool) (a b : S26) : (([a, b, a].filter p).foldl addV []).length ≤ 2 := by
  cases hp : p a with
  | false =>
    have := foldV_len ([a, b, a].filter p) []
    have hl : ([a, b, a].filter p).length ≤ 1 := by
      simp only [List.filter_cons, hp, List.filter_nil, Bool.false_eq_true, if_false]
      split <;> simp
    simp only [List.length_nil] at this
    omega
  | true =>
    cases hq : p b with
    | false =>
      have := foldV_len ([a, b, a].filter p) []
      have hl : ([a, b, a].filter p).length ≤ 2 := by
        simp [List.filter_cons, hp, hq]
      simp only [List.length_nil] at this
      omega
    | true =>
      have e : [a, b, a].filter p = [a, b, a] := by simp [List.filter_cons, hp, hq]
      rw [e, List.foldl_cons, List.foldl_cons, List.foldl_cons, List.foldl_nil, addV_nil]
      rw [addV_mem (sub_addV b (List.mem_cons_self ..))]
      exact addV_len [a] b
theorem pick_mem (fn : Int) : ∀ (t : List S26) (b : S26), t.foldl (pick fn) b = b ∨ t.foldl (pick fn) b ∈ t
  | [], b => .inl rfl
  | x :: t, b => by
    rw [List.foldl_cons]
    have hp : pick fn b x = x ∨ pick fn b x = b := by unfold pick; split <;> simp
    rcases pick_mem fn t (pick fn b x) with h | h
    · rw [h]
      rcases hp with hp | hp
      · rw [hp]; exact .inr (List.mem_cons_self ..)
      · rw [hp]; exact .inl rfl
    · exact .inr (List.mem_cons_of_mem _ h)
theorem best_mem (fn : Int) {l : List S26} (h : l ≠ []) : bestS fn l ∈ l := by
  cases l with
  | nil => exact absurd rfl h
  | cons x t =>
    rcases pick_mem fn t x with h | h
    · show t.foldl (pick fn) x ∈ _
      rw [h]; exact List.mem_cons_self ..
    · exact List.mem_cons_of_mem _ h
theorem told_1 {l : List S26} (hl : l.length ≤ 1000) : toldS 1 l = (num26 (ownS 1 l).length, 0) := by rw [toldS_own (by decide) (by decide) hl, if_pos rfl]
theorem told_2 {l : List S26} (hl : l.length ≤ 1000) : toldS 2 l = if (ownS 2 l).length = 0 then (z26, 0) else if inR (tsum ((ownS 2 l).map (·.f1))) then (num26 (tsum ((ownS 2 l).map (·.f1))), 0) else (z26, 10) := by rw [toldS_own (by decide) (by decide) hl, if_neg (by decide), if_pos rfl]
theorem told_3 {l : List S26} (hl : l.length ≤ 1000) : toldS 3 l = (bestS 3 (ownS 1 l), 0) := by rw [toldS_own (by decide) (by decide) hl, if_neg (by decide), if_neg (by decide), if_pos rfl, own_ne2 (gn := 1) (by decide) (by decide)]
theorem told_4 {l : List S26} (hl : l.length ≤ 1000) : toldS 4 l = (bestS 4 (ownS 1 l), 0) := by rw [toldS_own (by decide) (by decide) hl, if_neg (by decide), if_neg (by decide), if_neg (by decide), if_pos rfl, own_ne2 (gn := 1) (by decide) (by decide)]
theorem told_5 {l : List S26} (hl : l.length ≤ 1000) : toldS 5 l = (num26 ((ownS 1 l).foldl addV []).length, 0) := by rw [toldS_own (by decide) (by decide) hl, if_neg (by decide), if_neg (by decide), if_neg (by decide), if_neg (by decide), own_ne2 (gn := 1) (by decide) (by decide)]
theorem told_three (a b : S26) : ∃ d : Nat, toldS 5 [a, b, a] = (num26 d, 0) ∧ d ≤ 2 := by
  refine ⟨_, told_5 (by simp), ?_⟩
  exact three_two (own1 1) a b
theorem own2_app (l : List S26) (n : Int) : ownS 2 (l ++ [num26 n]) = ownS 2 l ++ [num26 n] := by
  unfold ownS
  rw [List.filter_append]
  congr 1
  have : own1 2 (num26 n) = true := by
    unfold own1 mv_ num26 V.may
    simp
  rw [List.filter_cons, if_pos this, List.filter_nil]
/-- One more number is one more of the sum. -/
theorem sum_more {l : List S26} (hl : l.length ≤ 999) (n : Int) {a b : S26} {y : Int} (ha : toldS 2 l = (a, 0)) (hb : toldS 2 (l ++ [num26 n]) = (b, y)) (hy : y = 0) : b.f0 = 1 ∧ b.f1 = a.f1 + n ∧ inR b.f1 := by
  subst hy
  rw [told_2 (by omega)] at ha
  rw [told_2 (by rw [List.length_append]; simp only [List.length_cons, List.length_nil]; omega), own2_app, if_neg (by simp), List.map_append, tsum_app] at hb
  have e : tsum (List.map (·.f1) [num26 n]) = n := by show n + 0 = n; omega
  rw [e] at hb
  have hs : a.f1 = tsum ((ownS 2 l).map (·.f1)) := by
    by_cases h0 : (ownS 2 l).length = 0
    · rw [if_pos h0] at ha
      obtain ⟨rfl, _⟩ := Prod.mk.inj ha
      rw [List.eq_nil_of_length_eq_zero h0]
      rfl
    · rw [if_neg h0] at ha
      by_cases hr : inR (tsum ((ownS 2 l).map (·.f1)))
      · rw [if_pos hr] at ha
        obtain ⟨rfl, _⟩ := Prod.mk.inj ha
        rfl
      · rw [if_neg hr] at ha
        exact absurd (Prod.mk.inj ha).2 (by decide)
  by_cases hr : inR (tsum ((ownS 2 l).map (·.f1)) + n)
  · rw [if_pos hr] at hb
    obtain ⟨rfl, _⟩ := Prod.mk.inj hb
    exact ⟨rfl, by rw [hs]; rfl, hr⟩
  · rw [if_neg hr] at hb
    exact absurd (Prod.mk.inj hb).2 (by decide)
theorem agg_joinCount.calls (g m h k : Nat) (s t : Acc18) (w : World) (hg : w.heap[g]? = some (.cells (acells s m) 52 (0, 0))) (hh : w.heap[h]? = some (.cells (acells t k) 52 (0, 0))) :
    Calls Try.prog 28 #[.pointer (some ⟨g, 0, none⟩), .pointer (some ⟨h, 0, none⟩)] w fun e w' => e = .returned (.tuple #[]) ∧ Step g w w' ∧ w'.heap[g]? = some (.cells (acells { s with n := wrap64 (s.n + t.n) } m) 52 (0, 0)) := by
  have BG := Aside0.mk hg
  have hu52 := Try.underlying52
  have hu3 := Try.underlying3
  have ha1 : w.cell? ⟨g, 1, none⟩ = some (.int .i64 s.n) := (blk_cell hg 1).trans rfl
  have hb1 : w.cell? ⟨h, 1, none⟩ = some (.int .i64 t.n) := (blk_cell hh 1).trans rfl
  have fz1 := blk_frozen hg 1
  clear hg hh
  go_enter Try.func28, Try.ntmps28
  go_region_law (fail)
  all_goals go_wp2
  all_goals go_end0
  all_goals
    have ew : wrap64 (s.n + t.n) = IntKind.i64.wrap (s.n + t.n) := (i64_w (s.n + t.n)).symm
    rw [ew]
    unfold acells
    dsimp only
    generalize IntKind.i64.wrap (s.n + t.n) = nn_
    have h_ := blk_set (w := w) BG.out 1 (.int .i64 nn_)
    simp only [List.setIfInBounds_toArray, List.set_cons_zero, List.set_cons_succ] at h_
    first
      | exact ⟨rfl, ((Step.refl g w).drew).set_ 1 _, h_⟩
      | exact ⟨rfl, ((Step.refl g w).set_ 1 _).drew, h_⟩
theorem agg_joinSum.calls (g m h k : Nat) (s t : Acc18) (w : World) (hg : w.heap[g]? = some (.cells (acells s m) 52 (0, 0))) (hh : w.heap[h]? = some (.cells (acells t k) 52 (0, 0))) :
    Calls Try.prog 34 #[.pointer (some ⟨g, 0, none⟩), .pointer (some ⟨h, 0, none⟩)] w fun e w' => e = .returned (.tuple #[]) ∧ Step g w w' ∧ w'.heap[g]? = some (.cells (acells { s with n := wrap64 (s.n + t.n), tot := s.tot + t.tot } m) 52 (0, 0)) := by
  have BG := Aside0.mk (show w.drew.heap[g]? = some (.cells (acells s m) 52 (0, 0)) from hg)
  have BH := Aside0.mk (show w.drew.heap[h]? = some (.cells (acells t k) 52 (0, 0)) from hh)
  have HB := Aside0.mk (below_drew1 (Below.refl w.heap.size w))
  have hu52 := Try.underlying52
  have hu50 := Try.underlying50
  clear hg hh
  go_enter Try.func34, Try.ntmps34
  refine wp_region_late 22 (fun W : World => W.cell? ⟨g, 1, none⟩ = some (.int .i64 s.n) ∧ W.cell? ⟨g, 2, none⟩ = some (.int .u64 (hiW s.tot)) ∧ W.cell? ⟨g, 3, none⟩ = some (.int .u64 (loW s.tot)) ∧ W.cell? ⟨h, 1, none⟩ = some (.int .i64 t.n) ∧ W.cell? ⟨h, 2, none⟩ = some (.int .u64 (hiW t.tot)) ∧ W.cell? ⟨h, 3, none⟩ = some (.int .u64 (loW t.tot))) (by kernel_rfl) ?_
  have HS : (fun W : World => W.cell? ⟨g, 1, none⟩ = some (.int .i64 s.n) ∧ W.cell? ⟨g, 2, none⟩ = some (.int .u64 (hiW s.tot)) ∧ W.cell? ⟨g, 3, none⟩ = some (.int .u64 (loW s.tot)) ∧ W.cell? ⟨h, 1, none⟩ = some (.int .i64 t.n) ∧ W.cell? ⟨h, 2, none⟩ = some (.int .u64 (hiW t.tot)) ∧ W.cell? ⟨h, 3, none⟩ = some (.int .u64 (loW t.tot))) w.drew := ⟨(blk_cell BG.out 1).trans rfl, (blk_cell BG.out 2).trans rfl, (blk_cell BG.out 3).trans rfl, (blk_cell BH.out 1).trans rfl, (blk_cell BH.out 2).trans rfl, (blk_cell BH.out 3).trans rfl⟩
  refine wpAnyT_take (i := 0) (oi := ({ dst := some 4, op := Op.move (Operand.tmp 0), type := 35, pos := "agg.go:99", after := #[], guard := none } : Oper)) (v := ?_) rfl (by kernel_rfl) (by kernel_rfl) (by kernel_rfl) (by kernel_rfl) (by kernel_rfl) (fun _ _ _ h => h) (Or.inl ⟨by rfl, ?_⟩) (fun _ => HS) ?_
  rotate_left
  · intro w_ _; go_simp; (try (with_reducible rfl))
  (try simp only [Act.put, List.setIfInBounds_toArray, List.set_cons_zero, List.set_cons_succ])
  refine wpAnyT_take (i := 1) (oi := ({ dst := some 5, op := Op.move (Operand.tmp 0), type := 35, pos := "agg.go:99", after := #[{ on := 22, ground := Ground.gcOnly Departure.lateStores }], guard := none } : Oper)) (v := ?_) rfl (by kernel_rfl) (by kernel_rfl) (by kernel_rfl) (by kernel_rfl) (by kernel_rfl) (fun _ _ _ h => h) (Or.inl ⟨by rfl, ?_⟩) (fun _ => HS) ?_
  rotate_left
  · intro w_ _; go_simp; (try (with_reducible rfl))
  (try simp only [Act.put, List.setIfInBounds_toArray, List.set_cons_zero, List.set_cons_succ])
  refine wpAnyT_take (i := 2) (oi := ({ dst := some 6, op := Op.move (Operand.tmp 0), type := 35, pos := "agg.go:99", after := #[], guard := none } : Oper)) (v := ?_) rfl (by kernel_rfl) (by kernel_rfl) (by kernel_rfl) (by kernel_rfl) (by kernel_rfl) (fun _ _ _ h => h) (Or.inl ⟨by rfl, ?_⟩) (fun _ => HS) ?_
  rotate_left
  · intro w_ _; go_simp; (try (with_reducible rfl))
  (try simp only [Act.put, List.setIfInBounds_toArray, List.set_cons_zero, List.set_cons_succ])
  refine wpAnyT_take (i := 3) (oi := ({ dst := some 7, op := Op.nilCheck (Operand.tmp 6), type := 0, pos := "agg.go:99", after := #[{ on := 2, ground := Ground.data }], guard := none } : Oper)) (v := ?_) rfl (by kernel_rfl) (by kernel_rfl) (by kernel_rfl) (by kernel_rfl) (by kernel_rfl) (fun _ _ _ h => h) (Or.inl ⟨by rfl, ?_⟩) (fun _ => HS) ?_
  rotate_left
  · intro w_ _; go_simp; (try (with_reducible rfl))
  (try simp only [Act.put, List.setIfInBounds_toArray, List.set_cons_zero, List.set_cons_succ])
  refine wpAnyT_take (i := 4) (oi := ({ dst := some 8, op := Op.fieldAddr 52 (Operand.tmp 7) 1, type := 0, pos := "agg.go:99", after := #[{ on := 3, ground := Ground.data }], guard := none } : Oper)) (v := ?_) rfl (by kernel_rfl) (by kernel_rfl) (by kernel_rfl) (by kernel_rfl) (by kernel_rfl) (fun _ _ _ h => h) (Or.inl ⟨by rfl, ?_⟩) (fun _ => HS) ?_
  rotate_left
  · intro w_ _; go_simp; (try (with_reducible rfl))
  (try simp only [Act.put, List.setIfInBounds_toArray, List.set_cons_zero, List.set_cons_succ])
  refine wpAnyT_load (i := 5) (oi := ({ dst := some 9, op := Op.load 3 (Operand.tmp 8), type := 3, pos := "agg.go:99", after := #[{ on := 4, ground := Ground.data }], guard := none } : Oper)) (v := ?_) rfl (by kernel_rfl) (by kernel_rfl) (by kernel_rfl) (by kernel_rfl) (by kernel_rfl) [22] (by kernel_rfl) rfl (fun _ _ _ h => h) (Or.inl ⟨by rfl, ?_⟩) (fun _ => HS) ?_
  rotate_left
  · intro w_ hS_; obtain ⟨s0_, s1_, s2_, s3_, s4_, s5_⟩ := hS_; go_simp; (try (with_reducible rfl))
  (try simp only [Act.put, List.setIfInBounds_toArray, List.set_cons_zero, List.set_cons_succ])
  refine wpAnyT_take (i := 6) (oi := ({ dst := some 10, op := Op.move (Operand.tmp 1), type := 35, pos := "agg.go:99", after := #[], guard := none } : Oper)) (v := ?_) rfl (by kernel_rfl) (by kernel_rfl) (by kernel_rfl) (by kernel_rfl) (by kernel_rfl) (fun _ _ _ h => h) (Or.inl ⟨by rfl, ?_⟩) (fun _ => HS) ?_
  rotate_left
  · intro w_ _; go_simp; (try (with_reducible rfl))
  (try simp only [Act.put, List.setIfInBounds_toArray, List.set_cons_zero, List.set_cons_succ])
  refine wpAnyT_take (i := 7) (oi := ({ dst := some 11, op := Op.nilCheck (Operand.tmp 10), type := 0, pos := "agg.go:99", after := #[{ on := 6, ground := Ground.data }], guard := none } : Oper)) (v := ?_) rfl (by kernel_rfl) (by kernel_rfl) (by kernel_rfl) (by kernel_rfl) (by kernel_rfl) (fun _ _ _ h => h) (Or.inl ⟨by rfl, ?_⟩) (fun _ => HS) ?_
  rotate_left
  · intro w_ _; go_simp; (try (with_reducible rfl))
  (try simp only [Act.put, List.setIfInBounds_toArray, List.set_cons_zero, List.set_cons_succ])
  refine wpAnyT_take (i := 8) (oi := ({ dst := some 12, op := Op.fieldAddr 52 (Operand.tmp 11) 1, type := 0, pos := "agg.go:99", after := #[{ on := 7, ground := Ground.data }], guard := none } : Oper)) (v := ?_) rfl (by kernel_rfl) (by kernel_rfl) (by kernel_rfl) (by kernel_rfl) (by kernel_rfl) (fun _ _ _ h => h) (Or.inl ⟨by rfl, ?_⟩) (fun _ => HS) ?_
  rotate_left
  · intro w_ _; go_simp; (try (with_reducible rfl))
  (try simp only [Act.put, List.setIfInBounds_toArray, List.set_cons_zero, List.set_cons_succ])
  refine wpAnyT_load (i := 9) (oi := ({ dst := some 13, op := Op.load 3 (Operand.tmp 12), type := 3, pos := "agg.go:99", after := #[{ on := 8, ground := Ground.data }], guard := none } : Oper)) (v := ?_) rfl (by kernel_rfl) (by kernel_rfl) (by kernel_rfl) (by kernel_rfl) (by kernel_rfl) [22] (by kernel_rfl) rfl (fun _ _ _ h => h) (Or.inl ⟨by rfl, ?_⟩) (fun _ => HS) ?_
  rotate_left
  · intro w_ hS_; obtain ⟨s0_, s1_, s2_, s3_, s4_, s5_⟩ := hS_; go_simp; (try (with_reducible rfl))
  (try simp only [Act.put, List.setIfInBounds_toArray, List.set_cons_zero, List.set_cons_succ])
  refine wpAnyT_take (i := 10) (oi := ({ dst := some 14, op := Op.binOp BinOp.add 3 (Operand.tmp 9) (Operand.tmp 13) 3, type := 3, pos := "agg.go:99", after := #[{ on := 5, ground := Ground.data }, { on := 9, ground := Ground.data }], guard := none } : Oper)) (v := ?_) rfl (by kernel_rfl) (by kernel_rfl) (by kernel_rfl) (by kernel_rfl) (by kernel_rfl) (fun _ _ _ h => h) (Or.inl ⟨by rfl, ?_⟩) (fun _ => HS) ?_
  rotate_left
  · intro w_ _; go_simp; (try (with_reducible rfl))
  (try simp only [Act.put, List.setIfInBounds_toArray, List.set_cons_zero, List.set_cons_succ])
  refine wpAnyT_take (i := 11) (oi := ({ dst := some 15, op := Op.move (Operand.tmp 0), type := 35, pos := "agg.go:99", after := #[], guard := none } : Oper)) (v := ?_) rfl (by kernel_rfl) (by kernel_rfl) (by kernel_rfl) (by kernel_rfl) (by kernel_rfl) (fun _ _ _ h => h) (Or.inl ⟨by rfl, ?_⟩) (fun _ => HS) ?_
  rotate_left
  · intro w_ _; go_simp; (try (with_reducible rfl))
  (try simp only [Act.put, List.setIfInBounds_toArray, List.set_cons_zero, List.set_cons_succ])
  refine wpAnyT_take (i := 12) (oi := ({ dst := some 16, op := Op.nilCheck (Operand.tmp 15), type := 0, pos := "agg.go:99", after := #[{ on := 11, ground := Ground.data }], guard := none } : Oper)) (v := ?_) rfl (by kernel_rfl) (by kernel_rfl) (by kernel_rfl) (by kernel_rfl) (by kernel_rfl) (fun _ _ _ h => h) (Or.inl ⟨by rfl, ?_⟩) (fun _ => HS) ?_
  rotate_left
  · intro w_ _; go_simp; (try (with_reducible rfl))
  (try simp only [Act.put, List.setIfInBounds_toArray, List.set_cons_zero, List.set_cons_succ])
  refine wpAnyT_take (i := 13) (oi := ({ dst := some 17, op := Op.fieldAddr 52 (Operand.tmp 16) 2, type := 0, pos := "agg.go:99", after := #[{ on := 12, ground := Ground.data }], guard := none } : Oper)) (v := ?_) rfl (by kernel_rfl) (by kernel_rfl) (by kernel_rfl) (by kernel_rfl) (by kernel_rfl) (fun _ _ _ h => h) (Or.inl ⟨by rfl, ?_⟩) (fun _ => HS) ?_
  rotate_left
  · intro w_ _; go_simp; (try (with_reducible rfl))
  (try simp only [Act.put, List.setIfInBounds_toArray, List.set_cons_zero, List.set_cons_succ])
  refine wpAnyT_load (i := 14) (oi := ({ dst := some 18, op := Op.load 50 (Operand.tmp 17), type := 50, pos := "agg.go:99", after := #[{ on := 13, ground := Ground.data }], guard := none } : Oper)) (v := ?_) rfl (by kernel_rfl) (by kernel_rfl) (by kernel_rfl) (by kernel_rfl) (by kernel_rfl) [22] (by kernel_rfl) rfl (fun _ _ _ h => h) (Or.inl ⟨by rfl, ?_⟩) (fun _ => HS) ?_
  rotate_left
  · intro w_ hS_; obtain ⟨s0_, s1_, s2_, s3_, s4_, s5_⟩ := hS_; go_simp; (try (with_reducible rfl))
  (try simp only [Act.put, List.setIfInBounds_toArray, List.set_cons_zero, List.set_cons_succ])
  refine wpAnyT_take (i := 15) (oi := ({ dst := some 19, op := Op.move (Operand.tmp 1), type := 35, pos := "agg.go:99", after := #[], guard := none } : Oper)) (v := ?_) rfl (by kernel_rfl) (by kernel_rfl) (by kernel_rfl) (by kernel_rfl) (by kernel_rfl) (fun _ _ _ h => h) (Or.inl ⟨by rfl, ?_⟩) (fun _ => HS) ?_
  rotate_left
  · intro w_ _; go_simp; (try (with_reducible rfl))
  (try simp only [Act.put, List.setIfInBounds_toArray, List.set_cons_zero, List.set_cons_succ])
  refine wpAnyT_take (i := 16) (oi := ({ dst := some 20, op := Op.nilCheck (Operand.tmp 19), type := 0, pos := "agg.go:99", after := #[{ on := 15, ground := Ground.data }], guard := none } : Oper)) (v := ?_) rfl (by kernel_rfl) (by kernel_rfl) (by kernel_rfl) (by kernel_rfl) (by kernel_rfl) (fun _ _ _ h => h) (Or.inl ⟨by rfl, ?_⟩) (fun _ => HS) ?_
  rotate_left
  · intro w_ _; go_simp; (try (with_reducible rfl))
  (try simp only [Act.put, List.setIfInBounds_toArray, List.set_cons_zero, List.set_cons_succ])
  refine wpAnyT_take (i := 17) (oi := ({ dst := some 21, op := Op.fieldAddr 52 (Operand.tmp 20) 2, type := 0, pos := "agg.go:99", after := #[{ on := 16, ground := Ground.data }], guard := none } : Oper)) (v := ?_) rfl (by kernel_rfl) (by kernel_rfl) (by kernel_rfl) (by kernel_rfl) (by kernel_rfl) (fun _ _ _ h => h) (Or.inl ⟨by rfl, ?_⟩) (fun _ => HS) ?_
  rotate_left
  · intro w_ _; go_simp; (try (with_reducible rfl))
  (try simp only [Act.put, List.setIfInBounds_toArray, List.set_cons_zero, List.set_cons_succ])
  refine wpAnyT_load (i := 18) (oi := ({ dst := some 22, op := Op.load 50 (Operand.tmp 21), type := 50, pos := "agg.go:99", after := #[{ on := 17, ground := Ground.data }], guard := none } : Oper)) (v := ?_) rfl (by kernel_rfl) (by kernel_rfl) (by kernel_rfl) (by kernel_rfl) (by kernel_rfl) [22] (by kernel_rfl) rfl (fun _ _ _ h => h) (Or.inl ⟨by rfl, ?_⟩) (fun _ => HS) ?_
  rotate_left
  · intro w_ hS_; obtain ⟨s0_, s1_, s2_, s3_, s4_, s5_⟩ := hS_; go_simp; (try (with_reducible rfl))
  (try simp only [Act.put, List.setIfInBounds_toArray, List.set_cons_zero, List.set_cons_succ])
  refine wpAnyT_one (i := 19) (by kernel_rfl) (o := ({ dst := some 23, op := Op.call { callee := Callee.value (Operand.func 32), args := #[Operand.tmp 18, Operand.tmp 22], argTypes := #[50, 50] }, type := 50, pos := "agg.go:99", after := #[{ on := 14, ground := Ground.data }, { on := 18, ground := Ground.data }], guard := none } : Oper)) rfl (fun K hK => ?_)
  go_simp; go_at_call 32; refine (agg_plus.calls s.tot t.tot _).mono ?_; rintro e w4 ⟨rfl, hb⟩; have b_BG := Aside0.mk (blk_below BG.out hb); have b_BH := Aside0.mk (blk_below BH.out hb); have b_HB := Aside0.mk (below_step HB.out hb); clear HB BG BH HS; have HB := b_HB; have BG := b_BG; have BH := b_BH; clear b_HB b_BG b_BH hb; have HS : (fun W : World => W.cell? ⟨g, 1, none⟩ = some (.int .i64 s.n) ∧ W.cell? ⟨g, 2, none⟩ = some (.int .u64 (hiW s.tot)) ∧ W.cell? ⟨g, 3, none⟩ = some (.int .u64 (loW s.tot)) ∧ W.cell? ⟨h, 1, none⟩ = some (.int .i64 t.n) ∧ W.cell? ⟨h, 2, none⟩ = some (.int .u64 (hiW t.tot)) ∧ W.cell? ⟨h, 3, none⟩ = some (.int .u64 (loW t.tot))) w4 := ⟨(blk_cell BG.out 1).trans rfl, (blk_cell BG.out 2).trans rfl, (blk_cell BG.out 3).trans rfl, (blk_cell BH.out 1).trans rfl, (blk_cell BH.out 2).trans rfl, (blk_cell BH.out 3).trans rfl⟩; (try dsimp only)
  refine hK.out _ _ (fun _ _ => HS) ?_; clear hK K
  (try simp only [Act.put, List.setIfInBounds_toArray, List.set_cons_zero, List.set_cons_succ])
  refine wpAnyT_take (i := 20) (oi := ({ dst := some 24, op := Op.nilCheck (Operand.tmp 4), type := 0, pos := "agg.go:99", after := #[{ on := 0, ground := Ground.data }, { on := 0, ground := Ground.phase }, { on := 1, ground := Ground.textOnly Departure.lateStores }, { on := 2, ground := Ground.phase }, { on := 3, ground := Ground.phase }, { on := 4, ground := Ground.phase }, { on := 5, ground := Ground.phase }, { on := 6, ground := Ground.phase }, { on := 7, ground := Ground.phase }, { on := 8, ground := Ground.phase }, { on := 9, ground := Ground.phase }, { on := 10, ground := Ground.phase }, { on := 11, ground := Ground.textOnly Departure.lateStores }, { on := 12, ground := Ground.textOnly Departure.lateStoresUnsure }, { on := 13, ground := Ground.textOnly Departure.lateStoresUnsure }, { on := 14, ground := Ground.phase }, { on := 15, ground := Ground.textOnly Departure.lateStores }, { on := 16, ground := Ground.textOnly Departure.lateStoresUnsure }, { on := 17, ground := Ground.textOnly Departure.lateStoresUnsure }, { on := 18, ground := Ground.phase }, { on := 19, ground := Ground.phase }], guard := none } : Oper)) (v := ?_) rfl (by kernel_rfl) (by kernel_rfl) (by kernel_rfl) (by kernel_rfl) (by kernel_rfl) (fun _ _ _ h => h) (Or.inl ⟨by rfl, ?_⟩) (fun _ => HS) ?_
  rotate_left
  · intro w_ _; go_simp; (try (with_reducible rfl))
  (try simp only [Act.put, List.setIfInBounds_toArray, List.set_cons_zero, List.set_cons_succ])
  refine wpAnyT_take (i := 21) (oi := ({ dst := some 25, op := Op.fieldAddr 52 (Operand.tmp 24) 1, type := 0, pos := "agg.go:99", after := #[{ on := 20, ground := Ground.data }, { on := 0, ground := Ground.phase }, { on := 1, ground := Ground.textOnly Departure.lateStores }, { on := 2, ground := Ground.phase }, { on := 3, ground := Ground.phase }, { on := 4, ground := Ground.phase }, { on := 5, ground := Ground.phase }, { on := 6, ground := Ground.phase }, { on := 7, ground := Ground.phase }, { on := 8, ground := Ground.phase }, { on := 9, ground := Ground.phase }, { on := 10, ground := Ground.phase }, { on := 11, ground := Ground.textOnly Departure.lateStores }, { on := 12, ground := Ground.textOnly Departure.lateStoresUnsure }, { on := 13, ground := Ground.textOnly Departure.lateStoresUnsure }, { on := 14, ground := Ground.phase }, { on := 15, ground := Ground.textOnly Departure.lateStores }, { on := 16, ground := Ground.textOnly Departure.lateStoresUnsure }, { on := 17, ground := Ground.textOnly Departure.lateStoresUnsure }, { on := 18, ground := Ground.phase }, { on := 19, ground := Ground.phase }], guard := none } : Oper)) (v := ?_) rfl (by kernel_rfl) (by kernel_rfl) (by kernel_rfl) (by kernel_rfl) (by kernel_rfl) (fun _ _ _ h => h) (Or.inl ⟨by rfl, ?_⟩) (fun _ => HS) ?_
  rotate_left
  · intro w_ _; go_simp; (try (with_reducible rfl))
  (try simp only [Act.put, List.setIfInBounds_toArray, List.set_cons_zero, List.set_cons_succ])
  obtain ⟨ha1, ha2, ha3, hb1, hb2, hb3⟩ := HS
  have fz1 := blk_frozen BG.out 1
  have fz2 := blk_frozen BG.out 2
  have fz3 := blk_frozen BG.out 3
  refine wpAnyT_one (i := 22) (by kernel_rfl) (o := ({ dst := none, op := Op.store 3 (Operand.tmp 25) (Operand.tmp 14), type := 0, pos := "agg.go:99", after := #[{ on := 21, ground := Ground.data }, { on := 10, ground := Ground.data }, { on := 19, ground := Ground.chain }, { on := 0, ground := Ground.phase }, { on := 1, ground := Ground.textOnly Departure.lateStores }, { on := 2, ground := Ground.phase }, { on := 3, ground := Ground.phase }, { on := 4, ground := Ground.phase }, { on := 5, ground := Ground.phase }, { on := 6, ground := Ground.phase }, { on := 7, ground := Ground.phase }, { on := 8, ground := Ground.phase }, { on := 9, ground := Ground.phase }, { on := 10, ground := Ground.phase }, { on := 11, ground := Ground.textOnly Departure.lateStores }, { on := 12, ground := Ground.textOnly Departure.lateStoresUnsure }, { on := 13, ground := Ground.textOnly Departure.lateStoresUnsure }, { on := 14, ground := Ground.phase }, { on := 15, ground := Ground.textOnly Departure.lateStores }, { on := 16, ground := Ground.textOnly Departure.lateStoresUnsure }, { on := 17, ground := Ground.textOnly Departure.lateStoresUnsure }, { on := 18, ground := Ground.phase }, { on := 19, ground := Ground.phase }], guard := none } : Oper)) rfl (fun K hK => ?_)
  go_simp
  refine hK.out _ _ (fun h => absurd rfl h) ?_; clear hK K
  (try simp only [Act.put, List.setIfInBounds_toArray, List.set_cons_zero, List.set_cons_succ])
  refine wpAnyT_take (i := 23) (oi := ({ dst := some 26, op := Op.nilCheck (Operand.tmp 5), type := 0, pos := "agg.go:99", after := #[{ on := 1, ground := Ground.data }, { on := 0, ground := Ground.phase }, { on := 1, ground := Ground.phase }, { on := 2, ground := Ground.phase }, { on := 3, ground := Ground.phase }, { on := 4, ground := Ground.phase }, { on := 5, ground := Ground.phase }, { on := 6, ground := Ground.phase }, { on := 7, ground := Ground.phase }, { on := 8, ground := Ground.phase }, { on := 9, ground := Ground.phase }, { on := 10, ground := Ground.phase }, { on := 11, ground := Ground.phase }, { on := 12, ground := Ground.phase }, { on := 13, ground := Ground.phase }, { on := 14, ground := Ground.phase }, { on := 15, ground := Ground.phase }, { on := 16, ground := Ground.phase }, { on := 17, ground := Ground.phase }, { on := 18, ground := Ground.phase }, { on := 19, ground := Ground.phase }, { on := 20, ground := Ground.phase }, { on := 21, ground := Ground.phase }, { on := 22, ground := Ground.phase }], guard := none } : Oper)) (v := ?_) rfl (by kernel_rfl) (by kernel_rfl) (by kernel_rfl) (by kernel_rfl) (by kernel_rfl) (fun _ _ _ h => h) (Or.inl ⟨by rfl, ?_⟩) (fun h => absurd h (by decide)) ?_
  rotate_left
  · intro w_ _; go_simp; (try (with_reducible rfl))
  (try simp only [Act.put, List.setIfInBounds_toArray, List.set_cons_zero, List.set_cons_succ])
  refine wpAnyT_take (i := 24) (oi := ({ dst := some 27, op := Op.fieldAddr 52 (Operand.tmp 26) 2, type := 0, pos := "agg.go:99", after := #[{ on := 23, ground := Ground.data }, { on := 0, ground := Ground.phase }, { on := 1, ground := Ground.phase }, { on := 2, ground := Ground.phase }, { on := 3, ground := Ground.phase }, { on := 4, ground := Ground.phase }, { on := 5, ground := Ground.phase }, { on := 6, ground := Ground.phase }, { on := 7, ground := Ground.phase }, { on := 8, ground := Ground.phase }, { on := 9, ground := Ground.phase }, { on := 10, ground := Ground.phase }, { on := 11, ground := Ground.phase }, { on := 12, ground := Ground.phase }, { on := 13, ground := Ground.phase }, { on := 14, ground := Ground.phase }, { on := 15, ground := Ground.phase }, { on := 16, ground := Ground.phase }, { on := 17, ground := Ground.phase }, { on := 18, ground := Ground.phase }, { on := 19, ground := Ground.phase }, { on := 20, ground := Ground.phase }, { on := 21, ground := Ground.phase }, { on := 22, ground := Ground.phase }], guard := none } : Oper)) (v := ?_) rfl (by kernel_rfl) (by kernel_rfl) (by kernel_rfl) (by kernel_rfl) (by kernel_rfl) (fun _ _ _ h => h) (Or.inl ⟨by rfl, ?_⟩) (fun h => absurd h (by decide)) ?_
  rotate_left
  · intro w_ _; go_simp; (try (with_reducible rfl))
  (try simp only [Act.put, List.setIfInBounds_toArray, List.set_cons_zero, List.set_cons_succ])
  refine wpAnyT_one (i := 25) (by kernel_rfl) (o := ({ dst := none, op := Op.store 50 (Operand.tmp 27) (Operand.tmp 23), type := 0, pos := "agg.go:99", after := #[{ on := 24, ground := Ground.data }, { on := 19, ground := Ground.data }, { on := 22, ground := Ground.chain }, { on := 0, ground := Ground.phase }, { on := 1, ground := Ground.phase }, { on := 2, ground := Ground.phase }, { on := 3, ground := Ground.phase }, { on := 4, ground := Ground.phase }, { on := 5, ground := Ground.phase }, { on := 6, ground := Ground.phase }, { on := 7, ground := Ground.phase }, { on := 8, ground := Ground.phase }, { on := 9, ground := Ground.phase }, { on := 10, ground := Ground.phase }, { on := 11, ground := Ground.phase }, { on := 12, ground := Ground.phase }, { on := 13, ground := Ground.phase }, { on := 14, ground := Ground.phase }, { on := 15, ground := Ground.phase }, { on := 16, ground := Ground.phase }, { on := 17, ground := Ground.phase }, { on := 18, ground := Ground.phase }, { on := 19, ground := Ground.phase }, { on := 20, ground := Ground.phase }, { on := 21, ground := Ground.phase }, { on := 22, ground := Ground.phase }], guard := none } : Oper)) rfl (fun K hK => ?_)
  go_simp
  refine hK.out _ _ (fun _ h => absurd h (by decide)) ?_; clear hK K
  (try simp only [Act.put, List.setIfInBounds_toArray, List.set_cons_zero, List.set_cons_succ])
  refine wpAnyT_done (by kernel_rfl) ?_ _
  all_goals go_wp2
  all_goals go_end0
  have ew : wrap64 (s.n + t.n) = IntKind.i64.wrap (s.n + t.n) := (i64_w (s.n + t.n)).symm
  rw [ew]
  unfold acells
  dsimp only
  generalize IntKind.i64.wrap (s.n + t.n) = nn_
  generalize hiW (s.tot + t.tot) = hh_
  generalize loW (s.tot + t.tot) = ll_
  refine ⟨rfl, (((Step.of_below HB.out).set_ 1 _).set_ 2 _).set_ 3 _, ?_⟩
  have h_ := blk_set (blk_set (blk_set BG.out 1 (.int .i64 nn_)) 2 (.int .u64 hh_)) 3 (.int .u64 ll_)
  simp only [List.setIfInBounds_toArray, List.set_cons_zero, List.set_cons_succ] at h_
  exact h_
def spS (s : Acc18) (v : S26) : Acc18 := { s with n := wrap64 (s.n + 1), lo := if s.n = 0 ∨ ov v s.lo < 0 then v else s.lo, hi := if s.n = 0 ∨ 0 < ov v s.hi then v else s.hi }
theorem agg_ends.no_ (g m h k : Nat) (s t : Acc18) (w : World) (hg : w.heap[g]? = some (.cells (acells s m) 52 (0, 0))) (hh : w.heap[h]? = some (.cells (acells t k) 52 (0, 0))) (hne : h ≠ g) (q0 : decide (0 < t.n) = false) :
    Calls Try.prog 37 #[.pointer (some ⟨g, 0, none⟩), .pointer (some ⟨h, 0, none⟩)] w fun e w' => e = .returned (.tuple #[]) ∧ w' = w := by
  have HNE := Aside0.mk hne
  have BG := Aside0.mk hg
  have BH := Aside0.mk hh
  have HB := Aside0.mk (Below.refl w.heap.size w)
  have hu52 := Try.underlying52
  have hu26 := Try.underlying26
  have hb1 : w.cell? ⟨h, 1, none⟩ = some (.int .i64 t.n) := (blk_cell hh 1).trans rfl
  clear hg hh hne
  go_enter Try.func37, Try.ntmps37
  go_wp2
  go_end0
  exact ⟨rfl, rfl⟩
theorem agg_ends.yes_ (g m h k : Nat) (s t : Acc18) (w : World) (hg : w.heap[g]? = some (.cells (acells s m) 52 (0, 0))) (hh : w.heap[h]? = some (.cells (acells t k) 52 (0, 0))) (hne : h ≠ g) (q0 : decide (0 < t.n) = true) :
    Calls Try.prog 37 #[.pointer (some ⟨g, 0, none⟩), .pointer (some ⟨h, 0, none⟩)] w fun e w' => e = .returned (.tuple #[]) ∧ Step g w w' ∧ w'.heap[g]? = some (.cells (acells { spS (spS s t.lo) t.hi with n := wrap64 (s.n + t.n) } m) 52 (0, 0)) := by
  have HNE := Aside0.mk hne
  have BG := Aside0.mk hg
  have BH := Aside0.mk hh
  have HB := Aside0.mk (Below.refl w.heap.size w)
  have hu52 := Try.underlying52
  have hu26 := Try.underlying26
  have hb1 : w.cell? ⟨h, 1, none⟩ = some (.int .i64 t.n) := (blk_cell hh 1).trans rfl
  clear hg hh hne
  go_enter Try.func37, Try.ntmps37
  have ha1 : w.cell? ⟨g, 1, none⟩ = some (.int .i64 s.n) := (blk_cell BG.out 1).trans rfl
  go_wp2
  go_quiet (fail)
  have ST := Aside0.mk (show Step g w (w.drewN nq) from (Step.refl g w).drewN nq)
  have BG_ := Aside0.mk (show (w.drewN nq).heap[g]? = some (.cells (acells s m) 52 (0, 0)) from BG.out)
  have BH_ := Aside0.mk (show (w.drewN nq).heap[h]? = some (.cells (acells t k) 52 (0, 0)) from BH.out)
  clear BG BH HB ha1 hb1
  have BG := BG_
  have BH := BH_
  clear BG_ BH_
  generalize w.drewN nq = wq at ST BG BH ⊢
  have hb4 : wq.cell? ⟨h, 4, none⟩ = some (.int .i64 t.lo.f0) := (blk_cell BH.out 4).trans rfl
  have hb5 : wq.cell? ⟨h, 5, none⟩ = some (.int .i64 t.lo.f1) := (blk_cell BH.out 5).trans rfl
  have hb6 : wq.cell? ⟨h, 6, none⟩ = some (.string t.lo.f2) := (blk_cell BH.out 6).trans rfl
  have hb7 : wq.cell? ⟨h, 7, none⟩ = some (.bool t.lo.f3) := (blk_cell BH.out 7).trans rfl
  have hb8 : wq.cell? ⟨h, 8, none⟩ = some (.int .i64 t.hi.f0) := (blk_cell BH.out 8).trans rfl
  have hb9 : wq.cell? ⟨h, 9, none⟩ = some (.int .i64 t.hi.f1) := (blk_cell BH.out 9).trans rfl
  have hb10 : wq.cell? ⟨h, 10, none⟩ = some (.string t.hi.f2) := (blk_cell BH.out 10).trans rfl
  have hb11 : wq.cell? ⟨h, 11, none⟩ = some (.bool t.hi.f3) := (blk_cell BH.out 11).trans rfl
  go_wp2_with (first
    | ((with_reducible refine gate_callee (f := 36) rfl ?_); refine goesL_ (some 24) rfl rfl Try.func36 (by kernel_rfl) rfl #[.pointer (some ⟨g, 0, none⟩), .agg (vc t.lo)] rfl (by (try simp only [List.map_toArray, List.map_cons, List.map_nil]); first | done | rfl) ?_; go_loud (refine (agg_spread.calls t.lo g m s _ BG.out).mono ?_); rintro e w2 ⟨rfl, st, hg2⟩; refine ⟨_, rfl, ?_⟩; obtain ⟨s1, hs1⟩ : ∃ x, x = spS s t.lo := ⟨_, rfl⟩; have Hs1 := Aside0.mk hs1; have BG2 := Aside0.mk (show w2.heap[g]? = some (.cells (acells s1 m) 52 (0, 0)) by rw [hs1]; exact hg2); have BH2 := Aside0.mk (st.blk BH.out HNE.out); have ST2 := Aside0.mk (Step.trans ST.out st); clear BG BH ST hg2 hs1 st; have BG := BG2; have BH := BH2; have ST := ST2; clear BG2 BH2 ST2; clear hb4 hb5 hb6 hb7 hb8 hb9 hb10 hb11; have hb8 : w2.cell? ⟨h, 8, none⟩ = some (.int .i64 t.hi.f0) := (blk_cell BH.out 8).trans rfl; have hb9 : w2.cell? ⟨h, 9, none⟩ = some (.int .i64 t.hi.f1) := (blk_cell BH.out 9).trans rfl; have hb10 : w2.cell? ⟨h, 10, none⟩ = some (.string t.hi.f2) := (blk_cell BH.out 10).trans rfl; have hb11 : w2.cell? ⟨h, 11, none⟩ = some (.bool t.hi.f3) := (blk_cell BH.out 11).trans rfl)
    | ((with_reducible refine gate_callee (f := 36) rfl ?_); refine goesL_ (some 30) rfl rfl Try.func36 (by kernel_rfl) rfl #[.pointer (some ⟨g, 0, none⟩), .agg (vc t.hi)] rfl (by (try simp only [List.map_toArray, List.map_cons, List.map_nil]); first | done | rfl) ?_; go_loud (refine (agg_spread.calls t.hi g m s1 _ BG.out).mono ?_); rintro e w3 ⟨rfl, st, hg2⟩; refine ⟨_, rfl, ?_⟩; obtain ⟨s2, hs2⟩ : ∃ x, x = spS s1 t.hi := ⟨_, rfl⟩; have Hs2 := Aside0.mk hs2; have BG2 := Aside0.mk (show w3.heap[g]? = some (.cells (acells s2 m) 52 (0, 0)) by rw [hs2]; exact hg2); have BH2 := Aside0.mk (st.blk BH.out HNE.out); have ST2 := Aside0.mk (Step.trans ST.out st); clear BG BH ST hg2 hs2 st; have BG := BG2; have BH := BH2; have ST := ST2; clear BG2 BH2 ST2; clear hb8 hb9 hb10 hb11)
    | ((with_reducible refine gate_ (.store 3 (.tmp 34) (.tmp 32)) rfl ?_); go_loud (refine wpList_storeR rfl rfl 3 (.tmp 34) (.tmp 32) rfl g 1 rfl (.int .i64 (wrap64 (s.n + t.n))) rfl [.int .i64 (wrap64 (s.n + t.n))] rfl (acells s2 m) 52 BG.out size3 (by simp) (by simp [Value.oneCell']) (acells { s2 with n := wrap64 (s.n + t.n) } m) rfl ?_); intro w5 hs st; have ST2 := Aside0.mk (Step.trans ST.out st); clear ST BG; have ST := ST2; have BG := Aside0.mk hs; clear ST2 hs st))
  go_end0
  refine ⟨rfl, ST.out, ?_⟩
  rw [BG.out, Hs2.out, Hs1.out]
/-- The stamps of a map's entries: each below its clock, no two alike. -/
def Born (es : List MapEntry) (clock : Nat) : Prop := (∀ x ∈ es, x.born < clock) ∧ (es.map (·.born)).Nodup
theorem born_nil : Born [] 0 := ⟨(fun _ h => by cases h), List.nodup_nil⟩
theorem run_mapUpdate26B (v : S26) (u : Value) (l : List S26) (m : Nat) (es : Array MapEntry) (clock : Nat) (W : World) (hb : W.heap[m]? = some (.map es clock)) (hs : Seen es.toList l) (hB : Born es.toList clock) :
    ∃ es' clock', (Instr.mapUpdate 47 (.map (some m)) (.agg (vc v)) u).run Try.prog W = .ok () { W with heap := W.heap.setIfInBounds m (.map es' clock') } ∧ Seen es'.toList (addV l v) ∧ Born es'.toList clock' := by
  have hu := Try.underlying47
  obtain ⟨r, hr, h1, h2⟩ := run_findKey26 v W es.toList l hs
  cases hf : findV v l 0 with
  | none =>
    rw [h1 hf] at hr
    refine ⟨es.push { key := .agg (vc v), val := u, born := clock }, clock + 1, ?_, ?_, ?_⟩
    · simp [Instr.mapUpdate, run_underlying hu, MapKept.run_getObj_map hb, run_checkKey26, hr, MapKept.run_setObj_map _ hb, Result.andThen]
    · unfold addV
      rw [hf, if_pos (by rfl)]
      simp only [Seen, Array.toList_push, List.map_append, List.map_cons, List.map_nil] at hs ⊢
      rw [hs]
    · refine ⟨?_, ?_⟩
      · intro x hx
        rw [Array.toList_push, List.mem_append, List.mem_singleton] at hx
        rcases hx with hx | rfl
        · exact Nat.lt_succ_of_lt (hB.1 x hx)
        · exact Nat.lt_succ_self _
      · rw [Array.toList_push, List.map_append, List.nodup_append]
        refine ⟨hB.2, by simp, ?_⟩
        intro x hx y hy
        simp only [List.map_cons, List.map_nil, List.mem_singleton] at hy
        subst hy
        obtain ⟨z, hz, rfl⟩ := List.mem_map.1 hx
        exact Nat.ne_of_lt (hB.1 z hz)
  | some j =>
    obtain ⟨x, hx⟩ := h2 j hf
    rw [hx] at hr
    obtain ⟨_, hj⟩ := findV_some hf
    rw [Nat.sub_zero] at hj
    have hk : ∃ e, es[j]? = some e ∧ e.key = .agg (vc v) := by
      have : (es.toList.map (·.key))[j]? = some (Value.agg (vc v)) := by rw [hs, List.getElem?_map, hj]; rfl
      rw [List.getElem?_map] at this
      obtain ⟨e, he, hk⟩ := Option.map_eq_some_iff.1 this
      exact ⟨e, by simpa using he, hk⟩
    obtain ⟨e, he, hk⟩ := hk
    refine ⟨es.modify j fun e => { e with key := .agg (vc v), val := u }, clock, ?_, ?_, ?_⟩
    · simp [Instr.mapUpdate, run_underlying hu, MapKept.run_getObj_map hb, run_checkKey26, hr, he, hk, Instr.keyThatStays, sameBits_vc, MapKept.run_setObj_map _ hb, Result.andThen]
    · unfold addV
      rw [hf, if_neg (by simp)]
      unfold Seen at hs ⊢
      rw [← hs]
      apply List.ext_getElem?
      intro i
      rw [List.getElem?_map, List.getElem?_map]
      by_cases hij : i = j
      · subst hij
        simp [Array.getElem?_modify, he, hk]
      · simp [Array.getElem?_modify, Ne.symm hij]
    · have hm : ∀ i : Nat, ((es.modify j fun e => { e with key := .agg (vc v), val := u }).toList.map (·.born))[i]? = (es.toList.map (·.born))[i]? := by
        intro i
        rw [List.getElem?_map, List.getElem?_map]
        by_cases hij : i = j
        · subst hij
          simp [Array.getElem?_modify, he]
        · simp [Array.getElem?_modify, Ne.symm hij]
      have hm' : (es.modify j fun e => { e with key := .agg (vc v), val := u }).toList.map (·.born) = es.toList.map (·.born) := List.ext_getElem? hm
      refine ⟨?_, by rw [hm']; exact hB.2⟩
      intro x hx
      have h3 : x.born ∈ (es.modify j fun e => { e with key := .agg (vc v), val := u }).toList.map (·.born) := List.mem_map.2 ⟨x, hx, rfl⟩
      rw [hm'] at h3
      obtain ⟨y, hy, he2⟩ := List.mem_map.1 h3
      rw [← he2]
      exact hB.1 y hy
theorem agg_distinct.callsB (g m : Nat) (s : Acc18) (w : World) (hg : w.heap[g]? = some (.cells (acells s m) 52 (0, 0))) (v : S26) (es : Array MapEntry) (clock : Nat) (hm : w.heap[m]? = some (.map es clock)) (hs : Seen es.toList s.seen) (hB_ : Born es.toList clock) :
    Calls Try.prog 38 #[.pointer (some ⟨g, 0, none⟩), .agg (vc v)] w fun e w' => e = .returned (.tuple #[]) ∧ Step m w w' ∧ ∃ es' clock', w'.heap[m]? = some (.map es' clock') ∧ Seen es'.toList (addV s.seen v) ∧ Born es'.toList clock' := by
  have HNM := Aside0.mk (show m ≠ g from fun e => by subst e; rw [hm] at hg; injection hg with h; cases h)
  have HB := Aside0.mk (Below.refl w.heap.size w)
  have BG := Aside0.mk hg
  clear hg
  have hu52 := Try.underlying52
  have hu26 := Try.underlying26
  have hu50 := Try.underlying50
  have BM := Aside0.mk hm
  have HS := Aside0.mk hs
  have HBO := Aside0.mk hB_
  clear hm hs hB_
  go_enter Try.func38, Try.ntmps38
  go_wp2_with (first
    | ((with_reducible refine gate_dst (N := 3) rfl ?_); refine box_event ?hg (N := 3) ?hd (cs := (vc v)) (t := 26) ?hr ?_; (case hd => rfl); (case hg => rfl); (case hr => first | (go_simp; done) | (go_simp; rfl)); intro gv hg w1 hbox hb; have BV := Aside0.mk hbox; have GEBV := Aside0.mk ((by rw [hg]; exact (below_size HB.out)) : w.heap.size ≤ gv); have NBGBV := Aside0.mk ((by rw [hg]; exact Nat.ne_of_lt (blk_lt BG.out)) : g ≠ gv); have NBMBV := Aside0.mk ((by rw [hg]; exact Nat.ne_of_lt (blk_lt BM.out)) : m ≠ gv); have b_BG := Aside0.mk (blk_below BG.out hb); have b_BM := Aside0.mk (blk_below BM.out hb); have b_HB := Aside0.mk (below_step HB.out hb); clear HB BG BM; have HB := b_HB; have BG := b_BG; have BM := b_BM; clear b_HB b_BG b_BM; clear hbox hg hb; have hn_ := blk_lt BM.out; have ha12 : w1.cell? ⟨g, 12, none⟩ = some (.map (some m)) := (blk_cell BG.out 12).trans rfl; have hv0 : w1.cell? ⟨gv, 0, none⟩ = some (.int .i64 v.f0) := (blk_cell BV.out 0).trans rfl; have hv1 : w1.cell? ⟨gv, 1, none⟩ = some (.int .i64 v.f1) := (blk_cell BV.out 1).trans rfl; have hv2 : w1.cell? ⟨gv, 2, none⟩ = some (.string v.f2) := (blk_cell BV.out 2).trans rfl; have hv3 : w1.cell? ⟨gv, 3, none⟩ = some (.bool v.f3) := (blk_cell BV.out 3).trans rfl))
  clear hn_
  obtain ⟨es', clock', hrun, hs', hbo'⟩ := run_mapUpdate26B v (.bool true) s.seen m es clock w1.drew BM.out HS.out HBO.out
  have HS2 := Aside0.mk hs'
  have HBO2 := Aside0.mk hbo'
  have ST := Aside0.mk (show Step m w { w1.drew with heap := w1.drew.heap.setIfInBounds m (.map es' clock') } from Step.trans ((Step.of_below HB.out).drew) (step_setMap (w := w1.drew) BM.out _))
  have BM2 := Aside0.mk (show ({ w1.drew with heap := w1.drew.heap.setIfInBounds m (.map es' clock') } : World).heap[m]? = some (.map es' clock') from (MapKept.heap_set BM.out).1)
  clear hs' hbo'
  generalize ({ w1.drew with heap := w1.drew.heap.setIfInBounds m (.map es' clock') } : World) = W2 at hrun ST BM2
  go_region_law (fail)
  all_goals go_wp2
  all_goals go_end0
  all_goals exact ⟨rfl, ST.out, es', clock', BM2.out, HS2.out, HBO2.out⟩
theorem agg_Add.do5B (s' : Acc18) (g m : Nat) (s : Acc18) (v : S26) (es : Array MapEntry) (clock : Nat) (w : World) (hg : w.heap[g]? = some (.cells (acells s m) 52 (0, 0))) (hm : w.heap[m]? = some (.map es clock)) (hfn : s.fn = 5) (hfn' : s'.fn = 5) (hM : value_May.f v.f0 v.f1 v.f2 v.f3 = some true) (q0 : (v.f0 != 0) = true)
    (HADD : ∀ W : World, W.heap[g]? = some (.cells (acells s m) 52 (0, 0)) → W.heap[m]? = some (.map es clock) → Calls Try.prog 38 #[.pointer (some ⟨g, 0, none⟩), .agg (vc v)] W fun e w' => e = .returned (.tuple #[]) ∧ Step2 g m W w' ∧ w'.heap[g]? = some (.cells (acells s' m) 52 (0, 0)) ∧ ∃ es' clock', w'.heap[m]? = some (.map es' clock') ∧ (Seen es'.toList s'.seen ∧ Born es'.toList clock')) :
    Calls Try.prog 14 #[.pointer (some ⟨g, 0, none⟩), .agg (vc v)] w fun e w' => e = .returned (.tuple #[]) ∧ Step2 g m w w' ∧ w'.heap[g]? = some (.cells (acells s' m) 52 (0, 0)) ∧ ∃ es' clock', w'.heap[m]? = some (.map es' clock') ∧ (Seen es'.toList s'.seen ∧ Born es'.toList clock') := by
  have HNM := Aside0.mk (show m ≠ g from fun e => by subst e; rw [hm] at hg; injection hg with h; cases h)
  have HB := Aside0.mk (Below.refl w.heap.size w)
  have BG := Aside0.mk hg
  clear hg
  have hu52 := Try.underlying52
  have hu26 := Try.underlying26
  have hu50 := Try.underlying50
  have BM := Aside0.mk hm
  have HM := Aside0.mk hM
  clear hm hM
  have HFN := Aside0.mk hfn
  have HFN2 := Aside0.mk hfn'
  have HAD := Aside0.mk HADD
  have QN := Aside0.mk (show (s.fn == 0) = false by rw [hfn]; rfl)
  have hfd := run_field58_0
  clear hfn hfn' HADD
  go_enter Try.func14, Try.ntmps14
  go_wp2_with (first
    | ((with_reducible refine gate_dst (N := 3) rfl ?_); refine box_event ?hg (N := 3) ?hd (cs := (vc v)) (t := 26) ?hr ?_; (case hd => rfl); (case hg => rfl); (case hr => first | (go_simp; done) | (go_simp; rfl)); intro gv hg w1 hbox hb; have BV := Aside0.mk hbox; have GEBV := Aside0.mk ((by rw [hg]; exact (below_size HB.out)) : w.heap.size ≤ gv); have NBGBV := Aside0.mk ((by rw [hg]; exact Nat.ne_of_lt (blk_lt BG.out)) : g ≠ gv); have NBMBV := Aside0.mk ((by rw [hg]; exact Nat.ne_of_lt (blk_lt BM.out)) : m ≠ gv); have b_BG := Aside0.mk (blk_below BG.out hb); have b_BM := Aside0.mk (blk_below BM.out hb); have b_HB := Aside0.mk (below_step HB.out hb); clear HB BG BM; have HB := b_HB; have BG := b_BG; have BM := b_BM; clear b_HB b_BG b_BM; clear hbox hg hb; have ha0 : w1.cell? ⟨g, 0, none⟩ = some (.int .i64 5) := (blk_cell BG.out 0).trans (congrArg (fun z => some (Value.int .i64 z)) HFN.out); have hv0 : w1.cell? ⟨gv, 0, none⟩ = some (.int .i64 v.f0) := (blk_cell BV.out 0).trans rfl; have hv1 : w1.cell? ⟨gv, 1, none⟩ = some (.int .i64 v.f1) := (blk_cell BV.out 1).trans rfl; have hv2 : w1.cell? ⟨gv, 2, none⟩ = some (.string v.f2) := (blk_cell BV.out 2).trans rfl; have hv3 : w1.cell? ⟨gv, 3, none⟩ = some (.bool v.f3) := (blk_cell BV.out 3).trans rfl)
    | ((with_reducible refine gate_callee (f := 21) rfl ?_); refine goesL_ (some 5) rfl rfl Try.func21 (by kernel_rfl) rfl #[.pointer (some ⟨g, 0, none⟩)] rfl (by (try simp only [List.map_toArray, List.map_cons, List.map_nil]); first | done | rfl) ?_; go_loud (refine (agg_none.calls g m s _ BG.out QN.out).mono ?_); rintro e w' ⟨rfl, rfl⟩; refine ⟨_, rfl, ?_⟩)
    | (go_at_call 22; go_loud (refine (value_May.calls v.f0 v.f1 v.f2 v.f3 true _ HM.out).mono ?_); rintro e w2 ⟨rfl, hb⟩; have b_BG := Aside0.mk (blk_below (by (with_reducible repeat (first | refine blk_drewN ?_ _ | refine blk_drew ?_ | refine blk_alloc ?_ _)); exact BG.out) hb); have b_BM := Aside0.mk (blk_below (by (with_reducible repeat (first | refine blk_drewN ?_ _ | refine blk_drew ?_ | refine blk_alloc ?_ _)); exact BM.out) hb); have b_BV := Aside0.mk (blk_below (by (with_reducible repeat (first | refine blk_drewN ?_ _ | refine blk_drew ?_ | refine blk_alloc ?_ _)); exact BV.out) hb); have b_HB := Aside0.mk (below_step (by repeat (first | (with_reducible first | exact HB.out | apply below_alloc | apply pw_below_drewN | apply below_drew1) | exact HB.out)) hb); clear HB BG BM BV; have HB := b_HB; have BG := b_BG; have BM := b_BM; have BV := b_BV; clear b_HB b_BG b_BM b_BV; clear hb; have ha0 : w2.cell? ⟨g, 0, none⟩ = some (.int .i64 5) := (blk_cell BG.out 0).trans (congrArg (fun z => some (Value.int .i64 z)) HFN.out); have hv0 : w2.cell? ⟨gv, 0, none⟩ = some (.int .i64 v.f0) := (blk_cell BV.out 0).trans rfl; have hv1 : w2.cell? ⟨gv, 1, none⟩ = some (.int .i64 v.f1) := (blk_cell BV.out 1).trans rfl; have hv2 : w2.cell? ⟨gv, 2, none⟩ = some (.string v.f2) := (blk_cell BV.out 2).trans rfl; have hv3 : w2.cell? ⟨gv, 3, none⟩ = some (.bool v.f3) := (blk_cell BV.out 3).trans rfl))
  have HS0 := Aside0.mk (show w2.drew.cell? ⟨g, 0, none⟩ = some (.int .i64 5) ∧ w2.drew.cell? ⟨gv, 0, none⟩ = some (.int .i64 v.f0) ∧ w2.drew.cell? ⟨gv, 1, none⟩ = some (.int .i64 v.f1) ∧ w2.drew.cell? ⟨gv, 2, none⟩ = some (.string v.f2) ∧ w2.drew.cell? ⟨gv, 3, none⟩ = some (.bool v.f3) ∧ Step2 g m w w2.drew from ⟨(blk_cell BG.out 0).trans (congrArg (fun z => some (Value.int .i64 z)) HFN.out), (blk_cell BV.out 0).trans rfl, (blk_cell BV.out 1).trans rfl, (blk_cell BV.out 2).trans rfl, (blk_cell BV.out 3).trans rfl, (Step2.of_below HB.out).trans (Step2.of_below (below_drew1 (Below.refl _ _)))⟩)
  go_region_held3 (fun W0 : World => W0.cell? ⟨g, 0, none⟩ = some (.int .i64 5) ∧ W0.cell? ⟨gv, 0, none⟩ = some (.int .i64 v.f0) ∧ W0.cell? ⟨gv, 1, none⟩ = some (.int .i64 v.f1) ∧ W0.cell? ⟨gv, 2, none⟩ = some (.string v.f2) ∧ W0.cell? ⟨gv, 3, none⟩ = some (.bool v.f3) ∧ Step2 g m w W0) (first | exact HS0.out | exact HSX.out) (first
    | (go_at_call 23; refine (agg_kinds.calls _).mono ?_; rintro e w3 ⟨gk, rfl, hk, hb⟩; have BGX := Aside0.mk (blk_below (o := .cells (acells s m) 52 (0, 0)) (g := g) (by (with_reducible repeat (first | refine blk_drewN ?_ _ | refine blk_drew ?_ | refine blk_alloc ?_ _)); exact BG.out) hb); have BMX := Aside0.mk (blk_below (o := .map es clock) (g := m) (by (with_reducible repeat (first | refine blk_drewN ?_ _ | refine blk_drew ?_ | refine blk_alloc ?_ _)); exact BM.out) hb); have BV_ := Aside0.mk (blk_below (o := .cells (vc v) 26 (0, 0)) (g := gv) (by (with_reducible repeat (first | refine blk_drewN ?_ _ | refine blk_drew ?_ | refine blk_alloc ?_ _)); exact BV.out) hb); have STX := Aside0.mk (show Step2 g m w w3 from Step2.trans (by go_split_ands; assumption) (Step2.of_below hb)); have hlk : (Instr.lookup 59 (.map (some gk)) (.int .i64 5) false).run Try.prog w3 = .ok (.agg #[.func (.func 38) #[] #[], .func (.func 39) #[] #[], .func (.func 40) #[] #[]]) w3 := run_lookupI hk _ (by rfl); have HSX := Aside0.mk (show w3.cell? ⟨g, 0, none⟩ = some (.int .i64 5) ∧ w3.cell? ⟨gv, 0, none⟩ = some (.int .i64 v.f0) ∧ w3.cell? ⟨gv, 1, none⟩ = some (.int .i64 v.f1) ∧ w3.cell? ⟨gv, 2, none⟩ = some (.string v.f2) ∧ w3.cell? ⟨gv, 3, none⟩ = some (.bool v.f3) ∧ Step2 g m w w3 from ⟨(blk_cell BGX.out 0).trans (congrArg (fun z => some (Value.int .i64 z)) HFN.out), (blk_cell BV_.out 0).trans rfl, (blk_cell BV_.out 1).trans rfl, (blk_cell BV_.out 2).trans rfl, (blk_cell BV_.out 3).trans rfl, STX.out⟩); clear hk hb)
    | (go_at_call 38; refine (HAD.out _ BGX.out BMX.out).mono ?_; rintro e w4 ⟨rfl, st4, hg4, hm4⟩; have BV4 := Aside0.mk (st4.blk BV_.out NBGBV.out.symm NBMBV.out.symm); have STY := Aside0.mk (STX.out.trans st4); have BGY := Aside0.mk hg4; have BMY := Aside0.mk hm4; clear BV_; have BV_ := BV4; have HSX := Aside0.mk (show w4.cell? ⟨g, 0, none⟩ = some (.int .i64 5) ∧ w4.cell? ⟨gv, 0, none⟩ = some (.int .i64 v.f0) ∧ w4.cell? ⟨gv, 1, none⟩ = some (.int .i64 v.f1) ∧ w4.cell? ⟨gv, 2, none⟩ = some (.string v.f2) ∧ w4.cell? ⟨gv, 3, none⟩ = some (.bool v.f3) ∧ Step2 g m w w4 from ⟨(blk_cell BGY.out 0).trans (congrArg (fun z => some (Value.int .i64 z)) HFN2.out), (blk_cell BV_.out 0).trans rfl, (blk_cell BV_.out 1).trans rfl, (blk_cell BV_.out 2).trans rfl, (blk_cell BV_.out 3).trans rfl, STY.out⟩); clear st4 hg4 hm4))
  all_goals go_wp2
  all_goals go_end0
  all_goals exact ⟨rfl, STY.out, BGY.out, BMY.out⟩
/-- An aggregate, in a world; where it keeps different values, its map's stamps are in order. -/
def IsAccB (w : World) (g m : Nat) (s : Acc18) : Prop := w.heap[g]? = some (.cells (acells s m) 52 (0, 0)) ∧ ∃ es clock, w.heap[m]? = some (.map es clock) ∧ Seen es.toList s.seen ∧ (s.fn = 5 → Born es.toList clock)
theorem IsAccB.acc {w : World} {g m : Nat} {s : Acc18} (h : IsAccB w g m s) : IsAcc w g m s := by
  obtain ⟨hg, es, clock, hm, hs, _⟩ := h
  exact ⟨hg, es, clock, hm, hs⟩
theorem IsAccB.below {w w1 : World} {g m : Nat} {s : Acc18} (h : IsAccB w g m s) (hb : Below w.heap.size w w1) : IsAccB w1 g m s := by
  obtain ⟨hg, es, clock, hm, hs⟩ := h
  exact ⟨blk_below hg hb, es, clock, blk_below hm hb, hs⟩
theorem IsAccB.step2 {w w1 : World} {g m g' m' : Nat} {s : Acc18} (h : IsAccB w g m s) (st : Step2 g' m' w w1) (h1 : g ≠ g') (h2 : g ≠ m') (h3 : m ≠ g') (h4 : m ≠ m') : IsAccB w1 g m s := by
  obtain ⟨hg, es, clock, hm, hs⟩ := h
  exact ⟨st.blk hg h1 h2, es, clock, st.blk hm h3 h4, hs⟩
theorem IsAccB.step {w w1 : World} {g m x : Nat} {s : Acc18} (h : IsAccB w g m s) (st : Step x w w1) (h1 : g ≠ x) (h3 : m ≠ x) : IsAccB w1 g m s := by
  obtain ⟨hg, es, clock, hm, hs⟩ := h
  exact ⟨st.blk hg h1, es, clock, st.blk hm h3, hs⟩
theorem agg_Add.callsB (g m : Nat) (s : Acc18) (v : S26) (w : World) (hI : IsAccB w g m s) (h1 : 1 ≤ s.fn) (h2 : s.fn < 6) (hv1 : -9223372036854775808 ≤ v.f1) (hv2 : v.f1 ≤ 9223372036854775807) :
    Calls Try.prog 14 #[.pointer (some ⟨g, 0, none⟩), .agg (vc v)] w fun e w' => e = .returned (.tuple #[]) ∧ Step2 g m w w' ∧ IsAccB w' g m (takeS s v) := by
  by_cases k5 : s.fn = 5
  · have hne := hI.acc.ne
    obtain ⟨hg, es, clock, hm, hs, hbo⟩ := hI
    have hM : value_May.f v.f0 v.f1 v.f2 v.f3 = some (mv v) := value_May.tell _ _ _ _
    have keepI : ∀ w', Below w.heap.size w w' → IsAccB w' g m s := fun w' hb => ⟨blk_below hg hb, es, clock, blk_below hm hb, hs, hbo⟩
    have hf0 : (s.fn == 0) = false := beq_eq_false_iff_ne.mpr (by omega)
    unfold takeS
    cases hmv : mv v with
    | false =>
      rw [hmv] at hM
      rw [if_neg (fun h => by cases h.1)]
      exact (agg_Add.not_ g m s v es clock w hg hm hf0 hM).mono fun e w' h => ⟨h.1, Step2.of_below h.2, keepI w' h.2⟩
    | true =>
      rw [hmv] at hM
      by_cases hk : v.f0 = 0
      · rw [if_neg (fun h => h.2 hk)]
        exact (agg_Add.null_ g m s v es clock w hg hm hf0 hM (bne_eq_false_iff_eq.mpr hk)).mono fun e w' h => ⟨h.1, Step2.of_below h.2, keepI w' h.2⟩
      · rw [if_pos ⟨rfl, hk⟩]
        have q0 : (v.f0 != 0) = true := bne_iff_ne.mpr hk
        unfold addS
        rw [if_neg (by omega), if_neg (by omega), if_pos k5]
        refine (agg_Add.do5B { s with seen := addV s.seen v } g m s v es clock w hg hm k5 k5 hM q0 (fun W hgW hmW => (agg_distinct.callsB g m s W hgW v es clock hmW hs (hbo k5)).mono fun e w' h => ?_)).mono fun e w' h => ?_
        · obtain ⟨he, st, es', clock', hm', hs', hb'⟩ := h
          exact ⟨he, Step.two st (.inr (.inl rfl)), st.blk hgW hne.symm, es', clock', hm', hs', hb'⟩
        · obtain ⟨he, st, hg', es', clock', hm', hs', hb'⟩ := h
          exact ⟨he, st, hg', es', clock', hm', hs', fun _ => hb'⟩
  · refine (agg_Add.calls g m s v w hI.acc h1 h2 hv1 hv2).mono fun e w' h => ?_
    obtain ⟨he, st, hg', es', clock', hm', hs'⟩ := h
    exact ⟨he, st, hg', es', clock', hm', hs', fun h5 => absurd (by rw [takeS_fn] at h5; exact h5) k5⟩
section
variable {P : Program} {w : World} {ops : Array Oper} {rest : List Oper} {o : Oper} {a : Act} {Q : Exit → Act → World → Prop}
theorem wpList_rangeF (hgd : o.guard = none) (t : TypeId) (x : Operand) (ho : o.op = .range t x) (kt et : TypeId) (ht : P.underlying t = some (.map kt et)) (bm : Nat) (hx : a.eval x = .map (some bm)) (es : Array MapEntry) (clock : Nat) (hb : w.heap[bm]? = some (.map es clock))
    (h : ∀ W r, r = w.heap.size → W.heap[r]? = some (.mapIter (some bm) clock #[] clock) → Below w.heap.size w W → wpList P ops Q rest (a.put o.dst (.pointer (some ⟨r, 0, none⟩))) W) : wpList P ops Q (o :: rest) a w := by
  refine wpList_plain hgd fun K hK => ?_
  have hrun := run_range_map (P := P) w t kt et bm es clock ht hb
  unfold Oper.wp execOp
  simp only [ho, hx, Sem.run_bind, Sem.run_pure, Result.andThen_ok, hrun]
  exact hK _ _ (h _ _ rfl (heap_alloc_last _ _) (below_alloc (Below.refl _ _) _))
theorem step_iter {r : Nat} {ob : Obj} {w1 : World} (hr : w.heap[r]? = some ob) (hal : w1 = w ∨ w1 = w.drew) (o' : Obj) : Step r w (ChangeMaps.setBlock w1 r o') ∧ (ChangeMaps.setBlock w1 r o').heap[r]? = some o' := by
  rcases hal with rfl | rfl
  · exact ⟨step_setMap hr _, (MapKept.heap_set hr).1⟩
  · exact ⟨Step.trans ((Step.refl r w).drew) (step_setMap (w := w.drew) hr _), (MapKept.heap_set (w := w.drew) hr).1⟩
theorem wpList_nextF (hgd : o.guard = none) (x : Operand) (ho : o.op = .next x false) (r bm since c0 : Nat) (seen : Array Nat) (es : Array MapEntry) (clock : Nat) (hx : a.eval x = .pointer (some ⟨r, 0, none⟩))
    (hr : w.heap[r]? = some (.mapIter (some bm) since seen c0)) (hb : w.heap[bm]? = some (.map es clock)) (hold : ∀ x ∈ es.toList, x.born < since) (hsc : since ≤ c0)
    (hDone : (leftOf es seen).size = 0 → wpList P ops Q rest (a.put o.dst (.tuple #[.bool false])) w)
    (hMore : ∀ e ∈ (leftOf es seen).toList, ∀ W, W.heap[r]? = some (.mapIter (some bm) since (seen.push e.born) clock) → Step r w W → wpList P ops Q rest (a.put o.dst (.tuple #[.bool true, e.key, e.val])) W) : wpList P ops Q (o :: rest) a w := by
  refine wpList_plain hgd fun K hK => ?_
  unfold Oper.wp execOp
  rcases run_next_at (P := P) w o.type r bm since c0 seen es clock hr hb hold hsc with ⟨h0, hrun⟩ | ⟨e, he, w1, hal, hrun⟩
  · simp only [ho, hx, Sem.run_bind, Sem.run_pure, Result.andThen_ok, hrun]
    exact hK _ _ (hDone h0)
  · simp only [ho, hx, Sem.run_bind, Sem.run_pure, Result.andThen_ok, hrun]
    have h2 := step_iter hr hal (.mapIter (some bm) since (seen.push e.born) clock)
    exact hK _ _ (hMore e he _ h2.2 h2.1)
theorem wpList_entryF (hgd : o.guard = none) (x : Operand) (ho : o.op = .entry x) (r bm since : Nat) (seen : Array Nat) (es : Array MapEntry) (clock : Nat) (e : MapEntry) (hx : a.eval x = .pointer (some ⟨r, 0, none⟩))
    (hr : w.heap[r]? = some (.mapIter (some bm) since (seen.push e.born) clock)) (hb : w.heap[bm]? = some (.map es clock)) (he : e ∈ es.toList) (hn : (es.toList.map (·.born)).Nodup) (key : Value) (hk : e.key = key)
    (h : wpList P ops Q rest (a.put o.dst (.tuple #[key, e.val])) w) : wpList P ops Q (o :: rest) a w := by
  refine wpList_plain hgd fun K hK => ?_
  have hrun := run_entry_at (P := P) w r bm since seen es clock e hr hb he hn
  rw [hk] at hrun
  unfold Oper.wp execOp
  simp only [ho, hx, Sem.run_bind, Sem.run_pure, Result.andThen_ok, hrun]
  exact hK _ _ h
end
/-- ks: the values that have come. -/
def Come (es : Array MapEntry) (seen : Array Nat) (ks : List S26) : Prop := ∀ v, v ∈ ks ↔ ∃ x ∈ es.toList, seen.contains x.born = true ∧ x.key = .agg (vc v)
theorem vc_inj {u v : S26} (h : Value.agg (vc u) = .agg (vc v)) : u = v := by
  cases u; cases v
  simp only [vc, Value.agg.injEq, Array.mk.injEq, List.cons.injEq, Value.int.injEq, Value.string.injEq, Value.bool.injEq, true_and, and_true] at h
  obtain ⟨h0, h1, h2, h3⟩ := h
  subst h0 h1 h2 h3
  rfl
theorem come_start (es : Array MapEntry) : Come es #[] [] := by
  intro v
  constructor
  · intro h; cases h
  · rintro ⟨x, _, h, _⟩; simp at h
theorem come_step {es : Array MapEntry} {seen : Array Nat} {ks : List S26} {clock : Nat} (hB : Born es.toList clock) {e : MapEntry} {v0 : S26} (he : e ∈ es.toList) (hk : e.key = .agg (vc v0)) (h : Come es seen ks) : Come es (seen.push e.born) (ks ++ [v0]) := by
  intro v
  rw [List.mem_append, List.mem_singleton]
  constructor
  · rintro (hv | rfl)
    · obtain ⟨x, hx, hs, hkx⟩ := (h v).1 hv
      exact ⟨x, hx, by rw [contains_push, hs]; rfl, hkx⟩
    · exact ⟨e, he, by rw [contains_push]; simp, hk⟩
  · rintro ⟨x, hx, hs, hkx⟩
    rw [contains_push, Bool.or_eq_true] at hs
    rcases hs with hs | hs
    · exact .inl ((h v).2 ⟨x, hx, hs, hkx⟩)
    · have hxe : x = e := born_inj hB.2 hx he (by simpa using hs)
      subst hxe
      exact .inr (vc_inj (hkx.symm.trans hk))
theorem seen_key {es : List MapEntry} {l : List S26} (hs : Seen es l) {e : MapEntry} (he : e ∈ es) : ∃ v, v ∈ l ∧ e.key = .agg (vc v) := by
  have h : e.key ∈ es.map (·.key) := List.mem_map.2 ⟨e, he, rfl⟩
  rw [hs] at h
  obtain ⟨v, hv, hk⟩ := List.mem_map.1 h
  exact ⟨v, hv, hk.symm⟩
theorem come_end {es : Array MapEntry} {seen : Array Nat} {ks l : List S26} (hs : Seen es.toList l) (h0 : (leftOf es seen).size = 0) (h : Come es seen ks) : ∀ v, v ∈ ks ↔ v ∈ l := by
  intro v
  rw [h v]
  constructor
  · rintro ⟨x, hx, _, hk⟩
    obtain ⟨u, hu, hku⟩ := seen_key hs hx
    rw [vc_inj (hk.symm.trans hku)]
    exact hu
  · intro hv
    have h1 : Value.agg (vc v) ∈ es.toList.map (·.key) := by rw [hs]; exact List.mem_map.2 ⟨v, hv, rfl⟩
    obtain ⟨x, hx, hk⟩ := List.mem_map.1 h1
    exact ⟨x, hx, all_seen es seen h0 x hx, hk⟩
theorem Step2.more {g m x : Nat} {w w1 w2 : World} (h : Step2 g m w w1) (st : Step x w1 w2) (hx : w.heap.size ≤ x ∨ x = m ∨ x = g) : Step2 g m w w2 := by
  have h0 := st.2 { w1 with heap := #[] } (Nat.zero_le _) ⟨rfl, rfl, rfl, Nat.zero_le _, fun k hk => absurd hk (Nat.not_lt_zero _)⟩
  refine ⟨h0.os.trans h.os, h0.tape.trans h.tape, h0.output.trans h.output, Nat.le_trans h.size st.1.1, fun k hk h1 h2 => ?_⟩
  exact (st.1.2 k (Nat.lt_of_lt_of_le hk h.size) (by rcases hx with hx | hx | hx <;> omega) (by simp)).trans (h.block k hk h1 h2)
theorem Step2.lowB {g m : Nat} {w w1 w2 : World} (h : Step2 g m w w1) (hb : Below w1.heap.size w1 w2) : Step2 g m w w2 := h.trans (Step2.of_below hb)
theorem left_start (et : Array MapEntry) : (leftOf et #[]).size ≤ et.size := by
  unfold leftOf
  exact Array.size_filter_le
theorem agg_joinSeen.calls (g m h k : Nat) (s t : Acc18) (w : World) (hg : w.heap[g]? = some (.cells (acells s m) 52 (0, 0))) (hh : w.heap[h]? = some (.cells (acells t k) 52 (0, 0))) (hmk : m ≠ k) (es : Array MapEntry) (clock : Nat) (hm : w.heap[m]? = some (.map es clock)) (hs : Seen es.toList s.seen) (hB_ : Born es.toList clock) (et : Array MapEntry) (ct : Nat) (hk : w.heap[k]? = some (.map et ct)) (ht : Seen et.toList t.seen) (hBt : Born et.toList ct) :
    Calls Try.prog 39 #[.pointer (some ⟨g, 0, none⟩), .pointer (some ⟨h, 0, none⟩)] w fun e w' => e = .returned (.tuple #[]) ∧ Step2 g m w w' ∧ w'.heap[g]? = some (.cells (acells s m) 52 (0, 0)) ∧ ∃ (ks : List S26) (es' : Array MapEntry) (clock' : Nat), w'.heap[m]? = some (.map es' clock') ∧ Seen es'.toList (ks.foldl addV s.seen) ∧ Born es'.toList clock' ∧ ∀ v, v ∈ ks ↔ v ∈ t.seen := by
  have HNM := Aside0.mk (show m ≠ g from fun e => by subst e; rw [hm] at hg; injection hg with h; cases h)
  have HMK := Aside0.mk hmk
  have BG := Aside0.mk hg
  have BM := Aside0.mk hm
  have BK := Aside0.mk hk
  have HS := Aside0.mk hs
  have HBO := Aside0.mk hB_
  have HT := Aside0.mk ht
  have HBT := Aside0.mk hBt
  have hu52 := Try.underlying52
  have hu26 := Try.underlying26
  have hb12 : w.cell? ⟨h, 12, none⟩ = some (.map (some k)) := (blk_cell hh 12).trans rfl
  clear hg hh hm hs hB_ hk ht hBt hmk
  go_enter Try.func39, Try.ntmps39
  go_wp2_with (first
    | ((with_reducible refine gate_dst (N := 9) rfl ?_); go_loud (refine wpList_rangeF rfl 47 (.tmp 8) rfl _ _ Try.underlying47 k rfl et ct BK.out ?_); intro w1 r hr hit hb; have HIT := Aside0.mk hit; have GER := Aside0.mk (show w.heap.size ≤ r by rw [hr]; exact Nat.le_refl _); have NRM := Aside0.mk (show r ≠ m by rw [hr]; exact (Nat.ne_of_lt (blk_lt BM.out)).symm); have NRK := Aside0.mk (show r ≠ k by rw [hr]; exact (Nat.ne_of_lt (blk_lt BK.out)).symm); have NRG := Aside0.mk (show r ≠ g by rw [hr]; exact (Nat.ne_of_lt (blk_lt BG.out)).symm); have BG2 := Aside0.mk (blk_below BG.out hb); have BM2 := Aside0.mk (blk_below BM.out hb); have BK2 := Aside0.mk (blk_below BK.out hb); have ST := Aside0.mk (show Step2 g m w w1 from Step2.of_below hb); clear BG BM BK hit hb hb12; have BG := BG2; have BM := BM2; have BK := BK2; clear BG2 BM2 BK2))
  go_frame
  clear hr
  go_loopg [4] et.size (fun m_ v4 wr => ∃ (ks : List S26) (seen : Array Nat) (c0 : Nat) (es' : Array MapEntry) (clk : Nat), Aside0 (Come et seen ks) ∧ Aside0 ((leftOf et seen).size ≤ m_) ∧ Aside0 (ct ≤ c0) ∧ Aside0 (wr.heap[r]? = some (.mapIter (some k) ct seen c0)) ∧ Aside0 (wr.heap[m]? = some (.map es' clk)) ∧ Aside0 (Seen es'.toList (ks.foldl addV s.seen)) ∧ Aside0 (Born es'.toList clk) ∧ Aside0 (wr.heap[k]? = some (.map et ct)) ∧ Aside0 (wr.heap[g]? = some (.cells (acells s m) 52 (0, 0))) ∧ Aside0 (Step2 g m w wr))
  case atStart => exact ⟨[], #[], ct, es, clock, ⟨come_start et⟩, ⟨left_start et⟩, ⟨Nat.le_refl _⟩, ⟨HIT.out⟩, ⟨BM.out⟩, ⟨HS.out⟩, ⟨HBO.out⟩, ⟨BK.out⟩, ⟨BG.out⟩, ⟨ST.out⟩⟩
  case round =>
    clear BG BM BK HS HBO HIT ST
    obtain ⟨ks, seen, c0, es', clk, HC, HLE, HCC, HIT, BM, HS, HBO, BK, BG, ST⟩ := hrel

    go_wp2_with (first
        | ((with_reducible refine gate_dst (N := 10) rfl ?_); go_loud (refine wpList_nextF rfl (.tmp 9) rfl r k ct c0 seen et ct rfl HIT.out BK.out HBT.out.1 HCC.out ?_ ?_); (rotate_left); intro e he w2 hit2 st2; have HE := Aside0.mk he; have HIT2 := Aside0.mk hit2; have ST2 := Aside0.mk (Step2.more ST.out st2 (.inl GER.out)); have BM2 := Aside0.mk (st2.blk BM.out NRM.out.symm); have BK2 := Aside0.mk (st2.blk BK.out NRK.out.symm); have BG2 := Aside0.mk (st2.blk BG.out NRG.out.symm); clear he hit2 st2 BM BK BG ST HIT; have BM := BM2; have BK := BK2; have BG := BG2; have ST := ST2; have HIT := HIT2; clear BM2 BK2 BG2 ST2 HIT2; have HB := Aside0.mk (Below.refl w2.heap.size w2); have HEL := Aside0.mk (mem_left HE.out).1; have HSH := Aside0.mk (left_shrinks et seen e HE.out); obtain ⟨v0, _, hk0⟩ := seen_key HT.out HEL.out; have HK0 := Aside0.mk hk0; clear hk0; have hen : (Instr.entry (.pointer (some ⟨r, 0, none⟩))).run Try.prog w2 = .ok (.tuple #[.agg (vc v0), e.val]) w2 := (by have h := run_entry_at (P := Try.prog) w2 r k ct seen et ct e HIT.out BK.out HEL.out HBT.out.2; rw [HK0.out] at h; exact h); (rotate_left); intro h0; have H0 := Aside0.mk h0; clear h0)
        | ((with_reducible refine gate_dst (N := 4) rfl ?_); refine box_event ?hg (N := 4) ?hd (cs := #[.int .i64 0, .int .i64 0, .string ⟨#[]⟩, .bool false]) (t := 26) ?hr ?_; (case hd => rfl); (case hg => rfl); (case hr => first | (go_simp; done) | (go_simp; rfl)); intro gv hg w3 hbox hb; have BV := Aside0.mk hbox; have GEBV := Aside0.mk ((by rw [hg]; exact (below_size (by repeat (first | (with_reducible first | exact HB.out | apply below_alloc | apply pw_below_drewN | apply below_drew1) | exact HB.out)))) : w2.heap.size ≤ gv); have NBGBV := Aside0.mk ((by rw [hg]; exact Nat.ne_of_lt (blk_lt (by (with_reducible repeat (first | refine blk_drewN ?_ _ | refine blk_drew ?_ | refine blk_alloc ?_ _)); exact BG.out))) : g ≠ gv); have NBMBV := Aside0.mk ((by rw [hg]; exact Nat.ne_of_lt (blk_lt (by (with_reducible repeat (first | refine blk_drewN ?_ _ | refine blk_drew ?_ | refine blk_alloc ?_ _)); exact BM.out))) : m ≠ gv); have NBKBV := Aside0.mk ((by rw [hg]; exact Nat.ne_of_lt (blk_lt (by (with_reducible repeat (first | refine blk_drewN ?_ _ | refine blk_drew ?_ | refine blk_alloc ?_ _)); exact BK.out))) : k ≠ gv); have NHITBV := Aside0.mk ((by rw [hg]; exact Nat.ne_of_lt (blk_lt (by (with_reducible repeat (first | refine blk_drewN ?_ _ | refine blk_drew ?_ | refine blk_alloc ?_ _)); exact HIT.out))) : r ≠ gv); have b_BG := Aside0.mk (blk_below (by (with_reducible repeat (first | refine blk_drewN ?_ _ | refine blk_drew ?_ | refine blk_alloc ?_ _)); exact BG.out) hb); have b_BM := Aside0.mk (blk_below (by (with_reducible repeat (first | refine blk_drewN ?_ _ | refine blk_drew ?_ | refine blk_alloc ?_ _)); exact BM.out) hb); have b_BK := Aside0.mk (blk_below (by (with_reducible repeat (first | refine blk_drewN ?_ _ | refine blk_drew ?_ | refine blk_alloc ?_ _)); exact BK.out) hb); have b_HIT := Aside0.mk (blk_below (by (with_reducible repeat (first | refine blk_drewN ?_ _ | refine blk_drew ?_ | refine blk_alloc ?_ _)); exact HIT.out) hb); have b_HB := Aside0.mk (below_step (by repeat (first | (with_reducible first | exact HB.out | apply below_alloc | apply pw_below_drewN | apply below_drew1) | exact HB.out)) hb); clear HB BG BM BK HIT; have HB := b_HB; have BG := b_BG; have BM := b_BM; have BK := b_BK; have HIT := b_HIT; clear b_HB b_BG b_BM b_BK b_HIT; clear hbox hg hb)
        | ((with_reducible refine gate_ (.store 26 (.tmp 4) (.tmp 13)) rfl ?_); go_loud (refine wpList_storeR rfl rfl 26 (.tmp 4) (.tmp 13) rfl gv (0) rfl (.agg (vc v0)) rfl (vc v0).toList rfl #[.int .i64 0, .int .i64 0, .string ⟨#[]⟩, .bool false] 26 BV.out size26 (by simp) (by simp [Value.oneCell']) (vc v0) rfl ?_); intro w4 hs st; have b_BG := Aside0.mk (Step.blk st (by (with_reducible repeat (first | refine blk_drewN ?_ _ | refine blk_drew ?_ | refine blk_alloc ?_ _)); exact BG.out) (NBGBV.out)); have b_BM := Aside0.mk (Step.blk st (by (with_reducible repeat (first | refine blk_drewN ?_ _ | refine blk_drew ?_ | refine blk_alloc ?_ _)); exact BM.out) (NBMBV.out)); have b_BK := Aside0.mk (Step.blk st (by (with_reducible repeat (first | refine blk_drewN ?_ _ | refine blk_drew ?_ | refine blk_alloc ?_ _)); exact BK.out) (NBKBV.out)); have b_HIT := Aside0.mk (Step.blk st (by (with_reducible repeat (first | refine blk_drewN ?_ _ | refine blk_drew ?_ | refine blk_alloc ?_ _)); exact HIT.out) (NHITBV.out)); have b_HB := Aside0.mk (Step.fresh st (by repeat (first | (with_reducible first | exact HB.out | apply below_alloc | apply pw_below_drewN | apply below_drew1) | exact HB.out)) GEBV.out); clear HB BG BM BK HIT; have HB := b_HB; have BG := b_BG; have BM := b_BM; have BK := b_BK; have HIT := b_HIT; clear b_HB b_BG b_BM b_BK b_HIT; clear BV; have BV := Aside0.mk hs; clear hs st; clear hen; have ha12 : w4.cell? ⟨g, 12, none⟩ = some (.map (some m)) := (blk_cell BG.out 12).trans rfl; have hv0 : w4.cell? ⟨gv, 0, none⟩ = some (.int .i64 v0.f0) := (blk_cell BV.out 0).trans rfl; have hv1 : w4.cell? ⟨gv, 1, none⟩ = some (.int .i64 v0.f1) := (blk_cell BV.out 1).trans rfl; have hv2 : w4.cell? ⟨gv, 2, none⟩ = some (.string v0.f2) := (blk_cell BV.out 2).trans rfl; have hv3 : w4.cell? ⟨gv, 3, none⟩ = some (.bool v0.f3) := (blk_cell BV.out 3).trans rfl))
    · go_end0
      exact ⟨rfl, ST.out, BG.out, ks, es', clk, BM.out, HS.out, HBO.out, come_end HT.out H0.out HC.out⟩
    · obtain ⟨es2, clk2, hrun, hs2, hbo2⟩ := run_mapUpdate26B v0 (.bool true) (ks.foldl addV s.seen) m es' clk w4.drew BM.out HS.out HBO.out
      have HS2 := Aside0.mk (show Seen es2.toList ((ks ++ [v0]).foldl addV s.seen) by rw [List.foldl_append]; exact hs2)
      have HBO2 := Aside0.mk hbo2
      have ST4 := Aside0.mk (show Step m w4 { w4.drew with heap := w4.drew.heap.setIfInBounds m (.map es2 clk2) } from Step.trans ((Step.refl m w4).drew) (step_setMap (w := w4.drew) BM.out _))
      have BM2 := Aside0.mk (show ({ w4.drew with heap := w4.drew.heap.setIfInBounds m (.map es2 clk2) } : World).heap[m]? = some (.map es2 clk2) from (MapKept.heap_set (w := w4.drew) BM.out).1)
      clear hs2 hbo2
      generalize ({ w4.drew with heap := w4.drew.heap.setIfInBounds m (.map es2 clk2) } : World) = W2 at hrun ST4 BM2
      have BK2 := Aside0.mk (ST4.out.blk BK.out HMK.out.symm)
      have BG2 := Aside0.mk (ST4.out.blk BG.out HNM.out.symm)
      have HIT2 := Aside0.mk (ST4.out.blk HIT.out NRM.out)
      have STn := Aside0.mk (Step2.more (Step2.lowB ST.out HB.out) ST4.out (.inr (.inl rfl)))
      clear ST ST4 BM BK BG HIT BV HB
      go_region_law (fail)
      all_goals go_wp2
      all_goals
        cases gk with
        | zero => exact absurd HSH.out (by have := HLE.out; omega)
        | succ m_ =>
          go_roundg m_
          case measure => omega
          case rel => exact ⟨ks ++ [v0], seen.push e.born, ct, es2, clk2, ⟨come_step HBT.out HEL.out HK0.out HC.out⟩, ⟨by have := HSH.out; have := HLE.out; omega⟩, ⟨Nat.le_refl _⟩, ⟨HIT2.out⟩, ⟨BM2.out⟩, ⟨HS2.out⟩, ⟨HBO2.out⟩, ⟨BK2.out⟩, ⟨BG2.out⟩, ⟨STn.out⟩⟩

end Go.Proofs.Ytgjmpancofjjbaa.Q
