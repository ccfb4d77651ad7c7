/- The machine side of laws, written by wip/tools/myprint.py (the printer's way, with functions proved by hand put in); Lean checks it. -/
import Derived.LoopIn
import Derived.LoopNIn
import Derived.Maps.AppendAt
import Derived.OwnWalkIn
import Derived.RangeFuncBound
import Derived.RangeFuncCalls
import Derived.RangeFuncLeaves
import Derived.RangeFuncNested
import Derived.Shelf.Abstract
import Derived.Shelf.RegionOpen
import Derived.Sort.LoopGhostIn
import Derived.Sort.QuietIn
import Derived.TacticsInMore
import Derived.Test.YtnlfhjhdnompaaaHnum
import Derived.Test.YtnlfhjhdnompaaaHruns
import Derived.Test.YtnlfhjhdnompaaaTx0
import Derived.Test.YtnlfhjhdnompaaaTx2
import Derived.Test.YtnlfhjhdnompaaaTx3
import Derived.Test.YtnlfhjhdnompaaaTx6
import Derived.Test.YtnlfhjhdnompaaaTx17
namespace Go.Proofs.Ytnlfhjhdnompaaa.T
open Go.RowKit Go.Proofs.YtnlfhjhdnompaaaW.PrintWords Go.Proofs.YtnlfhjhdnompaaaW.PrintLast Go.Proofs.YtnlfhjhdnompaaaW.PrintMore
attribute [local go_sem] max2_int min2_int max_two min_two max_three min_three max_four min_four   -- for this text's walks alone
set_option linter.unusedVariables false
set_option linter.unusedSimpArgs false

-- BY HAND: Derived.Test.YtnlfhjhdnompaaaHruns,Derived.Test.YtnlfhjhdnompaaaHnum,Derived.RangeFuncNested,Derived.RangeFuncBound,Derived.RangeFuncCalls,Derived.RangeFuncLeaves,Derived.Shelf.Abstract,Derived.Shelf.RegionOpen,Derived.OwnWalkIn,Derived.TacticsInMore,Derived.LoopNIn,Derived.LoopIn,Derived.Sort.LoopGhostIn,Derived.Sort.QuietIn,Derived.Maps.AppendAt
/-! ### runs_putRuns: function 39 -/
-- HAND winnower/runs.putRuns
-- IMPORT Derived.Test.YtnlfhjhdnompaaaHruns
-- IMPORT Derived.Test.YtnlfhjhdnompaaaHnum
-- IMPORT Derived.RangeFuncNested
-- IMPORT Derived.RangeFuncBound
-- IMPORT Derived.RangeFuncCalls
-- IMPORT Derived.RangeFuncLeaves
-- IMPORT Derived.Shelf.Abstract
-- IMPORT Derived.Shelf.RegionOpen
-- IMPORT Derived.OwnWalkIn
-- IMPORT Derived.TacticsInMore
-- IMPORT Derived.LoopNIn
-- IMPORT Derived.LoopIn
-- IMPORT Derived.Sort.LoopGhostIn
-- IMPORT Derived.Sort.QuietIn
-- IMPORT Derived.Maps.AppendAt
-- USES runs_Runs num_PutLen num_Put
open Go.Proofs.Ytnlfhjhdnompaaa.Hnum Go.Proofs.Ytnlfhjhdnompaaa.Hruns Go.Shelf
attribute [local go_sem] Oper.semAt_some
/-- A row of bytes that is read, in blocks that are told: some that lay, and some of cells from B on. -/
def rowP (N : Nat) (P0 : Nat → Prop) (B : Nat) (W : World) (v : Value) (xs : List Int) : Prop :=
  ∃ ok : Nat → Prop, (∀ k, ok k → (P0 k ∧ k < N) ∨ (B ≤ k ∧ ∃ cs, W.heap[k]? = some (.cells cs 5 (0, 0)))) ∧ Kd.V (Kd.int .u8) 5 W 0 ok v xs
theorem rowP.own {β : Type} {N b t B : Nat} {P0 : Nat → Prop} (f : β → List Int) (hN : N ≤ B) : OwnFrom B (fun s W => ∃ v, Boxed W b t v ∧ rowP N P0 B W v (f s)) := by
  rintro s X Y row ⟨v, hv, ok, h1, h2⟩ hg hrow
  have hne : ∀ k, ok k → some k ≠ row := by
    intro k hk e
    obtain ⟨hB, o, ho, hc⟩ := hrow k e.symm
    rcases h1 k hk with ⟨_, h⟩ | ⟨_, cs, h⟩
    · omega
    · rw [h] at ho; cases ho; cases hc
  refine ⟨v, hv.kept hg (fun e' => ?_), ok, fun k hk => ?_, Kd.V_grown h2 hg hne⟩
  · obtain ⟨_, o, ho, hc⟩ := hrow b e'.symm
    rw [show X.heap[b]? = _ from hv] at ho; cases ho; cases hc
  · rcases h1 k hk with h | ⟨hB, cs, h⟩
    · exact .inl h
    · exact .inr ⟨hB, cs, (hg.block k (Array.getElem?_eq_some_iff.1 h).1 (hne k hk)).trans h⟩
theorem rowP.of_R {N B base : Nat} {P0 : Nat → Prop} {W : World} {v : Value} {xs : List Int} (h : Kd.R (Kd.int .u8) 5 W base (fun _ => True) v xs) (hB : B ≤ base) : rowP N P0 B W v xs := by
  have hb := Kd.R_bound h
  refine ⟨_, fun k hk => ?_, Kd.R_V hb⟩
  obtain ⟨_, h1, _, q, hq, cs, hc⟩ := hk
  obtain rfl : q = 5 := by
    rcases List.mem_cons.1 hq with e | e
    · exact e
    · cases e
  exact .inr ⟨by omega, cs, hc⟩
theorem rowP.set {N B b : Nat} {P0 : Nat → Prop} {W : World} {v : Value} {xs : List Int} (h : rowP N P0 B W v xs) (h1 : N ≤ b) (h2 : b < B) (u : Value) : rowP N P0 B (W.setCell ⟨b, 0, none⟩ u) v xs := by
  obtain ⟨ok, ho, hv⟩ := h
  have hne : ∀ k, ok k → k ≠ b := by
    intro k hk
    rcases ho k hk with ⟨_, h⟩ | ⟨h, _⟩ <;> omega
  refine ⟨ok, fun k hk => ?_, Kd.V_far hv hne u⟩
  rcases ho k hk with h | ⟨hB, cs, h⟩
  · exact .inl h
  · exact .inr ⟨hB, cs, (Below.heap_setCell W ⟨b, 0, none⟩ u k (hne k hk)).trans h⟩
def bytesR (rs : List (Int × Int)) : List Int := rs.flatMap fun r => digs (fold r.1) ++ digs r.2.toNat
theorem bytesR_snoc (rs : List (Int × Int)) (r : Int × Int) : bytesR (rs ++ [r]) = bytesR rs ++ (digs (fold r.1) ++ digs r.2.toNat) := by simp [bytesR]
theorem bytesR_len {l : List Int} (hl : l.length ≤ 1000000) (hi : ∀ x ∈ l, i64 x) (rs : List (Rn l)) : (bytesR (rs.map (fun r => r.1))).length ≤ 20 * rs.length := by
  induction rs using list_snoc_ind with
  | nil => exact Nat.le_refl _
  | snoc rs r ih =>
    have h1 := digs_le_ten (fold_lt (hi _ r.2.1))
    have h2 := digs_le_ten (u := r.1.2.toNat) (by have := r.2.2; omega)
    rw [List.map_append, List.map_cons, List.map_nil, bytesR_snoc]
    simp only [List.length_append, List.length_singleton]
    omega
theorem putRuns_fin {N B : Nat} {P0 : Nat → Prop} {w W w2 : World} {v0 v2 : Value} {zs ys : List Int} {sl : Value} (hz : zs = ys) (hBN : B = N + 2) (hN : N = w.heap.size) (hB : Below N w W) (hS : Boxed W (N + 1) 22 sl) (hv : Boxed W N 24 v0) (hb : Below W.heap.size W w2) {base : Nat} (hbase : W.heap.size ≤ base)
    (ho : Kd.R (Kd.int .u8) 5 w2 base (fun _ => True) v2 zs) (hsz : B ≤ W.heap.size) :
    KeepsFrom B W (w2.setCell ⟨N, 0, none⟩ v2) ∧ KeepR N (N + 1) W (w2.setCell ⟨N, 0, none⟩ v2) ∧ ((∃ v, Boxed (w2.setCell ⟨N, 0, none⟩ v2) N 24 v ∧ rowP N P0 B (w2.setCell ⟨N, 0, none⟩ v2) v ys) ∧ Boxed (w2.setCell ⟨N, 0, none⟩ v2) (N + 1) 22 sl) ∧ Below N w (w2.setCell ⟨N, 0, none⟩ v2) := by
  subst hz
  have hv2 : Boxed w2 N 24 v0 := (hb.block N hv.lt).trans hv
  have hS2 : Boxed w2 (N + 1) 22 sl := (hb.block (N + 1) hS.lt).trans hS
  have hS3 := hS2.other (B' := N) (by omega) v2
  have hlow : Below N W (w2.setCell ⟨N, 0, none⟩ v2) := (hb.mono (show N ≤ W.heap.size by omega)).setCell (p := ⟨N, 0, none⟩) (Nat.le_refl _) v2
  refine ⟨⟨?_, fun k o hBk hk hc => ?_⟩, ⟨hlow, hS3.trans hS.symm⟩, ⟨⟨v2, hv2.set v2, (rowP.of_R ho (by omega)).set (Nat.le_refl _) (by omega) v2⟩, hS3⟩, hB.trans hlow⟩
  · have := hlow.size
    first | exact this | omega
  · exact ((Below.heap_setCell w2 ⟨N, 0, none⟩ v2 k (by show k ≠ N; omega)).trans (hb.block k (Array.getElem?_eq_some_iff.1 hk).1)).trans hk
theorem below_from_drew {W w1 : World} (h : Below W.drew.heap.size W.drew w1) : Below W.heap.size W w1 := (below_drew1 (Below.refl W.heap.size W)).trans h
theorem boxed_below {W w1 : World} {b t : Nat} {v : Value} (h : Below W.heap.size W w1) (hv : Boxed W b t v) : Boxed w1 b t v := (h.block b hv.lt).trans hv
theorem putU_tell {l : List Int} {u : Nat} (hu : u < 18446744073709551616) (hl : l.length < 1000000000000) : num_put.f l (u : Int) = some (l ++ digs u) := by
  unfold num_put.f; rw [if_pos (by omega), if_pos (by omega), if_pos hl, Int.toNat_natCast]
theorem putR_tell {l : List Int} {a : Int} (h : i64 a) (hl : l.length < 1000000000000) : num_Put.f l a = some (l ++ digs (fold a)) := by
  unfold num_Put.f num_fold.f; rw [fold_bits h, Option.bind_some, putU_tell (fold_lt h) hl, Option.bind_some]
theorem putLenR_tell {l : List Int} {a : Int} (h : 0 ≤ a ∧ a ≤ 9223372036854775807) (hl : l.length < 1000000000000) : num_PutLen.f l a = some (l ++ digs a.toNat) := by
  unfold num_PutLen.f; rw [if_neg (by omega), wrap_u64, show a % 18446744073709551616 = ((a.toNat : Nat) : Int) from by omega, putU_tell (by omega) hl, Option.bind_some]
def runs_putRuns.f (l0 : List Int) (l1 : List Int) : Option (List Int) := if l1.length ≤ 1000000 ∧ l0.length ≤ 1000000 ∧ ∀ x ∈ l1, i64 x then some (l0 ++ bytesR (runsOf l1)) else none
set_option maxRecDepth 100000 in
set_option maxHeartbeats 1000000 in
theorem runs_putRuns.calls (P0_ : Nat → Prop) (A0 : Option Addr) (c0 : Nat) (l0 : List Int) (A1 : Option Addr) (c1 : Nat) (l1 : List Int) (r : List Int) (w : World) (hs0 : Kd.V (Kd.int .u8) 5 w w.heap.size (fun k_ => P0_ k_) (.slice A0 l0.length c0) l0) (hr1 : Kd.C (Kd.int .i64) w A1 l1.length l1) (hc1 : l1.length ≤ c1) (h : runs_putRuns.f l0 l1 = some r) :
    Calls Try.prog 39 #[.slice A0 l0.length c0, .slice A1 l1.length c1] w fun e w' => ∃ v0_ : Value, e = .returned v0_ ∧ Kd.V (Kd.int .u8) 5 w' w.heap.size (fun k_ => (P0_ k_ ∨ w.heap.size ≤ k_)) v0_ r ∧ Below w.heap.size w w' := by
  have HR1 := Aside0.mk hr1
  clear hr1
  obtain ⟨hl1, hl0, hi, hr⟩ : l1.length ≤ 1000000 ∧ l0.length ≤ 1000000 ∧ (∀ x ∈ l1, i64 x) ∧ l0 ++ bytesR (runsOf l1) = r := by
    rw [runs_putRuns.f] at h
    by_cases c : l1.length ≤ 1000000 ∧ l0.length ≤ 1000000 ∧ ∀ x ∈ l1, i64 x
    · rw [if_pos c] at h; exact ⟨c.1, c.2.1, c.2.2, Option.some.inj h⟩
    · rw [if_neg c] at h; cases h
  subst hr
  clear h
  have h1 : 1 ≤ 7 := by omega
  have hf32 : Fence.wide.fn 32 := trivial
  refine (callsIn_wide (n := 7)).1 ?_
  refine callsIn_of_wp_marks Try.func39 rfl trivial ?_ rfl
  simp only [Try.ntmps39, List.size_toArray, List.length_cons, List.length_nil, Nat.reduceAdd, Nat.reduceSub, Array.replicate_succ, Array.replicate_zero, List.push_toArray, List.append_toArray, List.nil_append, List.cons_append]
  gi_wp2_with (gi_at_call 32; refine ((callsIn_wide (n := 6)).2 (runs_stretches.calls _ _ _ _)).mono ?_; rintro e w' ⟨rfl, rfl⟩)
  have bO := Boxed.new w 24 (.slice A0 l0.length c0)
  have bN := Boxed.new (w.alloc (.cells #[.slice A0 l0.length c0] 24)) 22 (.slice A1 l1.length c1)
  rw [World.size_alloc] at bN
  have hB0 : Below w.heap.size w ((w.alloc (.cells #[.slice A0 l0.length c0] 24)).alloc (.cells #[.slice A1 l1.length c1] 22)) := ((Below.refl _ w).alloc (Nat.le_refl _) _).alloc (by simp) _
  have bO2 := bO.alloc (.cells #[.slice A1 l1.length c1] 22)
  have hsz : ((w.alloc (.cells #[.slice A0 l0.length c0] 24)).alloc (.cells #[.slice A1 l1.length c1] 22)).heap.size = w.heap.size + 2 := by simp
  obtain ⟨W0, hW0⟩ : ∃ W0, (w.alloc (.cells #[.slice A0 l0.length c0] 24)).alloc (.cells #[.slice A1 l1.length c1] 22) = W0 := ⟨_, rfl⟩
  rw [hW0] at bN bO2 hB0 hsz ⊢
  clear hW0 bO
  have hP0 : rowP w.heap.size P0_ W0.heap.size W0 (.slice A0 l0.length c0) l0 := ⟨_, fun k hk => .inl hk, Kd.V_below (Kd.V_bound hs0) hB0⟩
  clear hs0
  refine wpIn_rangeFunc_ownH rfl h1 (gf := 44) (lb := #[.pointer (some ⟨w.heap.size + 1, 0, none⟩)]) rfl trivial (enters_of Try.func44 (by kernel_rfl) rfl)
    (runs_stretches_1.stops (7 - 1) (by omega) A1 c1 l1 w W0 (w.heap.size + 1) hB0 (by omega) bN HR1.out hl1) KeepR.trans (keepR_b hsz) (Below.refl _ _) (fun _ => rfl)
    (fun (pre : List (Rn l1)) W => ((∃ v, Boxed W w.heap.size 24 v ∧ rowP w.heap.size P0_ W0.heap.size W v (l0 ++ bytesR (pre.map (fun r => r.1)))) ∧ Boxed W (w.heap.size + 1) 22 (.slice A1 l1.length c1)) ∧ Below w.heap.size w W)
    (fun _ _ _ => False)
    (OwnFrom.and (OwnFrom.and (rowP.own (fun pre : List (Rn l1) => l0 ++ bytesR (pre.map (fun r => r.1))) (by omega)) (Own.from (boxed_own _ _ _) _)) (ownFrom_below (Nat.le_refl _) (by omega)))
    (fun _ _ _ _ _ hs _ _ => hs)
    ⟨⟨⟨_, bO2, by simp only [List.map_nil, bytesR, List.flatMap_nil, List.append_nil]; exact hP0⟩, bN⟩, hB0⟩
    (fun (x : Rn l1) a' W => ∃ Bx, w.heap.size + 1 < Bx ∧ BoxR W Bx x.1 ∧ a' = { tmps := #[.slice A0 l0.length c0, .slice A1 l1.length c1, .pointer (some ⟨w.heap.size, 0, none⟩), undef, .slice none 0 0, .pointer (some ⟨Bx, 0, none⟩), .slice A1 l1.length c1, .func (.func 44) #[] #[.pointer (some ⟨w.heap.size + 1, 0, none⟩)], .agg #[.int .i64 x.1.1, .int .i64 x.1.2], undef, undef, undef, undef, undef, undef, undef, undef], defers := [] })
    (fun (x : Rn l1) a' _ X Y row hs hg hr => by obtain ⟨Bx, h1, h2, h3⟩ := hs; exact ⟨Bx, h1, boxR_own Bx x.1 () X Y row h2 hg (fun r e => (hr r e).2), h3⟩)
    ?assign ?body ?done ?stop
  case assign =>
    rintro l pre x W K ⟨⟨⟨v, hv, hrow⟩, hN⟩, hB⟩ hK
    simp only [encR]
    gi_wp2
    have hI := (rowP.own (b := w.heap.size) (t := 24) (N := w.heap.size) (P0 := P0_) (B := W0.heap.size) (fun pre : List (Rn l1) => l0 ++ bytesR (pre.map (fun r => r.1))) (by omega)).alloc (.cells #[.int .i64 x.1.1, .int .i64 x.1.2] 35) (s := pre) (W := W) ⟨v, hv, hrow⟩
    exact hK _ _ ((KeepsOthers.alloc _ _).from _) ⟨(Below.refl _ W).alloc hB.size _, Below.heap_alloc W _ _ hN.lt⟩ ⟨⟨hI, hN.alloc _⟩, hB.alloc hB.size _⟩ ⟨W.heap.size, hN.lt, World.alloc_heap_new W _, rfl⟩
  case body =>
    rintro l pre x a' W hlW ⟨rr, hL⟩ ⟨⟨⟨v, hv, hrow⟩, hN⟩, hB⟩ ⟨Bx, hBx, hX, rfl⟩ hlt
    have hWs : W0.heap.size ≤ W.heap.size := Nat.le_of_lt (Nat.lt_of_le_of_lt hlW (Array.getElem?_eq_some_iff.1 hL).1)
    have hlen := bytesR_len hl1 hi pre
    have hend := bytesR_snoc (pre.map (fun r => r.1)) x.1
    obtain ⟨xs, hxs⟩ : ∃ xs, xs = l0 ++ bytesR (pre.map (fun r => r.1)) := ⟨_, rfl⟩
    have hxl : xs.length ≤ 100000000 := by rw [hxs, List.length_append]; omega
    rw [← hxs] at hrow
    obtain ⟨ok, hok, hV⟩ := hrow
    obtain ⟨A, c, rfl⟩ := Kd.V_slice hV
    have HV := Aside0.mk hV
    clear hV
    have HXS := Aside0.mk hxs
    clear hxs
    have hc := hv.cell
    have hf := hv.frozen
    have hx0 : W.cell? ⟨Bx, 0, none⟩ = some (.int .i64 x.1.1) := (blk_cell hX 0).trans rfl
    have hx1 : W.cell? ⟨Bx, 1, none⟩ = some (.int .i64 x.1.2) := (blk_cell hX 1).trans rfl
    obtain ⟨ys, hys⟩ : ∃ ys, ys = xs ++ digs (fold x.1.1) := ⟨_, rfl⟩
    have E1 := Aside0.mk (show num_Put.f xs x.1.1 = some ys from hys ▸ putR_tell (l := xs) (hi _ x.2.1) (by omega))
    have hyl : ys.length < 1000000000000 := by have := digs_le_ten (fold_lt (hi _ x.2.1)); rw [hys, List.length_append]; omega
    obtain ⟨zs, hzs⟩ : ∃ zs, zs = ys ++ digs x.1.2.toNat := ⟨_, rfl⟩
    have E2 := Aside0.mk (show num_PutLen.f ys x.1.2 = some zs from hzs ▸ putLenR_tell (l := ys) (a := x.1.2) (by have := x.2.2; omega) hyl)
    have HZ := Aside0.mk (show zs = l0 ++ bytesR ((pre ++ [x]).map (fun r => r.1)) from by rw [hzs, hys, HXS.out, List.map_append, List.map_cons, List.map_nil, hend]; simp only [List.append_assoc])
    clear hys hzs hend
    have hf46 : Fence.wide.fn 46 := trivial
    have hf27 : Fence.wide.fn 27 := trivial
    have hmx : Try.prog.follows .mixedOrders = true := by kernel_rfl
    gi_wp2
    gi_region_with_o (first
      | (gi_at_call 46; go_loud (refine (CallsIn.inRound l ((callsIn_wide (n := 4)).2 (num_Put.calls A c xs x.1.1 _ _ (Kd.C_drew (Kd.V_reads' HV.out).2.2) (Kd.V_reads' HV.out).2.1 E1.out))).mono ?_; rintro e w1 ⟨v1, rfl, ho1, hb1⟩; obtain ⟨A1', c1', rfl⟩ := Kd.R_slice ho1; have HO1 := Aside0.mk ho1; have HB1 := Aside0.mk (below_from_drew hb1); have hc1 : w1.cell? ⟨Bx, 1, none⟩ = some (.int .i64 x.1.2) := (HB1.out.cell (p := ⟨Bx, 1, none⟩) (Array.getElem?_eq_some_iff.1 hX).1).trans hx1; have hc2 := (boxed_below HB1.out hv).cell; clear ho1 hb1))
      | (gi_at_call 27
         refine (CallsIn.inRound l ((callsIn_wide (n := 4)).2 (num_PutLen.calls A1' c1' ys x.1.2 _ _ (Kd.R_reads' HO1.out).2.2 (Kd.R_reads' HO1.out).2.1 E2.out))).mono ?_
         rintro e w2 ⟨v2, rfl, ho2, hb2⟩
         obtain ⟨A2', c2', rfl⟩ := Kd.R_slice ho2
         have HO2 := Aside0.mk ho2
         have HB2 := Aside0.mk (HB1.out.trans (hb2.mono HB1.out.size))
         have hc3 := (boxed_below HB2.out hv).cell
         have hf3 := (boxed_below HB2.out hv).frozen
         clear ho2 hb2))
    all_goals exact putRuns_fin HZ.out hsz rfl hB hN hv HB2.out HB1.out.size HO2.out hWs
  case done =>
    rintro D ys W hD hys ⟨⟨⟨v, hv, hrow⟩, hN⟩, hB⟩ hK
    rw [hys] at hrow
    obtain ⟨xs, hxs⟩ : ∃ xs, xs = l0 ++ bytesR (runsOf l1) := ⟨_, rfl⟩
    rw [← hxs] at hrow
    have HXS := Aside0.mk hxs
    clear hxs
    have hc := hv.cell
    obtain ⟨ok, hok, hV⟩ := hrow
    obtain ⟨A, c, rfl⟩ := Kd.V_slice hV
    gi_wp2
    refine ⟨by simp, .inl ⟨_, _, rfl, run_takeDeferred hK, ?_⟩⟩
    refine ⟨_, results_tmp rfl _ _ _, .slice A xs.length c, rfl, ?_, hB.trans (belowK_b (w := w) (Nat.le_refl _) W D _ _ (by omega) hK rfl rfl)⟩
    rw [← HXS.out]
    refine Kd.V_mono (Kd.V_grown hV (grownBy_putObj' W D _) (fun k hk e => ?_)) (fun k hk => ?_)
    · cases e
      rcases hok _ hk with ⟨_, h⟩ | ⟨_, cs, h⟩
      · omega
      · rw [h] at hK; cases hK
    · rcases hok _ hk with ⟨h, _⟩ | ⟨h, _⟩
      · exact .inl h
      · exact .inr (by omega)
  case stop =>
    rintro D c pre W _ _ h _
    exact h.elim

end Go.Proofs.Ytnlfhjhdnompaaa.T
