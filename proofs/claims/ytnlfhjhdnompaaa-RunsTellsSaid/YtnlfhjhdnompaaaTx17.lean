/- The machine side of laws, written by wip/tools/myprint.py (the printer's way, with functions proved by hand put in); Lean checks it. -/
import Derived.LoopIn
import Derived.LoopNIn
import Derived.Maps.AppendAt
import Derived.OwnWalkIn
import Derived.RangeFuncBound
import Derived.RangeFuncCalls
import Derived.RangeFuncLeaves
import Derived.RangeFuncNested
import Derived.Shelf.Abstract
import Derived.Shelf.RegionOpen
import Derived.Sort.LoopGhostIn
import Derived.Sort.QuietIn
import Derived.TacticsInMore
import Derived.Test.YtnlfhjhdnompaaaHnum
import Derived.Test.YtnlfhjhdnompaaaHruns
import Derived.Test.YtnlfhjhdnompaaaTx0
namespace Go.Proofs.Ytnlfhjhdnompaaa.T
open Go.RowKit Go.Proofs.YtnlfhjhdnompaaaW.PrintWords Go.Proofs.YtnlfhjhdnompaaaW.PrintLast Go.Proofs.YtnlfhjhdnompaaaW.PrintMore
attribute [local go_sem] max2_int min2_int max_two min_two max_three min_three max_four min_four   -- for this text's walks alone
set_option linter.unusedVariables false
set_option linter.unusedSimpArgs false

-- BY HAND: Derived.Test.YtnlfhjhdnompaaaHruns,Derived.Test.YtnlfhjhdnompaaaHnum,Derived.RangeFuncNested,Derived.RangeFuncBound,Derived.RangeFuncCalls,Derived.RangeFuncLeaves,Derived.Shelf.Abstract,Derived.Shelf.RegionOpen,Derived.OwnWalkIn,Derived.TacticsInMore,Derived.LoopNIn,Derived.LoopIn,Derived.Sort.LoopGhostIn,Derived.Sort.QuietIn,Derived.Maps.AppendAt
/-! ### runs_Runs: function 14 -/
-- HAND winnower/runs.Runs making
-- SKIP winnower/runs.stretches
-- IMPORT Derived.Test.YtnlfhjhdnompaaaHruns
-- IMPORT Derived.Test.YtnlfhjhdnompaaaHnum
-- IMPORT Derived.RangeFuncNested
-- IMPORT Derived.RangeFuncBound
-- IMPORT Derived.RangeFuncCalls
-- IMPORT Derived.RangeFuncLeaves
-- IMPORT Derived.Shelf.Abstract
-- IMPORT Derived.Shelf.RegionOpen
-- IMPORT Derived.OwnWalkIn
-- IMPORT Derived.TacticsInMore
-- IMPORT Derived.LoopNIn
-- IMPORT Derived.LoopIn
-- IMPORT Derived.Sort.LoopGhostIn
-- IMPORT Derived.Sort.QuietIn
-- IMPORT Derived.Maps.AppendAt
open Go.Proofs.Ytnlfhjhdnompaaa.Hnum Go.Proofs.Ytnlfhjhdnompaaa.Hruns Go.Shelf
attribute [local go_sem] Oper.semAt_some
theorem runs_stretches.calls (A0 : Option Addr) (n c0 : Nat) (w : World) :
    Calls Try.prog 32 #[.slice A0 n c0] w fun e w' => e = .returned (.func (.func 44) #[] #[.pointer (some ⟨w.heap.size, 0, none⟩)]) ∧ w.alloc (.cells #[.slice A0 n c0] 22) = w' := by
  go_enter Try.func32, Try.ntmps32
  go_wp2
  go_ret
  exact ⟨rfl, rfl⟩
abbrev RunT := S35
def encR (l : List Int) (r : Rn l) : Array Value := #[.agg #[.int .i64 r.1.1, .int .i64 r.1.2]]
/-- What the iterator keeps of a round. -/
def KeepR (n₀ Bn : Nat) (W W' : World) : Prop := Below n₀ W W' ∧ W'.heap[Bn]? = W.heap[Bn]?
theorem KeepR.trans {n₀ Bn : Nat} {X Y Z : World} (h : KeepR n₀ Bn X Y) (k : KeepR n₀ Bn Y Z) : KeepR n₀ Bn X Z := ⟨h.1.trans k.1, k.2.trans h.2⟩
theorem keepR_b {w W0 : World} (hsz : W0.heap.size = w.heap.size + 2) (W : World) (l : Nat) (o o' : Obj) (hl : W0.heap.size ≤ l) (h : W.heap[l]? = some o) (h1 : o.isCells = false) (h2 : o.isWalk = false) : KeepR w.heap.size (w.heap.size + 1) W (W.putObj l o') :=
  ⟨belowK_b (w := w) (Nat.le_refl _) W l o o' (by omega) h h1 h2, World.putObj_heap_other (by omega)⟩
theorem grown_drewN (W : World) (n : Nat) : W.grownBy (W.drewN n) none := ⟨rfl, rfl, rfl, Nat.le_refl _, fun _ _ _ => rfl⟩
theorem drewN_J {α : Type} {J : List α → World → Prop} {B : Nat} {s : List α} {W : World} (h : AbidesFrom B J) (hs : J s W) (n : Nat) : J s (W.drewN n) := h s W _ none hs (grown_drewN W n) (fun r e => by cases e)
theorem next_J {l : List Int} {J : List (Rn l) → World → Prop} {i : Nat} {x : Int} {n₀ Bn : Nat} {w₀ W W' : World} {o : Option Obj} (hi : i < l.length) (hx : x = l.getD i 0) (hst : stP l (i + 1) = stP l i ++ [⟨(x, (i : Int) + 1 - ((stR l i).2 : Int)), Rn_of hi hx⟩])
    (hJ : J (stP l i ++ [⟨(x, (i : Int) + 1 - ((stR l i).2 : Int)), Rn_of hi hx⟩]) W') (hk : KeepR n₀ Bn W W') (hb : Below n₀ w₀ W) (hX : W.heap[Bn]? = o) : J (stP l (i + 1)) W' ∧ Below n₀ w₀ W' ∧ W'.heap[Bn]? = o := by
  refine ⟨?_, hb.trans hk.1, hk.2.trans hX⟩
  rw [hst]
  exact hJ
set_option maxRecDepth 100000 in
set_option maxHeartbeats 8000000 in
theorem runs_stretches_1.stops (n : Nat) (hn : 1 ≤ n) (A0 : Option Addr) (c0 : Nat) (l : List Int) (w₀ w : World) (Bn : Nat) (hb0 : Below w₀.heap.size w₀ w) (hBn : Bn < w.heap.size) (hBox : w.heap[Bn]? = some (.cells #[.slice A0 l.length c0] 22 (0, 0)))
    (hC : Kd.C (Kd.int .i64) w₀ A0 l.length l) (hl : l.length ≤ 1000000) :
    SeqStopsK Fence.wide n Try.prog 44 #[.pointer (some ⟨Bn, 0, none⟩)] (encR l) (KeepR w₀.heap.size Bn) (fun xs => xs.map (fun r => r.1) = runsOf l) (fun _ => True) (l.length + 1) w := by
  intro l' J Jx W hW hJ hJx hY h0
  have HAb := Aside0.mk hJ
  have HC := Aside0.mk hC
  have HY := Aside0.mk hY
  have HB := Aside0.mk (hb0.trans (hW.mono hb0.size))
  have HBox := Aside0.mk ((hW.block Bn hBn).trans hBox)
  have H0 := Aside0.mk h0
  clear hY hW hb0 hBox hJ hJx h0 hC
  refine callsIn_of_wp Try.func44 rfl trivial ?_ rfl
  simp only [Try.ntmps44, List.size_toArray, List.length_cons, List.length_nil, Nat.reduceAdd, Nat.reduceSub, Array.replicate_succ, Array.replicate_zero, List.push_toArray, List.append_toArray, List.nil_append, List.cons_append]
  have cB : W.cell? ⟨Bn, 0, none⟩ = some (.slice A0 l.length c0) := (blk_cell HBox.out 0).trans rfl
  gi_wp2
  gi_loopg [3, 7] l.length (fun m v3 v7 wr => ∃ i : Nat, i + m = l.length ∧ v7 = .int .i64 (i : Int) ∧ v3 = .int .i64 ((stR l i).2 : Int) ∧ Aside0 (J (stP l i) wr ∧ Below w₀.heap.size w₀ wr ∧ wr.heap[Bn]? = some (.cells #[.slice A0 l.length c0] 22 (0, 0))))
  case atStart => exact ⟨0, by omega, rfl, rfl, ⟨⟨H0.out, HB.out, HBox.out⟩⟩⟩
  case round =>
    obtain ⟨i, hi, rfl, rfl, HA⟩ := hrel
    have HJ1 := Aside0.mk HA.out.1
    have HB1 := Aside0.mk HA.out.2.1
    have HX1 := Aside0.mk HA.out.2.2
    have cB : wr.cell? ⟨Bn, 0, none⟩ = some (.slice A0 l.length c0) := (blk_cell HA.out.2.2 0).trans rfl
    clear HA
    have hle := (stR_le l i).1
    have hle2 := (stR_le l i).2
    by_cases hlt : i < l.length
    · have hb1 : decide ((i : Int) < (l.length : Int)) = true := decide_eq_true (by omega)
      have q0 : (0 : Int) ≤ (i : Int) := by omega
      have q1 : (i : Int) < (l.length : Int) := by omega
      have hw : IntKind.i64.wrap ((i : Int) + 1) = (i : Int) + 1 := IntWalk.i64_in _ (by omega)
      have ht : ((i : Int) + 1).toNat = i + 1 := by omega
      obtain ⟨ad, e, hx⟩ := Kd.at_int (Kd.C_below HC.out HB1.out) (i : Int) q0 (by omega)
      subst e
      rw [rd, Int.toNat_natCast] at hx
      obtain ⟨x, hxe⟩ : ∃ x, x = l.getD i 0 := ⟨_, rfl⟩
      rw [← hxe] at hx
      have HXE := Aside0.mk hxe
      clear hxe
      by_cases h1 : i + 1 < l.length
      · have hb2 : decide ((i : Int) + 1 < (l.length : Int)) = true := decide_eq_true (by omega)
        have q2 : (0 : Int) ≤ (i : Int) + 1 := by omega
        have q3 : (i : Int) + 1 < (l.length : Int) := by omega
        obtain ⟨ad', e, hy⟩ := Kd.at_int (Kd.C_below HC.out HB1.out) ((i : Int) + 1) q2 (by omega)
        cases e
        rw [rd, ht, show ad.add (i + 1) = ⟨ad.block, ad.off + (i + 1), none⟩ from by unfold Addr.add; exact if_neg (by omega)] at hy
        obtain ⟨y, hye⟩ : ∃ y, y = l.getD (i + 1) 0 := ⟨_, rfl⟩
        rw [← hye] at hy
        have HYE := Aside0.mk hye
        clear hye
        by_cases he : y = x
        · subst he
          have hst := stR_more (l := l) (i := i) ⟨h1, HYE.out.symm.trans HXE.out⟩
          have HS := Aside0.mk hst
          have HP := Aside0.mk (stP_more (l := l) (i := i) ⟨h1, HYE.out.symm.trans HXE.out⟩)
          clear hst
          gi_wp2_with fail
          gi_quiet (fail)
          gi_wp2
          gi_roundg (gk - 1)
          case measure => omega
          case rel => exact ⟨i + 1, by omega, by go_num, by rw [HS.out], ⟨by rw [HP.out]; exact drewN_J HAb.out HJ1.out nq, pw_below_drewN HB1.out nq, HX1.out⟩⟩
        · have hb3 : (y == x) = false := beq_eq_false_iff_ne.mpr he
          have hst := stR_end (l := l) (i := i) (fun h => he (HYE.out.trans (h.2.trans HXE.out.symm)))
          have HS := Aside0.mk hst
          have HP := Aside0.mk (stP_end (l := l) (i := i) hlt HXE.out (fun h => he (HYE.out.trans (h.2.trans HXE.out.symm))))
          clear hst he
          gi_wp2_with fail
          gi_quiet (fail)
          obtain ⟨fn, tmps, assign, body, hy2, hR⟩ := HY.out (stP l i) ⟨(x, (i : Int) + 1 - ((stR l i).2 : Int)), Rn_of hlt HXE.out⟩ (wr.drewN nq) (drewN_J HAb.out HJ1.out nq) (by have := stP_le l i; omega)
          have HRR := Aside0.mk hR
          clear hR
          dsimp only [encR] at hy2
          gi_wp2
          refine HRR.out.mono ?_
          rintro e W' (⟨rfl, hJ', hk⟩ | ⟨rfl, hJx'⟩)
          · have HN := Aside0.mk (next_J hlt HXE.out HP.out hJ' hk (pw_below_drewN HB1.out nq) HX1.out)
            clear hJ' hk
            gi_wp2
            gi_roundg (gk - 1)
            case measure => omega
            case rel => exact ⟨i + 1, by omega, by go_num, by rw [HS.out]; go_num, HN⟩
          · gi_wp2
            refine bodyPost_ret (results_none rfl _ _ _) rfl ?_
            exact ⟨⟨_, rfl⟩, .inr ⟨_, trivial, hJx'⟩⟩
      · have hb2 : decide ((i : Int) + 1 < (l.length : Int)) = false := decide_eq_false (by omega)
        have hst := stR_end (l := l) (i := i) (fun h => h1 h.1)
        have HS := Aside0.mk hst
        have HP := Aside0.mk (stP_end (l := l) (i := i) hlt HXE.out (fun h => h1 h.1))
        clear hst
        gi_wp2_with fail
        gi_quiet (fail)
        obtain ⟨fn, tmps, assign, body, hy2, hR⟩ := HY.out (stP l i) ⟨(x, (i : Int) + 1 - ((stR l i).2 : Int)), Rn_of hlt HXE.out⟩ (wr.drewN nq) (drewN_J HAb.out HJ1.out nq) (by have := stP_le l i; omega)
        have HRR := Aside0.mk hR
        clear hR
        dsimp only [encR] at hy2
        gi_wp2
        refine HRR.out.mono ?_
        rintro e W' (⟨rfl, hJ', hk⟩ | ⟨rfl, hJx'⟩)
        · have HN := Aside0.mk (next_J hlt HXE.out HP.out hJ' hk (pw_below_drewN HB1.out nq) HX1.out)
          clear hJ' hk
          gi_wp2
          gi_roundg (gk - 1)
          case measure => omega
          case rel => exact ⟨i + 1, by omega, by go_num, by rw [HS.out]; go_num, HN⟩
        · gi_wp2
          refine bodyPost_ret (results_none rfl _ _ _) rfl ?_
          exact ⟨⟨_, rfl⟩, .inr ⟨_, trivial, hJx'⟩⟩
    · have hb1 : decide ((i : Int) < (l.length : Int)) = false := decide_eq_false (by omega)
      obtain rfl : i = l.length := by omega
      gi_wp2
      go_end0
      exact ⟨⟨_, rfl⟩, .inl ⟨_, stP_val l l.length (Nat.le_refl _), HJ1.out⟩⟩
theorem list_snoc_ind {α : Type} {p : List α → Prop} (nil : p []) (snoc : ∀ l a, p l → p (l ++ [a])) (l : List α) : p l := by
  rw [← List.reverse_reverse l]
  induction l.reverse with
  | nil => exact nil
  | cons a l ih => rw [List.reverse_cons]; exact snoc _ _ ih
def cellsR (xs : List (Int × Int)) : List Value := xs.flatMap fun r => [.int .i64 r.1, .int .i64 r.2]
theorem cellsR_snoc (xs : List (Int × Int)) (r : Int × Int) : cellsR (xs ++ [r]) = cellsR xs ++ [.int .i64 r.1, .int .i64 r.2] := by simp [cellsR]
def mkR (xs : List (Int × Int)) : List RunT := xs.map fun r => ⟨r.1, r.2⟩
theorem reps_mkR (w : World) (base : Nat) (ok : Nat → Prop) (ys : List (Int × Int)) : Reps (k35.M w base ok) 2 (mkR ys) (cellsR ys) := by
  induction ys using list_snoc_ind with
  | nil => exact Reps.none _ _
  | snoc ys r ih =>
    rw [cellsR_snoc, show mkR (ys ++ [r]) = mkR ys ++ [⟨r.1, r.2⟩] from by simp [mkR]]
    exact ih.snoc (k35_mkM w base ok ⟨r.1, r.2⟩) rfl
theorem runs_Runs.row {w w' : World} {v : Value} {ys : List (Int × Int)} (h : w'.ownsRow w.heap.size 35 2 v ys.length (cellsR ys)) : Kd.R k35 35 w' w.heap.size (fun _ => True) v (mkR ys) :=
  ⟨fun _ _ => trivial, cellsR ys, by rw [show (mkR ys).length = ys.length from by simp [mkR]]; exact h, reps_mkR _ _ _ _⟩
def runs_Runs.f (l : List Int) : Option (List RunT) := if l.length ≤ 1000000 then some (mkR (runsOf l)) else none
theorem cell_two_new (W : World) (u v : Value) (t : TypeId) : ∀ j x, [u, v][j]? = some x → (W.alloc (.cells #[u, v] t)).cell? ((⟨W.heap.size, 0, none⟩ : Addr).add j) = some x := by
  intro j x h
  have hb : (W.alloc (.cells #[u, v] t)).heap[W.heap.size]? = some (.cells #[u, v] t (0, 0)) := World.alloc_heap_new W _
  match j, h with
  | 0, h => cases h; exact (blk_cell hb 0).trans rfl
  | 1, h => cases h; exact (blk_cell hb 1).trans rfl
  | n + 2, h => simp at h
abbrev BoxR (W : World) (B : Nat) (r : Int × Int) : Prop := W.heap[B]? = some (.cells #[.int .i64 r.1, .int .i64 r.2] 35 (0, 0))
theorem boxR_own (B : Nat) (r : Int × Int) : Own (fun (_ : Unit) W => BoxR W B r) := fun s X Y row hs hg hrow =>
  (hg.block B (Array.getElem?_eq_some_iff.1 hs).1 (fun e' => by obtain ⟨o, ho, hc⟩ := hrow B e'.symm; rw [show X.heap[B]? = _ from hs] at ho; cases ho; cases hc)).trans hs
set_option maxRecDepth 100000 in
set_option maxHeartbeats 8000000 in
theorem runs_Runs.calls (A0 : Option Addr) (c0 : Nat) (l0 : List Int) (r : List RunT) (w : World) (hr0 : Kd.C (Kd.int .i64) w A0 l0.length l0) (hc0 : l0.length ≤ c0) (h : runs_Runs.f l0 = some r) :
    Calls Try.prog 14 #[.slice A0 l0.length c0] w fun e w' => ∃ v0_ : Value, e = .returned v0_ ∧ Kd.R k35 35 w' w.heap.size (fun _ => True) v0_ r ∧ Below w.heap.size w w' := by
  have HR0 := Aside0.mk hr0
  clear hr0
  have hl : l0.length ≤ 1000000 := by
    rw [runs_Runs.f] at h
    by_cases c : l0.length ≤ 1000000
    · exact c
    · rw [if_neg c] at h; cases h
  rw [runs_Runs.f, if_pos hl] at h
  obtain rfl := Option.some.inj h
  clear h
  have hle := (stR_le l0 l0.length).2
  have h1 : 1 ≤ 5 := by omega
  obtain ⟨i0, hi, hz0, hz1, hz2⟩ := info_parts info35
  refine (callsIn_wide (n := 5)).1 ?_
  refine callsIn_of_wp_marks Try.func14 rfl trivial ?_ rfl
  simp only [Try.ntmps14, List.size_toArray, List.length_cons, List.length_nil, Nat.reduceAdd, Nat.reduceSub, Array.replicate_succ, Array.replicate_zero, List.push_toArray, List.append_toArray, List.nil_append, List.cons_append]
  gi_wp2_with (refine ⟨trivial, ?_⟩; refine ((callsIn_wide (n := 4)).2 (runs_stretches.calls _ _ _ _)).mono ?_; rintro e w' ⟨rfl, rfl⟩)
  have bO := Boxed.new w 32 (.slice none 0 0)
  have bN := Boxed.new (w.alloc (.cells #[.slice none 0 0] 32)) 22 (.slice A0 l0.length c0)
  rw [World.size_alloc] at bN
  have hB0 : Below w.heap.size w ((w.alloc (.cells #[.slice none 0 0] 32)).alloc (.cells #[.slice A0 l0.length c0] 22)) := ((Below.refl _ w).alloc (Nat.le_refl _) _).alloc (by simp) _
  have bO2 := bO.alloc (.cells #[.slice A0 l0.length c0] 22)
  have hsz : ((w.alloc (.cells #[.slice none 0 0] 32)).alloc (.cells #[.slice A0 l0.length c0] 22)).heap.size = w.heap.size + 2 := by simp
  obtain ⟨W0, hW0⟩ : ∃ W0, (w.alloc (.cells #[.slice none 0 0] 32)).alloc (.cells #[.slice A0 l0.length c0] 22) = W0 := ⟨_, rfl⟩
  rw [hW0] at bN bO2 hB0 hsz ⊢
  clear hW0 bO
  refine wpIn_rangeFunc_ownH rfl h1 (gf := 44) (lb := #[.pointer (some ⟨w.heap.size + 1, 0, none⟩)]) rfl trivial (enters_of Try.func44 (by kernel_rfl) rfl)
    (runs_stretches_1.stops (5 - 1) (by omega) A0 c0 l0 w W0 (w.heap.size + 1) hB0 (by omega) bN HR0.out hl) KeepR.trans (keepR_b hsz) (Below.refl _ _) (fun _ => rfl)
    (fun (pre : List (Rn l0)) W => ((∃ v, Boxed W w.heap.size 32 v ∧ W.ownsRow w.heap.size 35 2 v pre.length (cellsR (pre.map (fun r => r.1))) ∧ True) ∧ Boxed W (w.heap.size + 1) 22 (.slice A0 l0.length c0)) ∧ Below w.heap.size w W)
    (fun _ _ _ => False)
    (OwnFrom.and (OwnFrom.and (Own.from (holdsRow_own w.heap.size w.heap.size 32 35 2 (fun pre : List (Rn l0) => pre.length) (fun pre : List (Rn l0) => cellsR (pre.map (fun r => r.1))) (fun _ _ => True)) _) (Own.from (boxed_own _ _ _) _)) (ownFrom_below (Nat.le_refl _) (by omega)))
    (fun _ _ _ _ _ hs _ _ => hs)
    ⟨⟨⟨_, bO2, World.ownsRow_nil _ _ _ _, trivial⟩, bN⟩, hB0⟩
    (fun (x : Rn l0) a' W => ∃ Bx, w.heap.size + 1 < Bx ∧ BoxR W Bx x.1 ∧ a' = { tmps := #[.slice A0 l0.length c0, undef, .slice none 0 0, .pointer (some ⟨w.heap.size, 0, none⟩), .pointer (some ⟨Bx, 0, none⟩), .slice A0 l0.length c0, .func (.func 44) #[] #[.pointer (some ⟨w.heap.size + 1, 0, none⟩)], .agg #[.int .i64 x.1.1, .int .i64 x.1.2], undef, undef, undef, undef, undef], defers := [] })
    (fun (x : Rn l0) a' _ X Y row hs hg hr => by obtain ⟨Bx, h1, h2, h3⟩ := hs; exact ⟨Bx, h1, boxR_own Bx x.1 () X Y row h2 hg (fun r e => (hr r e).2), h3⟩)
    ?assign ?body ?done ?stop
  case assign =>
    rintro l pre x W K ⟨⟨⟨v, hv, hrow, _⟩, hN⟩, hB⟩ hK
    simp only [encR]
    gi_wp2
    exact hK _ _ ((KeepsOthers.alloc _ _).from _) ⟨(Below.refl _ W).alloc hB.size _, Below.heap_alloc W _ _ hN.lt⟩ ⟨⟨⟨v, hv.alloc _, hrow.alloc _, trivial⟩, hN.alloc _⟩, hB.alloc hB.size _⟩ ⟨W.heap.size, hN.lt, World.alloc_heap_new W _, rfl⟩
  case body =>
    rintro l pre x a' W hlW _ ⟨⟨⟨v, hv, hrow, _⟩, hN⟩, hB⟩ ⟨Bx, hBx, hX, rfl⟩ hlt
    have hc := hv.cell
    have hx0 : W.cell? ⟨Bx, 0, none⟩ = some (.int .i64 x.1.1) := (blk_cell hX 0).trans rfl
    have hx1 : W.cell? ⟨Bx, 1, none⟩ = some (.int .i64 x.1.2) := (blk_cell hX 1).trans rfl
    gi_wp2_with (gi_at_builtin; refine wpListIn_append_own _ rfl _ _ 32 rfl w.heap.size 35 i0 (.agg #[.int .i64 0, .int .i64 0]) 2 16 Try.underlying32 hi hz0 hz1 hz2 rfl (by decide) _ _ _ rfl (hrow.alloc _) ⟨W.heap.size, 0, none⟩ 1 1 [.int .i64 x.1.1, .int .i64 x.1.2] rfl rfl (cell_two_new _ _ _ _) (by simp [Value.oneCell']) (by have := hlt; have : maxLen = 9223372036854775807 := rfl; omega) (by omega) (by have := hB.size; simp; omega) ?_; intro v' w1 hown' hgrow _; obtain ⟨g', cap', rfl⟩ := ownsRow_succ hown'; obtain ⟨hv1, hv2, hr2, hk2, hb2⟩ := hv.appended (by decide) hrow hB.size (Nat.le_refl _) hown' hgrow; have hc1 := hv1.cell; have hf1 := hv1.frozen; have hN1 := ((hN.alloc _).kept hgrow (hN.not_row (by decide) hrow)).other (B' := w.heap.size) (by omega) (.slice (some ⟨g', 0, none⟩) (pre.length + 1) cap'))
    exact ⟨hk2.from _, ⟨hb2, hN1.trans hN.symm⟩, ⟨⟨_, hv2, by rw [List.map_append, List.map_cons, List.map_nil, cellsR_snoc, List.length_append]; exact hr2, trivial⟩, hN1⟩, hB.trans hb2⟩
  case done =>
    rintro D ys W hD hys ⟨⟨⟨v, hv, hrow, _⟩, hN⟩, hB⟩ hK
    rw [← List.length_map (f := fun r : Rn l0 => r.1), hys] at hrow
    have hc := hv.cell
    gi_wp2
    refine ⟨by simp, .inl ⟨_, _, rfl, run_takeDeferred hK, ?_⟩⟩
    exact ⟨_, results_tmp rfl _ _ _, v, rfl, runs_Runs.row (ownsRow_putObj hrow _ hK rfl), hB.trans (belowK_b (w := w) (Nat.le_refl _) W D _ _ (by omega) hK rfl rfl)⟩
  case stop =>
    rintro D c pre W _ _ h _
    exact h.elim

end Go.Proofs.Ytnlfhjhdnompaaa.T
