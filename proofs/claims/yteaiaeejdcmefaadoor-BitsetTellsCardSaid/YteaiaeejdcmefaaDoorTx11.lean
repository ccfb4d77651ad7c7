/- The machine side of laws, written by wip/tools/myprint.py (the printer's way, with functions proved by hand put in); Lean checks it. -/
import Derived.LoopIn
import Derived.LoopNIn
import Derived.Maps.AppendAt
import Derived.Maps.OwnIn
import Derived.OwnWalkIn
import Derived.RangeFuncBound
import Derived.RangeFuncCalls
import Derived.RangeFuncLeaves
import Derived.RangeFuncNested
import Derived.Shelf.Abstract
import Derived.Shelf.AbstractIn
import Derived.Shelf.RegionOpen
import Derived.Shelf.Spec.TrailingZeros
import Derived.Sort.LoopGhostIn
import Derived.Sort.QuietIn
import Derived.TacticsInMore
import Derived.Test.YteaiaeejdcmefaaDoorHbitset
import Derived.Test.YteaiaeejdcmefaaDoorTx0
namespace Go.Proofs.YteaiaeejdcmefaaDoor.T
open Go.RowKit Go.Proofs.YteaiaeejdcmefaaDoorW.PrintWords Go.Proofs.YteaiaeejdcmefaaDoorW.PrintLast Go.Proofs.YteaiaeejdcmefaaDoorW.PrintMore
attribute [local go_sem] max2_int min2_int max_two min_two max_three min_three max_four min_four   -- for this text's walks alone
set_option linter.unusedVariables false
set_option linter.unusedSimpArgs false

-- BY HAND: Derived.Test.YteaiaeejdcmefaaDoorHbitset,Derived.Shelf.Spec.TrailingZeros,Derived.RangeFuncNested,Derived.RangeFuncBound,Derived.RangeFuncCalls,Derived.RangeFuncLeaves,Derived.Shelf.Abstract,Derived.Shelf.AbstractIn,Derived.Shelf.RegionOpen,Derived.OwnWalkIn,Derived.TacticsInMore,Derived.LoopNIn,Derived.LoopIn,Derived.Sort.LoopGhostIn,Derived.Sort.QuietIn,Derived.Maps.AppendAt,Derived.Maps.OwnIn
/-! ### winnowerlaw09_List: function 21 -/
-- HAND winnower/winnowerlaw09.List making V=0 glob
-- SKIP (winnower/bitset.Set).All (winnower/bitset.Set).All$1 math/bits.TrailingZeros64
-- IMPORT Derived.Test.YteaiaeejdcmefaaDoorHbitset
-- IMPORT Derived.Shelf.Spec.TrailingZeros
-- IMPORT Derived.RangeFuncNested
-- IMPORT Derived.RangeFuncBound
-- IMPORT Derived.RangeFuncCalls
-- IMPORT Derived.RangeFuncLeaves
-- IMPORT Derived.Shelf.Abstract
-- IMPORT Derived.Shelf.AbstractIn
-- IMPORT Derived.Shelf.RegionOpen
-- IMPORT Derived.OwnWalkIn
-- IMPORT Derived.TacticsInMore
-- IMPORT Derived.LoopNIn
-- IMPORT Derived.LoopIn
-- IMPORT Derived.Sort.LoopGhostIn
-- IMPORT Derived.Sort.QuietIn
-- IMPORT Derived.Maps.AppendAt
-- IMPORT Derived.Maps.OwnIn
open Go.Shelf Go.Proofs.YteaiaeejdcmefaaDoor.Hbitset
attribute [local go_sem] Oper.semAt_some
/-- The table of the library's function, as its initialiser lays it. -/
def Globs (W : World) : Prop := TabAt 0 Lib.deBruijn64tab W
theorem globs_below {w W : World} (h : Globs w) (hb : Below w.heap.size w W) : Globs W := fun j hj => (hb.cell (World.block_lt_of_cell? w _ (h j hj))).trans (h j hj)
set_option maxHeartbeats 1000000 in
theorem tz_core (x k idx : Nat) (w : World) (hx0 : ((x : Int) == 0) = false)
    (key : IntKind.u64.wrap (Go.bits BinOp.and IntKind.u64 (x : Int) (IntKind.u64.wrap (-(x : Int))) * 285870213051353865) / 288230376151711744 = (idx : Int))
    (hi : idx < 64) (hk : k < 64) (hcell : w.cell? ⟨0, idx, none⟩ = some (.int .u8 k)) :
    Calls Tryd.prog 42 #[.int .u64 x] w fun e w' => e = .returned (.int .i64 k) ∧ w' = w := by
  have g1 : Tryd.prog.globals.findIdx? (·.name == "math/bits.deBruijn64tab") = some 0 := by kernel_rfl
  go_enter Tryd.func42, Tryd.ntmps42
  go_wp2_with (simp only [key])
  go_ret
  exact ⟨rfl, rfl⟩
theorem tz_any (x : Nat) (hx : x < 18446744073709551616) (hx0 : x ≠ 0) (w : World) (hT : Globs w) :
    Calls Tryd.prog 42 #[.int .u64 x] w fun e w' => e = .returned (.int .i64 (Lib.ctz 64 x)) ∧ w' = w := by
  obtain ⟨hlow, hk⟩ := Lib.lowest_bit 64 x hx0 hx
  obtain ⟨hi, htab⟩ := Lib.deBruijn64_at _ hk
  have hcell := hT _ hi
  rw [htab] at hcell
  exact tz_core x _ _ w (by simp; omega) (tz64_key x _ hx hx0 hlow) hi hk hcell
theorem bitset_Set_All.calls (A0 : Option Addr) (n c0 : Nat) (w : World) :
    Calls Tryd.prog 39 #[.agg #[.slice A0 n c0]] w fun e w' => e = .returned (.func (.func 41) #[] #[.pointer (some ⟨w.heap.size, 0, none⟩)]) ∧ w.alloc (.cells #[.slice A0 n c0] 26) = w' := by
  have hu := Tryd.underlying26
  go_enter Tryd.func39, Tryd.ntmps39
  go_wp2
  go_ret
  exact ⟨rfl, rfl⟩
def encS (x : Nat) : Array Value := #[.int .i64 (x : Int)]
def KeepS (n₀ Bn : Nat) (W W' : World) : Prop := Below n₀ W W' ∧ W'.heap[Bn]? = W.heap[Bn]?
theorem KeepS.trans {n₀ Bn : Nat} {X Y Z : World} (h : KeepS n₀ Bn X Y) (k : KeepS n₀ Bn Y Z) : KeepS n₀ Bn X Z := ⟨h.1.trans k.1, k.2.trans h.2⟩
theorem keepS_b {w W0 : World} {q : Nat} (hsz : W0.heap.size = w.heap.size + (q + 1)) (W : World) (l : Nat) (o o' : Obj) (hl : W0.heap.size ≤ l) (h : W.heap[l]? = some o) (h1 : o.isCells = false) (h2 : o.isWalk = false) : KeepS w.heap.size (w.heap.size + q) W (W.putObj l o') :=
  ⟨belowK_b (w := w) (Nat.le_refl _) W l o o' (by omega) h h1 h2, World.putObj_heap_other (by omega)⟩
theorem and_dec (x : Nat) (h0 : 0 < x) (h : x < 18446744073709551616) : Go.bits .and .u64 (x : Int) (IntKind.u64.wrap ((x : Int) - 1)) = ((x &&& (x - 1) : Nat) : Int) := by
  rw [IntWalk.u64_in _ (by omega), show (x : Int) - 1 = ((x - 1 : Nat) : Int) by omega]
  exact bits_and_u64_nat x (x - 1) h (by omega)
set_option maxRecDepth 100000 in
set_option maxHeartbeats 8000000 in
theorem bitset_Set_All_1.stops (n : Nat) (hn : 2 ≤ n) (A0 : Option Addr) (c0 : Nat) (l : List Int) (w₀ w : World) (Bn : Nat) (hb0 : Below w₀.heap.size w₀ w) (hBn : Bn < w.heap.size) (hBox : w.heap[Bn]? = some (.cells #[.slice A0 l.length c0] 26 (0, 0)))
    (hC : Kd.C (Kd.int .u64) w₀ A0 l.length l) (hl : l.length ≤ 1000000) (hu : U64 l) (hG : Globs w₀) :
    SeqStopsK Fence.wide n Tryd.prog 41 #[.pointer (some ⟨Bn, 0, none⟩)] encS (KeepS w₀.heap.size Bn) (fun xs => xs = memb 0 l) (fun xs => ∃ ys, xs ++ ys = memb 0 l) (64 * l.length + 1) w := by
  have hn1 : 1 ≤ n := by omega
  clear hn
  intro l' J Jx W hW hJ hJx hY h0
  have HAb := Aside0.mk hJ
  have HC := Aside0.mk hC
  have HG := Aside0.mk hG
  have HU := Aside0.mk hu
  have HY := Aside0.mk hY
  have HB := Aside0.mk (hb0.trans (hW.mono hb0.size))
  have HBox := Aside0.mk ((hW.block Bn hBn).trans hBox)
  have H0 := Aside0.mk h0
  have HL := Aside0.mk (memb_len l 0)
  clear hY hW hb0 hBox hJ hJx h0 hC hG hu
  refine callsIn_of_wp Tryd.func41 rfl trivial ?_ rfl
  simp only [Tryd.ntmps41, List.size_toArray, List.length_cons, List.length_nil, Nat.reduceAdd, Nat.reduceSub, Array.replicate_succ, Array.replicate_zero, List.push_toArray, List.append_toArray, List.nil_append, List.cons_append]
  have cB : W.cell? ⟨Bn, 0, none⟩ = some (.slice A0 l.length c0) := (blk_cell HBox.out 0).trans rfl
  have hus := Tryd.underlying26
  gi_wp2
  gi_loopg [3, 4, 8] l.length (fun m v3 v4 v8 wr => ∃ (i : Nat) (xs : List Nat), v8 = .int .i64 (i : Int) ∧ Aside0 (i + m = l.length ∧ J xs wr ∧ Below w₀.heap.size w₀ wr ∧ wr.heap[Bn]? = some (.cells #[.slice A0 l.length c0] 26 (0, 0)) ∧ xs ++ memb i (l.drop i) = memb 0 l))
  case atStart => exact ⟨0, [], rfl, ⟨⟨by omega, H0.out, HB.out, HBox.out, by simp⟩⟩⟩
  case round =>
    obtain ⟨i, xs, rfl, HA⟩ := hrel
    have cB : wr.cell? ⟨Bn, 0, none⟩ = some (.slice A0 l.length c0) := (blk_cell HA.out.2.2.2.1 0).trans rfl
    by_cases hlt : i < l.length
    · have q0 : (0 : Int) ≤ (i : Int) := by omega
      have q1 : (i : Int) < (l.length : Int) := by omega
      have hw : IntKind.i64.wrap ((i : Int) + 1) = (i : Int) + 1 := IntWalk.i64_in _ (by omega)
      obtain ⟨ad, e, hx⟩ := Kd.at_int (Kd.C_below HC.out HA.out.2.2.1) (i : Int) q0 (by omega)
      subst e
      rw [rd, Int.toNat_natCast] at hx
      obtain ⟨x0, hx0⟩ := Int.eq_ofNat_of_zero_le (HU.out.at i).1
      have HX := Aside0.mk (show x0 = (l.getD i 0).toNat from by rw [hx0]; rfl)
      have HX64 := Aside0.mk (show x0 < 18446744073709551616 from by have := (HU.out.at i).2; omega)
      rw [hx0] at hx
      clear hx0
      gi_wp2
      have HW := Aside0.mk hw
      clear hw hx cB
      gi_loopg [4] 64 (fun m v4 w2 => ∃ (x : Nat) (ys : List Nat), v4 = .int .u64 (x : Int) ∧ Aside0 ((bl 64 (64 * i) x).length ≤ m ∧ x < 18446744073709551616 ∧ J ys w2 ∧ Below w₀.heap.size w₀ w2 ∧ w2.heap[Bn]? = some (.cells #[.slice (some ad) l.length c0] 26 (0, 0)) ∧ ys ++ (bl 64 (64 * i) x ++ memb (i + 1) (l.drop (i + 1))) = memb 0 l))
      case atStart => exact ⟨x0, xs, rfl, ⟨⟨bl_le _ _ _, HX64.out, HA.out.2.1, HA.out.2.2.1, HA.out.2.2.2.1, by rw [HX.out, ← memb_drop l i hlt]; exact HA.out.2.2.2.2⟩⟩⟩
      case round =>
        have HI := Aside0.mk HA.out.1
        clear HA HX HX64
        obtain ⟨x, ys, rfl, HA⟩ := hrel
        by_cases hz : x = 0
        · subst hz
          gi_wp2
          gi_roundg (l.length - (i + 1))
          case measure => have := HI.out; omega
          case rel => exact ⟨i + 1, ys, by go_num, ⟨⟨by omega, HA.out.2.2.1, HA.out.2.2.2.1, HA.out.2.2.2.2.1, by have h := HA.out.2.2.2.2.2; rw [bl_zero, List.nil_append] at h; exact h⟩⟩⟩
        · have hne : ((x : Int) != 0) = true := bne_iff_ne.mpr (by omega)
          have HS := Aside0.mk (bl_step64 (64 * i) x (by omega) HA.out.2.1)
          obtain ⟨c, hc⟩ : ∃ c, Lib.ctz 64 x = c := ⟨_, rfl⟩
          rw [hc] at HS
          have HCZ := Aside0.mk hc
          have hk := (Lib.lowest_bit 64 x hz HA.out.2.1).2
          rw [hc] at hk
          obtain ⟨z, hz'⟩ : ∃ z, 64 * i + c = z := ⟨_, rfl⟩
          rw [hz'] at HS
          have hw1 : IntKind.i64.wrap ((i : Int) * 64) = (i : Int) * 64 := IntWalk.i64_in _ (by omega)
          have hw2 : (z : Int) ≤ 100000000 := by omega
          have hw4 : wrap64 (z : Int) = (z : Int) := by unfold wrap64; omega
          have HZ := Aside0.mk hz
          have hf42 : Fence.wide.fn 42 := trivial
          have hw3 : (i : Int) * 64 + (c : Int) = (z : Int) := by omega
          clear hc hk hz'
          have hlen : ys.length < 64 * l.length + 1 := by
            have h := congrArg List.length HA.out.2.2.2.2.2
            rw [List.length_append] at h
            have := HL.out
            omega
          obtain ⟨fn, tmps, assign, body, hy2, hR⟩ := HY.out ys z wr HA.out.2.2.1 hlen
          have HRR := Aside0.mk hR
          clear hR hlen
          dsimp only [encS] at hy2
          gi_wp2_with (gi_at_call 42; refine ((callsIn_wide (n := n - 1)).2 (tz_any x HA.out.2.1 HZ.out _ (globs_below HG.out HA.out.2.2.2.1))).mono ?_; rintro e w2 ⟨rfl, rfl⟩; rw [HCZ.out])
          refine HRR.out.mono ?_
          rintro e W' (⟨rfl, hJ', hk⟩ | ⟨rfl, hJx'⟩)
          · have HN := Aside0.mk (show (bl 64 (64 * i) (x &&& (x - 1))).length ≤ gk - 1 ∧ x &&& (x - 1) < 18446744073709551616 ∧ J (ys ++ [z]) W' ∧ Below w₀.heap.size w₀ W' ∧ W'.heap[Bn]? = some (.cells #[.slice (some ad) l.length c0] 26 (0, 0)) ∧ (ys ++ [z]) ++ (bl 64 (64 * i) (x &&& (x - 1)) ++ memb (i + 1) (l.drop (i + 1))) = memb 0 l from by
              refine ⟨?_, Nat.lt_of_le_of_lt Nat.and_le_left HA.out.2.1, hJ', HA.out.2.2.2.1.trans hk.1, hk.2.trans HA.out.2.2.2.2.1, ?_⟩
              · have h := HA.out.1
                rw [HS.out, List.length_cons] at h
                omega
              · have h := HA.out.2.2.2.2.2
                rw [HS.out] at h
                rw [List.append_assoc]
                exact h)
            have HPK := Aside0.mk (show 0 < gk from by have h := HA.out.1; rw [HS.out, List.length_cons] at h; omega)
            have HD := Aside0.mk (and_dec x (by have := HZ.out; omega) HA.out.2.1)
            clear hJ' hk
            have hx1 : (1 : Int) ≤ (x : Int) := by have := HZ.out; omega
            gi_wp2
            gi_roundg (gk - 1)
            case measure => have := HPK.out; omega
            case rel => exact ⟨x &&& (x - 1), ys ++ [z], by rw [← HD.out], HN⟩
          · gi_wp2
            refine bodyPost_ret (results_none rfl _ _ _) rfl ?_
            exact ⟨⟨_, rfl⟩, .inr ⟨_, ⟨_, (by have h := HA.out.2.2.2.2.2; rw [HS.out] at h; rw [List.append_assoc]; exact h : (ys ++ [z]) ++ (bl 64 (64 * i) (x &&& (x - 1)) ++ memb (i + 1) (l.drop (i + 1))) = memb 0 l)⟩, hJx'⟩⟩
    · have hb1 : decide ((i : Int) < (l.length : Int)) = false := decide_eq_false (by omega)
      have HE := Aside0.mk (show xs = memb 0 l from by
        have h := HA.out.2.2.2.2
        rw [List.drop_eq_nil_of_le (by omega), memb, List.append_nil] at h
        exact h)
      clear hb1
      have q1 : (l.length : Int) ≤ (i : Int) := by omega
      gi_wp2
      go_end0
      exact ⟨⟨_, rfl⟩, .inl ⟨_, HE.out, HA.out.2.1⟩⟩
/-- What List answers: all, or the first most. -/
def most_ (most : Int) (xs : List Nat) : List Nat := if most < 0 then xs else xs.take most.toNat
def ints (xs : List Nat) : List Int := xs.map fun (x : Nat) => (x : Int)
def winnowerlaw09_List.f (l : List Int) (a1 : Int) : Option (List Int) := if l.length ≤ 1000000 ∧ l.all (fun x => decide (0 ≤ x) && decide (x < 18446744073709551616)) = true then some (ints (most_ a1 (memb 0 l))) else none
theorem u64_of_all {l : List Int} (h : l.all (fun x => decide (0 ≤ x) && decide (x < 18446744073709551616)) = true) : U64 l := fun x hx => by
  have := List.all_eq_true.1 h x hx
  simpa using this
theorem all_of_u64 {l : List Int} (h : U64 l) : l.all (fun x => decide (0 ≤ x) && decide (x < 18446744073709551616)) = true := List.all_eq_true.2 fun x hx => by simpa using h x hx
theorem cell_one_new (W : World) (u : Value) (t : TypeId) : ∀ j x, [u][j]? = some x → (W.alloc (.cells #[u] t)).cell? ((⟨W.heap.size, 0, none⟩ : Addr).add j) = some x := by
  intro j x h
  have hb : (W.alloc (.cells #[u] t)).heap[W.heap.size]? = some (.cells #[u] t (0, 0)) := World.alloc_heap_new W _
  match j, h with
  | 0, h => cases h; exact (blk_cell hb 0).trans rfl
  | n + 1, h => simp at h
theorem ints_snoc (xs : List Nat) (x : Nat) : ints (xs ++ [x]) = ints xs ++ [(x : Int)] := by simp [ints]
theorem nums_snoc (k : IntKind) (xs : List Int) (x : Int) : nums k (xs ++ [x]) = nums k xs ++ [.int k x] := by simp [nums]
abbrev BoxI (W : World) (B : Nat) (x : Nat) : Prop := W.heap[B]? = some (.cells #[.int .i64 (x : Int)] 3 (0, 0))
set_option maxRecDepth 100000 in
set_option maxHeartbeats 8000000 in
theorem winnowerlaw09_List.own (A0_0 : Option Addr) (c0_0 : Nat) (l0_0 : List Int) (a1 : Int) (r : List Int) (w : World) (hr0_0 : Kd.C (Kd.int .u64) w A0_0 l0_0.length l0_0) (hc0_0 : l0_0.length ≤ c0_0) (hG : Globs w) (h : winnowerlaw09_List.f l0_0 a1 = some r) :
    Calls Tryd.prog 21 #[.agg #[.slice A0_0 l0_0.length c0_0], .int .i64 a1] w fun e w' => ∃ v0_ : Value, e = .returned v0_ ∧ Kd.R (Kd.int .i64) 3 w' w.heap.size (fun _ => True) v0_ r ∧ Below w.heap.size w w' := by
  obtain ⟨⟨hl, hu⟩, rfl⟩ : (l0_0.length ≤ 1000000 ∧ U64 l0_0) ∧ ints (most_ a1 (memb 0 l0_0)) = r := by
    rw [winnowerlaw09_List.f] at h
    by_cases c : l0_0.length ≤ 1000000 ∧ l0_0.all (fun x => decide (0 ≤ x) && decide (x < 18446744073709551616)) = true
    · rw [if_pos c] at h; exact ⟨⟨c.1, u64_of_all c.2⟩, Option.some.inj h⟩
    · rw [if_neg c] at h; cases h
  have HR := Aside0.mk hr0_0
  have HG := Aside0.mk hG
  have HU := Aside0.mk hu
  clear hr0_0 hG hu h
  have hus := Tryd.underlying26
  have HB := Aside0.mk (Below.refl w.heap.size w)
  have h1 : 1 ≤ 5 := by omega
  obtain ⟨i0, hi, hz0, hz1, hz2⟩ := info_parts info3
  by_cases hm0 : a1 = 0
  · subst hm0
    go_enter Tryd.func21, Tryd.ntmps21
    go_wp2
    go_ret
    exact ⟨_, rfl, by simpa [most_, ints] using Kd.R_nil _ _ _ _ _, by repeat (first | exact Below.refl _ _ | apply below_alloc)⟩
  · have hne : (a1 == 0) = false := beq_eq_false_iff_ne.mpr hm0
    refine (callsIn_wide (n := 5)).1 ?_
    refine callsIn_of_wp_marks Tryd.func21 rfl trivial ?_ rfl
    simp only [Tryd.ntmps21, List.size_toArray, List.length_cons, List.length_nil, Nat.reduceAdd, Nat.reduceSub, Array.replicate_succ, Array.replicate_zero, List.push_toArray, List.append_toArray, List.nil_append, List.cons_append]
    have hq : ∀ (p : Option Addr) (W : World), (binOp .eql 52 (.func (.func 41) #[] #[.pointer p]) .nilFunc).run Tryd.prog W = .ok (.bool false) W := fun _ _ => by kernel_rfl
    have hf39 : Fence.wide.fn 39 := trivial
    gi_wp2_with (gi_at_call 39; refine ((callsIn_wide (n := 4)).2 (bitset_Set_All.calls _ _ _ _)).mono ?_; rintro e w' ⟨rfl, rfl⟩)
    have bS := (((Boxed.new w 26 (.slice A0_0 l0_0.length c0_0)).alloc (.cells #[.int .i64 a1] 3)).alloc (.cells #[.slice none 0 0] 22)).alloc (.cells #[.slice A0_0 l0_0.length c0_0] 26)
    have bM := ((Boxed.new (w.alloc (.cells #[.slice A0_0 l0_0.length c0_0] 26)) 3 (.int .i64 a1)).alloc (.cells #[.slice none 0 0] 22)).alloc (.cells #[.slice A0_0 l0_0.length c0_0] 26)
    have bO := (Boxed.new ((w.alloc (.cells #[.slice A0_0 l0_0.length c0_0] 26)).alloc (.cells #[.int .i64 a1] 3)) 22 (.slice none 0 0)).alloc (.cells #[.slice A0_0 l0_0.length c0_0] 26)
    have bN := Boxed.new (((w.alloc (.cells #[.slice A0_0 l0_0.length c0_0] 26)).alloc (.cells #[.int .i64 a1] 3)).alloc (.cells #[.slice none 0 0] 22)) 26 (.slice A0_0 l0_0.length c0_0)
    rw [World.size_alloc] at bM
    rw [World.size_alloc, World.size_alloc] at bO
    rw [World.size_alloc, World.size_alloc, World.size_alloc] at bN
    have hB0 : Below w.heap.size w ((((w.alloc (.cells #[.slice A0_0 l0_0.length c0_0] 26)).alloc (.cells #[.int .i64 a1] 3)).alloc (.cells #[.slice none 0 0] 22)).alloc (.cells #[.slice A0_0 l0_0.length c0_0] 26)) := ((((Below.refl _ w).alloc (Nat.le_refl _) _).alloc (by simp) _).alloc (by simp; omega) _).alloc (by simp; omega) _
    have hsz : ((((w.alloc (.cells #[.slice A0_0 l0_0.length c0_0] 26)).alloc (.cells #[.int .i64 a1] 3)).alloc (.cells #[.slice none 0 0] 22)).alloc (.cells #[.slice A0_0 l0_0.length c0_0] 26)).heap.size = w.heap.size + 4 := by simp
    obtain ⟨W0, hW0⟩ : ∃ W0, ((((w.alloc (.cells #[.slice A0_0 l0_0.length c0_0] 26)).alloc (.cells #[.int .i64 a1] 3)).alloc (.cells #[.slice none 0 0] 22)).alloc (.cells #[.slice A0_0 l0_0.length c0_0] 26)) = W0 := ⟨_, rfl⟩
    rw [hW0] at bO bM bN hB0 hsz ⊢
    clear hW0 bS
    have hs2 : w.heap.size + 1 + 1 = w.heap.size + 2 := rfl
    have hs3 : w.heap.size + 2 + 1 = w.heap.size + 3 := rfl
    rw [hs2] at bO bN
    rw [hs3] at bN
    clear hs2 hs3
    have hml := memb_len l0_0 0
    refine wpIn_rangeFunc_ownH rfl h1 (gf := 41) (lb := #[.pointer (some ⟨w.heap.size + 3, 0, none⟩)]) rfl trivial (enters_of Tryd.func41 (by kernel_rfl) rfl)
      (bitset_Set_All_1.stops (5 - 1) (by omega) A0_0 c0_0 l0_0 w W0 (w.heap.size + 3) hB0 (by omega) bN HR.out hl HU.out HG.out) KeepS.trans (keepS_b (q := 3) hsz) (Below.refl _ _) (fun _ => rfl)
      (fun (pre : List Nat) W => ((((∃ v, Boxed W (w.heap.size + 2) 22 v ∧ W.ownsRow w.heap.size 3 1 v pre.length (nums .i64 (ints pre)) ∧ v.ownBlock ≠ some (w.heap.size + 1)) ∧ Boxed W (w.heap.size + 1) 3 (.int .i64 a1)) ∧ Boxed W (w.heap.size + 3) 26 (.slice A0_0 l0_0.length c0_0)) ∧ Below w.heap.size w W) ∧ (a1 < 0 ∨ (pre.length : Int) < a1))
      (fun c (pre : List Nat) W => ((((∃ v, Boxed W (w.heap.size + 2) 22 v ∧ W.ownsRow w.heap.size 3 1 v pre.length (nums .i64 (ints pre)) ∧ v.ownBlock ≠ some (w.heap.size + 1)) ∧ Boxed W (w.heap.size + 1) 3 (.int .i64 a1)) ∧ Boxed W (w.heap.size + 3) 26 (.slice A0_0 l0_0.length c0_0)) ∧ Below w.heap.size w W) ∧ (c = .exit 0 ∧ (pre.length : Int) = a1))
      (OwnFrom.and (OwnFrom.and (OwnFrom.and (OwnFrom.and (Own.from (holdsRow_own w.heap.size (w.heap.size + 2) 22 3 1 (fun pre : List Nat => pre.length) (fun pre : List Nat => nums .i64 (ints pre)) (fun _ v => v.ownBlock ≠ some (w.heap.size + 1))) _) (Own.from (boxed_own _ _ _) _)) (Own.from (boxed_own _ _ _) _)) (ownFrom_below (Nat.le_refl _) (by omega))) (fun s A B row hs _ _ => hs))
      (fun c => OwnFrom.and (OwnFrom.and (OwnFrom.and (OwnFrom.and (Own.from (holdsRow_own w.heap.size (w.heap.size + 2) 22 3 1 (fun pre : List Nat => pre.length) (fun pre : List Nat => nums .i64 (ints pre)) (fun _ v => v.ownBlock ≠ some (w.heap.size + 1))) _) (Own.from (boxed_own _ _ _) _)) (Own.from (boxed_own _ _ _) _)) (ownFrom_below (Nat.le_refl _) (by omega))) (fun s A B row hs _ _ => hs))
      ⟨⟨⟨⟨⟨_, bO, World.ownsRow_nil _ _ _ _, by simp [Value.ownBlock]⟩, bM⟩, bN⟩, hB0⟩, by simp only [List.length_nil]; omega⟩
      (fun (x : Nat) a' W => a' = { tmps := #[.agg #[.slice A0_0 l0_0.length c0_0], .int .i64 a1, .pointer (some ⟨w.heap.size, 0, none⟩), .pointer (some ⟨w.heap.size + 1, 0, none⟩), .slice none 0 0, .pointer (some ⟨w.heap.size + 2, 0, none⟩), .func (.func 41) #[] #[.pointer (some ⟨w.heap.size + 3, 0, none⟩)], .int .i64 (x : Int), .int .i64 a1, .bool false, undef, .agg #[.slice A0_0 l0_0.length c0_0], .func (.func 41) #[] #[.pointer (some ⟨w.heap.size + 3, 0, none⟩)], .func (.func 41) #[] #[.pointer (some ⟨w.heap.size + 3, 0, none⟩)], .bool false, undef, .func (.func 41) #[] #[.pointer (some ⟨w.heap.size + 3, 0, none⟩)], .int .i64 (x : Int), undef, undef, undef, undef, undef, undef, undef, undef, undef], defers := [] })
      (fun (x : Nat) a' _ X Y row hs hg hr => hs)
      ?assign ?body ?done ?stop
    case assign =>
      rintro l pre x W K hI hK
      simp only [encS]
      gi_wp2
      exact hK _ _ (KeepsFrom.refl _ _) ⟨Below.refl _ _, rfl⟩ hI rfl
    case body =>
      rintro l pre x a' W hlW ⟨rr, hL⟩ ⟨⟨⟨⟨⟨v, hv, hrow, hob⟩, hM⟩, hN⟩, hB⟩, hmost⟩ rfl hlt
      have hc := hv.cell
      have hcm := hM.cell
      have hWs : w.heap.size + 4 ≤ W.heap.size := by have := Nat.lt_of_le_of_lt hlW (Array.getElem?_eq_some_iff.1 hL).1; omega
      by_cases he : (pre.length : Int) + 1 = a1
      · have hb1 : ((pre.length : Int) + 1 == a1) = true := beq_iff_eq.mpr he
        have HE := Aside0.mk he
        clear he
        gi_wp2_with (gi_at_builtin; refine wpListIn_append_own_at _ rfl _ _ 22 rfl w.heap.size 3 i0 (.int .i64 0) 1 8 Tryd.underlying22 hi hz0 hz1 hz2 rfl (by decide) _ _ _ rfl (hrow.alloc _) ⟨W.heap.size, 0, none⟩ 1 1 [.int .i64 (x : Int)] rfl rfl (cell_one_new _ _ _) (by simp [Value.oneCell']) (by have := hlt; have : maxLen = 9223372036854775807 := rfl; omega) (by omega) (by have := hB.size; simp; omega) ?_; intro v' w1 hown' hgrow _ hat; have hat2 := hat; obtain ⟨g', cap', rfl⟩ := ownsRow_succ hown'; obtain ⟨hv1, hv2, hr2, hk2, hb2⟩ := hv.appended (by decide) hrow hB.size (by omega) hown' hgrow; have hc1 := hv1.cell; have hf1 := hv1.frozen; have hN1 := ((hN.alloc _).kept hgrow (hN.not_row (by decide) hrow)).other (B' := w.heap.size + 2) (by omega) (.slice (some ⟨g', 0, none⟩) (pre.length + 1) cap'); have hM1 := ((hM.alloc _).kept hgrow (Ne.symm hob)).other (B' := w.heap.size + 2) (by omega) (.slice (some ⟨g', 0, none⟩) (pre.length + 1) cap'); have hcm1 := hM1.cell; have hcv2 := hv2.cell)
        have hG2 : (Value.slice (some ⟨g', 0, none⟩) (pre.length + 1) cap').ownBlock ≠ some (w.heap.size + 1) := by
          rcases hat2 with h | h
          · rw [h]; exact hob
          · rw [h, World.size_alloc]; intro e; have := Option.some.inj e; omega
        exact ⟨hk2.from _, ⟨⟨⟨⟨⟨_, hv2, by rw [ints_snoc, nums_snoc, List.length_append]; exact hr2, hG2⟩, hM1⟩, hN1⟩, hB.trans hb2⟩, rfl, by rw [List.length_append, List.length_singleton]; have := HE.out; omega⟩⟩
      · have hb1 : ((pre.length : Int) + 1 == a1) = false := beq_eq_false_iff_ne.mpr he
        have HE := Aside0.mk he
        clear he
        gi_wp2_with (gi_at_builtin; refine wpListIn_append_own_at _ rfl _ _ 22 rfl w.heap.size 3 i0 (.int .i64 0) 1 8 Tryd.underlying22 hi hz0 hz1 hz2 rfl (by decide) _ _ _ rfl (hrow.alloc _) ⟨W.heap.size, 0, none⟩ 1 1 [.int .i64 (x : Int)] rfl rfl (cell_one_new _ _ _) (by simp [Value.oneCell']) (by have := hlt; have : maxLen = 9223372036854775807 := rfl; omega) (by omega) (by have := hB.size; simp; omega) ?_; intro v' w1 hown' hgrow _ hat; have hat2 := hat; obtain ⟨g', cap', rfl⟩ := ownsRow_succ hown'; obtain ⟨hv1, hv2, hr2, hk2, hb2⟩ := hv.appended (by decide) hrow hB.size (by omega) hown' hgrow; have hc1 := hv1.cell; have hf1 := hv1.frozen; have hN1 := ((hN.alloc _).kept hgrow (hN.not_row (by decide) hrow)).other (B' := w.heap.size + 2) (by omega) (.slice (some ⟨g', 0, none⟩) (pre.length + 1) cap'); have hM1 := ((hM.alloc _).kept hgrow (Ne.symm hob)).other (B' := w.heap.size + 2) (by omega) (.slice (some ⟨g', 0, none⟩) (pre.length + 1) cap'); have hcm1 := hM1.cell; have hcv2 := hv2.cell)
        have hG2 : (Value.slice (some ⟨g', 0, none⟩) (pre.length + 1) cap').ownBlock ≠ some (w.heap.size + 1) := by
          rcases hat2 with h | h
          · rw [h]; exact hob
          · rw [h, World.size_alloc]; intro e; have := Option.some.inj e; omega
        exact ⟨hk2.from _, ⟨hb2, hN1.trans hN.symm⟩, ⟨⟨⟨⟨⟨_, hv2, by rw [ints_snoc, nums_snoc, List.length_append]; exact hr2, hG2⟩, hM1⟩, hN1⟩, hB.trans hb2⟩, by rw [List.length_append, List.length_singleton]; have := HE.out; omega⟩⟩
    case done =>
      rintro D ys W hD hys ⟨⟨⟨⟨⟨v, hv, hrow, hob⟩, hM⟩, hN⟩, hB⟩, hmost⟩ hK
      have hc := hv.cell
      have hfin : ys = most_ a1 (memb 0 l0_0) := by
        rw [← hys, most_]
        by_cases h : a1 < 0
        · rw [if_pos h]
        · rw [if_neg h, List.take_of_length_le (by omega)]
      have HF := Aside0.mk hfin
      clear hfin
      gi_wp2
      have hfin := HF.out
      refine ⟨by simp, .inl ⟨_, _, rfl, run_takeDeferred hK, ?_⟩⟩
      exact ⟨_, results_tmp rfl _ _ _, v, rfl, by rw [← hfin]; exact Kd.R_of_own (enc := Value.int .i64) (h1 := fun _ => rfl) (by rw [show (ints ys).length = ys.length from by simp [ints]]; exact ownsRow_putObj hrow _ hK rfl) (fun _ _ => trivial), hB.trans (belowK_b (w := w) (Nat.le_refl _) W D _ _ (by omega) hK rfl rfl)⟩
    case stop =>
      rintro D c pre W hD ⟨ys, hys⟩ ⟨⟨⟨⟨⟨v, hv, hrow, hob⟩, hM⟩, hN⟩, hB⟩, rfl, hmost⟩ hK
      have hc := hv.cell
      have hfin : pre = most_ a1 (memb 0 l0_0) := by
        rw [← hys, most_, if_neg (by omega), List.take_append_of_le_length (by omega), List.take_of_length_le (by omega)]
      have HF := Aside0.mk hfin
      clear hfin
      gi_wp2
      have hfin := HF.out
      refine ⟨by simp, .inl ⟨_, _, rfl, run_takeDeferred hK, ?_⟩⟩
      exact ⟨_, results_tmp rfl _ _ _, v, rfl, by rw [← hfin]; exact Kd.R_of_own (enc := Value.int .i64) (h1 := fun _ => rfl) (by rw [show (ints pre).length = pre.length from by simp [ints]]; exact ownsRow_putObj hrow _ hK rfl) (fun _ _ => trivial), hB.trans (belowK_b (w := w) (Nat.le_refl _) W D _ _ (by omega) hK rfl rfl)⟩
theorem winnowerlaw09_List.calls (A0_0 : Option Addr) (c0_0 : Nat) (l0_0 : List Int) (a1 : Int) (r : List Int) (w : World) (hr0_0 : Kd.C (Kd.int .u64) w A0_0 l0_0.length l0_0) (hc0_0 : l0_0.length ≤ c0_0) (hG : Globs w) (h : winnowerlaw09_List.f l0_0 a1 = some r) :
    Calls Tryd.prog 21 #[.agg #[.slice A0_0 l0_0.length c0_0], .int .i64 a1] w fun e w' => ∃ v0_ : Value, e = .returned v0_ ∧ Kd.V (Kd.int .i64) 3 w' w.heap.size (fun k_ => w.heap.size ≤ k_) v0_ r ∧ Below w.heap.size w w' :=
  (winnowerlaw09_List.own A0_0 c0_0 l0_0 a1 r w hr0_0 hc0_0 hG h).mono fun e w' ⟨v0_, he, hr, hb⟩ => ⟨v0_, he, Kd.V_mono (Kd.R_V (Kd.R_bound hr)) (fun k_ hk => hk.2.1), hb⟩

end Go.Proofs.YteaiaeejdcmefaaDoor.T
