/- The machine side of laws, written by wip/tools/myprint.py (the printer's way, with functions proved by hand put in); Lean checks it. -/
import Derived.Shelf.Abstract
import Derived.Test.YteaiaeejdcmefaaDoorHbitset
import Derived.Test.YteaiaeejdcmefaaDoorTx0
namespace Go.Proofs.YteaiaeejdcmefaaDoor.T
open Go.RowKit Go.Proofs.YteaiaeejdcmefaaDoorW.PrintWords Go.Proofs.YteaiaeejdcmefaaDoorW.PrintLast Go.Proofs.YteaiaeejdcmefaaDoorW.PrintMore
attribute [local go_sem] max2_int min2_int max_two min_two max_three min_three max_four min_four   -- for this text's walks alone
set_option linter.unusedVariables false
set_option linter.unusedSimpArgs false

-- BY HAND: Derived.Shelf.Abstract,Derived.Test.YteaiaeejdcmefaaDoorHbitset
/-! ### bitset_Upto: function 13 -/
-- HAND winnower/bitset.Upto making V=0
-- SKIP winnower/bitset.each winnower/bitset.Upto$1
-- IMPORT Derived.Shelf.Abstract
-- IMPORT Derived.Test.YteaiaeejdcmefaaDoorHbitset
open Go.Shelf Go.Proofs.YteaiaeejdcmefaaDoor.Hbitset
/-- What is asked of the function that tells the words. -/
def WordOf (g : Nat) (lb : Array Value) (n : Nat) (f : Nat → Int) (w : World) : Prop := ∀ W, Below w.heap.size w W → ∀ k : Nat, k < n → Calls Tryd.prog g (#[.int .i64 (k : Int)] ++ lb) W fun e W' => e = .returned (.int .u64 (f k)) ∧ Below W.heap.size W W'
theorem set_step (f : Nat → Int) (n k : Nat) (h : k < n) : (((List.range k).map f ++ List.replicate (n - k) 0).set k (f k)) = (List.range (k + 1)).map f ++ List.replicate (n - (k + 1)) 0 := by
  have e : n - k = (n - (k + 1)) + 1 := by omega
  rw [List.set_append_right _ _ (by simp), List.length_map, List.length_range, Nat.sub_self, e, List.replicate_succ, List.set_cons_zero, List.range_succ, List.map_append, List.map_cons, List.map_nil, List.append_assoc, List.singleton_append]
theorem len_step (f : Nat → Int) (n k : Nat) (h : k ≤ n) : ((List.range k).map f ++ List.replicate (n - k) 0).length = n := by simp; omega
set_option maxHeartbeats 4000000 in
set_option maxRecDepth 100000 in
theorem bitset_each.calls (g : Nat) (lb : Array Value) (eg0 : Enters Tryd.prog g) (n : Nat) (hn : n ≤ 1000000) (f : Nat → Int) (w : World) (hf : WordOf g lb n f w) :
    Calls Tryd.prog 32 #[.int .i64 (n : Int), .func (.func g) #[] lb] w fun e w' => ∃ (A_ : Option Addr) (c_ : Nat), e = .returned (.agg #[.slice A_ n c_]) ∧ Kd.R (Kd.int .u64) 46 w' w.heap.size (fun _ => True) (.slice A_ n c_) ((List.range n).map f) ∧ Below w.heap.size w w' := by
  have eg : ∀ args w, (callFunc g args).run Tryd.prog w = .ok (.enter g args) w := eg0
  clear eg0
  have hu := Tryd.underlying26
  have HF := Aside0.mk hf
  have HB := Aside0.mk (Below.refl w.heap.size w)
  clear hf
  go_enter Tryd.func32, Tryd.ntmps32
  go_wp2_with (first | ((with_reducible refine gate_dst (N := 4) rfl ?_); refine box_event ?hg (N := 4) ?hd (cs := #[.slice none 0 0]) (t := 26) ?hr ?_; (case hd => rfl); (case hg => rfl); (case hr => first | (go_simp; done) | (go_simp; rfl)); intro gb hg w2 hbox hb; have n0_ := Aside0.mk (below_step HB.out hb); have BK := Aside0.mk hbox; have GE := Aside0.mk ((by rw [hg]; exact Nat.le_refl _) : w.heap.size ≤ gb); clear HB; have HB := n0_; clear n0_ hb hbox hg) | ((with_reducible refine gate_dst (N := 8) rfl ?_); refine Kd.R_make (Kd.int .u64) (w0 := w) w.heap.size 46 rfl (N := 8) rfl 24 (.tmp 7) (.tmp 7) rfl (n : Int) rfl rfl Tryd.underlying24 (.int .u64 0) 8 info46 rfl (by decide) (by decide) (0 : Int) (ok := fun _ => True) (okp := fun _ => True) ?hz (fun _ _ => trivial) trivial (by omega) ?hl HB.out (below_size HB.out) ?_; (case hz => first | rfl | (simp; done) | trivial); (case hl => (rw [Int.toNat_natCast]; omega)); intro v1 w1 ho hb hg _; obtain ⟨A1, c1, e1⟩ := Kd.R_slice ho; subst e1; rw [List.length_replicate, Int.toNat_natCast] at ho ⊢; have n0_ := Aside0.mk hb; have n1_ := Aside0.mk (blk_grown BK.out hg (by simp)); have n2_ := Aside0.mk ho; clear HB BK; have HB := n0_; have BK := n1_; have HO := n2_; clear n0_ n1_ n2_ ho hb hg))
  go_loopg [6, 11] n (fun m v6 v11 wr => ∃ k : Nat, v11 = .int .i64 (k : Int) ∧ Aside0 (k + m = n) ∧ Aside0 (Kd.R (Kd.int .u64) 46 wr w.heap.size (fun _ => True) (.slice A1 n c1) ((List.range k).map f ++ List.replicate (n - k) 0)) ∧ Aside0 (wr.heap[gb]? = some (.cells #[.slice none 0 0] 26 (0, 0))) ∧ Aside0 (Below w.heap.size w wr))
  case atStart => exact ⟨0, rfl, ⟨by omega⟩, ⟨by simpa using HO.out⟩, ⟨BK.out⟩, ⟨HB.out⟩⟩
  case round =>
    clear HO BK HB
    obtain ⟨k, rfl, HK, HO, BK, HB⟩ := hrel
    by_cases hlt : k < n
    · have q1 : (k : Int) < (n : Int) := by omega
      have q0 : (0 : Int) ≤ (k : Int) := by omega
      have hlen := len_step f n k (Nat.le_of_lt hlt)
      have hp : 0 < ((List.range k).map f ++ List.replicate (n - k) 0).length := by rw [hlen]; omega
      obtain ⟨gr, cp, e1, hge, hgl, hbl⟩ := Kd.R_form HO.out hp
      injection e1 with e1 e2 e3
      clear e2
      subst e1
      subst e3
      have HGE := Aside0.mk hge
      have HGL := Aside0.mk hgl
      have HST := Aside0.mk (set_step f n k hlt)
      have HNE := Aside0.mk (show gb ≠ gr from by obtain ⟨cells, hc⟩ := hbl; exact blk_ne BK.out hc (by decide))
      clear hge hgl hp hlen hbl
      have q2 : IntKind.i64.wrap ((k : Int) + 1) = (k : Int) + 1 := IntWalk.i64_in _ (by omega)
      have cS := HF.out wr HB.out k hlt
      go_wp2_with (go_at_fn g; refine cS.mono ?_; clear cS; rintro e W ⟨rfl, hb⟩; have hc := Kd.R_celln (enc := Value.int .u64) (h1 := fun _ => rfl) (0 : Int) (Kd.R_below HO.out hb) (k : Int) (by omega) (by omega); rw [Int.toNat_natCast] at hc; obtain ⟨hc1, hc2⟩ := hc; have HN := Aside0.mk hb; clear hb)
      go_roundg (gk - 1)
      case measure => have := HK.out; omega
      case rel =>
        have hput := Kd.R_putn (enc := Value.int .u64) (h1 := fun _ => rfl) (Kd.R_below HO.out HN.out) (k : Int) (f k)
        rw [Int.toNat_natCast, HST.out] at hput
        exact ⟨k + 1, by go_num, ⟨by have := HK.out; omega⟩, ⟨hput⟩, ⟨blk_far ((HN.out.block gb (blk_lt BK.out)).trans BK.out) HNE.out _⟩, ⟨below_set (below_step HB.out HN.out) HGE.out⟩⟩
    · have q1 : (n : Int) ≤ (k : Int) := by omega
      obtain rfl : k = n := by have := HK.out; omega
      have hO := HO.out
      rw [Nat.sub_self, List.replicate_zero, List.append_nil] at hO
      have HO2 := Aside0.mk hO
      clear hO HO
      have hcz : wr.cell? ⟨gb, 0, none⟩ = some (.slice none 0 0) := (blk_cell BK.out 0).trans rfl
      have hfz := blk_frozen BK.out 0
      go_wp2
      refine bodyPost_ret (results_cell_row rfl _ _ gb 26 #[.slice A1 k c1] (0, 0) _ rfl (blk_put (cs := #[.slice none 0 0]) BK.out 0 _ rfl) Tryd.underlying26 rfl (by kernel_rfl)) rfl ?_
      exact ⟨_, _, rfl, Kd.R_mono (Kd.R_far (p := ⟨gb, 0, none⟩) (Kd.R_types HO2.out BK.out (by decide)) (fun _ hk => hk.2) _) (fun _ _ => trivial), below_set HB.out GE.out⟩
/-- The word k of all below n. -/
def uptoW (n k : Nat) : Int := if 64 ≤ n - 64 * k then 18446744073709551615 else (2 : Int) ^ (n - 64 * k) - 1
theorem pow_lt64 (j : Nat) (h : j < 64) : 0 < (2 : Int) ^ j ∧ (2 : Int) ^ j < 18446744073709551616 := by
  have h1 : (2 : Nat) ^ j < 2 ^ 64 := Nat.pow_lt_pow_right (by decide) h
  have h2 : 0 < (2 : Nat) ^ j := Nat.pow_pos (by decide)
  have e : (2 : Int) ^ j = ((2 ^ j : Nat) : Int) := by rw [Int.natCast_pow]; rfl
  rw [e]
  omega
theorem uptoW_lo (n k : Nat) (h : ¬ 64 ≤ n - 64 * k) : IntKind.u64.wrap (IntKind.u64.wrap ((2 : Int) ^ (n - k * 64)) - 1) = uptoW n k := by
  rw [uptoW, if_neg h, Nat.mul_comm k 64]
  obtain ⟨h1, h2⟩ := pow_lt64 (n - 64 * k) (by omega)
  generalize (2 : Int) ^ (n - 64 * k) = x at *
  rw [show IntKind.u64.wrap x = x from IntWalk.u64_in _ (by omega), IntWalk.u64_in _ (by omega)]
theorem ret_u64 {a b : Int} (h : a = b) : Ending.returned (.int .u64 a) = .returned (.int .u64 b) := by rw [h]
set_option maxHeartbeats 4000000 in
set_option maxRecDepth 100000 in
theorem bitset_Upto_1.calls (n k B : Nat) (hn : n ≤ 65536) (hk : 64 * k < n) (W : World) (hb : W.heap[B]? = some (.cells #[.int .i64 (n : Int)] 3 (0, 0))) :
    Calls Tryd.prog 36 #[.int .i64 (k : Int), .pointer (some ⟨B, 0, none⟩)] W fun e W' => e = .returned (.int .u64 (uptoW n k)) ∧ Below W.heap.size W W' := by
  have hc : W.cell? ⟨B, 0, none⟩ = some (.int .i64 (n : Int)) := (blk_cell hb 0).trans rfl
  clear hb
  have q0 : (0 : Int) ≤ (k : Int) := by omega
  have q1 : (k : Int) ≤ 1024 := by omega
  have q2 : (n : Int) ≤ 65536 := by omega
  by_cases h : 64 ≤ n - 64 * k
  · have q3 : (64 : Int) ≤ (n : Int) - (k : Int) * 64 := by omega
    have e : uptoW n k = 18446744073709551615 := if_pos h
    rw [e]
    clear e h hk
    go_enter Tryd.func36, Tryd.ntmps36
    go_wp2
    go_ret
    exact ⟨rfl, Below.refl _ _⟩
  · have q3 : (n : Int) - (k : Int) * 64 < 64 := by omega
    have q4 : (0 : Int) ≤ (n : Int) - (k : Int) * 64 := by omega
    go_enter Tryd.func36, Tryd.ntmps36
    go_wp2
    go_ret
    exact ⟨ret_u64 (uptoW_lo n k h), Below.refl _ _⟩
def uptoN (n : Int) : Nat := (mn (mx n 0) 65536).toNat
/-- The words of all below n. -/
def uptoL (n : Nat) : List Int := (List.range ((n + 63) / 64)).map (uptoW n)
def bitset_Upto.f (a0 : Int) : Option (List Int) := some (uptoL (uptoN a0))
theorem uptoN_le (n : Int) : uptoN n ≤ 65536 := by unfold uptoN mn mx; omega
theorem uptoN_val (n : Int) : ((uptoN n : Nat) : Int) = mn (mx n 0) 65536 := by unfold uptoN mn mx; omega
theorem wordOf_upto (n B : Nat) (hn : n ≤ 65536) (w : World) (hb : w.heap[B]? = some (.cells #[.int .i64 (n : Int)] 3 (0, 0))) : WordOf 36 #[.pointer (some ⟨B, 0, none⟩)] ((n + 63) / 64) (uptoW n) w := by
  intro W hW k hk
  exact bitset_Upto_1.calls n k B hn (by omega) W ((hW.block B (blk_lt hb)).trans hb)
theorem upto_div (n : Nat) : ((n : Int) + 64 - 1) / 64 = (((n + 63) / 64 : Nat) : Int) := by omega
set_option maxHeartbeats 4000000 in
set_option maxRecDepth 100000 in
theorem bitset_Upto.own (a0 : Int) (r : List Int) (w : World) (h : bitset_Upto.f a0 = some r) :
    Calls Tryd.prog 13 #[.int .i64 a0] w fun e w' => ∃ v0_ : Value, e = .returned (.agg #[v0_]) ∧ Kd.R (Kd.int .u64) 46 w' w.heap.size (fun _ => True) v0_ r ∧ Below w.heap.size w w' := by
  obtain rfl := Option.some.inj h
  clear h
  have eg := enters_of Tryd.func36 (by kernel_rfl) rfl
  have hu := Tryd.underlying26
  by_cases h1 : a0 < 0
  · have e : uptoN a0 = 0 := by unfold uptoN mn mx; omega
    rw [e]
    clear e
    have HB := Aside0.mk (Below.refl w.heap.size w)
    go_enter Tryd.func13, Tryd.ntmps13
    go_wp2_with (first | ((with_reducible refine gate_dst (N := 1) rfl ?_); refine box_event ?hg (N := 1) ?hd (cs := #[.int .i64 a0]) (t := 3) ?hr ?_; (case hd => rfl); (case hg => rfl); (case hr => first | (go_simp; done) | (go_simp; rfl)); intro g1 hg w1 hbox hb; have n0_ := Aside0.mk (below_step HB.out hb); have B1 := Aside0.mk hbox; have G1 := Aside0.mk ((by rw [hg]; exact Nat.le_refl _) : w.heap.size ≤ g1); have hc1 : w1.cell? ⟨g1, 0, none⟩ = some (.int .i64 a0) := (blk_cell hbox 0).trans rfl; have hf1 := blk_frozen hbox 0; clear HB; have HB := n0_; clear n0_ hb hbox hg) | ((with_reducible refine gate_dst (N := 2) rfl ?_); refine box_event ?hg (N := 2) ?hd (cs := #[.slice none 0 0]) (t := 26) ?hr ?_; (case hd => rfl); (case hg => rfl); (case hr => first | (go_simp; done) | (go_simp; rfl)); intro g2 hg w2 hbox hb; have n0_ := Aside0.mk (below_step HB.out hb); have n1_ := Aside0.mk ((hb.block g1 (blk_lt B1.out)).trans B1.out); have B2 := Aside0.mk hbox; have G2 := Aside0.mk ((by rw [hg]; exact (below_size HB.out)) : w.heap.size ≤ g2); clear HB B1 hc1 hf1; have HB := n0_; have B1 := n1_; have hc1 : w2.cell? ⟨g1, 0, none⟩ = some (.int .i64 a0) := (blk_cell B1.out 0).trans rfl; have hf1 := blk_frozen B1.out 0; have N12 := Aside0.mk (blk_ne B1.out B2.out (by decide)); clear n0_ n1_ hb hbox hg) | (go_at_call 32; clear hc1 hf1; refine calls_of_args (args' := #[.int .i64 ((0 : Nat) : Int), .func (.func 36) #[] #[.pointer (some ⟨g1, 0, none⟩)]]) rfl ?_; (with_reducible refine (bitset_each.calls 36 #[.pointer (some ⟨g1, 0, none⟩)] eg 0 (by omega) (uptoW 0) _ ?sideW).mono ?_); (case sideW => exact wordOf_upto 0 g1 (by omega) _ (blk_put (cs := #[.int .i64 a0]) B1.out 0 _ rfl)); rintro e w3 ⟨A3, c3, rfl, ho, hb⟩; have LE := Aside0.mk (show ∀ u, w.heap.size ≤ (w2.setCell ⟨g1, 0, none⟩ u).heap.size from fun u => below_size (below_set HB.out G1.out)); have HO := Aside0.mk ho; have n0_ := Aside0.mk (below_step (below_set HB.out G1.out) hb); have n2_ := Aside0.mk ((hb.block g2 (by simpa [World.setCell] using blk_lt B2.out)).trans (blk_far B2.out (fun e_ => N12.out e_.symm) _)); clear HB B2; have HB := n0_; have B2 := n2_; have hc2 : w3.cell? ⟨g2, 0, none⟩ = some (.slice none 0 0) := (blk_cell B2.out 0).trans rfl; have hf2 := blk_frozen B2.out 0; clear n0_ n2_ ho hb))
    refine bodyPost_ret (results_cell_row rfl _ _ g2 26 #[.slice A3 0 c3] (0, 0) _ rfl (blk_put (cs := #[.slice none 0 0]) B2.out 0 _ rfl) Tryd.underlying26 rfl (by kernel_rfl)) rfl ?_
    exact ⟨_, rfl, Kd.R_mono (Kd.R_far (p := ⟨g2, 0, none⟩) (Kd.R_types (show Kd.R (Kd.int .u64) 46 w3 w.heap.size (fun _ => True) (.slice A3 0 c3) (uptoL 0) from Kd.R_lower HO.out (LE.out _)) B2.out (by decide)) (fun _ hk => hk.2) _) (fun _ _ => trivial), below_set HB.out G2.out⟩
  · by_cases h2 : 65536 < a0
    · have e : uptoN a0 = 65536 := by unfold uptoN mn mx; omega
      rw [e]
      clear e
      have HB := Aside0.mk (Below.refl w.heap.size w)
      go_enter Tryd.func13, Tryd.ntmps13
      go_wp2_with (first | ((with_reducible refine gate_dst (N := 1) rfl ?_); refine box_event ?hg (N := 1) ?hd (cs := #[.int .i64 a0]) (t := 3) ?hr ?_; (case hd => rfl); (case hg => rfl); (case hr => first | (go_simp; done) | (go_simp; rfl)); intro g1 hg w1 hbox hb; have n0_ := Aside0.mk (below_step HB.out hb); have B1 := Aside0.mk hbox; have G1 := Aside0.mk ((by rw [hg]; exact Nat.le_refl _) : w.heap.size ≤ g1); have hc1 : w1.cell? ⟨g1, 0, none⟩ = some (.int .i64 a0) := (blk_cell hbox 0).trans rfl; have hf1 := blk_frozen hbox 0; clear HB; have HB := n0_; clear n0_ hb hbox hg) | ((with_reducible refine gate_dst (N := 2) rfl ?_); refine box_event ?hg (N := 2) ?hd (cs := #[.slice none 0 0]) (t := 26) ?hr ?_; (case hd => rfl); (case hg => rfl); (case hr => first | (go_simp; done) | (go_simp; rfl)); intro g2 hg w2 hbox hb; have n0_ := Aside0.mk (below_step HB.out hb); have n1_ := Aside0.mk ((hb.block g1 (blk_lt B1.out)).trans B1.out); have B2 := Aside0.mk hbox; have G2 := Aside0.mk ((by rw [hg]; exact (below_size HB.out)) : w.heap.size ≤ g2); clear HB B1 hc1 hf1; have HB := n0_; have B1 := n1_; have hc1 : w2.cell? ⟨g1, 0, none⟩ = some (.int .i64 a0) := (blk_cell B1.out 0).trans rfl; have hf1 := blk_frozen B1.out 0; have N12 := Aside0.mk (blk_ne B1.out B2.out (by decide)); clear n0_ n1_ hb hbox hg) | (go_at_call 32; clear hc1 hf1; refine calls_of_args (args' := #[.int .i64 ((1024 : Nat) : Int), .func (.func 36) #[] #[.pointer (some ⟨g1, 0, none⟩)]]) rfl ?_; (with_reducible refine (bitset_each.calls 36 #[.pointer (some ⟨g1, 0, none⟩)] eg 1024 (by omega) (uptoW 65536) _ ?sideW).mono ?_); (case sideW => exact wordOf_upto 65536 g1 (by omega) _ (blk_put (cs := #[.int .i64 a0]) B1.out 0 _ rfl)); rintro e w3 ⟨A3, c3, rfl, ho, hb⟩; have LE := Aside0.mk (show ∀ u, w.heap.size ≤ (w2.setCell ⟨g1, 0, none⟩ u).heap.size from fun u => below_size (below_set HB.out G1.out)); have HO := Aside0.mk ho; have n0_ := Aside0.mk (below_step (below_set HB.out G1.out) hb); have n2_ := Aside0.mk ((hb.block g2 (by simpa [World.setCell] using blk_lt B2.out)).trans (blk_far B2.out (fun e_ => N12.out e_.symm) _)); clear HB B2; have HB := n0_; have B2 := n2_; have hc2 : w3.cell? ⟨g2, 0, none⟩ = some (.slice none 0 0) := (blk_cell B2.out 0).trans rfl; have hf2 := blk_frozen B2.out 0; clear n0_ n2_ ho hb))
      refine bodyPost_ret (results_cell_row rfl _ _ g2 26 #[.slice A3 1024 c3] (0, 0) _ rfl (blk_put (cs := #[.slice none 0 0]) B2.out 0 _ rfl) Tryd.underlying26 rfl (by kernel_rfl)) rfl ?_
      exact ⟨_, rfl, Kd.R_mono (Kd.R_far (p := ⟨g2, 0, none⟩) (Kd.R_types (show Kd.R (Kd.int .u64) 46 w3 w.heap.size (fun _ => True) (.slice A3 1024 c3) (uptoL 65536) from Kd.R_lower HO.out (LE.out _)) B2.out (by decide)) (fun _ hk => hk.2) _) (fun _ _ => trivial), below_set HB.out G2.out⟩
    · obtain ⟨n, rfl⟩ := Int.eq_ofNat_of_zero_le (show 0 ≤ a0 by omega)
      have e : uptoN (n : Int) = n := by unfold uptoN mn mx; omega
      rw [e]
      clear e
      have q1 : (n : Int) ≤ 65536 := by omega
      have HB := Aside0.mk (Below.refl w.heap.size w)
      go_enter Tryd.func13, Tryd.ntmps13
      go_wp2_with (first | ((with_reducible refine gate_dst (N := 1) rfl ?_); refine box_event ?hg (N := 1) ?hd (cs := #[.int .i64 (n : Int)]) (t := 3) ?hr ?_; (case hd => rfl); (case hg => rfl); (case hr => first | (go_simp; done) | (go_simp; rfl)); intro g1 hg w1 hbox hb; have n0_ := Aside0.mk (below_step HB.out hb); have B1 := Aside0.mk hbox; have G1 := Aside0.mk ((by rw [hg]; exact Nat.le_refl _) : w.heap.size ≤ g1); have hc1 : w1.cell? ⟨g1, 0, none⟩ = some (.int .i64 (n : Int)) := (blk_cell hbox 0).trans rfl; have hf1 := blk_frozen hbox 0; clear HB; have HB := n0_; clear n0_ hb hbox hg) | ((with_reducible refine gate_dst (N := 2) rfl ?_); refine box_event ?hg (N := 2) ?hd (cs := #[.slice none 0 0]) (t := 26) ?hr ?_; (case hd => rfl); (case hg => rfl); (case hr => first | (go_simp; done) | (go_simp; rfl)); intro g2 hg w2 hbox hb; have n0_ := Aside0.mk (below_step HB.out hb); have n1_ := Aside0.mk ((hb.block g1 (blk_lt B1.out)).trans B1.out); have B2 := Aside0.mk hbox; have G2 := Aside0.mk ((by rw [hg]; exact (below_size HB.out)) : w.heap.size ≤ g2); clear HB B1 hc1 hf1; have HB := n0_; have B1 := n1_; have hc1 : w2.cell? ⟨g1, 0, none⟩ = some (.int .i64 (n : Int)) := (blk_cell B1.out 0).trans rfl; have hf1 := blk_frozen B1.out 0; have N12 := Aside0.mk (blk_ne B1.out B2.out (by decide)); clear n0_ n1_ hb hbox hg) | (go_at_call 32; clear hc1 hf1; refine calls_of_args (args' := #[.int .i64 (((n + 63) / 64 : Nat) : Int), .func (.func 36) #[] #[.pointer (some ⟨g1, 0, none⟩)]]) (by rw [← upto_div]) ?_; (with_reducible refine (bitset_each.calls 36 #[.pointer (some ⟨g1, 0, none⟩)] eg ((n + 63) / 64) (by omega) (uptoW n) _ ?sideW).mono ?_); (case sideW => exact wordOf_upto n g1 (by omega) _ (blk_put (cs := #[.int .i64 (n : Int)]) B1.out 0 _ rfl)); rintro e w3 ⟨A3, c3, rfl, ho, hb⟩; have LE := Aside0.mk (show ∀ u, w.heap.size ≤ (w2.setCell ⟨g1, 0, none⟩ u).heap.size from fun u => below_size (below_set HB.out G1.out)); have HO := Aside0.mk ho; have n0_ := Aside0.mk (below_step (below_set HB.out G1.out) hb); have n2_ := Aside0.mk ((hb.block g2 (by simpa [World.setCell] using blk_lt B2.out)).trans (blk_far B2.out (fun e_ => N12.out e_.symm) _)); clear HB B2; have HB := n0_; have B2 := n2_; have hc2 : w3.cell? ⟨g2, 0, none⟩ = some (.slice none 0 0) := (blk_cell B2.out 0).trans rfl; have hf2 := blk_frozen B2.out 0; clear n0_ n2_ ho hb))
      refine bodyPost_ret (results_cell_row rfl _ _ g2 26 #[.slice A3 ((n + 63) / 64) c3] (0, 0) _ rfl (blk_put (cs := #[.slice none 0 0]) B2.out 0 _ rfl) Tryd.underlying26 rfl (by kernel_rfl)) rfl ?_
      exact ⟨_, rfl, Kd.R_mono (Kd.R_far (p := ⟨g2, 0, none⟩) (Kd.R_types (show Kd.R (Kd.int .u64) 46 w3 w.heap.size (fun _ => True) (.slice A3 ((n + 63) / 64) c3) (uptoL n) from Kd.R_lower HO.out (LE.out _)) B2.out (by decide)) (fun _ hk => hk.2) _) (fun _ _ => trivial), below_set HB.out G2.out⟩
theorem bitset_Upto.calls (a0 : Int) (r : List Int) (w : World) (h : bitset_Upto.f a0 = some r) :
    Calls Tryd.prog 13 #[.int .i64 a0] w fun e w' => ∃ v0_ : Value, e = .returned (.agg #[v0_]) ∧ Kd.V (Kd.int .u64) 46 w' w.heap.size (fun k_ => w.heap.size ≤ k_) v0_ r ∧ Below w.heap.size w w' :=
  (bitset_Upto.own a0 r w h).mono fun e w' ⟨v0_, he, hr, hb⟩ => ⟨v0_, he, Kd.V_mono (Kd.R_V (Kd.R_bound hr)) (fun k_ hk => hk.2.1), hb⟩

end Go.Proofs.YteaiaeejdcmefaaDoor.T
