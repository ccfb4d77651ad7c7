/- The machine side of laws, written by wip/tools/myprint.py (the printer's way, with functions proved by hand put in); Lean checks it. -/
import Derived.Deep.DrawnRows
import Derived.Deep.RegionHeld3
import Derived.Shelf.Abstract
import Derived.Test.YteaiaeejdcmefaaDoorHbitset
import Derived.Test.YteaiaeejdcmefaaDoorTx0
import Derived.Test.YteaiaeejdcmefaaDoorTx4
import Derived.Test.YteaiaeejdcmefaaDoorTx5
namespace Go.Proofs.YteaiaeejdcmefaaDoor.T
open Go.RowKit Go.Proofs.YteaiaeejdcmefaaDoorW.PrintWords Go.Proofs.YteaiaeejdcmefaaDoorW.PrintLast Go.Proofs.YteaiaeejdcmefaaDoorW.PrintMore
attribute [local go_sem] max2_int min2_int max_two min_two max_three min_three max_four min_four   -- for this text's walks alone
set_option linter.unusedVariables false
set_option linter.unusedSimpArgs false

-- BY HAND: Derived.Shelf.Abstract,Derived.Deep.RegionHeld3,Derived.Deep.DrawnRows,Derived.Test.YteaiaeejdcmefaaDoorHbitset
/-! ### bitset_Set_Or: function 12 -/
-- HAND (winnower/bitset.Set).Or making V=0
-- SKIP winnower/bitset.each (winnower/bitset.Set).Or$1
-- IMPORT Derived.Shelf.Abstract
-- IMPORT Derived.Deep.RegionHeld3
-- IMPORT Derived.Deep.DrawnRows
-- IMPORT Derived.Test.YteaiaeejdcmefaaDoorHbitset
open Go.Shelf Go.Proofs.YteaiaeejdcmefaaDoor.Hbitset
attribute [local go_sem ↓] Go.wp_at_zero Go.wp_at_succ
def orW (l0 l1 : List Int) (k : Nat) : Int := Go.bits .or .u64 (l0.getD k 0) (l1.getD k 0)
def bitset_Set_Or.f (l0 l1 : List Int) : Option (List Int) := if l0.length ≤ 1000000 ∧ l1.length ≤ 1000000 then some ((List.range (max l0.length l1.length)).map (orW l0 l1)) else none
theorem at_val (l : List Int) (k : Nat) : bitset_Set_at.f l (k : Int) = some (l.getD k 0) := by
  unfold bitset_Set_at.f
  by_cases h : k < l.length
  · rw [if_pos (by omega), if_pos (by omega), rd, Int.toNat_natCast]
  · rw [if_neg (by omega), List.getD_eq_getElem?_getD, List.getElem?_eq_none (by omega), Option.getD_none]
theorem at_now (A : Option Addr) (c : Nat) (l : List Int) (k : Nat) (hc : l.length ≤ c) (w0 w : World) (hr : Kd.C (Kd.int .u64) w0 A l.length l) (hb : Below w0.heap.size w0 w) :
    Calls Tryd.prog 31 #[.agg #[.slice A l.length c], .int .i64 (k : Int)] w fun e w' => e = .returned (.int .u64 (l.getD k 0)) ∧ Below w0.heap.size w0 w' :=
  (bitset_Set_at.calls A c l (k : Int) _ w (Kd.C_below hr hb) hc (at_val l k)).mono fun _ _ ⟨he, hw⟩ => ⟨he, below_step hb hw⟩
set_option maxHeartbeats 4000000 in
set_option maxRecDepth 100000 in
theorem bitset_Set_Or_1.calls (A0 A1 : Option Addr) (c0 c1 : Nat) (l0 l1 : List Int) (k B0 B1 : Nat) (hk : k < 1000000) (hc0 : l0.length ≤ c0) (hc1 : l1.length ≤ c1) (W : World) (b0 : W.heap[B0]? = some (.cells #[.slice A0 l0.length c0] 26 (0, 0))) (b1 : W.heap[B1]? = some (.cells #[.slice A1 l1.length c1] 26 (0, 0))) (hr0 : Kd.C (Kd.int .u64) W A0 l0.length l0) (hr1 : Kd.C (Kd.int .u64) W A1 l1.length l1) :
    Calls Tryd.prog 35 #[.int .i64 (k : Int), .pointer (some ⟨B0, 0, none⟩), .pointer (some ⟨B1, 0, none⟩)] W fun e W' => e = .returned (.int .u64 (orW l0 l1 k)) ∧ Below W.heap.size W W' := by
  have hcb0 : W.cell? ⟨B0, 0, none⟩ = some (.slice A0 l0.length c0) := (blk_cell b0 0).trans rfl
  have hcb1 : W.cell? ⟨B1, 0, none⟩ = some (.slice A1 l1.length c1) := (blk_cell b1 0).trans rfl
  have BX0 := Aside0.mk b0
  have BX1 := Aside0.mk b1
  have HR0 := Aside0.mk hr0
  have HR1 := Aside0.mk hr1
  have HC0 := Aside0.mk hc0
  have HC1 := Aside0.mk hc1
  clear b0 b1 hr0 hr1 hc0 hc1
  have q0 : (0 : Int) ≤ (k : Int) := by omega
  have q1 : (k : Int) ≤ 1000000 := by omega
  have hu := Tryd.underlying26
  rw [orW]
  obtain ⟨x, hx⟩ : ∃ x, l0.getD k 0 = x := ⟨_, rfl⟩
  obtain ⟨y, hy⟩ : ∃ x, l1.getD k 0 = x := ⟨_, rfl⟩
  have HX := Aside0.mk hx
  have HY := Aside0.mk hy
  rw [hx, hy]
  clear hx hy
  go_enter Tryd.func35, Tryd.ntmps35
  go_wp2
  go_region_held3 (fun w' => w'.cell? ⟨B0, 0, none⟩ = some (.slice A0 l0.length c0) ∧ w'.cell? ⟨B1, 0, none⟩ = some (.slice A1 l1.length c1))
    (first | exact ⟨(blk_cell (((by assumption : Below W.heap.size W _).block B0 (blk_lt BX0.out)).trans BX0.out) 0).trans rfl, (blk_cell (((by assumption : Below W.heap.size W _).block B1 (blk_lt BX1.out)).trans BX1.out) 0).trans rfl⟩ | go_keep)
    (first
      | (go_at_call 31; (with_reducible refine (at_now A0 c0 l0 k HC0.out W _ HR0.out (by first | assumption | exact pw_below_drewN (Below.refl _ _) _ | exact below_drew1 (Below.refl _ _))).mono ?_); rintro e w1 ⟨rfl, hb⟩; rw [HX.out])
      | (go_at_call 31; (with_reducible refine (at_now A1 c1 l1 k HC1.out W _ HR1.out (by first | assumption | exact pw_below_drewN (Below.refl _ _) _ | exact below_drew1 (Below.refl _ _))).mono ?_); rintro e w1 ⟨rfl, hb⟩; rw [HY.out]))
  all_goals go_wp2
  all_goals go_ret
  all_goals exact ⟨rfl, by assumption⟩
theorem wordOf_or (l0 l1 : List Int) (c0 c1 : Nat) (n : Nat) (hn : n ≤ 1000000) (hc0 : l0.length ≤ c0) (hc1 : l1.length ≤ c1) (A0 A1 : Option Addr) (B0 B1 : Nat) (w : World) (b0 : w.heap[B0]? = some (.cells #[.slice A0 l0.length c0] 26 (0, 0))) (b1 : w.heap[B1]? = some (.cells #[.slice A1 l1.length c1] 26 (0, 0))) (hr0 : Kd.C (Kd.int .u64) w A0 l0.length l0) (hr1 : Kd.C (Kd.int .u64) w A1 l1.length l1) :
    WordOf 35 #[.pointer (some ⟨B0, 0, none⟩), .pointer (some ⟨B1, 0, none⟩)] n (orW l0 l1) w := by
  intro W hW k hk
  exact bitset_Set_Or_1.calls A0 A1 c0 c1 l0 l1 k B0 B1 (by omega) hc0 hc1 W ((hW.block B0 (blk_lt b0)).trans b0) ((hW.block B1 (blk_lt b1)).trans b1) (Kd.C_below hr0 hW) (Kd.C_below hr1 hW)
set_option maxHeartbeats 4000000 in
set_option maxRecDepth 100000 in
theorem bitset_Set_Or.own (A0_0 : Option Addr) (c0_0 : Nat) (l0_0 : List Int) (A1_0 : Option Addr) (c1_0 : Nat) (l1_0 : List Int) (r : List Int) (w : World) (hr0_0 : Kd.C (Kd.int .u64) w A0_0 l0_0.length l0_0) (hc0_0 : l0_0.length ≤ c0_0) (hr1_0 : Kd.C (Kd.int .u64) w A1_0 l1_0.length l1_0) (hc1_0 : l1_0.length ≤ c1_0) (h : bitset_Set_Or.f l0_0 l1_0 = some r) :
    Calls Tryd.prog 12 #[.agg #[.slice A0_0 l0_0.length c0_0], .agg #[.slice A1_0 l1_0.length c1_0]] w fun e w' => ∃ v0_ : Value, e = .returned (.agg #[v0_]) ∧ Kd.R (Kd.int .u64) 46 w' w.heap.size (fun _ => True) v0_ r ∧ Below w.heap.size w w' := by
  have HR0 := Aside0.mk hr0_0
  have HR1 := Aside0.mk hr1_0
  have HC0 := Aside0.mk hc0_0
  have HC1 := Aside0.mk hc1_0
  clear hr0_0 hr1_0 hc0_0 hc1_0
  obtain ⟨hl, rfl⟩ : (l0_0.length ≤ 1000000 ∧ l1_0.length ≤ 1000000) ∧ (List.range (max l0_0.length l1_0.length)).map (orW l0_0 l1_0) = r := by
    rw [bitset_Set_Or.f] at h
    by_cases c : l0_0.length ≤ 1000000 ∧ l1_0.length ≤ 1000000
    · rw [if_pos c] at h; exact ⟨c, Option.some.inj h⟩
    · rw [if_neg c] at h; cases h
  clear h
  have eg := enters_of Tryd.func35 (by kernel_rfl) rfl
  have hu := Tryd.underlying26
  have HB := Aside0.mk (Below.refl w.heap.size w)
  by_cases hlt : l0_0.length < l1_0.length
  · rw [Nat.max_eq_right (Nat.le_of_lt hlt)]
    have hb1 : ((l0_0.length : Nat) : Int) < (l1_0.length : Int) := by omega
    go_enter Tryd.func12, Tryd.ntmps12
    go_wp2_with (first | ((with_reducible refine gate_dst (N := 2) rfl ?_); refine box_event ?hg (N := 2) ?hd (cs := #[.slice A0_0 l0_0.length c0_0]) (t := 26) ?hr ?_; (case hd => rfl); (case hg => rfl); (case hr => first | (go_simp; done) | (go_simp; rfl)); intro g2 hg w2 hbox hb; have n0_ := Aside0.mk (below_step HB.out hb); have BX2 := Aside0.mk hbox; have GX2 := Aside0.mk ((by rw [hg]; exact (below_size HB.out)) : w.heap.size ≤ g2); clear HB ; have HB := n0_; have hc2 : w2.cell? ⟨g2, 0, none⟩ = some (.slice A0_0 l0_0.length c0_0) := (blk_cell BX2.out 0).trans rfl; clear n0_  hb hbox hg) | ((with_reducible refine gate_dst (N := 3) rfl ?_); refine box_event ?hg (N := 3) ?hd (cs := #[.slice A1_0 l1_0.length c1_0]) (t := 26) ?hr ?_; (case hd => rfl); (case hg => rfl); (case hr => first | (go_simp; done) | (go_simp; rfl)); intro g3 hg w3 hbox hb; have n0_ := Aside0.mk (below_step HB.out hb); have m2_ := Aside0.mk ((hb.block g2 (blk_lt BX2.out)).trans BX2.out); have BX3 := Aside0.mk hbox; have GX3 := Aside0.mk ((by rw [hg]; exact (below_size HB.out)) : w.heap.size ≤ g3); clear HB BX2 hc2; have HB := n0_; have BX2 := m2_; have hc2 : w3.cell? ⟨g2, 0, none⟩ = some (.slice A0_0 l0_0.length c0_0) := (blk_cell BX2.out 0).trans rfl; have hc3 : w3.cell? ⟨g3, 0, none⟩ = some (.slice A1_0 l1_0.length c1_0) := (blk_cell BX3.out 0).trans rfl; clear n0_ m2_ hb hbox hg) | ((with_reducible refine gate_dst (N := 4) rfl ?_); refine box_event ?hg (N := 4) ?hd (cs := #[.slice none 0 0]) (t := 26) ?hr ?_; (case hd => rfl); (case hg => rfl); (case hr => first | (go_simp; done) | (go_simp; rfl)); intro g4 hg w4 hbox hb; have n0_ := Aside0.mk (below_step HB.out hb); have m2_ := Aside0.mk ((hb.block g2 (blk_lt BX2.out)).trans BX2.out); have m3_ := Aside0.mk ((hb.block g3 (blk_lt BX3.out)).trans BX3.out); have BX4 := Aside0.mk hbox; have GX4 := Aside0.mk ((by rw [hg]; exact (below_size HB.out)) : w.heap.size ≤ g4); clear HB BX2 hc2 BX3 hc3; have HB := n0_; have BX2 := m2_; have hc2 : w4.cell? ⟨g2, 0, none⟩ = some (.slice A0_0 l0_0.length c0_0) := (blk_cell BX2.out 0).trans rfl; have BX3 := m3_; have hc3 : w4.cell? ⟨g3, 0, none⟩ = some (.slice A1_0 l1_0.length c1_0) := (blk_cell BX3.out 0).trans rfl; clear n0_ m2_ m3_ hb hbox hg) | (go_at_call 32; clear hc2 hc3; (with_reducible refine (bitset_each.calls 35 #[.pointer (some ⟨g2, 0, none⟩), .pointer (some ⟨g3, 0, none⟩)] eg (l1_0.length) (by omega) (orW l0_0 l1_0) _ ?sideW).mono ?_); (case sideW => exact wordOf_or l0_0 l1_0 c0_0 c1_0 (l1_0.length) (by omega) HC0.out HC1.out A0_0 A1_0 g2 g3 _ BX2.out BX3.out (Kd.C_below HR0.out HB.out) (Kd.C_below HR1.out HB.out)); rintro e w5 ⟨A5, c5, rfl, ho, hb⟩; have LE := Aside0.mk (below_size HB.out); have HO := Aside0.mk (show Kd.R (Kd.int .u64) 46 w5 w.heap.size (fun _ => True) (.slice A5 (l1_0.length) c5) ((List.range (l1_0.length)).map (orW l0_0 l1_0)) from Kd.R_lower ho LE.out); have n0_ := Aside0.mk (below_step HB.out hb); have n2_ := Aside0.mk ((hb.block g4 (blk_lt BX4.out)).trans BX4.out); clear HB BX4; have HB := n0_; have BX4 := n2_; have hc4 : w5.cell? ⟨g4, 0, none⟩ = some (.slice none 0 0) := (blk_cell BX4.out 0).trans rfl; have hf4 := blk_frozen BX4.out 0; clear n0_ n2_ ho hb))
    refine bodyPost_ret (results_cell_row rfl _ _ g4 26 #[.slice A5 (l1_0.length) c5] (0, 0) _ rfl (blk_put (cs := #[.slice none 0 0]) BX4.out 0 _ rfl) Tryd.underlying26 rfl (by kernel_rfl)) rfl ?_
    exact ⟨_, rfl, Kd.R_mono (Kd.R_far (p := ⟨g4, 0, none⟩) (Kd.R_types HO.out BX4.out (by decide)) (fun _ hk => hk.2) _) (fun _ _ => trivial), below_set HB.out GX4.out⟩

  · rw [Nat.max_eq_left (Nat.le_of_not_lt hlt)]
    have hb1 : ((l1_0.length : Nat) : Int) ≤ (l0_0.length : Int) := by omega
    go_enter Tryd.func12, Tryd.ntmps12
    go_wp2_with (first | ((with_reducible refine gate_dst (N := 2) rfl ?_); refine box_event ?hg (N := 2) ?hd (cs := #[.slice A0_0 l0_0.length c0_0]) (t := 26) ?hr ?_; (case hd => rfl); (case hg => rfl); (case hr => first | (go_simp; done) | (go_simp; rfl)); intro g2 hg w2 hbox hb; have n0_ := Aside0.mk (below_step HB.out hb); have BX2 := Aside0.mk hbox; have GX2 := Aside0.mk ((by rw [hg]; exact (below_size HB.out)) : w.heap.size ≤ g2); clear HB ; have HB := n0_; have hc2 : w2.cell? ⟨g2, 0, none⟩ = some (.slice A0_0 l0_0.length c0_0) := (blk_cell BX2.out 0).trans rfl; clear n0_  hb hbox hg) | ((with_reducible refine gate_dst (N := 3) rfl ?_); refine box_event ?hg (N := 3) ?hd (cs := #[.slice A1_0 l1_0.length c1_0]) (t := 26) ?hr ?_; (case hd => rfl); (case hg => rfl); (case hr => first | (go_simp; done) | (go_simp; rfl)); intro g3 hg w3 hbox hb; have n0_ := Aside0.mk (below_step HB.out hb); have m2_ := Aside0.mk ((hb.block g2 (blk_lt BX2.out)).trans BX2.out); have BX3 := Aside0.mk hbox; have GX3 := Aside0.mk ((by rw [hg]; exact (below_size HB.out)) : w.heap.size ≤ g3); clear HB BX2 hc2; have HB := n0_; have BX2 := m2_; have hc2 : w3.cell? ⟨g2, 0, none⟩ = some (.slice A0_0 l0_0.length c0_0) := (blk_cell BX2.out 0).trans rfl; have hc3 : w3.cell? ⟨g3, 0, none⟩ = some (.slice A1_0 l1_0.length c1_0) := (blk_cell BX3.out 0).trans rfl; clear n0_ m2_ hb hbox hg) | ((with_reducible refine gate_dst (N := 4) rfl ?_); refine box_event ?hg (N := 4) ?hd (cs := #[.slice none 0 0]) (t := 26) ?hr ?_; (case hd => rfl); (case hg => rfl); (case hr => first | (go_simp; done) | (go_simp; rfl)); intro g4 hg w4 hbox hb; have n0_ := Aside0.mk (below_step HB.out hb); have m2_ := Aside0.mk ((hb.block g2 (blk_lt BX2.out)).trans BX2.out); have m3_ := Aside0.mk ((hb.block g3 (blk_lt BX3.out)).trans BX3.out); have BX4 := Aside0.mk hbox; have GX4 := Aside0.mk ((by rw [hg]; exact (below_size HB.out)) : w.heap.size ≤ g4); clear HB BX2 hc2 BX3 hc3; have HB := n0_; have BX2 := m2_; have hc2 : w4.cell? ⟨g2, 0, none⟩ = some (.slice A0_0 l0_0.length c0_0) := (blk_cell BX2.out 0).trans rfl; have BX3 := m3_; have hc3 : w4.cell? ⟨g3, 0, none⟩ = some (.slice A1_0 l1_0.length c1_0) := (blk_cell BX3.out 0).trans rfl; clear n0_ m2_ m3_ hb hbox hg) | (go_at_call 32; clear hc2 hc3; (with_reducible refine (bitset_each.calls 35 #[.pointer (some ⟨g2, 0, none⟩), .pointer (some ⟨g3, 0, none⟩)] eg (l0_0.length) (by omega) (orW l0_0 l1_0) _ ?sideW).mono ?_); (case sideW => exact wordOf_or l0_0 l1_0 c0_0 c1_0 (l0_0.length) (by omega) HC0.out HC1.out A0_0 A1_0 g2 g3 _ BX2.out BX3.out (Kd.C_below HR0.out HB.out) (Kd.C_below HR1.out HB.out)); rintro e w5 ⟨A5, c5, rfl, ho, hb⟩; have LE := Aside0.mk (below_size HB.out); have HO := Aside0.mk (show Kd.R (Kd.int .u64) 46 w5 w.heap.size (fun _ => True) (.slice A5 (l0_0.length) c5) ((List.range (l0_0.length)).map (orW l0_0 l1_0)) from Kd.R_lower ho LE.out); have n0_ := Aside0.mk (below_step HB.out hb); have n2_ := Aside0.mk ((hb.block g4 (blk_lt BX4.out)).trans BX4.out); clear HB BX4; have HB := n0_; have BX4 := n2_; have hc4 : w5.cell? ⟨g4, 0, none⟩ = some (.slice none 0 0) := (blk_cell BX4.out 0).trans rfl; have hf4 := blk_frozen BX4.out 0; clear n0_ n2_ ho hb))
    refine bodyPost_ret (results_cell_row rfl _ _ g4 26 #[.slice A5 (l0_0.length) c5] (0, 0) _ rfl (blk_put (cs := #[.slice none 0 0]) BX4.out 0 _ rfl) Tryd.underlying26 rfl (by kernel_rfl)) rfl ?_
    exact ⟨_, rfl, Kd.R_mono (Kd.R_far (p := ⟨g4, 0, none⟩) (Kd.R_types HO.out BX4.out (by decide)) (fun _ hk => hk.2) _) (fun _ _ => trivial), below_set HB.out GX4.out⟩
theorem bitset_Set_Or.calls (A0_0 : Option Addr) (c0_0 : Nat) (l0_0 : List Int) (A1_0 : Option Addr) (c1_0 : Nat) (l1_0 : List Int) (r : List Int) (w : World) (hr0_0 : Kd.C (Kd.int .u64) w A0_0 l0_0.length l0_0) (hc0_0 : l0_0.length ≤ c0_0) (hr1_0 : Kd.C (Kd.int .u64) w A1_0 l1_0.length l1_0) (hc1_0 : l1_0.length ≤ c1_0) (h : bitset_Set_Or.f l0_0 l1_0 = some r) :
    Calls Tryd.prog 12 #[.agg #[.slice A0_0 l0_0.length c0_0], .agg #[.slice A1_0 l1_0.length c1_0]] w fun e w' => ∃ v0_ : Value, e = .returned (.agg #[v0_]) ∧ Kd.V (Kd.int .u64) 46 w' w.heap.size (fun k_ => w.heap.size ≤ k_) v0_ r ∧ Below w.heap.size w w' :=
  (bitset_Set_Or.own A0_0 c0_0 l0_0 A1_0 c1_0 l1_0 r w hr0_0 hc0_0 hr1_0 hc1_0 h).mono fun e w' ⟨v0_, he, hr, hb⟩ => ⟨v0_, he, Kd.V_mono (Kd.R_V (Kd.R_bound hr)) (fun k_ hk => hk.2.1), hb⟩

end Go.Proofs.YteaiaeejdcmefaaDoor.T
