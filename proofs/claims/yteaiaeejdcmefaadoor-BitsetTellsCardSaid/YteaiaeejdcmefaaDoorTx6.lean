/- The machine side of laws, written by wip/tools/myprint.py (the printer's way, with functions proved by hand put in); Lean checks it. -/
import Derived.Deep.DrawnRows
import Derived.Deep.RegionHeld3
import Derived.Shelf.Abstract
import Derived.Test.YteaiaeejdcmefaaDoorHbitset
import Derived.Test.YteaiaeejdcmefaaDoorTx0
import Derived.Test.YteaiaeejdcmefaaDoorTx5
import Derived.Test.YteaiaeejdcmefaaDoorTx15
namespace Go.Proofs.YteaiaeejdcmefaaDoor.T
open Go.RowKit Go.Proofs.YteaiaeejdcmefaaDoorW.PrintWords Go.Proofs.YteaiaeejdcmefaaDoorW.PrintLast Go.Proofs.YteaiaeejdcmefaaDoorW.PrintMore
attribute [local go_sem] max2_int min2_int max_two min_two max_three min_three max_four min_four   -- for this text's walks alone
set_option linter.unusedVariables false
set_option linter.unusedSimpArgs false

-- BY HAND: Derived.Shelf.Abstract,Derived.Deep.RegionHeld3,Derived.Deep.DrawnRows,Derived.Test.YteaiaeejdcmefaaDoorHbitset
/-! ### bitset_Set_Not: function 11 -/
-- HAND (winnower/bitset.Set).Not making V=0
-- SKIP winnower/bitset.each (winnower/bitset.Set).Not$1
-- IMPORT Derived.Shelf.Abstract
-- IMPORT Derived.Deep.RegionHeld3
-- IMPORT Derived.Deep.DrawnRows
-- IMPORT Derived.Test.YteaiaeejdcmefaaDoorHbitset
open Go.Shelf Go.Proofs.YteaiaeejdcmefaaDoor.Hbitset
attribute [local go_sem ↓] Go.wp_at_zero Go.wp_at_succ
def notW (u l0 : List Int) (k : Nat) : Int := Go.bits .andNot .u64 (u.getD k 0) (l0.getD k 0)
def bitset_Set_Not.f (l0 : List Int) (a1 : Int) : Option (List Int) := some ((List.range (uptoL (uptoN a1)).length).map (notW (uptoL (uptoN a1)) l0))
theorem uptoL_len (n : Int) : (uptoL (uptoN n)).length ≤ 1024 := by
  have := uptoN_le n
  rw [uptoL, List.length_map, List.length_range]
  omega
set_option maxHeartbeats 4000000 in
set_option maxRecDepth 100000 in
theorem bitset_Set_Not_1.calls (A0 A1 : Option Addr) (c0 c1 : Nat) (l0 l1 : List Int) (k B0 B1 : Nat) (hk : k < l1.length) (hk1 : k < 1000000) (hc0 : l0.length ≤ c0) (W : World) (b0 : W.heap[B0]? = some (.cells #[.slice A0 l0.length c0] 26 (0, 0))) (b1 : W.heap[B1]? = some (.cells #[.slice A1 l1.length c1] 26 (0, 0))) (hr0 : Kd.C (Kd.int .u64) W A0 l0.length l0) (hr1 : Kd.C (Kd.int .u64) W A1 l1.length l1) :
    Calls Tryd.prog 34 #[.int .i64 (k : Int), .pointer (some ⟨B1, 0, none⟩), .pointer (some ⟨B0, 0, none⟩)] W fun e W' => e = .returned (.int .u64 (notW l1 l0 k)) ∧ Below W.heap.size W W' := by
  have hcb0 : W.cell? ⟨B0, 0, none⟩ = some (.slice A0 l0.length c0) := (blk_cell b0 0).trans rfl
  have hcb1 : W.cell? ⟨B1, 0, none⟩ = some (.slice A1 l1.length c1) := (blk_cell b1 0).trans rfl
  have BX0 := Aside0.mk b0
  have BX1 := Aside0.mk b1
  have HR0 := Aside0.mk hr0
  have HC0 := Aside0.mk hc0
  have q0 : (0 : Int) ≤ (k : Int) := by omega
  have q1 : (k : Int) ≤ 1000000 := by omega
  have q2 : (k : Int) < (l1.length : Int) := by omega
  obtain ⟨ad1, e, hx1⟩ := Kd.at_int hr1 (k : Int) q0 (by omega)
  subst e
  rw [rd, Int.toNat_natCast] at hx1
  clear b0 b1 hr0 hr1 hc0
  have hu := Tryd.underlying26
  rw [notW]
  obtain ⟨x, hx⟩ : ∃ x, l0.getD k 0 = x := ⟨_, rfl⟩
  obtain ⟨y, hy⟩ : ∃ x, l1.getD k 0 = x := ⟨_, rfl⟩
  have HX := Aside0.mk hx
  rw [hx, hy]
  rw [hy] at hx1
  have HX1 := Aside0.mk hx1
  clear hx hy
  go_enter Tryd.func34, Tryd.ntmps34
  go_wp2
  go_region_held3 (fun w' => w'.cell? ⟨B0, 0, none⟩ = some (.slice A0 l0.length c0) ∧ w'.cell? ⟨B1, 0, none⟩ = some (.slice (some ad1) l1.length c1) ∧ w'.cell? (ad1.add k) = some (.int .u64 y))
    (first | exact ⟨(blk_cell (((by assumption : Below W.heap.size W _).block B0 (blk_lt BX0.out)).trans BX0.out) 0).trans rfl, (blk_cell (((by assumption : Below W.heap.size W _).block B1 (blk_lt BX1.out)).trans BX1.out) 0).trans rfl, ((by assumption : Below W.heap.size W _).cell (World.block_lt_of_cell? W _ HX1.out)).trans HX1.out⟩ | go_keep)
    (first
      | (go_at_call 31; (with_reducible refine (at_now A0 c0 l0 k HC0.out W _ HR0.out (by first | assumption | exact pw_below_drewN (Below.refl _ _) _ | exact below_drew1 (Below.refl _ _))).mono ?_); rintro e w1 ⟨rfl, hb⟩; rw [HX.out]))
  all_goals go_wp2
  all_goals go_ret
  all_goals exact ⟨rfl, by assumption⟩
theorem wordOf_not (l0 l1 : List Int) (c0 c1 : Nat) (n : Nat) (hn : n ≤ l1.length) (hn1 : n ≤ 1000000) (hc0 : l0.length ≤ c0) (A0 A1 : Option Addr) (B0 B1 : Nat) (w : World) (b0 : w.heap[B0]? = some (.cells #[.slice A0 l0.length c0] 26 (0, 0))) (b1 : w.heap[B1]? = some (.cells #[.slice A1 l1.length c1] 26 (0, 0))) (hr0 : Kd.C (Kd.int .u64) w A0 l0.length l0) (hr1 : Kd.C (Kd.int .u64) w A1 l1.length l1) :
    WordOf 34 #[.pointer (some ⟨B1, 0, none⟩), .pointer (some ⟨B0, 0, none⟩)] n (notW l1 l0) w := by
  intro W hW k hk
  exact bitset_Set_Not_1.calls A0 A1 c0 c1 l0 l1 k B0 B1 (by omega) (by omega) hc0 W ((hW.block B0 (blk_lt b0)).trans b0) ((hW.block B1 (blk_lt b1)).trans b1) (Kd.C_below hr0 hW) (Kd.C_below hr1 hW)
set_option maxHeartbeats 4000000 in
set_option maxRecDepth 100000 in
theorem bitset_Set_Not.own (A0_0 : Option Addr) (c0_0 : Nat) (l0_0 : List Int) (a1 : Int) (r : List Int) (w : World) (hr0_0 : Kd.C (Kd.int .u64) w A0_0 l0_0.length l0_0) (hc0_0 : l0_0.length ≤ c0_0) (h : bitset_Set_Not.f l0_0 a1 = some r) :
    Calls Tryd.prog 11 #[.agg #[.slice A0_0 l0_0.length c0_0], .int .i64 a1] w fun e w' => ∃ v0_ : Value, e = .returned (.agg #[v0_]) ∧ Kd.R (Kd.int .u64) 46 w' w.heap.size (fun _ => True) v0_ r ∧ Below w.heap.size w w' := by
  obtain rfl := Option.some.inj h
  clear h
  have HR0 := Aside0.mk hr0_0
  have HC0 := Aside0.mk hc0_0
  clear hr0_0 hc0_0
  have hl := uptoL_len a1
  have eg := enters_of Tryd.func34 (by kernel_rfl) rfl
  have hu := Tryd.underlying26
  have HB := Aside0.mk (Below.refl w.heap.size w)
  go_enter Tryd.func11, Tryd.ntmps11
  go_wp2_with (first | ((with_reducible refine gate_dst (N := 2) rfl ?_); refine box_event ?hg (N := 2) ?hd (cs := #[.slice A0_0 l0_0.length c0_0]) (t := 26) ?hr ?_; (case hd => rfl); (case hg => rfl); (case hr => first | (go_simp; done) | (go_simp; rfl)); intro g2 hg w2 hbox hb; have n0_ := Aside0.mk (below_step HB.out hb); have BX2 := Aside0.mk hbox; clear HB; have HB := n0_; have hc2 : w2.cell? ⟨g2, 0, none⟩ = some (.slice A0_0 l0_0.length c0_0) := (blk_cell BX2.out 0).trans rfl; clear n0_ hb hbox hg) | ((with_reducible refine gate_dst (N := 4) rfl ?_); refine box_event ?hg (N := 4) ?hd (cs := #[.slice none 0 0]) (t := 26) ?hr ?_; (case hd => rfl); (case hg => rfl); (case hr => first | (go_simp; done) | (go_simp; rfl)); intro g4 hg w4 hbox hb; have m2_ := Aside0.mk ((hb.block g2 (blk_lt BX2.out)).trans BX2.out); have n0_ := Aside0.mk (below_step HB.out hb); have BX4 := Aside0.mk hbox; have GX4 := Aside0.mk ((by rw [hg]; exact (below_size HB.out)) : w.heap.size ≤ g4); clear HB BX2 hc2; have HB := n0_; have BX2 := m2_; clear n0_ m2_ hb hbox hg) | (go_at_call 13; (with_reducible refine (bitset_Upto.own a1 (uptoL (uptoN a1)) _ rfl).mono ?_); rintro e w7 ⟨v7, rfl, ho, hb⟩; obtain ⟨A7, c7, e7⟩ := Kd.R_slice ho; subst e7; have m2_ := Aside0.mk ((hb.block g2 (blk_lt BX2.out)).trans BX2.out); have m4_ := Aside0.mk ((hb.block g4 (blk_lt BX4.out)).trans BX4.out); have n0_ := Aside0.mk (below_step HB.out hb); have HU := Aside0.mk (Kd.R_reads' ho).2.2; clear HB BX2 BX4; have HB := n0_; have BX2 := m2_; have BX4 := m4_; clear n0_ m2_ m4_ ho hb) | ((with_reducible refine gate_dst (N := 5) rfl ?_); refine box_event ?hg (N := 5) ?hd (cs := #[.slice none 0 0]) (t := 26) ?hr ?_; (case hd => rfl); (case hg => rfl); (case hr => first | (go_simp; done) | (go_simp; rfl)); intro g5 hg w5 hbox hb; have m2_ := Aside0.mk ((hb.block g2 (blk_lt BX2.out)).trans BX2.out); have m4_ := Aside0.mk ((hb.block g4 (blk_lt BX4.out)).trans BX4.out); have n1_ := Aside0.mk (Kd.C_below HU.out hb); have LT5 := Aside0.mk (show w7.heap.size ≤ g5 from by omega); have HUS := Aside0.mk (show ∀ u, Kd.C (Kd.int .u64) (w5.setCell ⟨g5, 0, none⟩ u) A7 (uptoL (uptoN a1)).length (uptoL (uptoN a1)) from fun u => Kd.C_below HU.out (hb.setCell LT5.out u)); have n0_ := Aside0.mk (below_step HB.out hb); have BX5 := Aside0.mk hbox; have GX5 := Aside0.mk ((by rw [hg]; exact (below_size HB.out)) : w.heap.size ≤ g5); have NE := Aside0.mk ((fun e_ => by have := blk_lt BX4.out; omega) : g4 ≠ g5); have NE2 := Aside0.mk ((fun e_ => by have := blk_lt BX2.out; omega) : g2 ≠ g5); clear HB BX2 BX4; have HB := n0_; have BX2 := m2_; have BX4 := m4_; have hc5 : w5.cell? ⟨g5, 0, none⟩ = some (.slice none 0 0) := (blk_cell BX5.out 0).trans rfl; have hf5 := blk_frozen BX5.out 0; clear n0_ n1_ m2_ m4_ hb hbox hg) | (go_at_call 32; clear hc5 hf5; (with_reducible refine (bitset_each.calls 34 #[.pointer (some ⟨g5, 0, none⟩), .pointer (some ⟨g2, 0, none⟩)] eg (uptoL (uptoN a1)).length (by omega) (notW (uptoL (uptoN a1)) l0_0) _ ?sideW).mono ?_); (case sideW => exact wordOf_not l0_0 (uptoL (uptoN a1)) c0_0 c7 _ (Nat.le_refl _) (by omega) HC0.out A0_0 A7 g2 g5 _ (blk_far BX2.out NE2.out _) (blk_put (cs := #[.slice none 0 0]) BX5.out 0 _ rfl) (Kd.C_below HR0.out (below_set HB.out GX5.out)) (HUS.out _)); rintro e w6 ⟨A6, c6, rfl, ho, hb⟩; have HO := Aside0.mk (show Kd.R (Kd.int .u64) 46 w6 w.heap.size (fun _ => True) (.slice A6 (uptoL (uptoN a1)).length c6) ((List.range (uptoL (uptoN a1)).length).map (notW (uptoL (uptoN a1)) l0_0)) from Kd.R_lower ho (below_size (below_set HB.out GX5.out))); have n0_ := Aside0.mk (below_step (below_set HB.out GX5.out) hb); have n2_ := Aside0.mk ((hb.block g4 (by simpa [World.setCell] using blk_lt BX4.out)).trans (blk_far BX4.out NE.out _)); clear HB BX4; have HB := n0_; have BX4 := n2_; have hc4 : w6.cell? ⟨g4, 0, none⟩ = some (.slice none 0 0) := (blk_cell BX4.out 0).trans rfl; have hf4 := blk_frozen BX4.out 0; clear n0_ n2_ ho hb))
  refine bodyPost_ret (results_cell_row rfl _ _ g4 26 #[.slice A6 (uptoL (uptoN a1)).length c6] (0, 0) _ rfl (blk_put (cs := #[.slice none 0 0]) BX4.out 0 _ rfl) Tryd.underlying26 rfl (by kernel_rfl)) rfl ?_
  exact ⟨_, rfl, Kd.R_mono (Kd.R_far (p := ⟨g4, 0, none⟩) (Kd.R_types HO.out BX4.out (by decide)) (fun _ hk => hk.2) _) (fun _ _ => trivial), below_set HB.out GX4.out⟩
theorem bitset_Set_Not.calls (A0_0 : Option Addr) (c0_0 : Nat) (l0_0 : List Int) (a1 : Int) (r : List Int) (w : World) (hr0_0 : Kd.C (Kd.int .u64) w A0_0 l0_0.length l0_0) (hc0_0 : l0_0.length ≤ c0_0) (h : bitset_Set_Not.f l0_0 a1 = some r) :
    Calls Tryd.prog 11 #[.agg #[.slice A0_0 l0_0.length c0_0], .int .i64 a1] w fun e w' => ∃ v0_ : Value, e = .returned (.agg #[v0_]) ∧ Kd.V (Kd.int .u64) 46 w' w.heap.size (fun k_ => w.heap.size ≤ k_) v0_ r ∧ Below w.heap.size w w' :=
  (bitset_Set_Not.own A0_0 c0_0 l0_0 a1 r w hr0_0 hc0_0 h).mono fun e w' ⟨v0_, he, hr, hb⟩ => ⟨v0_, he, Kd.V_mono (Kd.R_V (Kd.R_bound hr)) (fun k_ hk => hk.2.1), hb⟩

end Go.Proofs.YteaiaeejdcmefaaDoor.T
