/- The machine side of laws, written by wip/tools/myprint.py (the printer's way, with functions proved by hand put in); Lean checks it. -/
import Derived.Deep.RegionWith
import Derived.Laws.EntriesVeiled
import Derived.Lib.SliceRun
import Derived.Test.YtnlfhjhdnompaaaHnum
import Derived.Test.YtnlfhjhdnompaaaHruns
import Derived.Test.YtnlfhjhdnompaaaTx0
import Derived.Test.YtnlfhjhdnompaaaTx3
import Derived.Test.YtnlfhjhdnompaaaTx6
import Derived.Test.YtnlfhjhdnompaaaTx7
import Derived.Test.YtnlfhjhdnompaaaTx19
namespace Go.Proofs.Ytnlfhjhdnompaaa.T
open Go.RowKit Go.Proofs.YtnlfhjhdnompaaaW.PrintWords Go.Proofs.YtnlfhjhdnompaaaW.PrintLast Go.Proofs.YtnlfhjhdnompaaaW.PrintMore
attribute [local go_sem] max2_int min2_int max_two min_two max_three min_three max_four min_four   -- for this text's walks alone
set_option linter.unusedVariables false
set_option linter.unusedSimpArgs false

-- BY HAND: Derived.Test.YtnlfhjhdnompaaaHruns,Derived.Test.YtnlfhjhdnompaaaHnum,Derived.Laws.EntriesVeiled,Derived.Lib.SliceRun,Derived.Deep.RegionWith
/-! ### runs_Encode: function 10 -/
-- HAND winnower/runs.Encode V=0
-- SKIP winnower/runs.kinds
-- IMPORT Derived.Test.YtnlfhjhdnompaaaHruns
-- IMPORT Derived.Test.YtnlfhjhdnompaaaHnum
-- IMPORT Derived.Laws.EntriesVeiled
-- IMPORT Derived.Lib.SliceRun
-- IMPORT Derived.Deep.RegionWith
open Go.Proofs.Ytnlfhjhdnompaaa.Hnum Go.Proofs.Ytnlfhjhdnompaaa.Hruns
/-- What kinds hands back lies here. -/
def kindsB : Obj := .cells #[.func (.func 37) #[] #[], .func (.func 38) #[] #[], .func (.func 39) #[] #[], .func (.func 40) #[] #[], .func (.func 41) #[] #[], .func (.func 42) #[] #[]] 52
theorem runs_kinds.calls (w : World) :
    Calls Try.prog 26 #[] w fun e w' => e = .returned (.slice (some ⟨w.heap.size, 0, none⟩) 3 3) ∧ w.alloc kindsB = w' := by
  go_enter Try.func26, Try.ntmps26
  go_wp2
  go_ret
  exact ⟨rfl, rfl⟩
def numsB (l : List Int) : List Int := l.flatMap fun x => digs (fold x)
theorem numsB_cons (x : Int) (l : List Int) : numsB (x :: l) = digs (fold x) ++ numsB l := by simp [numsB]
theorem each_go {l1 : List Int} (hi : ∀ x ∈ l1, i64 x) (hl : l1.length ≤ 1000000) : ∀ k i : Nat, i + k = l1.length → ∀ b : List Int, b.length ≤ 1000000 + 10 * i → runs_each.l0 (k + 1) b l1 (l1.length : Int) (i : Int) = some (b ++ numsB (l1.drop i)) := by
  intro k
  induction k with
  | zero =>
    intro i h b _
    rw [runs_each.l0, if_neg (by omega), List.drop_eq_nil_of_le (by omega)]
    simp [numsB]
  | succ k ih =>
    intro i h b hb
    have hlt : i < l1.length := by omega
    have hrd : rd l1 (i : Int) = l1[i] := by rw [rd, Int.toNat_natCast, List.getD_eq_getElem?_getD, List.getElem?_eq_getElem hlt]; rfl
    have hx := hi _ (List.getElem_mem hlt)
    have hd := digs_le_ten (fold_lt hx)
    rw [runs_each.l0, if_pos (by omega), if_pos (by omega), if_pos (by omega), hrd, putR_tell hx (by omega), Option.bind_some, wrap_id (by omega) (by omega), show (i : Int) + 1 = ((i + 1 : Nat) : Int) from by omega,
      ih (i + 1) (by omega) _ (by rw [List.length_append]; omega), List.drop_eq_getElem_cons hlt, numsB_cons, List.append_assoc]
theorem each_tell {l0 l1 : List Int} (hi : ∀ x ∈ l1, i64 x) (hl : l1.length ≤ 1000000) (h0 : l0.length ≤ 1000000) : runs_each.f (l1.length + 1) l0 l1 = some (l0 ++ numsB l1) :=
  each_go hi hl l1.length 0 (by omega) l0 (by omega)
def dels (last : Int) : List Int → List Int
  | [] => []
  | x :: t => wrap64 (x - last) :: dels x t
theorem dels_len (l : List Int) : ∀ last, (dels last l).length = l.length := by
  induction l with
  | nil => intro _; rfl
  | cons x t ih => intro last; simp only [dels, List.length_cons, ih]
theorem wrap64_i64 (x : Int) : i64 (wrap64 x) := by unfold i64 wrap64; omega
theorem dels_i64 (l : List Int) : ∀ last, ∀ x ∈ dels last l, i64 x := by
  induction l with
  | nil => intro _ x h; cases h
  | cons y t ih =>
    intro last x h
    rcases List.mem_cons.1 h with rfl | h
    · exact wrap64_i64 _
    · exact ih y x h
theorem deltas_go {l : List Int} (hl : l.length ≤ 1000000) : ∀ k i : Nat, i + k = l.length → ∀ (b : List Int) (last : Int), b.length = i → runs_Deltas.l0 (k + 1) b last l (l.length : Int) (i : Int) = some (b ++ dels last (l.drop i)) := by
  intro k
  induction k with
  | zero =>
    intro i h b last _
    rw [runs_Deltas.l0, if_neg (by omega), List.drop_eq_nil_of_le (by omega)]
    simp [dels]
  | succ k ih =>
    intro i h b last hb
    have hlt : i < l.length := by omega
    have hrd : rd l (i : Int) = l[i] := by rw [rd, Int.toNat_natCast, List.getD_eq_getElem?_getD, List.getElem?_eq_getElem hlt]; rfl
    rw [runs_Deltas.l0, if_pos (by omega), if_pos (by omega), if_pos (by omega), if_pos (by omega), hrd, wrap_id (x := (i : Int) + 1) (by omega) (by omega), show (i : Int) + 1 = ((i + 1 : Nat) : Int) from by omega,
      ih (i + 1) (by omega) _ _ (by rw [List.length_append, hb]; rfl), List.drop_eq_getElem_cons hlt, dels, List.append_assoc]
    rfl
theorem deltas_tell {l : List Int} (hl : l.length ≤ 1000000) : runs_Deltas.f (l.length + 1) l = some (dels 0 l) :=
  deltas_go hl l.length 0 (by omega) [] 0 rfl
/-- What each kind puts behind what it is given. -/
def bodyK (i : Nat) (l : List Int) : List Int := if i = 0 then numsB l else if i = 1 then bytesR (runsOf l) else numsB (dels 0 l)
def putFn (i : Nat) : Nat := if i = 0 then 37 else if i = 1 then 39 else 41
set_option maxHeartbeats 2000000 in
theorem runs_kinds_1.calls (P0_ : Nat → Prop) (A0 : Option Addr) (c0 : Nat) (l0 : List Int) (A1 : Option Addr) (c1 : Nat) (l1 : List Int) (w : World) (hs0 : Kd.V (Kd.int .u8) 5 w w.heap.size (fun k_ => P0_ k_) (.slice A0 l0.length c0) l0) (hr1 : Kd.C (Kd.int .i64) w A1 l1.length l1) (hc1 : l1.length ≤ c1)
    (hl : l1.length ≤ 1000000) (h0 : l0.length ≤ 1000000) :
    Calls Try.prog 41 #[.slice A0 l0.length c0, .slice A1 l1.length c1] w fun e w' => ∃ v0_ : Value, e = .returned v0_ ∧ Kd.V (Kd.int .u8) 5 w' w.heap.size (fun k_ => (P0_ k_ ∨ w.heap.size ≤ k_)) v0_ (l0 ++ numsB (dels 0 l1)) ∧ Below w.heap.size w w' := by
  have HS := Aside0.mk hs0
  have HR := Aside0.mk hr1
  have HC := Aside0.mk hc1
  obtain ⟨ds, hds⟩ : ∃ ds, ds = dels 0 l1 := ⟨_, rfl⟩
  have hdl : ds.length = l1.length := by rw [hds, dels_len]
  have HD := Aside0.mk (show runs_Deltas.f (l1.length + 1) l1 = some ds from by rw [hds]; exact deltas_tell hl)
  have HE := Aside0.mk (each_tell (l0 := l0) (l1 := ds) (by rw [hds]; exact dels_i64 _ _) (by omega) h0)
  rw [← hds]
  clear hs0 hr1 hc1 hds hl h0 hdl
  go_enter Try.func41, Try.ntmps41
  go_wp2_with (first
    | (go_at_call 21
       refine (runs_Deltas.calls _ A1 c1 l1 ds _ HR.out HC.out HD.out).mono ?_
       rintro e w1 ⟨v1, rfl, ho1, hb1⟩
       obtain ⟨A2, c2, rfl⟩ := Kd.R_slice ho1
       have HO1 := Aside0.mk ho1
       have HB1 := Aside0.mk hb1
       clear ho1 hb1)
    | (go_at_call 37
       refine (runs_each.calls _ P0_ A0 c0 l0 A2 c2 ds _ w1 (Kd.V_below HS.out HB1.out) (Kd.R_reads' HO1.out).2.2 (Kd.R_reads' HO1.out).2.1 HE.out).mono ?_
       rintro e w2 ⟨v2, rfl, ho2, hb2⟩))
  go_ret
  exact ⟨_, rfl, Kd.V_mono ho2 (fun k hk => hk.elim .inl (fun h => .inr (Nat.le_trans HB1.out.size h))), HB1.out.trans (hb2.mono HB1.out.size)⟩
theorem put_calls (i : Nat) (P0_ : Nat → Prop) (A0 : Option Addr) (c0 : Nat) (l0 : List Int) (A1 : Option Addr) (c1 : Nat) (l1 : List Int) (w : World) (hs0 : Kd.V (Kd.int .u8) 5 w w.heap.size (fun k_ => P0_ k_) (.slice A0 l0.length c0) l0) (hr1 : Kd.C (Kd.int .i64) w A1 l1.length l1) (hc1 : l1.length ≤ c1)
    (hl : l1.length ≤ 1000000) (h0 : l0.length ≤ 1000000) (hi : ∀ x ∈ l1, i64 x) :
    Calls Try.prog (putFn i) #[.slice A0 l0.length c0, .slice A1 l1.length c1] w fun e w' => ∃ v0_ : Value, e = .returned v0_ ∧ Kd.V (Kd.int .u8) 5 w' w.heap.size (fun k_ => (P0_ k_ ∨ w.heap.size ≤ k_)) v0_ (l0 ++ bodyK i l1) ∧ Below w.heap.size w w' := by
  unfold putFn bodyK
  by_cases e0 : i = 0
  · rw [if_pos e0, if_pos e0]
    exact runs_each.calls _ P0_ A0 c0 l0 A1 c1 l1 _ w hs0 hr1 hc1 (each_tell hi hl h0)
  · rw [if_neg e0, if_neg e0]
    by_cases e1 : i = 1
    · rw [if_pos e1, if_pos e1]
      exact runs_putRuns.calls P0_ A0 c0 l0 A1 c1 l1 _ w hs0 hr1 hc1 (by rw [runs_putRuns.f, if_pos ⟨hl, h0, hi⟩])
    · rw [if_neg e1, if_neg e1]
      exact runs_kinds_1.calls P0_ A0 c0 l0 A1 c1 l1 w hs0 hr1 hc1 hl h0
def encK (i : Nat) (l : List Int) : List Int := (i : Int) :: (digs l.length ++ bodyK i l)
def bestN (l : List Int) : Nat → List Int
  | 0 => []
  | i + 1 => if i = 0 ∨ (encK i l).length < (bestN l i).length then encK i l else bestN l i
def runs_Encode.f (l : List Int) : Option (List Int × Int) := if 4096 < l.length then some ([], 2) else if ∀ x ∈ l, i64 x then some (bestN l 3, 0) else none
theorem kinds_cells {W : World} {g : Nat} (h : W.heap[g]? = some kindsB) : W.cell? ⟨g, 0, none⟩ = some (.func (.func 37) #[] #[]) ∧ W.cell? ⟨g, 1, none⟩ = some (.func (.func 38) #[] #[]) ∧ W.cell? ⟨g, 2, none⟩ = some (.func (.func 39) #[] #[]) ∧
    W.cell? ⟨g, 3, none⟩ = some (.func (.func 40) #[] #[]) ∧ W.cell? ⟨g, 4, none⟩ = some (.func (.func 41) #[] #[]) ∧ W.cell? ⟨g, 5, none⟩ = some (.func (.func 42) #[] #[]) :=
  ⟨(blk_cell h 0).trans rfl, (blk_cell h 1).trans rfl, (blk_cell h 2).trans rfl, (blk_cell h 3).trans rfl, (blk_cell h 4).trans rfl, (blk_cell h 5).trans rfl⟩
theorem R_one (W : World) (x : Int) : Kd.R (Kd.int .u8) 5 (W.alloc (.cells #[.int .u8 x] 5)) W.heap.size (fun _ => True) (.slice (some ⟨W.heap.size, 0, none⟩) 1 1) [x] :=
  ⟨fun _ _ => trivial, OwnRow.lit W W.heap.size (inner := [.int .u8 x]) (ps := [x]) (Reps.snoc (Reps.none _ _) rfl rfl) (Nat.le_refl _) (by simp)⟩
theorem put_calls0 (P0_ : Nat → Prop) (A0 : Option Addr) (c0 : Nat) (l0 : List Int) (A1 : Option Addr) (c1 : Nat) (l1 : List Int) (w : World) (hs0 : Kd.V (Kd.int .u8) 5 w w.heap.size (fun k_ => P0_ k_) (.slice A0 l0.length c0) l0) (hr1 : Kd.C (Kd.int .i64) w A1 l1.length l1) (hc1 : l1.length ≤ c1)
    (hl : l1.length ≤ 1000000) (h0 : l0.length ≤ 1000000) (hi : ∀ x ∈ l1, i64 x) (r : List Int) (hr : r = l0 ++ bodyK 0 l1) :
    Calls Try.prog 37 #[.slice A0 l0.length c0, .slice A1 l1.length c1] w fun e w' => ∃ v0_ : Value, e = .returned v0_ ∧ Kd.V (Kd.int .u8) 5 w' w.heap.size (fun k_ => (P0_ k_ ∨ w.heap.size ≤ k_)) v0_ r ∧ Below w.heap.size w w' := hr ▸ put_calls 0 P0_ A0 c0 l0 A1 c1 l1 w hs0 hr1 hc1 hl h0 hi
theorem put_calls1 (P0_ : Nat → Prop) (A0 : Option Addr) (c0 : Nat) (l0 : List Int) (A1 : Option Addr) (c1 : Nat) (l1 : List Int) (w : World) (hs0 : Kd.V (Kd.int .u8) 5 w w.heap.size (fun k_ => P0_ k_) (.slice A0 l0.length c0) l0) (hr1 : Kd.C (Kd.int .i64) w A1 l1.length l1) (hc1 : l1.length ≤ c1)
    (hl : l1.length ≤ 1000000) (h0 : l0.length ≤ 1000000) (hi : ∀ x ∈ l1, i64 x) (r : List Int) (hr : r = l0 ++ bodyK 1 l1) :
    Calls Try.prog 39 #[.slice A0 l0.length c0, .slice A1 l1.length c1] w fun e w' => ∃ v0_ : Value, e = .returned v0_ ∧ Kd.V (Kd.int .u8) 5 w' w.heap.size (fun k_ => (P0_ k_ ∨ w.heap.size ≤ k_)) v0_ r ∧ Below w.heap.size w w' := hr ▸ put_calls 1 P0_ A0 c0 l0 A1 c1 l1 w hs0 hr1 hc1 hl h0 hi
theorem put_calls2 (P0_ : Nat → Prop) (A0 : Option Addr) (c0 : Nat) (l0 : List Int) (A1 : Option Addr) (c1 : Nat) (l1 : List Int) (w : World) (hs0 : Kd.V (Kd.int .u8) 5 w w.heap.size (fun k_ => P0_ k_) (.slice A0 l0.length c0) l0) (hr1 : Kd.C (Kd.int .i64) w A1 l1.length l1) (hc1 : l1.length ≤ c1)
    (hl : l1.length ≤ 1000000) (h0 : l0.length ≤ 1000000) (hi : ∀ x ∈ l1, i64 x) (r : List Int) (hr : r = l0 ++ bodyK 2 l1) :
    Calls Try.prog 41 #[.slice A0 l0.length c0, .slice A1 l1.length c1] w fun e w' => ∃ v0_ : Value, e = .returned v0_ ∧ Kd.V (Kd.int .u8) 5 w' w.heap.size (fun k_ => (P0_ k_ ∨ w.heap.size ≤ k_)) v0_ r ∧ Below w.heap.size w w' := hr ▸ put_calls 2 P0_ A0 c0 l0 A1 c1 l1 w hs0 hr1 hc1 hl h0 hi
theorem V_low {W : World} {base N : Nat} {v : Value} {xs : List Int} (h : Kd.R (Kd.int .u8) 5 W base (fun _ => True) v xs) (hN : N ≤ base) {b' : Nat} : Kd.V (Kd.int .u8) 5 W b' (fun k => N ≤ k) v xs :=
  Kd.V_mono (Kd.R_V (Kd.R_bound h)) (fun k hk => Nat.le_trans hN hk.2.1)
theorem below_alloc_drew {W w2 : World} {o : Obj} (h : Below (W.drew.alloc o).heap.size (W.drew.alloc o) w2) : Below W.heap.size W w2 := ((below_drew1 (Below.refl W.heap.size W)).alloc (Nat.le_refl _) o).trans (h.mono (by rw [World.size_alloc]; exact Nat.le_succ _))
/-- What holds ahead of round i: the best till now. -/
def BestV (w : World) (l : List Int) (i : Nat) (W : World) (v : Value) : Prop := if i = 0 then v = .slice none 0 0 else ∃ (ad : Addr) (c : Nat), v = .slice (some ad) (bestN l i).length c ∧ Kd.V (Kd.int .u8) 5 W w.heap.size (fun k_ => w.heap.size ≤ k_) v (bestN l i)
theorem BestV.new {w W : World} {l : List Int} {i b : Nat} {v : Value} {xs : List Int} (hv : Kd.V (Kd.int .u8) 5 W b (fun k => w.heap.size ≤ k) v xs) (hxs : xs = encK i l) (h : i = 0 ∨ (encK i l).length < (bestN l i).length) : BestV w l (i + 1) W v := by
  subst hxs
  obtain ⟨A, c, rfl⟩ := Kd.V_slice hv
  obtain ⟨ad, e, _⟩ := Kd.at_int (Kd.V_reads' hv).2.2 0 (by omega) (by rw [encK, List.length_cons]; omega)
  subst e
  have e1 : bestN l (i + 1) = encK i l := by rw [bestN, if_pos h]
  rw [BestV, if_neg (by omega), e1]
  exact ⟨ad, c, rfl, hv⟩
theorem BestV.old {w W W3 : World} {l : List Int} {i : Nat} {v : Value} (h : BestV w l i W v) (hi : i ≠ 0) (hn : ¬ (encK i l).length < (bestN l i).length) (hb : Below W.heap.size W W3) : BestV w l (i + 1) W3 v := by
  rw [BestV, if_neg hi] at h
  obtain ⟨ad, c, e, hv⟩ := h
  have e1 : bestN l (i + 1) = bestN l i := by rw [bestN, if_neg (fun h => h.elim hi hn)]
  rw [BestV, if_neg (by omega), e1]
  exact ⟨ad, c, e, Kd.V_below hv hb⟩
set_option maxHeartbeats 2000000 in
set_option maxRecDepth 100000 in
theorem runs_Encode.calls (A0 : Option Addr) (c0 : Nat) (l0 : List Int) (r1 : List Int) (r2 : Int) (w : World) (hr0 : Kd.C (Kd.int .i64) w A0 l0.length l0) (hc0 : l0.length ≤ c0) (h : runs_Encode.f l0 = some (r1, r2)) :
    Calls Try.prog 10 #[.slice A0 l0.length c0] w fun e w' => ∃ v0_ : Value, e = .returned (.tuple #[v0_, .int .i64 r2]) ∧ Kd.V (Kd.int .u8) 5 w' w.heap.size (fun k_ => (w.heap.size ≤ k_)) v0_ r1 ∧ Below w.heap.size w w' := by
  have HR := Aside0.mk hr0
  have HC := Aside0.mk hc0
  clear hr0 hc0
  by_cases hlen : 4096 < l0.length
  · rw [runs_Encode.f, if_pos hlen] at h
    obtain ⟨rfl, rfl⟩ := Prod.mk.inj (Option.some.inj h)
    have hb : decide ((l0.length : Int) > 4096) = true := decide_eq_true (by omega)
    go_enter Try.func10, Try.ntmps10
    go_wp2
    go_ret2
    exact ⟨_, rfl, Kd.V_nil _ _ _ _ _, Below.refl _ _⟩
  · rw [runs_Encode.f, if_neg hlen] at h
    by_cases hi : ∀ x ∈ l0, i64 x
    · rw [if_pos hi] at h
      obtain ⟨rfl, rfl⟩ := Prod.mk.inj (Option.some.inj h)
      have hb : decide ((l0.length : Int) > 4096) = false := decide_eq_false (by omega)
      have qnil : ∀ (W : World) (a : Option Addr) (n c n' c' : Nat), (binOp .eql 24 (.slice a n c) (.slice none n' c')).run Try.prog W = .ok (.bool a.isNone) W := fun W a n c n' c' => Lib.run_eql_slice_nil W _ _ a n c n' c' Try.underlying24
      go_enter Try.func10, Try.ntmps10
      go_wp2_with (go_at_call 26; refine (runs_kinds.calls _).mono ?_; rintro e w1 ⟨rfl, rfl⟩)
      go_loopg [13, 4] 3 (fun m v13 v4 wr => ∃ (i : Nat) (z : Int), i + m = 3 ∧ z = (i : Int) ∧ v13 = .int .i64 z ∧ Aside0 (BestV w l0 i wr v4 ∧ wr.heap[w.heap.size]? = some kindsB ∧ Below w.heap.size w wr))
      case atStart => exact ⟨0, 0, rfl, rfl, rfl, ⟨⟨rfl, World.alloc_heap_new w _, (Below.refl _ w).alloc (Nat.le_refl _) _⟩⟩⟩
      case round =>
        obtain ⟨i, z, hm, hz, rfl, HA⟩ := hrel
        have HBest := Aside0.mk HA.out.1
        have HK := Aside0.mk HA.out.2.1
        have HB := Aside0.mk HA.out.2.2
        clear HA
        by_cases h3 : i = 3
        · obtain ⟨rfl, rfl⟩ : i = 3 ∧ z = 3 := by omega
          clear hz hm h3
          obtain ⟨ad4, c4, rfl, HV4⟩ : ∃ (ad : Addr) (c : Nat), u4 = .slice (some ad) (bestN l0 3).length c ∧ Kd.V (Kd.int .u8) 5 wr w.heap.size (fun k_ => w.heap.size ≤ k_) u4 (bestN l0 3) := by have h := HBest.out; rw [BestV, if_neg (by omega)] at h; exact h
          obtain ⟨bb, hbb⟩ : ∃ bb, bb = bestN l0 3 := ⟨_, rfl⟩
          rw [← hbb] at HV4 ⊢
          have HV := Aside0.mk HV4
          have HBB := Aside0.mk hbb
          clear HV4 HBest hbb
          go_wp2
          go_ret2
          exact ⟨_, rfl, by rw [← HBB.out]; exact HV.out, HB.out⟩
        · obtain ⟨k0, k1, k2, k3, k4, k5⟩ := kinds_cells HK.out
          rcases (by omega : i = 0 ∧ z = 0 ∨ i = 1 ∧ z = 1 ∨ i = 2 ∧ z = 2) with ⟨rfl, rfl⟩ | ⟨rfl, rfl⟩ | ⟨rfl, rfl⟩
          · clear hz h3
            have HM := Aside0.mk hm
            clear hm
            obtain rfl : u4 = .slice none 0 0 := by have h := HBest.out; rw [BestV, if_pos rfl] at h; exact h
            go_wp2_with fail
            obtain ⟨W6, hW6⟩ : ∃ W6, wr.alloc (.cells #[.func (.func 37) #[] #[], .func (.func 38) #[] #[]] 52) = W6 := ⟨_, rfl⟩
            obtain ⟨bx, hbx⟩ : ∃ bx, bx = wr.heap.size := ⟨_, rfl⟩
            rw [hW6, ← hbx]
            have HX := Aside0.mk (show W6.heap[bx]? = some (.cells #[.func (.func 37) #[] #[], .func (.func 38) #[] #[]] 52 (0, 0)) from by rw [← hW6, hbx]; exact World.alloc_heap_new wr _)
            have HB6 := Aside0.mk (show Below wr.heap.size wr W6 from by rw [← hW6]; exact (Below.refl _ wr).alloc (Nat.le_refl _) _)
            have HBw := Aside0.mk (HB.out.trans (HB6.out.mono HB.out.size))
            clear hW6 hbx
            have hx0 : W6.cell? ⟨bx, 0, none⟩ = some (.func (.func 37) #[] #[]) := (blk_cell HX.out 0).trans rfl
            have hx0d : W6.drew.cell? ⟨bx, 0, none⟩ = some (.func (.func 37) #[] #[]) := hx0
            have hxl : bx < W6.heap.size := (Array.getElem?_eq_some_iff.1 HX.out).1
            have hxa : (W6.alloc (.cells #[.int .u8 (IntKind.u8.wrap 0)] 5)).cell? ⟨bx, 0, none⟩ = some (.func (.func 37) #[] #[]) := (blk_cell ((Below.heap_alloc W6 _ bx hxl).trans HX.out) 0).trans rfl
            have hxb : (W6.alloc (.cells #[.int .u8 (IntKind.u8.wrap 0)] 5)).drew.cell? ⟨bx, 0, none⟩ = some (.func (.func 37) #[] #[]) := hxa
            obtain ⟨bs, hbs⟩ : ∃ bs, bs = ([0] : List Int) ++ digs l0.length := ⟨_, rfl⟩
            have HE2 := Aside0.mk (show num_PutLen.f [IntKind.u8.wrap 0] (l0.length : Int) = some bs from hbs ▸ putLenR_tell (l := [IntKind.u8.wrap 0]) (a := (l0.length : Int)) (by omega) (by decide))
            have hbsl : bs.length ≤ 1000000 := by have := digs_le_ten (u := l0.length) (by omega); rw [hbs, List.length_append]; simp only [List.length_singleton]; omega
            obtain ⟨es, hes⟩ : ∃ es, es = encK 0 l0 := ⟨_, rfl⟩
            have HES := Aside0.mk (show es = bs ++ bodyK 0 l0 from by rw [hes, hbs]; rfl)
            have HEE := Aside0.mk hes
            clear hes hbs
            go_region_with (first
              | (go_at_call 27
                 go_loud (refine (num_PutLen.calls (some ⟨W6.heap.size, 0, none⟩) 1 [IntKind.u8.wrap 0] (l0.length : Int) bs _ (Kd.R_reads' (R_one W6.drew (IntKind.u8.wrap 0))).2.2 (Nat.le_refl _) HE2.out).mono ?_; rintro e w2 ⟨v2, rfl, ho2, hb2⟩; obtain ⟨A2, c2, rfl⟩ := Kd.R_slice ho2; have HB2 := Aside0.mk (below_alloc_drew hb2); have HO2 := Aside0.mk (V_low (N := w.heap.size) (b' := w2.heap.size) ho2 (Nat.le_trans HBw.out.size (by rw [World.size_alloc]; exact Nat.le_succ _))); have hx2 := (HB2.out.cell (p := ⟨bx, 0, none⟩) (Array.getElem?_eq_some_iff.1 HX.out).1).trans hx0; clear ho2 hb2))
              | (go_at_call 37
                 go_loud (refine (put_calls0 (fun k => w.heap.size ≤ k) A2 c2 bs A0 c0 l0 w2 HO2.out (Kd.C_below HR.out (HBw.out.trans (HB2.out.mono HBw.out.size))) HC.out (by omega) hbsl hi es HES.out).mono ?_; rintro e w3 ⟨v3, rfl, ho3, hb3⟩; have HO3 := Aside0.mk ho3; have HB3 := Aside0.mk hb3; clear ho3 hb3)))
            all_goals (
              obtain ⟨A3, c3, rfl⟩ := Kd.V_slice HO3.out
              have HB4 := Aside0.mk (HB6.out.trans ((HB2.out.trans (HB3.out.mono HB2.out.size)).mono HB6.out.size))
              have HV3 := Aside0.mk (show Kd.V (Kd.int .u8) 5 w3 w2.heap.size (fun k => w.heap.size ≤ k) (.slice A3 es.length c3) es from Kd.V_mono HO3.out (fun k hk => hk.elim id (fun h => Nat.le_trans (Nat.le_trans HBw.out.size HB2.out.size) h)))
              go_wp2
              go_roundg 2
              case measure => have := HM.out; omega
              case rel => exact ⟨1, 1, rfl, rfl, rfl, ⟨⟨BestV.new HV3.out HEE.out (.inl rfl), (HB4.out.block _ (Array.getElem?_eq_some_iff.1 HK.out).1).trans HK.out, HB.out.trans (HB4.out.mono HB.out.size)⟩⟩⟩)
          · clear hz h3
            have HM := Aside0.mk hm
            clear hm
            obtain ⟨ad4, c4, rfl, _⟩ : ∃ (ad : Addr) (c : Nat), u4 = .slice (some ad) (bestN l0 1).length c ∧ True := by have h := HBest.out; rw [BestV, if_neg (by omega)] at h; obtain ⟨ad, c, e, _⟩ := h; exact ⟨ad, c, e, trivial⟩
            obtain ⟨bb, hbb⟩ : ∃ bb, bb = bestN l0 1 := ⟨_, rfl⟩
            rw [← hbb] at HBest ⊢
            have HBB := Aside0.mk hbb
            clear hbb
            go_wp2_with fail
            obtain ⟨W6, hW6⟩ : ∃ W6, wr.alloc (.cells #[.func (.func 39) #[] #[], .func (.func 40) #[] #[]] 52) = W6 := ⟨_, rfl⟩
            obtain ⟨bx, hbx⟩ : ∃ bx, bx = wr.heap.size := ⟨_, rfl⟩
            rw [hW6, ← hbx]
            have HX := Aside0.mk (show W6.heap[bx]? = some (.cells #[.func (.func 39) #[] #[], .func (.func 40) #[] #[]] 52 (0, 0)) from by rw [← hW6, hbx]; exact World.alloc_heap_new wr _)
            have HB6 := Aside0.mk (show Below wr.heap.size wr W6 from by rw [← hW6]; exact (Below.refl _ wr).alloc (Nat.le_refl _) _)
            have HBw := Aside0.mk (HB.out.trans (HB6.out.mono HB.out.size))
            clear hW6 hbx
            have hx0 : W6.cell? ⟨bx, 0, none⟩ = some (.func (.func 39) #[] #[]) := (blk_cell HX.out 0).trans rfl
            have hx0d : W6.drew.cell? ⟨bx, 0, none⟩ = some (.func (.func 39) #[] #[]) := hx0
            have hxl : bx < W6.heap.size := (Array.getElem?_eq_some_iff.1 HX.out).1
            have hxa : (W6.alloc (.cells #[.int .u8 (IntKind.u8.wrap 1)] 5)).cell? ⟨bx, 0, none⟩ = some (.func (.func 39) #[] #[]) := (blk_cell ((Below.heap_alloc W6 _ bx hxl).trans HX.out) 0).trans rfl
            have hxb : (W6.alloc (.cells #[.int .u8 (IntKind.u8.wrap 1)] 5)).drew.cell? ⟨bx, 0, none⟩ = some (.func (.func 39) #[] #[]) := hxa
            obtain ⟨bs, hbs⟩ : ∃ bs, bs = ([1] : List Int) ++ digs l0.length := ⟨_, rfl⟩
            have HE2 := Aside0.mk (show num_PutLen.f [IntKind.u8.wrap 1] (l0.length : Int) = some bs from hbs ▸ putLenR_tell (l := [IntKind.u8.wrap 1]) (a := (l0.length : Int)) (by omega) (by decide))
            have hbsl : bs.length ≤ 1000000 := by have := digs_le_ten (u := l0.length) (by omega); rw [hbs, List.length_append]; simp only [List.length_singleton]; omega
            obtain ⟨es, hes⟩ : ∃ es, es = encK 1 l0 := ⟨_, rfl⟩
            have HES := Aside0.mk (show es = bs ++ bodyK 1 l0 from by rw [hes, hbs]; rfl)
            have HEE := Aside0.mk hes
            clear hes hbs
            go_region_with (first
              | (go_at_call 27
                 go_loud (refine (num_PutLen.calls (some ⟨W6.heap.size, 0, none⟩) 1 [IntKind.u8.wrap 1] (l0.length : Int) bs _ (Kd.R_reads' (R_one W6.drew (IntKind.u8.wrap 1))).2.2 (Nat.le_refl _) HE2.out).mono ?_; rintro e w2 ⟨v2, rfl, ho2, hb2⟩; obtain ⟨A2, c2, rfl⟩ := Kd.R_slice ho2; have HB2 := Aside0.mk (below_alloc_drew hb2); have HO2 := Aside0.mk (V_low (N := w.heap.size) (b' := w2.heap.size) ho2 (Nat.le_trans HBw.out.size (by rw [World.size_alloc]; exact Nat.le_succ _))); have hx2 := (HB2.out.cell (p := ⟨bx, 0, none⟩) (Array.getElem?_eq_some_iff.1 HX.out).1).trans hx0; clear ho2 hb2))
              | (go_at_call 39
                 go_loud (refine (put_calls1 (fun k => w.heap.size ≤ k) A2 c2 bs A0 c0 l0 w2 HO2.out (Kd.C_below HR.out (HBw.out.trans (HB2.out.mono HBw.out.size))) HC.out (by omega) hbsl hi es HES.out).mono ?_; rintro e w3 ⟨v3, rfl, ho3, hb3⟩; have HO3 := Aside0.mk ho3; have HB3 := Aside0.mk hb3; clear ho3 hb3)))
            all_goals (
              obtain ⟨A3, c3, rfl⟩ := Kd.V_slice HO3.out
              have HB4 := Aside0.mk (HB6.out.trans ((HB2.out.trans (HB3.out.mono HB2.out.size)).mono HB6.out.size))
              have HV3 := Aside0.mk (show Kd.V (Kd.int .u8) 5 w3 w2.heap.size (fun k => w.heap.size ≤ k) (.slice A3 es.length c3) es from Kd.V_mono HO3.out (fun k hk => hk.elim id (fun h => Nat.le_trans (Nat.le_trans HBw.out.size HB2.out.size) h)))
              by_cases hcmp : es.length < bb.length
              · have hcd : decide ((es.length : Int) < (bb.length : Int)) = true := decide_eq_true (by omega)
                go_wp2
                go_roundg 1
                case measure => have := HM.out; omega
                case rel => exact ⟨2, 2, rfl, rfl, rfl, ⟨⟨BestV.new HV3.out HEE.out (.inr (by rw [← HEE.out, ← HBB.out]; exact hcmp)), (HB4.out.block _ (Array.getElem?_eq_some_iff.1 HK.out).1).trans HK.out, HB.out.trans (HB4.out.mono HB.out.size)⟩⟩⟩
              · have hcd : decide ((es.length : Int) < (bb.length : Int)) = false := decide_eq_false (by omega)
                go_wp2
                go_roundg 1
                case measure => have := HM.out; omega
                case rel => exact ⟨2, 2, rfl, rfl, rfl, ⟨⟨BestV.old HBest.out (by omega) (by rw [← HEE.out, ← HBB.out]; exact hcmp) HB4.out, (HB4.out.block _ (Array.getElem?_eq_some_iff.1 HK.out).1).trans HK.out, HB.out.trans (HB4.out.mono HB.out.size)⟩⟩⟩)
          · clear hz h3
            have HM := Aside0.mk hm
            clear hm
            obtain ⟨ad4, c4, rfl, _⟩ : ∃ (ad : Addr) (c : Nat), u4 = .slice (some ad) (bestN l0 2).length c ∧ True := by have h := HBest.out; rw [BestV, if_neg (by omega)] at h; obtain ⟨ad, c, e, _⟩ := h; exact ⟨ad, c, e, trivial⟩
            obtain ⟨bb, hbb⟩ : ∃ bb, bb = bestN l0 2 := ⟨_, rfl⟩
            rw [← hbb] at HBest ⊢
            have HBB := Aside0.mk hbb
            clear hbb
            go_wp2_with fail
            obtain ⟨W6, hW6⟩ : ∃ W6, wr.alloc (.cells #[.func (.func 41) #[] #[], .func (.func 42) #[] #[]] 52) = W6 := ⟨_, rfl⟩
            obtain ⟨bx, hbx⟩ : ∃ bx, bx = wr.heap.size := ⟨_, rfl⟩
            rw [hW6, ← hbx]
            have HX := Aside0.mk (show W6.heap[bx]? = some (.cells #[.func (.func 41) #[] #[], .func (.func 42) #[] #[]] 52 (0, 0)) from by rw [← hW6, hbx]; exact World.alloc_heap_new wr _)
            have HB6 := Aside0.mk (show Below wr.heap.size wr W6 from by rw [← hW6]; exact (Below.refl _ wr).alloc (Nat.le_refl _) _)
            have HBw := Aside0.mk (HB.out.trans (HB6.out.mono HB.out.size))
            clear hW6 hbx
            have hx0 : W6.cell? ⟨bx, 0, none⟩ = some (.func (.func 41) #[] #[]) := (blk_cell HX.out 0).trans rfl
            have hx0d : W6.drew.cell? ⟨bx, 0, none⟩ = some (.func (.func 41) #[] #[]) := hx0
            have hxl : bx < W6.heap.size := (Array.getElem?_eq_some_iff.1 HX.out).1
            have hxa : (W6.alloc (.cells #[.int .u8 (IntKind.u8.wrap 2)] 5)).cell? ⟨bx, 0, none⟩ = some (.func (.func 41) #[] #[]) := (blk_cell ((Below.heap_alloc W6 _ bx hxl).trans HX.out) 0).trans rfl
            have hxb : (W6.alloc (.cells #[.int .u8 (IntKind.u8.wrap 2)] 5)).drew.cell? ⟨bx, 0, none⟩ = some (.func (.func 41) #[] #[]) := hxa
            obtain ⟨bs, hbs⟩ : ∃ bs, bs = ([2] : List Int) ++ digs l0.length := ⟨_, rfl⟩
            have HE2 := Aside0.mk (show num_PutLen.f [IntKind.u8.wrap 2] (l0.length : Int) = some bs from hbs ▸ putLenR_tell (l := [IntKind.u8.wrap 2]) (a := (l0.length : Int)) (by omega) (by decide))
            have hbsl : bs.length ≤ 1000000 := by have := digs_le_ten (u := l0.length) (by omega); rw [hbs, List.length_append]; simp only [List.length_singleton]; omega
            obtain ⟨es, hes⟩ : ∃ es, es = encK 2 l0 := ⟨_, rfl⟩
            have HES := Aside0.mk (show es = bs ++ bodyK 2 l0 from by rw [hes, hbs]; rfl)
            have HEE := Aside0.mk hes
            clear hes hbs
            go_region_with (first
              | (go_at_call 27
                 go_loud (refine (num_PutLen.calls (some ⟨W6.heap.size, 0, none⟩) 1 [IntKind.u8.wrap 2] (l0.length : Int) bs _ (Kd.R_reads' (R_one W6.drew (IntKind.u8.wrap 2))).2.2 (Nat.le_refl _) HE2.out).mono ?_; rintro e w2 ⟨v2, rfl, ho2, hb2⟩; obtain ⟨A2, c2, rfl⟩ := Kd.R_slice ho2; have HB2 := Aside0.mk (below_alloc_drew hb2); have HO2 := Aside0.mk (V_low (N := w.heap.size) (b' := w2.heap.size) ho2 (Nat.le_trans HBw.out.size (by rw [World.size_alloc]; exact Nat.le_succ _))); have hx2 := (HB2.out.cell (p := ⟨bx, 0, none⟩) (Array.getElem?_eq_some_iff.1 HX.out).1).trans hx0; clear ho2 hb2))
              | (go_at_call 41
                 go_loud (refine (put_calls2 (fun k => w.heap.size ≤ k) A2 c2 bs A0 c0 l0 w2 HO2.out (Kd.C_below HR.out (HBw.out.trans (HB2.out.mono HBw.out.size))) HC.out (by omega) hbsl hi es HES.out).mono ?_; rintro e w3 ⟨v3, rfl, ho3, hb3⟩; have HO3 := Aside0.mk ho3; have HB3 := Aside0.mk hb3; clear ho3 hb3)))
            all_goals (
              obtain ⟨A3, c3, rfl⟩ := Kd.V_slice HO3.out
              have HB4 := Aside0.mk (HB6.out.trans ((HB2.out.trans (HB3.out.mono HB2.out.size)).mono HB6.out.size))
              have HV3 := Aside0.mk (show Kd.V (Kd.int .u8) 5 w3 w2.heap.size (fun k => w.heap.size ≤ k) (.slice A3 es.length c3) es from Kd.V_mono HO3.out (fun k hk => hk.elim id (fun h => Nat.le_trans (Nat.le_trans HBw.out.size HB2.out.size) h)))
              by_cases hcmp : es.length < bb.length
              · have hcd : decide ((es.length : Int) < (bb.length : Int)) = true := decide_eq_true (by omega)
                go_wp2
                go_roundg 0
                case measure => have := HM.out; omega
                case rel => exact ⟨3, 3, rfl, rfl, rfl, ⟨⟨BestV.new HV3.out HEE.out (.inr (by rw [← HEE.out, ← HBB.out]; exact hcmp)), (HB4.out.block _ (Array.getElem?_eq_some_iff.1 HK.out).1).trans HK.out, HB.out.trans (HB4.out.mono HB.out.size)⟩⟩⟩
              · have hcd : decide ((es.length : Int) < (bb.length : Int)) = false := decide_eq_false (by omega)
                go_wp2
                go_roundg 0
                case measure => have := HM.out; omega
                case rel => exact ⟨3, 3, rfl, rfl, rfl, ⟨⟨BestV.old HBest.out (by omega) (by rw [← HEE.out, ← HBB.out]; exact hcmp) HB4.out, (HB4.out.block _ (Array.getElem?_eq_some_iff.1 HK.out).1).trans HK.out, HB.out.trans (HB4.out.mono HB.out.size)⟩⟩⟩)
    · rw [if_neg hi] at h; cases h

end Go.Proofs.Ytnlfhjhdnompaaa.T
