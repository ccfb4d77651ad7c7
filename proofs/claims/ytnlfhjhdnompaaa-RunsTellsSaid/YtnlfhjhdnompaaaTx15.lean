/- The machine side of laws, written by wip/tools/myprint.py (the printer's way, with functions proved by hand put in); Lean checks it. -/
import Derived.Deep.RegionWith
import Derived.Laws.EntriesVeiled
import Derived.Lib.SliceRun
import Derived.Test.YtnlfhjhdnompaaaHnum
import Derived.Test.YtnlfhjhdnompaaaHruns
import Derived.Test.YtnlfhjhdnompaaaTx0
import Derived.Test.YtnlfhjhdnompaaaTx5
import Derived.Test.YtnlfhjhdnompaaaTx7
import Derived.Test.YtnlfhjhdnompaaaTx8
import Derived.Test.YtnlfhjhdnompaaaTx9
import Derived.Test.YtnlfhjhdnompaaaTx14
import Derived.Test.YtnlfhjhdnompaaaTx19
namespace Go.Proofs.Ytnlfhjhdnompaaa.T
open Go.RowKit Go.Proofs.YtnlfhjhdnompaaaW.PrintWords Go.Proofs.YtnlfhjhdnompaaaW.PrintLast Go.Proofs.YtnlfhjhdnompaaaW.PrintMore
attribute [local go_sem] max2_int min2_int max_two min_two max_three min_three max_four min_four   -- for this text's walks alone
set_option linter.unusedVariables false
set_option linter.unusedSimpArgs false

-- BY HAND: Derived.Test.YtnlfhjhdnompaaaHruns,Derived.Test.YtnlfhjhdnompaaaHnum,Derived.Laws.EntriesVeiled,Derived.Lib.SliceRun,Derived.Deep.RegionWith
/-! ### runs_Decode: function 25 -/
-- HAND winnower/runs.Decode rounds making
-- IMPORT Derived.Test.YtnlfhjhdnompaaaHruns
-- IMPORT Derived.Test.YtnlfhjhdnompaaaHnum
-- IMPORT Derived.Laws.EntriesVeiled
-- IMPORT Derived.Lib.SliceRun
-- IMPORT Derived.Deep.RegionWith
open Go.Proofs.Ytnlfhjhdnompaaa.Hnum Go.Proofs.Ytnlfhjhdnompaaa.Hruns
/-- What each kind gets. -/
def getK (k i : Nat) (b : List Int) (n : Int) : Option (List Int × List Int × Int) :=
  if i = 0 then runs_some.f k b n else if i = 1 then runs_getRuns.f k b n else (runs_some.f k b n).bind fun t => (runs_Sums.f k t.1).bind fun s => some (s, t.2.1, t.2.2)
/-- What a kind's get hands back. -/
def GotK (P0_ : Nat → Prop) (w : World) (r1 r2 : List Int) (r3 : Int) (e : Ending) (w' : World) : Prop :=
  ∃ v0_ v1_ : Value, e = .returned (.tuple #[v0_, v1_, .int .i64 r3]) ∧ Kd.R (Kd.int .i64) 3 w' w.heap.size (fun _ => True) v0_ r1 ∧ Kd.V (Kd.int .u8) 5 w' w.heap.size (fun k_ => (P0_ k_ ∨ w.heap.size ≤ k_)) v1_ r2 ∧ Below w.heap.size w w'
set_option maxHeartbeats 2000000 in
theorem runs_kinds_2.calls (k : Nat) (P0_ : Nat → Prop) (A0 : Option Addr) (c0 : Nat) (l0 : List Int) (a1 : Int) (r1 r2 : List Int) (r3 : Int) (w : World) (hs0 : Kd.V (Kd.int .u8) 5 w w.heap.size (fun k_ => P0_ k_) (.slice A0 l0.length c0) l0) (h : getK k 2 l0 a1 = some (r1, r2, r3)) :
    Calls Try.prog 42 #[.slice A0 l0.length c0, .int .i64 a1] w (GotK P0_ w r1 r2 r3) := by
  have HS := Aside0.mk hs0
  clear hs0
  rw [getK, if_neg (by omega), if_neg (by omega)] at h
  obtain ⟨⟨t1, t2, t3⟩, h1, h⟩ := Option.bind_eq_some_iff.mp h
  obtain ⟨s, h2, h⟩ := Option.bind_eq_some_iff.mp h
  simp only [Option.some.injEq, Prod.mk.injEq] at h
  obtain ⟨rfl, rfl, rfl⟩ := h
  have H1 := Aside0.mk h1
  have H2 := Aside0.mk h2
  clear h1 h2
  go_enter Try.func42, Try.ntmps42
  go_wp2_with (first
    | (go_at_call 38
       refine (runs_some.calls k P0_ A0 c0 l0 a1 t1 t2 t3 _ HS.out H1.out).mono ?_
       rintro e w1 ⟨v1, u1, rfl, ho1, hv1, hb1⟩
       obtain ⟨A2, c2, rfl⟩ := Kd.R_slice ho1
       obtain ⟨A3, c3, rfl⟩ := Kd.V_slice hv1
       have HO1 := Aside0.mk ho1
       have HV1 := Aside0.mk hv1
       have HB1 := Aside0.mk hb1
       clear ho1 hb1 hv1)
    | (go_at_call 23
       refine (runs_Sums.calls k A2 c2 t1 s w1 (Kd.R_reads' HO1.out).2.2 (Kd.R_reads' HO1.out).2.1 H2.out).mono ?_
       rintro e w2 ⟨v2, rfl, ho2, hb2⟩
       obtain ⟨A4, c4, rfl⟩ := Kd.R_slice ho2
       have HO2 := Aside0.mk ho2
       have HB2 := Aside0.mk hb2
       clear ho2 hb2))
  go_ret3
  exact ⟨_, _, rfl, Kd.R_lower HO2.out HB1.out.size, Kd.V_mono (Kd.V_below HV1.out HB2.out) (fun _ hk => hk.1), HB1.out.trans (HB2.out.mono HB1.out.size)⟩
theorem runs_some.got {k : Nat} {P0_ : Nat → Prop} {A0 : Option Addr} {c0 : Nat} {l0 : List Int} {a1 : Int} {r1 r2 : List Int} {r3 : Int} {w : World} (hs0 : Kd.V (Kd.int .u8) 5 w w.heap.size (fun k_ => P0_ k_) (.slice A0 l0.length c0) l0) (h : getK k 0 l0 a1 = some (r1, r2, r3)) :
    Calls Try.prog 38 #[.slice A0 l0.length c0, .int .i64 a1] w (GotK P0_ w r1 r2 r3) := by
  rw [getK, if_pos rfl] at h
  refine (runs_some.calls k P0_ A0 c0 l0 a1 r1 r2 r3 w hs0 h).mono ?_
  rintro e w1 ⟨v0, v1, rfl, h1, h2, h3⟩
  exact ⟨v0, v1, rfl, Kd.R_mono h1 (fun _ _ => trivial), Kd.V_mono h2 (fun _ hk => hk.1), h3⟩
theorem runs_getRuns.got {k : Nat} {P0_ : Nat → Prop} {A0 : Option Addr} {c0 : Nat} {l0 : List Int} {a1 : Int} {r1 r2 : List Int} {r3 : Int} {w : World} (hs0 : Kd.V (Kd.int .u8) 5 w w.heap.size (fun k_ => P0_ k_) (.slice A0 l0.length c0) l0) (h : getK k 1 l0 a1 = some (r1, r2, r3)) :
    Calls Try.prog 40 #[.slice A0 l0.length c0, .int .i64 a1] w (GotK P0_ w r1 r2 r3) := by
  rw [getK, if_neg (by omega), if_pos rfl] at h
  refine (runs_getRuns.calls k P0_ A0 c0 l0 a1 r1 r2 r3 w hs0 h).mono ?_
  rintro e w1 ⟨v0, v1, rfl, h1, h2, h3⟩
  exact ⟨v0, v1, rfl, Kd.R_mono h1 (fun _ _ => trivial), Kd.V_mono h2 (fun _ hk => hk.1), h3⟩
theorem cutV {W : World} {base c : Nat} {ok : Nat → Prop} {A : Option Addr} {l : List Int} (hV : Kd.V (Kd.int .u8) 5 W base ok (.slice A l.length c) l) (j : Nat) (hj : j ≤ l.length) :
    ∃ A1 c1, (∀ Wx : World, (Instr.slice 24 (.slice A l.length c) (some (.int .i64 (j : Int))) none none).run Try.prog Wx = .ok (.slice A1 (l.drop j).length c1) Wx) ∧ Kd.V (Kd.int .u8) 5 W base ok (.slice A1 (l.drop j).length c1) (l.drop j) := by
  obtain ⟨i0, hi, _, hsz, _⟩ := info_parts info5
  have h := cut_from (P := Try.prog) 24 5 .i64 Try.underlying24 hi 1 hsz A l.length c (j : Int) (by omega) (by omega)
  rw [Int.toNat_natCast] at h
  have hc := (Kd.V_at hV).2.1
  refine ⟨_, c - j, fun Wx => ?_, Kd.V_mk ?_ (Kd.F_cut (Kd.V_at hV).2.2 hj hc)⟩
  · rw [List.length_drop]; exact h Wx
  · rw [List.length_drop]; omega
theorem cutW {W : World} {base c : Nat} {ok : Nat → Prop} {ad : Addr} {l : List Int} (hV : Kd.V (Kd.int .u8) 5 W base ok (.slice (some ad) l.length c) l) (j : Nat) (hj : j ≤ l.length) :
    ∃ A1 c1, (∀ Wx : World, (Instr.slice 24 (.slice (some ad) l.length c) (some (.int .i64 (j : Int))) none none).run Try.prog Wx = .ok (.slice A1 (l.drop j).length c1) Wx) ∧ Kd.V (Kd.int .u8) 5 W base ok (.slice A1 (l.drop j).length c1) (l.drop j) ∧ (if c = j then some ad else some (ad.add j)) = A1 ∧ l.length - j = (l.drop j).length ∧ c - j = c1 := by
  obtain ⟨A1, c1, h1, h2⟩ := cutV hV j hj
  obtain ⟨i0, hi, _, hsz, _⟩ := info_parts info5
  have h := cut_from (P := Try.prog) 24 5 .i64 Try.underlying24 hi 1 hsz (some ad) l.length c (j : Int) (by omega) (by omega) W
  rw [h1 W, Int.toNat_natCast] at h
  injection h with h _
  injection h with ha hl hc
  refine ⟨A1, c1, h1, h2, ?_, hl.symm, hc.symm⟩
  rw [ha]; simp
theorem cutT {W : World} {c : Nat} {ad : Addr} {l : List Int} (hC : Kd.C (Kd.int .u8) W (some ad) l.length l) (hc : l.length ≤ c) (j : Nat) (hj : j ≤ l.length) :
    (∀ Wx : World, (Instr.slice 24 (.slice (some ad) l.length c) none (some (.int .i64 (j : Int))) none).run Try.prog Wx = .ok (.slice (some ad) (l.take j).length c) Wx) ∧ Kd.C (Kd.int .u8) W (some ad) (l.take j).length (l.take j) := by
  obtain ⟨i0, hi, _, hsz, _⟩ := info_parts info5
  refine ⟨fun Wx => ?_, Kd.C_take hC hj⟩
  have h := cut_to (P := Try.prog) 24 5 .i64 Try.underlying24 hi (some ad) l.length c (j : Int) (by omega) (by omega) hc Wx
  rw [Int.toNat_natCast] at h
  rw [List.length_take, Nat.min_eq_left hj]; exact h
/-- What Decode answers. -/
def runs_Decode.f (k : Nat) (l0 : List Int) : Option (List Int × Int × Int) :=
  if l0.length = 0 then some ([], 0, 6) else if ¬ (0 ≤ rd l0 0 ∧ rd l0 0 < 256) then none else if 3 ≤ rd l0 0 then some ([], 0, 7) else
  (num_GetLen.f (l0.drop 1)).bind fun t => if t.2.2 ≠ 0 then some ([], 0, t.2.2) else if 4096 < t.1 then some ([], 0, 2) else
  if ¬ (0 ≤ t.2.1 ∧ t.2.1 + 1 ≤ (l0.length : Int) ∧ l0.length ≤ 1000000000000) then none else
  (getK k (rd l0 0).toNat (l0.drop (t.2.1 + 1).toNat) t.1).bind fun g => if g.2.2 ≠ 0 then some ([], 0, g.2.2) else
  if ¬ (g.2.1.length ≤ l0.length) then none else
  (runs_Encode.f g.1).bind fun en => (bytes_Equal.f en.1 (l0.take (l0.length - g.2.1.length))).bind fun q => if q = true then some (g.1, (l0.length : Int) - (g.2.1.length : Int), 0) else some ([], 0, 7)
theorem getK.mono (i : Nat) (b : List Int) (n : Int) : ∀ k, LeO (getK k i b n) (getK (k + 1) i b n) := by
  intro k
  unfold getK
  repeat' first
      | (with_reducible exact runs_some.mono _ _ _)
      | (with_reducible exact runs_getRuns.mono _ _ _)
      | (with_reducible exact runs_Sums.mono _ _)
      | (with_reducible exact LeO.refl _)
      | (with_reducible refine LeO.ite ?_ ?_)
      | (with_reducible refine LeO.bind ?_ (fun _ => ?_))
theorem runs_Decode.mono : ∀ a0 k, LeO (runs_Decode.f k a0) (runs_Decode.f (k + 1) a0) := by
  intro a0 k
  unfold runs_Decode.f
  repeat' first
      | (with_reducible exact getK.mono _ _ _ _)
      | (with_reducible exact LeO.refl _)
      | (with_reducible exact LeO.none _)
      | (with_reducible refine LeO.ite ?_ ?_)
      | (with_reducible refine LeO.bind ?_ (fun _ => ?_))
set_option maxHeartbeats 2000000 in
set_option maxRecDepth 100000 in
theorem runs_Decode.calls (k : Nat) (A0 : Option Addr) (c0 : Nat) (l0 : List Int) (r1 : List Int) (r2 r3 : Int) (w : World) (hr0 : Kd.C (Kd.int .u8) w A0 l0.length l0) (hc0 : l0.length ≤ c0) (h : runs_Decode.f k l0 = some (r1, r2, r3)) :
    Calls Try.prog 25 #[.slice A0 l0.length c0] w fun e w' => ∃ v0_ : Value, e = .returned (.tuple #[v0_, .int .i64 r2, .int .i64 r3]) ∧ Kd.R (Kd.int .i64) 3 w' w.heap.size (fun _ => True) v0_ r1 ∧ Below w.heap.size w w' := by
  have HR := Aside0.mk hr0
  have HC := Aside0.mk hc0
  clear hr0 hc0
  unfold runs_Decode.f at h
  by_cases e0 : l0.length = 0
  · rw [if_pos e0] at h
    obtain ⟨rfl, rfl, rfl⟩ : r1 = [] ∧ r2 = 0 ∧ r3 = 6 := by simp only [Option.some.injEq, Prod.mk.injEq] at h; exact ⟨h.1.symm, h.2.1.symm, h.2.2.symm⟩
    have hz : ((l0.length : Int) == 0) = true := beq_iff_eq.mpr (by omega)
    clear e0
    go_enter Try.func25, Try.ntmps25
    go_wp2
    go_ret3
    exact ⟨_, rfl, Kd.R_nil _ _ _ _ _, Below.refl _ _⟩
  · rw [if_neg e0] at h
    have hz : ((l0.length : Int) == 0) = false := beq_eq_false_iff_ne.mpr (by omega)
    by_cases e1 : ¬ (0 ≤ rd l0 0 ∧ rd l0 0 < 256)
    · rw [if_pos e1] at h; cases h
    · rw [if_neg e1] at h
      obtain ⟨ad, e, hx⟩ := Kd.at_int HR.out 0 (by omega) (by omega)
      subst e
      obtain ⟨y, hy⟩ : ∃ y, y = rd l0 0 := ⟨_, rfl⟩
      rw [← hy] at hx e1 h
      rw [show (0 : Int).toNat = 0 from rfl] at hx
      rw [show ad.add 0 = ad from by simp [Addr.add]] at hx
      have hxk : (w.alloc kindsB).cell? ad = some (.int .u8 y) := (((Below.refl _ w).alloc (Nat.le_refl _) kindsB).cell (World.block_lt_of_cell? w _ hx)).trans hx
      have HY := Aside0.mk hy
      clear hy
      have hw : wrap64 y = y := wrap_id (by omega) (by omega)
      by_cases e2 : 3 ≤ y
      · rw [if_pos e2] at h
        obtain ⟨rfl, rfl, rfl⟩ : r1 = [] ∧ r2 = 0 ∧ r3 = 7 := by simp only [Option.some.injEq, Prod.mk.injEq] at h; exact ⟨h.1.symm, h.2.1.symm, h.2.2.symm⟩
        have hd : decide (3 ≤ y) = true := decide_eq_true e2
        go_enter Try.func25, Try.ntmps25
        go_wp2_with (go_at_call 26; refine (runs_kinds.calls _).mono ?_; rintro e w1 ⟨rfl, rfl⟩)
        go_ret3
        exact ⟨_, rfl, Kd.R_nil _ _ _ _ _, (Below.refl _ w).alloc (Nat.le_refl _) _⟩
      · rw [if_neg e2] at h
        have hd : decide (3 ≤ y) = false := decide_eq_false e2
        obtain ⟨⟨n, m, er⟩, hg, h⟩ := Option.bind_eq_some_iff.mp h
        simp only at h
        have HV0 : Kd.V (Kd.int .u8) 5 w w.heap.size (fun k => k < w.heap.size) (.slice (some ad) l0.length c0) l0 := Kd.V_mk HC.out (Kd.C_F (Kd.heap_int _) HR.out)
        obtain ⟨A1, c1, hcut1, HV1⟩ := cutV HV0 1 (by omega)
        obtain ⟨y1, hy1⟩ : ∃ y1, y1 = l0.drop 1 := ⟨_, rfl⟩
        rw [← hy1] at hg hcut1 HV1
        have HG := Aside0.mk hg
        have HVA := Aside0.mk HV0
        have HVB := Aside0.mk HV1
        have HY1 := Aside0.mk hy1
        clear hg HV0 HV1 hy1
        rw [show ((1 : Nat) : Int) = 1 from rfl] at hcut1
        by_cases e3 : er ≠ 0
        · rw [if_pos e3] at h
          obtain ⟨rfl, rfl, rfl⟩ : r1 = [] ∧ r2 = 0 ∧ r3 = er := by simp only [Option.some.injEq, Prod.mk.injEq] at h; exact ⟨h.1.symm, h.2.1.symm, h.2.2.symm⟩
          have he : (r3 == 0) = false := beq_eq_false_iff_ne.mpr e3
          have he' : (r3 != 0) = true := bne_iff_ne.mpr e3
          clear e3 h
          go_enter Try.func25, Try.ntmps25
          go_wp2_with (first
            | (go_at_call 26; refine (runs_kinds.calls _).mono ?_; rintro e w1 ⟨rfl, rfl⟩)
            | (go_at_call 35; refine (num_GetLen.calls A1 c1 y1 n m r3 _ (Kd.C_alloc (Kd.V_reads' HVB.out).2.2 _) (Kd.V_reads' HVB.out).2.1 HG.out).mono ?_; rintro e w2 ⟨rfl, ⟨nd, rfl⟩⟩))
          go_ret3
          exact ⟨_, rfl, Kd.R_nil _ _ _ _ _, by repeat (first | (with_reducible first | exact Below.refl _ _ | apply below_alloc | apply pw_below_drewN | apply below_drew1) | exact (Below.refl _ _))⟩
        · rw [if_neg e3] at h
          obtain rfl : er = 0 := by omega
          clear e3
          by_cases e4 : 4096 < n
          · rw [if_pos e4] at h
            obtain ⟨rfl, rfl, rfl⟩ : r1 = [] ∧ r2 = 0 ∧ r3 = 2 := by simp only [Option.some.injEq, Prod.mk.injEq] at h; exact ⟨h.1.symm, h.2.1.symm, h.2.2.symm⟩
            have he : decide (4096 < n) = true := decide_eq_true e4
            clear e4 h
            go_enter Try.func25, Try.ntmps25
            go_wp2_with (first
              | (go_at_call 26; refine (runs_kinds.calls _).mono ?_; rintro e w1 ⟨rfl, rfl⟩)
              | (go_at_call 35; refine (num_GetLen.calls A1 c1 y1 n m 0 _ (Kd.C_alloc (Kd.V_reads' HVB.out).2.2 _) (Kd.V_reads' HVB.out).2.1 HG.out).mono ?_; rintro e w2 ⟨rfl, ⟨nd, rfl⟩⟩))
            go_ret3
            exact ⟨_, rfl, Kd.R_nil _ _ _ _ _, by repeat (first | (with_reducible first | exact Below.refl _ _ | apply below_alloc | apply pw_below_drewN | apply below_drew1) | exact (Below.refl _ _))⟩
          · rw [if_neg e4] at h
            have he : decide (4096 < n) = false := decide_eq_false e4
            clear e4
            by_cases e5 : ¬ (0 ≤ m ∧ m + 1 ≤ (l0.length : Int) ∧ l0.length ≤ 1000000000000)
            · rw [if_pos e5] at h; cases h
            · rw [if_neg e5] at h
              obtain ⟨jm, hjm⟩ : ∃ j : Nat, (j : Int) = m + 1 := ⟨(m + 1).toNat, by omega⟩
              obtain ⟨A2, c2, hcut2, HV2, hA2, hl2, hc2⟩ := cutW HVA.out jm (by omega)
              have hjl : jm ≤ l0.length := by omega
              rw [show (m + 1).toNat = jm from by omega] at h
              obtain ⟨y2, hy2⟩ : ∃ y2, y2 = l0.drop jm := ⟨_, rfl⟩
              rw [← hy2] at h hcut2 HV2 hl2
              have HVC := Aside0.mk HV2
              have HJM := Aside0.mk hjm
              have hwm : wrap64 (1 + m) = (jm : Int) := by rw [wrap_id (by omega) (by omega)]; omega
              have hwn : IntKind.i64.wrap (1 + m) = (jm : Int) := by rw [IntKind.wrap_i64]; omega
              have HLEN := Aside0.mk (show l0.length ≤ 1000000000000 by omega)
              clear hy2 HV2 e5 hjm
              rcases (by omega : y = 0 ∨ y = 1 ∨ y = 2) with rfl | rfl | rfl
              · obtain ⟨⟨g1, g2, g3⟩, hgk, h⟩ := Option.bind_eq_some_iff.mp h
                simp only at h
                rw [show (0 : Int).toNat = 0 from rfl] at hgk
                have HGK := Aside0.mk hgk
                clear hgk
                have HD := Aside0.mk (show Below w.heap.size w (w.alloc kindsB) from (Below.refl _ w).alloc (Nat.le_refl _) _)
                by_cases e6 : g3 ≠ 0
                · rw [if_pos e6] at h
                  obtain ⟨rfl, rfl, rfl⟩ : r1 = [] ∧ r2 = 0 ∧ r3 = g3 := by simp only [Option.some.injEq, Prod.mk.injEq] at h; exact ⟨h.1.symm, h.2.1.symm, h.2.2.symm⟩
                  have he6 : (r3 != 0) = true := bne_iff_ne.mpr e6
                  have he6' : (r3 == 0) = false := beq_eq_false_iff_ne.mpr e6
                  clear e6 h
                  go_enter Try.func25, Try.ntmps25
                  go_wp2_with (first
                    | (go_at_call 26; refine (runs_kinds.calls _).mono ?_; rintro e w1 ⟨rfl, rfl⟩)
                    | (go_at_call 35; refine (num_GetLen.calls A1 c1 y1 n m 0 _ (Kd.C_alloc (Kd.V_reads' HVB.out).2.2 _) (Kd.V_reads' HVB.out).2.1 HG.out).mono ?_; rintro e w2 ⟨rfl, ⟨nd, rfl⟩⟩))
                  obtain ⟨W1, hW1⟩ : ∃ W1, (w.alloc kindsB).drewN nd = W1 := ⟨_, rfl⟩
                  rw [hW1]
                  have HB1 := Aside0.mk (show Below w.heap.size w W1 from by rw [← hW1]; exact pw_below_drewN HD.out _)
                  have HK1 := Aside0.mk (show W1.heap[w.heap.size]? = some kindsB from by rw [← hW1]; exact World.alloc_heap_new w _)
                  clear hW1
                  have k1 := (kinds_cells HK1.out).2.1
                  have hb0 : W1.cell? ad = some (.int .u8 0) := (HB1.out.cell (World.block_lt_of_cell? w _ hx)).trans hx
                  go_region_with (go_at_call 38; go_loud (refine (runs_some.got (k := k) (P0_ := fun k => k < w.heap.size) (A0 := A2) (c0 := c2) (l0 := y2) (a1 := n) (r1 := g1) (r2 := g2) (r3 := r3) (w := W1.drew) (Kd.V_drew (Kd.V_below HVC.out HB1.out)) HGK.out).mono ?_; rintro e w3 ⟨v3, u3, rfl, ho3, hv3, hb3⟩; have HO3 := Aside0.mk ho3; have HV3 := Aside0.mk hv3; have HB3 := Aside0.mk hb3; clear ho3 hv3 hb3))
                  go_wp2
                  go_ret3
                  exact ⟨_, rfl, Kd.R_nil _ _ _ _ _, HB1.out.trans ((below_from_drew HB3.out).mono HB1.out.size)⟩
                · rw [if_neg e6] at h
                  obtain rfl : g3 = 0 := by omega
                  clear e6
                  by_cases e7 : ¬ (g2.length ≤ l0.length)
                  · rw [if_pos e7] at h; cases h
                  · rw [if_neg e7] at h
                    obtain ⟨⟨en, ee⟩, hen, h⟩ := Option.bind_eq_some_iff.mp h
                    obtain ⟨q, hq, h⟩ := Option.bind_eq_some_iff.mp h
                    simp only at h hq hen
                    obtain ⟨ju, hju⟩ : ∃ j, j = l0.length - g2.length := ⟨_, rfl⟩
                    rw [← hju] at hq
                    rw [show (l0.length : Int) - (g2.length : Int) = (ju : Int) from by omega] at h
                    have hjul : ju ≤ l0.length := by omega
                    have hwu : wrap64 ((l0.length : Int) - (g2.length : Int)) = (ju : Int) := by have := HLEN.out; rw [wrap_id (by omega) (by omega)]; omega
                    obtain ⟨hcut3, HC3⟩ := cutT HR.out HC.out ju hjul
                    obtain ⟨y3, hy3⟩ : ∃ y, y = l0.take ju := ⟨_, rfl⟩
                    rw [← hy3] at hq hcut3 HC3
                    have hlc : y3.length ≤ c0 := by rw [hy3, List.length_take]; have := HC.out; omega
                    have HLC := Aside0.mk hlc
                    have HD3 := Aside0.mk HC3
                    have HEN := Aside0.mk hen
                    have HQ := Aside0.mk hq
                    have HJU := Aside0.mk hju
                    have HH := Aside0.mk h
                    clear HC3 hen hq hju hy3 h e7 hlc
                    go_enter Try.func25, Try.ntmps25
                    go_wp2_with (first
                      | (go_at_call 26; refine (runs_kinds.calls _).mono ?_; rintro e w1 ⟨rfl, rfl⟩)
                      | (go_at_call 35; refine (num_GetLen.calls A1 c1 y1 n m 0 _ (Kd.C_alloc (Kd.V_reads' HVB.out).2.2 _) (Kd.V_reads' HVB.out).2.1 HG.out).mono ?_; rintro e w2 ⟨rfl, ⟨nd, rfl⟩⟩))
                    obtain ⟨W1, hW1⟩ : ∃ W1, (w.alloc kindsB).drewN nd = W1 := ⟨_, rfl⟩
                    rw [hW1]
                    have HB1 := Aside0.mk (show Below w.heap.size w W1 from by rw [← hW1]; exact pw_below_drewN HD.out _)
                    have HK1 := Aside0.mk (show W1.heap[w.heap.size]? = some kindsB from by rw [← hW1]; exact World.alloc_heap_new w _)
                    clear hW1
                    have k1 := (kinds_cells HK1.out).2.1
                    have hb0 : W1.cell? ad = some (.int .u8 0) := (HB1.out.cell (World.block_lt_of_cell? w _ hx)).trans hx
                    go_region_with (go_at_call 38; go_loud (refine (runs_some.got (k := k) (P0_ := fun k => k < w.heap.size) (A0 := A2) (c0 := c2) (l0 := y2) (a1 := n) (r1 := g1) (r2 := g2) (r3 := 0) (w := W1.drew) (Kd.V_drew (Kd.V_below HVC.out HB1.out)) HGK.out).mono ?_; rintro e w3 ⟨v3, u3, rfl, ho3, hv3, hb3⟩; obtain ⟨A4, c4, rfl⟩ := Kd.R_slice ho3; obtain ⟨A5, c5, rfl⟩ := Kd.V_slice hv3; have HO3 := Aside0.mk ho3; have HV3 := Aside0.mk hv3; have HB3 := Aside0.mk (HB1.out.trans ((below_from_drew hb3).mono HB1.out.size)); clear ho3 hv3 hb3))
                    go_wp2_with (first
                      | (go_at_call 10; go_loud (refine (runs_Encode.calls A4 c4 g1 en ee _ (Kd.R_reads' HO3.out).2.2 (Kd.R_reads' HO3.out).2.1 HEN.out).mono ?_; rintro e w4 ⟨v4, rfl, hv4, hb4⟩; obtain ⟨A6, c6, rfl⟩ := Kd.V_slice hv4; have HV4 := Aside0.mk hv4; have HB4 := Aside0.mk (HB3.out.trans (hb4.mono HB3.out.size)); have HO4 := Aside0.mk (Kd.R_below HO3.out hb4); clear hv4 hb4))
                      | (go_at_call 36; go_loud (refine (bytes_Equal.calls A6 c6 en (some ad) c0 y3 q _ (Kd.V_reads' HV4.out).2.2 (Kd.V_reads' HV4.out).2.1 (Kd.C_below HD3.out HB4.out) HLC.out HQ.out).mono ?_; rintro e w5 ⟨rfl, ⟨nd5, rfl⟩⟩)))
                    · have hq0 : q = false := by cases q <;> first | rfl | (rename_i hh; cases hh)
                      subst hq0
                      have hh := HH.out
                      rw [if_neg Bool.false_ne_true] at hh
                      obtain ⟨rfl, rfl, rfl⟩ : r1 = [] ∧ r2 = 0 ∧ r3 = 7 := by simp only [Option.some.injEq, Prod.mk.injEq] at hh; exact ⟨hh.1.symm, hh.2.1.symm, hh.2.2.symm⟩
                      go_ret3
                      exact ⟨_, rfl, Kd.R_nil _ _ _ _ _, pw_below_drewN HB4.out _⟩
                    · have hq0 : q = true := by cases q <;> first | rfl | (rename_i hh; cases hh)
                      subst hq0
                      have hh := HH.out
                      rw [if_pos rfl] at hh
                      obtain ⟨rfl, rfl, rfl⟩ : r1 = g1 ∧ r2 = (ju : Int) ∧ r3 = 0 := by simp only [Option.some.injEq, Prod.mk.injEq] at hh; exact ⟨hh.1.symm, hh.2.1.symm, hh.2.2.symm⟩
                      go_ret3
                      exact ⟨_, rfl, Kd.R_lower (Kd.R_drewN HO4.out _) HB1.out.size, pw_below_drewN HB4.out _⟩
              · obtain ⟨⟨g1, g2, g3⟩, hgk, h⟩ := Option.bind_eq_some_iff.mp h
                simp only at h
                rw [show (1 : Int).toNat = 1 from rfl] at hgk
                have HGK := Aside0.mk hgk
                clear hgk
                have HD := Aside0.mk (show Below w.heap.size w (w.alloc kindsB) from (Below.refl _ w).alloc (Nat.le_refl _) _)
                by_cases e6 : g3 ≠ 0
                · rw [if_pos e6] at h
                  obtain ⟨rfl, rfl, rfl⟩ : r1 = [] ∧ r2 = 0 ∧ r3 = g3 := by simp only [Option.some.injEq, Prod.mk.injEq] at h; exact ⟨h.1.symm, h.2.1.symm, h.2.2.symm⟩
                  have he6 : (r3 != 0) = true := bne_iff_ne.mpr e6
                  have he6' : (r3 == 0) = false := beq_eq_false_iff_ne.mpr e6
                  clear e6 h
                  go_enter Try.func25, Try.ntmps25
                  go_wp2_with (first
                    | (go_at_call 26; refine (runs_kinds.calls _).mono ?_; rintro e w1 ⟨rfl, rfl⟩)
                    | (go_at_call 35; refine (num_GetLen.calls A1 c1 y1 n m 0 _ (Kd.C_alloc (Kd.V_reads' HVB.out).2.2 _) (Kd.V_reads' HVB.out).2.1 HG.out).mono ?_; rintro e w2 ⟨rfl, ⟨nd, rfl⟩⟩))
                  obtain ⟨W1, hW1⟩ : ∃ W1, (w.alloc kindsB).drewN nd = W1 := ⟨_, rfl⟩
                  rw [hW1]
                  have HB1 := Aside0.mk (show Below w.heap.size w W1 from by rw [← hW1]; exact pw_below_drewN HD.out _)
                  have HK1 := Aside0.mk (show W1.heap[w.heap.size]? = some kindsB from by rw [← hW1]; exact World.alloc_heap_new w _)
                  clear hW1
                  have k1 := (kinds_cells HK1.out).2.2.2.1
                  have hb0 : W1.cell? ad = some (.int .u8 1) := (HB1.out.cell (World.block_lt_of_cell? w _ hx)).trans hx
                  go_region_with (go_at_call 40; go_loud (refine (runs_getRuns.got (k := k) (P0_ := fun k => k < w.heap.size) (A0 := A2) (c0 := c2) (l0 := y2) (a1 := n) (r1 := g1) (r2 := g2) (r3 := r3) (w := W1.drew) (Kd.V_drew (Kd.V_below HVC.out HB1.out)) HGK.out).mono ?_; rintro e w3 ⟨v3, u3, rfl, ho3, hv3, hb3⟩; have HO3 := Aside0.mk ho3; have HV3 := Aside0.mk hv3; have HB3 := Aside0.mk hb3; clear ho3 hv3 hb3))
                  go_wp2
                  go_ret3
                  exact ⟨_, rfl, Kd.R_nil _ _ _ _ _, HB1.out.trans ((below_from_drew HB3.out).mono HB1.out.size)⟩
                · rw [if_neg e6] at h
                  obtain rfl : g3 = 0 := by omega
                  clear e6
                  by_cases e7 : ¬ (g2.length ≤ l0.length)
                  · rw [if_pos e7] at h; cases h
                  · rw [if_neg e7] at h
                    obtain ⟨⟨en, ee⟩, hen, h⟩ := Option.bind_eq_some_iff.mp h
                    obtain ⟨q, hq, h⟩ := Option.bind_eq_some_iff.mp h
                    simp only at h hq hen
                    obtain ⟨ju, hju⟩ : ∃ j, j = l0.length - g2.length := ⟨_, rfl⟩
                    rw [← hju] at hq
                    rw [show (l0.length : Int) - (g2.length : Int) = (ju : Int) from by omega] at h
                    have hjul : ju ≤ l0.length := by omega
                    have hwu : wrap64 ((l0.length : Int) - (g2.length : Int)) = (ju : Int) := by have := HLEN.out; rw [wrap_id (by omega) (by omega)]; omega
                    obtain ⟨hcut3, HC3⟩ := cutT HR.out HC.out ju hjul
                    obtain ⟨y3, hy3⟩ : ∃ y, y = l0.take ju := ⟨_, rfl⟩
                    rw [← hy3] at hq hcut3 HC3
                    have hlc : y3.length ≤ c0 := by rw [hy3, List.length_take]; have := HC.out; omega
                    have HLC := Aside0.mk hlc
                    have HD3 := Aside0.mk HC3
                    have HEN := Aside0.mk hen
                    have HQ := Aside0.mk hq
                    have HJU := Aside0.mk hju
                    have HH := Aside0.mk h
                    clear HC3 hen hq hju hy3 h e7 hlc
                    go_enter Try.func25, Try.ntmps25
                    go_wp2_with (first
                      | (go_at_call 26; refine (runs_kinds.calls _).mono ?_; rintro e w1 ⟨rfl, rfl⟩)
                      | (go_at_call 35; refine (num_GetLen.calls A1 c1 y1 n m 0 _ (Kd.C_alloc (Kd.V_reads' HVB.out).2.2 _) (Kd.V_reads' HVB.out).2.1 HG.out).mono ?_; rintro e w2 ⟨rfl, ⟨nd, rfl⟩⟩))
                    obtain ⟨W1, hW1⟩ : ∃ W1, (w.alloc kindsB).drewN nd = W1 := ⟨_, rfl⟩
                    rw [hW1]
                    have HB1 := Aside0.mk (show Below w.heap.size w W1 from by rw [← hW1]; exact pw_below_drewN HD.out _)
                    have HK1 := Aside0.mk (show W1.heap[w.heap.size]? = some kindsB from by rw [← hW1]; exact World.alloc_heap_new w _)
                    clear hW1
                    have k1 := (kinds_cells HK1.out).2.2.2.1
                    have hb0 : W1.cell? ad = some (.int .u8 1) := (HB1.out.cell (World.block_lt_of_cell? w _ hx)).trans hx
                    go_region_with (go_at_call 40; go_loud (refine (runs_getRuns.got (k := k) (P0_ := fun k => k < w.heap.size) (A0 := A2) (c0 := c2) (l0 := y2) (a1 := n) (r1 := g1) (r2 := g2) (r3 := 0) (w := W1.drew) (Kd.V_drew (Kd.V_below HVC.out HB1.out)) HGK.out).mono ?_; rintro e w3 ⟨v3, u3, rfl, ho3, hv3, hb3⟩; obtain ⟨A4, c4, rfl⟩ := Kd.R_slice ho3; obtain ⟨A5, c5, rfl⟩ := Kd.V_slice hv3; have HO3 := Aside0.mk ho3; have HV3 := Aside0.mk hv3; have HB3 := Aside0.mk (HB1.out.trans ((below_from_drew hb3).mono HB1.out.size)); clear ho3 hv3 hb3))
                    go_wp2_with (first
                      | (go_at_call 10; go_loud (refine (runs_Encode.calls A4 c4 g1 en ee _ (Kd.R_reads' HO3.out).2.2 (Kd.R_reads' HO3.out).2.1 HEN.out).mono ?_; rintro e w4 ⟨v4, rfl, hv4, hb4⟩; obtain ⟨A6, c6, rfl⟩ := Kd.V_slice hv4; have HV4 := Aside0.mk hv4; have HB4 := Aside0.mk (HB3.out.trans (hb4.mono HB3.out.size)); have HO4 := Aside0.mk (Kd.R_below HO3.out hb4); clear hv4 hb4))
                      | (go_at_call 36; go_loud (refine (bytes_Equal.calls A6 c6 en (some ad) c0 y3 q _ (Kd.V_reads' HV4.out).2.2 (Kd.V_reads' HV4.out).2.1 (Kd.C_below HD3.out HB4.out) HLC.out HQ.out).mono ?_; rintro e w5 ⟨rfl, ⟨nd5, rfl⟩⟩)))
                    · have hq0 : q = false := by cases q <;> first | rfl | (rename_i hh; cases hh)
                      subst hq0
                      have hh := HH.out
                      rw [if_neg Bool.false_ne_true] at hh
                      obtain ⟨rfl, rfl, rfl⟩ : r1 = [] ∧ r2 = 0 ∧ r3 = 7 := by simp only [Option.some.injEq, Prod.mk.injEq] at hh; exact ⟨hh.1.symm, hh.2.1.symm, hh.2.2.symm⟩
                      go_ret3
                      exact ⟨_, rfl, Kd.R_nil _ _ _ _ _, pw_below_drewN HB4.out _⟩
                    · have hq0 : q = true := by cases q <;> first | rfl | (rename_i hh; cases hh)
                      subst hq0
                      have hh := HH.out
                      rw [if_pos rfl] at hh
                      obtain ⟨rfl, rfl, rfl⟩ : r1 = g1 ∧ r2 = (ju : Int) ∧ r3 = 0 := by simp only [Option.some.injEq, Prod.mk.injEq] at hh; exact ⟨hh.1.symm, hh.2.1.symm, hh.2.2.symm⟩
                      go_ret3
                      exact ⟨_, rfl, Kd.R_lower (Kd.R_drewN HO4.out _) HB1.out.size, pw_below_drewN HB4.out _⟩
              · obtain ⟨⟨g1, g2, g3⟩, hgk, h⟩ := Option.bind_eq_some_iff.mp h
                simp only at h
                rw [show (2 : Int).toNat = 2 from rfl] at hgk
                have HGK := Aside0.mk hgk
                clear hgk
                have HD := Aside0.mk (show Below w.heap.size w (w.alloc kindsB) from (Below.refl _ w).alloc (Nat.le_refl _) _)
                by_cases e6 : g3 ≠ 0
                · rw [if_pos e6] at h
                  obtain ⟨rfl, rfl, rfl⟩ : r1 = [] ∧ r2 = 0 ∧ r3 = g3 := by simp only [Option.some.injEq, Prod.mk.injEq] at h; exact ⟨h.1.symm, h.2.1.symm, h.2.2.symm⟩
                  have he6 : (r3 != 0) = true := bne_iff_ne.mpr e6
                  have he6' : (r3 == 0) = false := beq_eq_false_iff_ne.mpr e6
                  clear e6 h
                  go_enter Try.func25, Try.ntmps25
                  go_wp2_with (first
                    | (go_at_call 26; refine (runs_kinds.calls _).mono ?_; rintro e w1 ⟨rfl, rfl⟩)
                    | (go_at_call 35; refine (num_GetLen.calls A1 c1 y1 n m 0 _ (Kd.C_alloc (Kd.V_reads' HVB.out).2.2 _) (Kd.V_reads' HVB.out).2.1 HG.out).mono ?_; rintro e w2 ⟨rfl, ⟨nd, rfl⟩⟩))
                  obtain ⟨W1, hW1⟩ : ∃ W1, (w.alloc kindsB).drewN nd = W1 := ⟨_, rfl⟩
                  rw [hW1]
                  have HB1 := Aside0.mk (show Below w.heap.size w W1 from by rw [← hW1]; exact pw_below_drewN HD.out _)
                  have HK1 := Aside0.mk (show W1.heap[w.heap.size]? = some kindsB from by rw [← hW1]; exact World.alloc_heap_new w _)
                  clear hW1
                  have k1 := (kinds_cells HK1.out).2.2.2.2.2
                  have hb0 : W1.cell? ad = some (.int .u8 2) := (HB1.out.cell (World.block_lt_of_cell? w _ hx)).trans hx
                  go_region_with (go_at_call 42; go_loud (refine (runs_kinds_2.calls (k := k) (P0_ := fun k => k < w.heap.size) (A0 := A2) (c0 := c2) (l0 := y2) (a1 := n) (r1 := g1) (r2 := g2) (r3 := r3) (w := W1.drew) (Kd.V_drew (Kd.V_below HVC.out HB1.out)) HGK.out).mono ?_; rintro e w3 ⟨v3, u3, rfl, ho3, hv3, hb3⟩; have HO3 := Aside0.mk ho3; have HV3 := Aside0.mk hv3; have HB3 := Aside0.mk hb3; clear ho3 hv3 hb3))
                  go_wp2
                  go_ret3
                  exact ⟨_, rfl, Kd.R_nil _ _ _ _ _, HB1.out.trans ((below_from_drew HB3.out).mono HB1.out.size)⟩
                · rw [if_neg e6] at h
                  obtain rfl : g3 = 0 := by omega
                  clear e6
                  by_cases e7 : ¬ (g2.length ≤ l0.length)
                  · rw [if_pos e7] at h; cases h
                  · rw [if_neg e7] at h
                    obtain ⟨⟨en, ee⟩, hen, h⟩ := Option.bind_eq_some_iff.mp h
                    obtain ⟨q, hq, h⟩ := Option.bind_eq_some_iff.mp h
                    simp only at h hq hen
                    obtain ⟨ju, hju⟩ : ∃ j, j = l0.length - g2.length := ⟨_, rfl⟩
                    rw [← hju] at hq
                    rw [show (l0.length : Int) - (g2.length : Int) = (ju : Int) from by omega] at h
                    have hjul : ju ≤ l0.length := by omega
                    have hwu : wrap64 ((l0.length : Int) - (g2.length : Int)) = (ju : Int) := by have := HLEN.out; rw [wrap_id (by omega) (by omega)]; omega
                    obtain ⟨hcut3, HC3⟩ := cutT HR.out HC.out ju hjul
                    obtain ⟨y3, hy3⟩ : ∃ y, y = l0.take ju := ⟨_, rfl⟩
                    rw [← hy3] at hq hcut3 HC3
                    have hlc : y3.length ≤ c0 := by rw [hy3, List.length_take]; have := HC.out; omega
                    have HLC := Aside0.mk hlc
                    have HD3 := Aside0.mk HC3
                    have HEN := Aside0.mk hen
                    have HQ := Aside0.mk hq
                    have HJU := Aside0.mk hju
                    have HH := Aside0.mk h
                    clear HC3 hen hq hju hy3 h e7 hlc
                    go_enter Try.func25, Try.ntmps25
                    go_wp2_with (first
                      | (go_at_call 26; refine (runs_kinds.calls _).mono ?_; rintro e w1 ⟨rfl, rfl⟩)
                      | (go_at_call 35; refine (num_GetLen.calls A1 c1 y1 n m 0 _ (Kd.C_alloc (Kd.V_reads' HVB.out).2.2 _) (Kd.V_reads' HVB.out).2.1 HG.out).mono ?_; rintro e w2 ⟨rfl, ⟨nd, rfl⟩⟩))
                    obtain ⟨W1, hW1⟩ : ∃ W1, (w.alloc kindsB).drewN nd = W1 := ⟨_, rfl⟩
                    rw [hW1]
                    have HB1 := Aside0.mk (show Below w.heap.size w W1 from by rw [← hW1]; exact pw_below_drewN HD.out _)
                    have HK1 := Aside0.mk (show W1.heap[w.heap.size]? = some kindsB from by rw [← hW1]; exact World.alloc_heap_new w _)
                    clear hW1
                    have k1 := (kinds_cells HK1.out).2.2.2.2.2
                    have hb0 : W1.cell? ad = some (.int .u8 2) := (HB1.out.cell (World.block_lt_of_cell? w _ hx)).trans hx
                    go_region_with (go_at_call 42; go_loud (refine (runs_kinds_2.calls (k := k) (P0_ := fun k => k < w.heap.size) (A0 := A2) (c0 := c2) (l0 := y2) (a1 := n) (r1 := g1) (r2 := g2) (r3 := 0) (w := W1.drew) (Kd.V_drew (Kd.V_below HVC.out HB1.out)) HGK.out).mono ?_; rintro e w3 ⟨v3, u3, rfl, ho3, hv3, hb3⟩; obtain ⟨A4, c4, rfl⟩ := Kd.R_slice ho3; obtain ⟨A5, c5, rfl⟩ := Kd.V_slice hv3; have HO3 := Aside0.mk ho3; have HV3 := Aside0.mk hv3; have HB3 := Aside0.mk (HB1.out.trans ((below_from_drew hb3).mono HB1.out.size)); clear ho3 hv3 hb3))
                    go_wp2_with (first
                      | (go_at_call 10; go_loud (refine (runs_Encode.calls A4 c4 g1 en ee _ (Kd.R_reads' HO3.out).2.2 (Kd.R_reads' HO3.out).2.1 HEN.out).mono ?_; rintro e w4 ⟨v4, rfl, hv4, hb4⟩; obtain ⟨A6, c6, rfl⟩ := Kd.V_slice hv4; have HV4 := Aside0.mk hv4; have HB4 := Aside0.mk (HB3.out.trans (hb4.mono HB3.out.size)); have HO4 := Aside0.mk (Kd.R_below HO3.out hb4); clear hv4 hb4))
                      | (go_at_call 36; go_loud (refine (bytes_Equal.calls A6 c6 en (some ad) c0 y3 q _ (Kd.V_reads' HV4.out).2.2 (Kd.V_reads' HV4.out).2.1 (Kd.C_below HD3.out HB4.out) HLC.out HQ.out).mono ?_; rintro e w5 ⟨rfl, ⟨nd5, rfl⟩⟩)))
                    · have hq0 : q = false := by cases q <;> first | rfl | (rename_i hh; cases hh)
                      subst hq0
                      have hh := HH.out
                      rw [if_neg Bool.false_ne_true] at hh
                      obtain ⟨rfl, rfl, rfl⟩ : r1 = [] ∧ r2 = 0 ∧ r3 = 7 := by simp only [Option.some.injEq, Prod.mk.injEq] at hh; exact ⟨hh.1.symm, hh.2.1.symm, hh.2.2.symm⟩
                      go_ret3
                      exact ⟨_, rfl, Kd.R_nil _ _ _ _ _, pw_below_drewN HB4.out _⟩
                    · have hq0 : q = true := by cases q <;> first | rfl | (rename_i hh; cases hh)
                      subst hq0
                      have hh := HH.out
                      rw [if_pos rfl] at hh
                      obtain ⟨rfl, rfl, rfl⟩ : r1 = g1 ∧ r2 = (ju : Int) ∧ r3 = 0 := by simp only [Option.some.injEq, Prod.mk.injEq] at hh; exact ⟨hh.1.symm, hh.2.1.symm, hh.2.2.symm⟩
                      go_ret3
                      exact ⟨_, rfl, Kd.R_lower (Kd.R_drewN HO4.out _) HB1.out.size, pw_below_drewN HB4.out _⟩

end Go.Proofs.Ytnlfhjhdnompaaa.T
