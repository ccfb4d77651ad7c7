/- Journals by hand (chapter 14), part 2: Same, Made, Entries, the chapter's example, and statement JournalParts. -/
import Derived.Laws.Rows
import Derived.Laws.CopyOwn
import Derived.Deep.MidRow
import Derived.Deep.RegionHeld3
import Derived.Lib.SliceRun
import Derived.Deep.RegionLaw
import Derived.Deep.WholeRow
import Derived.Test.YtdcomcdbknniiaaHstep
import Derived.Test.YtdcomcdbknniiaaHmapint
import Derived.Test.YtdcomcdbknniiaaHopen
import Derived.Test.YtdcomcdbknniiaaHjournal14
import Derived.Test.YtdcomcdbknniiaaQx0
import Derived.Test.YtdcomcdbknniiaaQx1
import Derived.Test.YtdcomcdbknniiaaQx2
namespace Go.Proofs.Ytdcomcdbknniiaa.Q
open Go.RowKit Go.Proofs.YtdcomcdbknniiaaW.PrintWords Go.Proofs.YtdcomcdbknniiaaW.PrintLast Go.Proofs.YtdcomcdbknniiaaW.PrintMore
attribute [local go_sem] max2_int min2_int max_two min_two max_three min_three max_four min_four   -- for this text's walks alone
set_option linter.unusedVariables false
set_option linter.unusedSimpArgs false

-- SAYS Journals by hand (chapter 14), part 2: Same, Made, Entries, the chapter's example, and statement JournalParts.
-- FUNCS winnower/winnowerref14.Few
-- NEEDS journal_log_end.calls journal_part.calls journal_in.f journal_May.calls
-- IMPORT Derived.Laws.Rows
-- IMPORT Derived.Laws.CopyOwn
-- IMPORT Derived.Deep.MidRow
-- IMPORT Derived.Deep.RegionHeld3
-- IMPORT Derived.Lib.SliceRun
-- IMPORT Derived.Deep.RegionLaw
-- IMPORT Derived.Deep.WholeRow
-- IMPORT Derived.Test.YtdcomcdbknniiaaHstep
-- IMPORT Derived.Test.YtdcomcdbknniiaaHmapint
-- IMPORT Derived.Test.YtdcomcdbknniiaaHopen
-- IMPORT Derived.Test.YtdcomcdbknniiaaHjournal14
open Go.Proofs.Ytdcomcdbknniiaa.Hstep Go.Proofs.Ytdcomcdbknniiaa.Hmapint
attribute [local go_sem high] eqE_
set_option maxHeartbeats 8000000 in
set_option maxRecDepth 100000 in
theorem winnowerref14_Same.calls (J : List Log) (cs1 cs2 : List Value) (w : World) (hJ1 : JV w J cs1) (hJ2 : JV w J cs2) :
    Calls Try.prog 12 #[.agg cs1.toArray, .agg cs2.toArray] w fun e w' => e = .returned (.bool true) ∧ Below w.heap.size w w' := by
  have HJ1 := Aside0.mk hJ1
  have HJ2 := Aside0.mk hJ2
  have HN1 := Aside0.mk hJ1.len.2
  have HN2 := Aside0.mk hJ2.len.2
  clear hJ1 hJ2
  have HB := Aside0.mk (Below.refl w.heap.size w)
  have hu25 := Try.underlying25
  have hu32 := Try.underlying32
  go_enter Try.func12, Try.ntmps12
  go_wp2_with (first | ((with_reducible refine gate_dst (N := 2) rfl ?_); refine box_event ?hg (N := 2) ?hd (cs := cs1.toArray) (t := 27) ?hr ?_; (case hd => rfl); (case hg => rfl); (case hr => first | (go_simp; done) | (go_simp; rfl)); intro g hg w1 hbox hb; have BX := Aside0.mk hbox; have n0_ := Aside0.mk hb; clear HB; have HB := n0_; clear n0_ hb hbox hg) | ((with_reducible refine gate_dst (N := 3) rfl ?_); refine box_event ?hg (N := 3) ?hd (cs := cs2.toArray) (t := 27) ?hr ?_; (case hd => rfl); (case hg => rfl); (case hr => first | (go_simp; done) | (go_simp; rfl)); intro g2 hg w2 hbox hb; have BY := Aside0.mk hbox; have n0_ := Aside0.mk (below_step HB.out hb); have n1_ := Aside0.mk (blk_below BX.out hb); clear HB BX; have HB := n0_; have BX := n1_; clear n0_ n1_ hb hbox hg))
  go_loopg [5] 4 (fun m v5 wr => ∃ i : Nat, v5 = .int .i64 (i : Int) ∧ Aside0 (i + m = 4) ∧ Aside0 (Below w.heap.size w wr) ∧ Aside0 (wr.heap[g]? = some (.cells cs1.toArray 27 (0, 0))) ∧ Aside0 (wr.heap[g2]? = some (.cells cs2.toArray 27 (0, 0))))
  case atStart => exact ⟨0, rfl, ⟨rfl⟩, ⟨HB.out⟩, ⟨BX.out⟩, ⟨BY.out⟩⟩
  case round =>
    clear HB BX BY
    obtain ⟨i, rfl, HM, HB, BX, BY⟩ := hrel
    cases gk with
    | zero =>
      have hi : i = 4 := by have := HM.out; omega
      subst hi
      go_wp2
      go_ret
      exact ⟨rfl, HB.out⟩
    | succ m =>
      have hi : i < 4 := by have := HM.out; omega
      obtain ⟨A1, c1, a0, a1, a2, hle1, hC1⟩ := (HJ1.out).at_ i hi
      obtain ⟨A2, c2, b0, b1, b2, hle2, hC2⟩ := (HJ2.out).at_ i hi
      obtain ⟨p, hp⟩ : ∃ p, p = lg J i := ⟨_, rfl⟩
      rw [← hp] at a0 a1 a2 hle1 hC1 b0 b1 b2 hle2 hC2
      clear hp hle1 hle2
      have x0 := jcell BX.out (i * 3 + 0) (by simpa using a0)
      have x1 := jcell BX.out (i * 3 + 1) (by simpa using a1)
      have x2 := jcell BX.out (i * 3 + 2) (by simpa using a2)
      have y0 := jcell BY.out (i * 3 + 0) (by simpa using b0)
      have y1 := jcell BY.out (i * 3 + 1) (by simpa using b1)
      have y2 := jcell BY.out (i * 3 + 2) (by simpa using b2)
      rw [Nat.add_zero] at x0 y0
      have HC1 := Aside0.mk hC1
      have HC2 := Aside0.mk hC2
      have A0_ := Aside0.mk a2
      have B0_ := Aside0.mk b2
      clear a0 a1 a2 b0 b1 b2 hC1 hC2
      have q0 : (0 : Int) ≤ (i : Int) := by omega
      have q1 : (i : Int) < 4 := by omega
      have q2 : (p.1 != p.1) = false := bne_eq_false_iff_eq.mpr rfl
      have q3 : (p.2.1 != p.2.1) = false := bne_eq_false_iff_eq.mpr rfl
      have q4 : ((p.2.2.length : Int) != (p.2.2.length : Int)) = false := bne_eq_false_iff_eq.mpr rfl
      go_wp2_with fail
      go_quiet (fail)
      go_wp2_with fail
      clear x0 x1 x2 y0 y1 y2 q2 q3 q4
      go_loopg [6] p.2.2.length (fun m2 v6 wr2 => ∃ k : Nat, v6 = .int .i64 (k : Int) ∧ Aside0 (k + m2 = p.2.2.length) ∧ Aside0 (Below w.heap.size w wr2) ∧ Aside0 (wr2.heap[g]? = some (.cells cs1.toArray 27 (0, 0))) ∧ Aside0 (wr2.heap[g2]? = some (.cells cs2.toArray 27 (0, 0))))
      case atStart => exact ⟨0, rfl, ⟨by omega⟩, ⟨pw_below_drewN HB.out _⟩, ⟨BX.out⟩, ⟨BY.out⟩⟩
      case round =>
        clear HB BX BY
        obtain ⟨k, rfl, HK, HB, BX, BY⟩ := hrel
        have x2 := jcell BX.out (i * 3 + 2) (by simpa using A0_.out)
        have y2 := jcell BY.out (i * 3 + 2) (by simpa using B0_.out)
        cases gk with
        | zero =>
          have hk : k = p.2.2.length := by have := HK.out; omega
          have r1 : decide ((k : Int) < (p.2.2.length : Int)) = false := decide_eq_false (by omega)
          have r2 : decide (k < p.2.2.length) = false := decide_eq_false (by omega)
          clear hk
          go_wp2
          go_roundg m
          case measure => omega
          case rel => exact ⟨i + 1, by rw [show ((i + 1 : Nat) : Int) = (i : Int) + 1 from by omega], ⟨by have := HM.out; omega⟩, ⟨HB.out⟩, ⟨BX.out⟩, ⟨BY.out⟩⟩
        | succ m2 =>
          have hk : k < p.2.2.length := by have := HK.out; omega
          have hkI : (k : Int) < (p.2.2.length : Int) := by omega
          have r1 : decide ((k : Int) < (p.2.2.length : Int)) = true := decide_eq_true hkI
          have r3 : (0 : Int) ≤ (k : Int) := by omega
          obtain ⟨ad1, e1, u0, u1, u2, u3, u4, u5, u6⟩ := at_T32 (Kd.C_below HC1.out HB.out) (k : Int) r3 hkI
          obtain ⟨ad2, e2, v0, v1, v2, v3, v4, v5, v6⟩ := at_T32 (Kd.C_below HC2.out HB.out) (k : Int) r3 hkI
          cases e1
          cases e2
          rw [Int.toNat_natCast] at u0 u1 u2 u3 u4 u5 u6 v0 v1 v2 v3 v4 v5 v6
          generalize rd_T32 p.2.2 (k : Int) = z at u0 u1 u2 u3 u4 u5 u6 v0 v1 v2 v3 v4 v5 v6
          go_wp2_with fail
          go_quiet (fail)
          go_wp2
          go_roundg m2
          case measure => omega
          case rel => exact ⟨k + 1, by rw [show ((k + 1 : Nat) : Int) = (k : Int) + 1 from by omega, wrapI (by omega) (by have := HC1.out.2.1; omega)], ⟨by have := HK.out; omega⟩, ⟨pw_below_drewN HB.out _⟩, ⟨BX.out⟩, ⟨BY.out⟩⟩
theorem JV.open_ {w : World} {J : List Log} {cs : List Value} (h : JV w J cs) : ∃ a0 b0 A0 n0 c0 a1 b1 A1 n1 c1 a2 b2 A2 n2 c2 a3 b3 A3 n3 c3, cs = [.int .i64 a0, .int .i64 b0, .slice A0 n0 c0, .int .i64 a1, .int .i64 b1, .slice A1 n1 c1, .int .i64 a2, .int .i64 b2, .slice A2 n2 c2, .int .i64 a3, .int .i64 b3, .slice A3 n3 c3] := by
  obtain ⟨hJ, hcs⟩ := h.len
  obtain ⟨A0, c0, x0, y0, z0, _, _⟩ := h.at_ 0 (by decide)
  obtain ⟨A1, c1, x1, y1, z1, _, _⟩ := h.at_ 1 (by decide)
  obtain ⟨A2, c2, x2, y2, z2, _, _⟩ := h.at_ 2 (by decide)
  obtain ⟨A3, c3, x3, y3, z3, _, _⟩ := h.at_ 3 (by decide)
  refine ⟨(lg J 0).1, (lg J 0).2.1, A0, (lg J 0).2.2.length, c0, (lg J 1).1, (lg J 1).2.1, A1, (lg J 1).2.2.length, c1, (lg J 2).1, (lg J 2).2.1, A2, (lg J 2).2.2.length, c2, (lg J 3).1, (lg J 3).2.1, A3, (lg J 3).2.2.length, c3, ?_⟩
  apply List.ext_getElem?
  intro j
  by_cases hj : j < 12
  · obtain rfl | rfl | rfl | rfl | rfl | rfl | rfl | rfl | rfl | rfl | rfl | rfl : j = 0 ∨ j = 1 ∨ j = 2 ∨ j = 3 ∨ j = 4 ∨ j = 5 ∨ j = 6 ∨ j = 7 ∨ j = 8 ∨ j = 9 ∨ j = 10 ∨ j = 11 := by omega
    · exact x0
    · exact y0
    · exact z0
    · exact x1
    · exact y1
    · exact z1
    · exact x2
    · exact y2
    · exact z2
    · exact x3
    · exact y3
    · exact z3
  · rw [List.getElem?_eq_none (by omega), List.getElem?_eq_none (by simp; omega)]
def madeJ : List Log → List S32 → List Log × Bool
  | J, [] => (J, true)
  | J, x :: t => if (applyJ J x).2 = 0 then madeJ (applyJ J x).1 t else (J, false)
def fewN (n : Nat) (J : List Log) : Prop := ∀ i, i < 4 → (lg J i).2.2.length ≤ n
theorem lg_set {J : List Log} {i k : Nat} {q : Log} (hi : i < J.length) : lg (J.set i q) k = if k = i then q else lg J k := by
  unfold lg
  rw [List.getD_eq_getElem?_getD, List.getD_eq_getElem?_getD]
  by_cases h : k = i
  · subst h
    rw [if_pos rfl, List.getElem?_set_self hi]
    rfl
  · rw [if_neg h, List.getElem?_set_ne (fun e => h e.symm)]
theorem lg_J0 (i : Nat) (h : i < 4) : lg J0 i = (0, 0, []) := by
  obtain rfl | rfl | rfl | rfl : i = 0 ∨ i = 1 ∨ i = 2 ∨ i = 3 := by omega
  all_goals rfl
theorem few0 (n : Nat) : fewN n J0 := fun i hi => by rw [lg_J0 i hi]; simp
theorem applyL_len {p q : Log} {x : S32} (h : applyL p x = some q) : q.2.2.length ≤ p.2.2.length + 1 := by
  unfold applyL at h
  split at h
  · unfold step1 at h
    split at h
    · injection h with h; subst h; simp
    · exact absurd h (by simp)
  · split at h
    · unfold step2 at h
      split at h
      · exact absurd h (by simp)
      · rename_i y t e
        split at h
        · injection h with h; subst h; rw [e]; simp; omega
        · exact absurd h (by simp)
    · unfold step3 at h
      split at h
      · injection h with h; subst h; simp
      · exact absurd h (by simp)
theorem applyJ_len {J : List Log} (x : S32) (h : J.length = 4) : (applyJ J x).1.length = 4 := by
  unfold applyJ
  split
  · split
    · rfl
    · simpa using h
  · rfl
theorem applyJ_few {J : List Log} (x : S32) {n : Nat} (hJ : J.length = 4) (h : fewN n J) : fewN (n + 1) (applyJ J x).1 := by
  unfold applyJ
  split
  · rename_i hm
    obtain ⟨_, h0, h1⟩ := mayE_parts hm
    split
    · exact few0 _
    · rename_i q hq
      intro i hi
      rw [lg_set (by omega)]
      split
      · have := applyL_len hq
        have := h x.f1.toNat (by omega)
        omega
      · have := h i hi
        omega
  · exact few0 _
/-- Twelve stores into a row of twelve. -/
theorem nest12 (w : World) (g : Nat) (t : TypeId) (z0 z1 z2 z3 z4 z5 z6 z7 z8 z9 z10 z11 v0 v1 v2 v3 v4 v5 v6 v7 v8 v9 v10 v11 : Value) (h : w.heap[g]? = some (.cells #[z0, z1, z2, z3, z4, z5, z6, z7, z8, z9, z10, z11] t (0, 0))) : ∃ W, W = ((((((((((((w.setCell ⟨g, 0, none⟩ v0).setCell ⟨g, 1, none⟩ v1).setCell ⟨g, 2, none⟩ v2).setCell ⟨g, 3, none⟩ v3).setCell ⟨g, 4, none⟩ v4).setCell ⟨g, 5, none⟩ v5).setCell ⟨g, 6, none⟩ v6).setCell ⟨g, 7, none⟩ v7).setCell ⟨g, 8, none⟩ v8).setCell ⟨g, 9, none⟩ v9).setCell ⟨g, 10, none⟩ v10).setCell ⟨g, 11, none⟩ v11) ∧ W.heap[g]? = some (.cells #[v0, v1, v2, v3, v4, v5, v6, v7, v8, v9, v10, v11] t (0, 0)) ∧ Step g w W := by
  refine ⟨_, rfl, ?_, (Step.set_ (Step.set_ (Step.set_ (Step.set_ (Step.set_ (Step.set_ (Step.set_ (Step.set_ (Step.set_ (Step.set_ (Step.set_ (Step.set_ (Step.refl g w) 0 v0) 1 v1) 2 v2) 3 v3) 4 v4) 5 v5) 6 v6) 7 v7) 8 v8) 9 v9) 10 v10) 11 v11)⟩
  have h_ := (blk_set (blk_set (blk_set (blk_set (blk_set (blk_set (blk_set (blk_set (blk_set (blk_set (blk_set (blk_set h 0 v0) 1 v1) 2 v2) 3 v3) 4 v4) 5 v5) 6 v6) 7 v7) 8 v8) 9 v9) 10 v10) 11 v11)
  simp only [List.setIfInBounds_toArray, List.set_cons_zero, List.set_cons_succ] at h_
  exact h_
set_option maxHeartbeats 8000000 in
set_option maxRecDepth 100000 in
theorem winnowerlaw14_Made.calls (l : List S32) (A : Option Addr) (c : Nat) (J' : List Log) (b : Bool) (w : World) (hr : Kd.C k32 w A l.length l) (hl : l.length ≤ 1000) (h : madeJ J0 l = (J', b)) :
    Calls Try.prog 10 #[.slice A l.length c] w fun e w' => ∃ cs', e = .returned (.tuple #[.agg (List.toArray cs'), .bool b]) ∧ JV w' J' cs' ∧ Below w.heap.size w w' := by
  have HB := Aside0.mk (Below.refl w.heap.size w)
  have HR := Aside0.mk hr
  have HL := Aside0.mk hl
  have HM := Aside0.mk h
  clear hr hl h
  have hu25 := Try.underlying25
  have hu32 := Try.underlying32
  have hu27 := Try.underlying27
  go_enter Try.func10, Try.ntmps10
  go_wp2_with (first | ((with_reducible refine gate_dst (N := 2) rfl ?_); refine box_event ?hg (N := 2) ?hd (cs := #[.int .i64 0, .int .i64 0, .slice none 0 0, .int .i64 0, .int .i64 0, .slice none 0 0, .int .i64 0, .int .i64 0, .slice none 0 0, .int .i64 0, .int .i64 0, .slice none 0 0]) (t := 27) ?hr ?_; (case hd => rfl); (case hg => rfl); (case hr => first | (go_simp; done) | (go_simp; rfl)); intro g2 hg w1 hbox hb; have B2 := Aside0.mk hbox; have GE2 := Aside0.mk (show w.heap.size ≤ g2 by (rw [hg]; exact HB.out.size)); have n0_ := Aside0.mk (below_step HB.out hb); clear HB; have HB := n0_; clear n0_ hb hbox hg) | ((with_reducible refine gate_dst (N := 4) rfl ?_); refine box_event ?hg (N := 4) ?hd (cs := #[.int .i64 0, .int .i64 0, .slice none 0 0, .int .i64 0, .int .i64 0, .slice none 0 0, .int .i64 0, .int .i64 0, .slice none 0 0, .int .i64 0, .int .i64 0, .slice none 0 0]) (t := 27) ?hr ?_; (case hd => rfl); (case hg => rfl); (case hr => first | (go_simp; done) | (go_simp; rfl)); intro g4 hg w2 hbox hb; have B4 := Aside0.mk hbox; have GE4 := Aside0.mk (show w.heap.size ≤ g4 by (rw [hg]; exact HB.out.size)); have HN := Aside0.mk (show g2 ≠ g4 by (rw [hg]; exact Nat.ne_of_lt (blk_lt B2.out))); have n0_ := Aside0.mk (below_step HB.out hb); have n1_ := Aside0.mk (blk_below B2.out hb); clear HB B2; have HB := n0_; have B2 := n1_; clear n0_ n1_ hb hbox hg) | ((with_reducible refine gate_ (.store 27 (.tmp 4) (.tmp 8)) rfl ?_); go_loud (refine wpList_storeR rfl rfl 27 (.tmp 4) (.tmp 8) rfl g4 0 rfl (.agg #[.int .i64 0, .int .i64 0, .slice none 0 0, .int .i64 0, .int .i64 0, .slice none 0 0, .int .i64 0, .int .i64 0, .slice none 0 0, .int .i64 0, .int .i64 0, .slice none 0 0]) rfl [.int .i64 0, .int .i64 0, .slice none 0 0, .int .i64 0, .int .i64 0, .slice none 0 0, .int .i64 0, .int .i64 0, .slice none 0 0, .int .i64 0, .int .i64 0, .slice none 0 0] rfl #[.int .i64 0, .int .i64 0, .slice none 0 0, .int .i64 0, .int .i64 0, .slice none 0 0, .int .i64 0, .int .i64 0, .slice none 0 0, .int .i64 0, .int .i64 0, .slice none 0 0] 27 B4.out size27 (by simp) (by simp [Value.oneCell']) #[.int .i64 0, .int .i64 0, .slice none 0 0, .int .i64 0, .int .i64 0, .slice none 0 0, .int .i64 0, .int .i64 0, .slice none 0 0, .int .i64 0, .int .i64 0, .slice none 0 0] rfl ?_); intro w3 hs st; have n0_ := Aside0.mk (st.fresh HB.out GE4.out); have n1_ := Aside0.mk (st.blk B2.out HN.out); clear HB B2 B4; have HB := n0_; have B2 := n1_; have B4 := Aside0.mk hs; clear n0_ n1_ hs st))
  go_loopg [5] l.length (fun m v5 wr => ∃ (k : Nat) (J : List Log) (cs : List Value), v5 = .int .i64 (k : Int) ∧ Aside0 (k + m = l.length) ∧ Aside0 (JVF wr (fun k_ => k_ ≠ g2 ∧ k_ ≠ g4) J cs) ∧ Aside0 (fewN k J) ∧ Aside0 (madeJ J (l.drop k) = (J', b)) ∧ Aside0 (Below w.heap.size w wr) ∧ Aside0 (wr.heap[g2]? = some (.cells #[.int .i64 0, .int .i64 0, .slice none 0 0, .int .i64 0, .int .i64 0, .slice none 0 0, .int .i64 0, .int .i64 0, .slice none 0 0, .int .i64 0, .int .i64 0, .slice none 0 0] 27 (0, 0))) ∧ Aside0 (wr.heap[g4]? = some (.cells cs.toArray 27 (0, 0))))
  case atStart => exact ⟨0, J0, cs0, rfl, ⟨by omega⟩, ⟨JVF.zero _ _⟩, ⟨few0 0⟩, ⟨HM.out⟩, ⟨HB.out⟩, ⟨B2.out⟩, ⟨B4.out⟩⟩
  case round =>
    clear HB B2 B4 HM
    obtain ⟨k, J, cs, rfl, HK, HJ, HF, HM, HB, B2, B4⟩ := hrel
    cases gk with
    | zero =>
      have hk : k = l.length := by have := HK.out; omega
      have r1 : decide ((k : Int) < (l.length : Int)) = false := decide_eq_false (by omega)
      have r2 : decide (k < l.length) = false := decide_eq_false (by omega)
      have hm := HM.out
      rw [hk, List.drop_length] at hm
      obtain ⟨rfl, rfl⟩ := Prod.mk.inj hm
      clear hm hk
      have hl12 := Aside0.mk (HJ.out.now.len.2)
      go_wp2_with (first | ((with_reducible refine gate_dst (N := 28) rfl ?_); go_loud (refine wpList_load_row rfl 27 (.tmp 4) rfl g4 rfl 27 cs.toArray (0, 0) _ B4.out hu27 rfl (by rw [size27, List.size_toArray, hl12.out]) ?_)) | ((with_reducible refine gate_ (.store 27 (.tmp 2) (.tmp 28)) rfl ?_); go_loud (refine wpList_storeR rfl rfl 27 (.tmp 2) (.tmp 28) rfl g2 0 rfl (.agg cs.toArray) rfl cs rfl #[.int .i64 0, .int .i64 0, .slice none 0 0, .int .i64 0, .int .i64 0, .slice none 0 0, .int .i64 0, .int .i64 0, .slice none 0 0, .int .i64 0, .int .i64 0, .slice none 0 0] 27 B2.out (by rw [size27, hl12.out]) (by rw [hl12.out]; decide) (Kd.K_one _ HJ.out.now) cs.toArray (by rw [hl12.out]; simp) ?_); intro w3 hs st; have n0_ := Aside0.mk (st.fresh HB.out GE2.out); have HF2 := Aside0.mk (HJ.out.keep st (fun k_ hk_ => hk_.1)); clear HB B2; have HB := n0_; have B2 := Aside0.mk hs; clear n0_ hs st))
      (try simp only [Exit.inBlock, Exit.then])
      refine bodyPost_ret (results_row_tmp rfl _ _ g2 27 cs.toArray (0, 0) _ (.bool true) rfl rfl B2.out hu27 rfl (by rw [size27, List.size_toArray, hl12.out])) rfl ?_
      exact ⟨cs, rfl, HF2.out.now, HB.out⟩

    | succ m =>
      have hk : k < l.length := by have := HK.out; omega
      have hkI : (k : Int) < (l.length : Int) := by omega
      have r1 : decide ((k : Int) < (l.length : Int)) = true := decide_eq_true hkI
      have r2 : decide (k < l.length) = true := decide_eq_true hk
      have r3 : (0 : Int) ≤ (k : Int) := by omega
      obtain ⟨ad, e1, x0, x1, x2, x3, x4, x5, x6⟩ := at_T32 (Kd.C_below HR.out HB.out) (k : Int) r3 hkI
      cases e1
      rw [Int.toNat_natCast] at x0 x1 x2 x3 x4 x5 x6
      have hd : l.drop k = rd_T32 l (k : Int) :: l.drop (k + 1) := by
        have hg : l[k]? = some (rd_T32 l (k : Int)) := by
          unfold rd_T32
          rw [Int.toNat_natCast, List.getD_eq_getElem?_getD, List.getElem?_eq_getElem hk]
          rfl
        rw [List.drop_eq_getElem_cons hk]
        congr 1
        rw [List.getElem?_eq_getElem hk] at hg
        exact Option.some.inj hg
      have hm := HM.out
      rw [hd] at hm
      generalize rd_T32 l (k : Int) = x at x0 x1 x2 x3 x4 x5 x6 hm
      rw [madeJ] at hm
      clear hd HM
      have HM := Aside0.mk hm
      clear hm
      obtain ⟨J2, er, ha⟩ : ∃ J2 er, applyJ J x = (J2, er) := ⟨_, _, rfl⟩
      have HA := Aside0.mk ha
      rw [ha] at HM
      have HJ2L := Aside0.mk (show J2.length = 4 by have := applyJ_len x HJ.out.now.len.1; rw [ha] at this; exact this)
      have HF2 := Aside0.mk (show fewN (k + 1) J2 by have := applyJ_few x HJ.out.now.len.1 HF.out; rw [ha] at this; exact this)
      clear ha
      obtain ⟨a0, b0, A0, n0, c0, a1, b1, A1, n1, c1, a2, b2, A2, n2, c2, a3, b3, A3, n3, c3, hcs⟩ := JV.open_ HJ.out.now
      subst hcs
      go_wp2_with fail
      have HSS : Aside0 (∀ W0 : World, Below wr.heap.size wr W0 → (W0.cell? ⟨g4, 0, none⟩ = some (.int .i64 a0) ∧ W0.cell? ⟨g4, 1, none⟩ = some (.int .i64 b0) ∧ W0.cell? ⟨g4, 2, none⟩ = some (.slice A0 n0 c0) ∧ W0.cell? ⟨g4, 3, none⟩ = some (.int .i64 a1) ∧ W0.cell? ⟨g4, 4, none⟩ = some (.int .i64 b1) ∧ W0.cell? ⟨g4, 5, none⟩ = some (.slice A1 n1 c1) ∧ W0.cell? ⟨g4, 6, none⟩ = some (.int .i64 a2) ∧ W0.cell? ⟨g4, 7, none⟩ = some (.int .i64 b2) ∧ W0.cell? ⟨g4, 8, none⟩ = some (.slice A2 n2 c2) ∧ W0.cell? ⟨g4, 9, none⟩ = some (.int .i64 a3) ∧ W0.cell? ⟨g4, 10, none⟩ = some (.int .i64 b3) ∧ W0.cell? ⟨g4, 11, none⟩ = some (.slice A3 n3 c3) ∧ W0.cell? (ad.add (k * 7)) = some (.int .i64 x.f0) ∧ W0.cell? ⟨(ad.add (k * 7)).block, (ad.add (k * 7)).off + 1, none⟩ = some (.int .i64 x.f1) ∧ W0.cell? ⟨(ad.add (k * 7)).block, (ad.add (k * 7)).off + 2, none⟩ = some (.int .i64 x.f2) ∧ W0.cell? ⟨(ad.add (k * 7)).block, (ad.add (k * 7)).off + 3, none⟩ = some (.int .i64 x.f3) ∧ W0.cell? ⟨(ad.add (k * 7)).block, (ad.add (k * 7)).off + 4, none⟩ = some (.int .i64 x.f4) ∧ W0.cell? ⟨(ad.add (k * 7)).block, (ad.add (k * 7)).off + 5, none⟩ = some (.int .i64 x.f5) ∧ W0.cell? ⟨(ad.add (k * 7)).block, (ad.add (k * 7)).off + 6, none⟩ = some (.int .i64 x.f6) ∧ Below wr.heap.size wr W0)) := Aside0.mk (fun W0 hbq => ⟨(blk_cell (blk_below B4.out hbq) 0).trans rfl, (blk_cell (blk_below B4.out hbq) 1).trans rfl, (blk_cell (blk_below B4.out hbq) 2).trans rfl, (blk_cell (blk_below B4.out hbq) 3).trans rfl, (blk_cell (blk_below B4.out hbq) 4).trans rfl, (blk_cell (blk_below B4.out hbq) 5).trans rfl, (blk_cell (blk_below B4.out hbq) 6).trans rfl, (blk_cell (blk_below B4.out hbq) 7).trans rfl, (blk_cell (blk_below B4.out hbq) 8).trans rfl, (blk_cell (blk_below B4.out hbq) 9).trans rfl, (blk_cell (blk_below B4.out hbq) 10).trans rfl, (blk_cell (blk_below B4.out hbq) 11).trans rfl, pw_cell_below hbq x0, pw_cell_below hbq x1, pw_cell_below hbq x2, pw_cell_below hbq x3, pw_cell_below hbq x4, pw_cell_below hbq x5, pw_cell_below hbq x6, hbq⟩)
      go_region_held3 (fun W0 : World => W0.cell? ⟨g4, 0, none⟩ = some (.int .i64 a0) ∧ W0.cell? ⟨g4, 1, none⟩ = some (.int .i64 b0) ∧ W0.cell? ⟨g4, 2, none⟩ = some (.slice A0 n0 c0) ∧ W0.cell? ⟨g4, 3, none⟩ = some (.int .i64 a1) ∧ W0.cell? ⟨g4, 4, none⟩ = some (.int .i64 b1) ∧ W0.cell? ⟨g4, 5, none⟩ = some (.slice A1 n1 c1) ∧ W0.cell? ⟨g4, 6, none⟩ = some (.int .i64 a2) ∧ W0.cell? ⟨g4, 7, none⟩ = some (.int .i64 b2) ∧ W0.cell? ⟨g4, 8, none⟩ = some (.slice A2 n2 c2) ∧ W0.cell? ⟨g4, 9, none⟩ = some (.int .i64 a3) ∧ W0.cell? ⟨g4, 10, none⟩ = some (.int .i64 b3) ∧ W0.cell? ⟨g4, 11, none⟩ = some (.slice A3 n3 c3) ∧ W0.cell? (ad.add (k * 7)) = some (.int .i64 x.f0) ∧ W0.cell? ⟨(ad.add (k * 7)).block, (ad.add (k * 7)).off + 1, none⟩ = some (.int .i64 x.f1) ∧ W0.cell? ⟨(ad.add (k * 7)).block, (ad.add (k * 7)).off + 2, none⟩ = some (.int .i64 x.f2) ∧ W0.cell? ⟨(ad.add (k * 7)).block, (ad.add (k * 7)).off + 3, none⟩ = some (.int .i64 x.f3) ∧ W0.cell? ⟨(ad.add (k * 7)).block, (ad.add (k * 7)).off + 4, none⟩ = some (.int .i64 x.f4) ∧ W0.cell? ⟨(ad.add (k * 7)).block, (ad.add (k * 7)).off + 5, none⟩ = some (.int .i64 x.f5) ∧ W0.cell? ⟨(ad.add (k * 7)).block, (ad.add (k * 7)).off + 6, none⟩ = some (.int .i64 x.f6) ∧ Below wr.heap.size wr W0) (exact HSS.out _ (by repeat (first | (with_reducible exact HB5.out)  | (with_reducible exact Below.refl _ _) | (with_reducible apply below_alloc) | (with_reducible apply pw_below_drewN) | (with_reducible apply below_drew1) | (with_reducible refine below_set ?_ (by first | exact HB5.out.size | exact Nat.le_refl _))))) (first
        | (go_at_call 7; refine (journal_Apply.calls J J2 [.int .i64 a0, .int .i64 b0, .slice A0 n0 c0, .int .i64 a1, .int .i64 b1, .slice A1 n1 c1, .int .i64 a2, .int .i64 b2, .slice A2 n2 c2, .int .i64 a3, .int .i64 b3, .slice A3 n3 c3] x er (fun k_ => (k_ ≠ g2 ∧ k_ ≠ g4) ∧ k_ < wr.heap.size) _ ?hj ?hl HA.out).mono ?_; (case hj => exact HJ.out.below (by go_split_ands; assumption)); (case hl => exact (fun i hi => by have := HF.out i hi; have := HL.out; omega)); rintro e w5 ⟨cs5, rfl, hj5, hb5⟩; have HB5 := Aside0.mk (show Below wr.heap.size wr w5 from below_step (by go_split_ands; assumption) hb5); (try (have B6_ := Aside0.mk (blk_below (o := .cells #[.int .i64 0, .int .i64 0, .slice none 0 0, .int .i64 0, .int .i64 0, .slice none 0 0, .int .i64 0, .int .i64 0, .slice none 0 0, .int .i64 0, .int .i64 0, .slice none 0 0] 27 (0, 0)) (g := wr.heap.size) (by first | exact heap_alloc_last _ _ | exact heap_alloc_last wr.drew _) hb5); have hq0 : w5.cell? ⟨wr.heap.size, 0, none⟩ = some (.int .i64 0) := (blk_cell B6_.out 0).trans rfl; have fq0 := blk_frozen B6_.out 0; have hq1 : w5.cell? ⟨wr.heap.size, 1, none⟩ = some (.int .i64 0) := (blk_cell B6_.out 1).trans rfl; have fq1 := blk_frozen B6_.out 1; have hq2 : w5.cell? ⟨wr.heap.size, 2, none⟩ = some (.slice none 0 0) := (blk_cell B6_.out 2).trans rfl; have fq2 := blk_frozen B6_.out 2; have hq3 : w5.cell? ⟨wr.heap.size, 3, none⟩ = some (.int .i64 0) := (blk_cell B6_.out 3).trans rfl; have fq3 := blk_frozen B6_.out 3; have hq4 : w5.cell? ⟨wr.heap.size, 4, none⟩ = some (.int .i64 0) := (blk_cell B6_.out 4).trans rfl; have fq4 := blk_frozen B6_.out 4; have hq5 : w5.cell? ⟨wr.heap.size, 5, none⟩ = some (.slice none 0 0) := (blk_cell B6_.out 5).trans rfl; have fq5 := blk_frozen B6_.out 5; have hq6 : w5.cell? ⟨wr.heap.size, 6, none⟩ = some (.int .i64 0) := (blk_cell B6_.out 6).trans rfl; have fq6 := blk_frozen B6_.out 6; have hq7 : w5.cell? ⟨wr.heap.size, 7, none⟩ = some (.int .i64 0) := (blk_cell B6_.out 7).trans rfl; have fq7 := blk_frozen B6_.out 7; have hq8 : w5.cell? ⟨wr.heap.size, 8, none⟩ = some (.slice none 0 0) := (blk_cell B6_.out 8).trans rfl; have fq8 := blk_frozen B6_.out 8; have hq9 : w5.cell? ⟨wr.heap.size, 9, none⟩ = some (.int .i64 0) := (blk_cell B6_.out 9).trans rfl; have fq9 := blk_frozen B6_.out 9; have hq10 : w5.cell? ⟨wr.heap.size, 10, none⟩ = some (.int .i64 0) := (blk_cell B6_.out 10).trans rfl; have fq10 := blk_frozen B6_.out 10; have hq11 : w5.cell? ⟨wr.heap.size, 11, none⟩ = some (.slice none 0 0) := (blk_cell B6_.out 11).trans rfl; have fq11 := blk_frozen B6_.out 11)); obtain ⟨a0_, b0_, A0_, n0_, c0_, a1_, b1_, A1_, n1_, c1_, a2_, b2_, A2_, n2_, c2_, a3_, b3_, A3_, n3_, c3_, hcs5⟩ := JV.open_ hj5.now; subst hcs5; have HJ5 := Aside0.mk hj5; clear hj5))

      · obtain ⟨W6, hW6, b6, st0⟩ : ∃ W, W = w5.alloc (.cells #[.int .i64 a0_, .int .i64 b0_, .slice A0_ n0_ c0_, .int .i64 a1_, .int .i64 b1_, .slice A1_ n1_ c1_, .int .i64 a2_, .int .i64 b2_, .slice A2_ n2_ c2_, .int .i64 a3_, .int .i64 b3_, .slice A3_ n3_ c3_] 27) ∧ W.heap[w5.heap.size]? = some (.cells #[.int .i64 a0_, .int .i64 b0_, .slice A0_ n0_ c0_, .int .i64 a1_, .int .i64 b1_, .slice A1_ n1_ c1_, .int .i64 a2_, .int .i64 b2_, .slice A2_ n2_ c2_, .int .i64 a3_, .int .i64 b3_, .slice A3_ n3_ c3_] 27 (0, 0)) ∧ Step w5.heap.size w5 W := ⟨_, rfl, heap_alloc_last w5 _, Step.of_below (below_alloc (Below.refl w5.heap.size w5) _)⟩
        have B6 := Aside0.mk b6
        have ST := Aside0.mk (show Step w5.heap.size w5 W6 from st0)
        have HBW := Aside0.mk (show Below wr.heap.size wr W6 from ST.out.fresh HB5.out HB5.out.size)
        have HJ6 : Aside0 (JVF W6 (fun k_ => k_ ≠ g2 ∧ k_ ≠ g4) J2 [.int .i64 a0_, .int .i64 b0_, .slice A0_ n0_ c0_, .int .i64 a1_, .int .i64 b1_, .slice A1_ n1_ c1_, .int .i64 a2_, .int .i64 b2_, .slice A2_ n2_ c2_, .int .i64 a3_, .int .i64 b3_, .slice A3_ n3_ c3_]) := Aside0.mk ((HJ5.out.bound.keep ST.out (fun k_ hk_ => Nat.ne_of_lt hk_.2)).mono (fun k_ hk_ => by have h2_ := blk_lt B2.out; have h4_ := blk_lt B4.out; rcases hk_.1 with h_ | h_; exact h_.1.1; have h7_ : wr.heap.size ≤ k_ := Nat.le_trans (by first | exact Nat.le_refl _ | simp) h_; exact ⟨by omega, by omega⟩))
        have NG : Aside0 (g4 ≠ w5.heap.size) := Aside0.mk (by have h_ := blk_lt B4.out; have h5_ := HB5.out.size; omega)
        rw [← hW6]
        clear hW6 b6 st0
        generalize w5.heap.size = g6 at B6 NG ⊢
        clear ST HJ5 HB5
        have B26 := Aside0.mk (blk_below B2.out HBW.out)
        have B46 := Aside0.mk (blk_below B4.out HBW.out)
        have HBB := Aside0.mk (below_step HB.out HBW.out)
        have HJO := Aside0.mk ((HJ.out.below HBW.out).mono (fun k_ hk_ => hk_.1))
        clear HB B2 B4 HBW
        by_cases he : er = 0
        · subst he
          have hm := HM.out
          simp only [if_pos] at hm
          clear HM
          have HM := Aside0.mk hm
          clear hm
          go_wp2_with (first | ((with_reducible refine gate_dst (N := 27) rfl ?_); go_loud (refine wpList_load_row rfl 27 (.tmp 6) rfl g6 rfl 27 #[.int .i64 a0_, .int .i64 b0_, .slice A0_ n0_ c0_, .int .i64 a1_, .int .i64 b1_, .slice A1_ n1_ c1_, .int .i64 a2_, .int .i64 b2_, .slice A2_ n2_ c2_, .int .i64 a3_, .int .i64 b3_, .slice A3_ n3_ c3_] (0, 0) _ B6.out hu27 rfl size27 ?_)) | ((with_reducible refine gate_ (.store 27 (.tmp 4) (.tmp 27)) rfl ?_); go_loud (refine wpList_storeR rfl rfl 27 (.tmp 4) (.tmp 27) rfl g4 0 rfl (.agg #[.int .i64 a0_, .int .i64 b0_, .slice A0_ n0_ c0_, .int .i64 a1_, .int .i64 b1_, .slice A1_ n1_ c1_, .int .i64 a2_, .int .i64 b2_, .slice A2_ n2_ c2_, .int .i64 a3_, .int .i64 b3_, .slice A3_ n3_ c3_]) rfl [.int .i64 a0_, .int .i64 b0_, .slice A0_ n0_ c0_, .int .i64 a1_, .int .i64 b1_, .slice A1_ n1_ c1_, .int .i64 a2_, .int .i64 b2_, .slice A2_ n2_ c2_, .int .i64 a3_, .int .i64 b3_, .slice A3_ n3_ c3_] rfl #[.int .i64 a0, .int .i64 b0, .slice A0 n0 c0, .int .i64 a1, .int .i64 b1, .slice A1 n1 c1, .int .i64 a2, .int .i64 b2, .slice A2 n2 c2, .int .i64 a3, .int .i64 b3, .slice A3 n3 c3] 27 B46.out size27 (by simp) (by simp [Value.oneCell']) #[.int .i64 a0_, .int .i64 b0_, .slice A0_ n0_ c0_, .int .i64 a1_, .int .i64 b1_, .slice A1_ n1_ c1_, .int .i64 a2_, .int .i64 b2_, .slice A2_ n2_ c2_, .int .i64 a3_, .int .i64 b3_, .slice A3_ n3_ c3_] rfl ?_); intro w8 hs st; have B48 := Aside0.mk hs; have B28 := Aside0.mk (st.blk B26.out HN.out); have HB8 := Aside0.mk (st.fresh HBB.out GE4.out); have HJ8 := Aside0.mk (HJ6.out.keep st (fun k_ hk_ => hk_.2)); clear hs st))
          go_roundg m
          case measure => omega
          case rel => exact ⟨k + 1, J2, _, by rw [show ((k + 1 : Nat) : Int) = (k : Int) + 1 from by omega, wrapI (by omega) (by have := HL.out; omega)], ⟨by have := HK.out; omega⟩, ⟨HJ8.out⟩, ⟨HF2.out⟩, ⟨HM.out⟩, ⟨HB8.out⟩, ⟨B28.out⟩, ⟨B48.out⟩⟩
        · have he1 : (er != 0) = true := bne_iff_ne.mpr he
          have hm := HM.out
          simp only [if_neg he] at hm
          obtain ⟨rfl, rfl⟩ := Prod.mk.inj hm
          clear hm HM
          go_wp2_with (first | ((with_reducible refine gate_dst (N := 26) rfl ?_); go_loud (refine wpList_load_row rfl 27 (.tmp 4) rfl g4 rfl 27 #[.int .i64 a0, .int .i64 b0, .slice A0 n0 c0, .int .i64 a1, .int .i64 b1, .slice A1 n1 c1, .int .i64 a2, .int .i64 b2, .slice A2 n2 c2, .int .i64 a3, .int .i64 b3, .slice A3 n3 c3] (0, 0) _ B46.out hu27 rfl size27 ?_)) | ((with_reducible refine gate_ (.store 27 (.tmp 2) (.tmp 26)) rfl ?_); go_loud (refine wpList_storeR rfl rfl 27 (.tmp 2) (.tmp 26) rfl g2 0 rfl (.agg #[.int .i64 a0, .int .i64 b0, .slice A0 n0 c0, .int .i64 a1, .int .i64 b1, .slice A1 n1 c1, .int .i64 a2, .int .i64 b2, .slice A2 n2 c2, .int .i64 a3, .int .i64 b3, .slice A3 n3 c3]) rfl [.int .i64 a0, .int .i64 b0, .slice A0 n0 c0, .int .i64 a1, .int .i64 b1, .slice A1 n1 c1, .int .i64 a2, .int .i64 b2, .slice A2 n2 c2, .int .i64 a3, .int .i64 b3, .slice A3 n3 c3] rfl #[.int .i64 0, .int .i64 0, .slice none 0 0, .int .i64 0, .int .i64 0, .slice none 0 0, .int .i64 0, .int .i64 0, .slice none 0 0, .int .i64 0, .int .i64 0, .slice none 0 0] 27 B26.out size27 (by simp) (by simp [Value.oneCell']) #[.int .i64 a0, .int .i64 b0, .slice A0 n0 c0, .int .i64 a1, .int .i64 b1, .slice A1 n1 c1, .int .i64 a2, .int .i64 b2, .slice A2 n2 c2, .int .i64 a3, .int .i64 b3, .slice A3 n3 c3] rfl ?_); intro w8 hs st; have B28 := Aside0.mk hs; have HB8 := Aside0.mk (st.fresh HBB.out GE2.out); have HJ8 := Aside0.mk (HJO.out.keep st (fun k_ hk_ => hk_.1)); clear hs st))
          (try simp only [Exit.inBlock, Exit.then])
          refine bodyPost_ret (results_row_tmp rfl _ _ g2 27 #[.int .i64 a0, .int .i64 b0, .slice A0 n0 c0, .int .i64 a1, .int .i64 b1, .slice A1 n1 c1, .int .i64 a2, .int .i64 b2, .slice A2 n2 c2, .int .i64 a3, .int .i64 b3, .slice A3 n3 c3] (0, 0) _ (.bool false) rfl rfl B28.out hu27 rfl size27) rfl ?_
          exact ⟨[.int .i64 a0, .int .i64 b0, .slice A0 n0 c0, .int .i64 a1, .int .i64 b1, .slice A1 n1 c1, .int .i64 a2, .int .i64 b2, .slice A2 n2 c2, .int .i64 a3, .int .i64 b3, .slice A3 n3 c3], rfl, HJ8.out.now, HB8.out⟩
      · obtain ⟨W6, hW6, b6, st0⟩ := nest12 w5 wr.heap.size 27 (.int .i64 0) (.int .i64 0) (.slice none 0 0) (.int .i64 0) (.int .i64 0) (.slice none 0 0) (.int .i64 0) (.int .i64 0) (.slice none 0 0) (.int .i64 0) (.int .i64 0) (.slice none 0 0) (.int .i64 a0_) (.int .i64 b0_) (.slice A0_ n0_ c0_) (.int .i64 a1_) (.int .i64 b1_) (.slice A1_ n1_ c1_) (.int .i64 a2_) (.int .i64 b2_) (.slice A2_ n2_ c2_) (.int .i64 a3_) (.int .i64 b3_) (.slice A3_ n3_ c3_) B6_.out
        have B6 := Aside0.mk b6
        have ST := Aside0.mk (show Step wr.heap.size w5 W6 from st0)
        have HBW := Aside0.mk (show Below wr.heap.size wr W6 from ST.out.fresh HB5.out (Nat.le_refl _))
        have HJ6 : Aside0 (JVF W6 (fun k_ => k_ ≠ g2 ∧ k_ ≠ g4) J2 [.int .i64 a0_, .int .i64 b0_, .slice A0_ n0_ c0_, .int .i64 a1_, .int .i64 b1_, .slice A1_ n1_ c1_, .int .i64 a2_, .int .i64 b2_, .slice A2_ n2_ c2_, .int .i64 a3_, .int .i64 b3_, .slice A3_ n3_ c3_]) := Aside0.mk ((HJ5.out.keep ST.out (fun k_ hk_ => by rcases hk_ with h_ | h_; exact Nat.ne_of_lt h_.1.2; exact Nat.ne_of_gt (Nat.lt_of_lt_of_le (show wr.heap.size < _ by simp) h_))).mono (fun k_ hk_ => by have h2_ := blk_lt B2.out; have h4_ := blk_lt B4.out; rcases hk_ with h_ | h_; exact h_.1.1; have h7_ : wr.heap.size ≤ k_ := Nat.le_trans (by first | exact Nat.le_refl _ | simp) h_; exact ⟨by omega, by omega⟩))
        have NG : Aside0 (g4 ≠ wr.heap.size) := Aside0.mk (by have h_ := blk_lt B4.out; have h5_ := HB5.out.size; omega)
        rw [← hW6]
        clear hW6 b6 st0
        generalize wr.heap.size = g6 at B6 NG ⊢
        clear ST HJ5 HB5 B6_ hq0 fq0 hq1 fq1 hq2 fq2 hq3 fq3 hq4 fq4 hq5 fq5 hq6 fq6 hq7 fq7 hq8 fq8 hq9 fq9 hq10 fq10 hq11 fq11
        have B26 := Aside0.mk (blk_below B2.out HBW.out)
        have B46 := Aside0.mk (blk_below B4.out HBW.out)
        have HBB := Aside0.mk (below_step HB.out HBW.out)
        have HJO := Aside0.mk ((HJ.out.below HBW.out).mono (fun k_ hk_ => hk_.1))
        clear HB B2 B4 HBW
        by_cases he : er = 0
        · subst he
          have hm := HM.out
          simp only [if_pos] at hm
          clear HM
          have HM := Aside0.mk hm
          clear hm
          go_wp2_with (first | ((with_reducible refine gate_dst (N := 27) rfl ?_); go_loud (refine wpList_load_row rfl 27 (.tmp 6) rfl g6 rfl 27 #[.int .i64 a0_, .int .i64 b0_, .slice A0_ n0_ c0_, .int .i64 a1_, .int .i64 b1_, .slice A1_ n1_ c1_, .int .i64 a2_, .int .i64 b2_, .slice A2_ n2_ c2_, .int .i64 a3_, .int .i64 b3_, .slice A3_ n3_ c3_] (0, 0) _ B6.out hu27 rfl size27 ?_)) | ((with_reducible refine gate_ (.store 27 (.tmp 4) (.tmp 27)) rfl ?_); go_loud (refine wpList_storeR rfl rfl 27 (.tmp 4) (.tmp 27) rfl g4 0 rfl (.agg #[.int .i64 a0_, .int .i64 b0_, .slice A0_ n0_ c0_, .int .i64 a1_, .int .i64 b1_, .slice A1_ n1_ c1_, .int .i64 a2_, .int .i64 b2_, .slice A2_ n2_ c2_, .int .i64 a3_, .int .i64 b3_, .slice A3_ n3_ c3_]) rfl [.int .i64 a0_, .int .i64 b0_, .slice A0_ n0_ c0_, .int .i64 a1_, .int .i64 b1_, .slice A1_ n1_ c1_, .int .i64 a2_, .int .i64 b2_, .slice A2_ n2_ c2_, .int .i64 a3_, .int .i64 b3_, .slice A3_ n3_ c3_] rfl #[.int .i64 a0, .int .i64 b0, .slice A0 n0 c0, .int .i64 a1, .int .i64 b1, .slice A1 n1 c1, .int .i64 a2, .int .i64 b2, .slice A2 n2 c2, .int .i64 a3, .int .i64 b3, .slice A3 n3 c3] 27 B46.out size27 (by simp) (by simp [Value.oneCell']) #[.int .i64 a0_, .int .i64 b0_, .slice A0_ n0_ c0_, .int .i64 a1_, .int .i64 b1_, .slice A1_ n1_ c1_, .int .i64 a2_, .int .i64 b2_, .slice A2_ n2_ c2_, .int .i64 a3_, .int .i64 b3_, .slice A3_ n3_ c3_] rfl ?_); intro w8 hs st; have B48 := Aside0.mk hs; have B28 := Aside0.mk (st.blk B26.out HN.out); have HB8 := Aside0.mk (st.fresh HBB.out GE4.out); have HJ8 := Aside0.mk (HJ6.out.keep st (fun k_ hk_ => hk_.2)); clear hs st))
          go_roundg m
          case measure => omega
          case rel => exact ⟨k + 1, J2, _, by rw [show ((k + 1 : Nat) : Int) = (k : Int) + 1 from by omega, wrapI (by omega) (by have := HL.out; omega)], ⟨by have := HK.out; omega⟩, ⟨HJ8.out⟩, ⟨HF2.out⟩, ⟨HM.out⟩, ⟨HB8.out⟩, ⟨B28.out⟩, ⟨B48.out⟩⟩
        · have he1 : (er != 0) = true := bne_iff_ne.mpr he
          have hm := HM.out
          simp only [if_neg he] at hm
          obtain ⟨rfl, rfl⟩ := Prod.mk.inj hm
          clear hm HM
          go_wp2_with (first | ((with_reducible refine gate_dst (N := 26) rfl ?_); go_loud (refine wpList_load_row rfl 27 (.tmp 4) rfl g4 rfl 27 #[.int .i64 a0, .int .i64 b0, .slice A0 n0 c0, .int .i64 a1, .int .i64 b1, .slice A1 n1 c1, .int .i64 a2, .int .i64 b2, .slice A2 n2 c2, .int .i64 a3, .int .i64 b3, .slice A3 n3 c3] (0, 0) _ B46.out hu27 rfl size27 ?_)) | ((with_reducible refine gate_ (.store 27 (.tmp 2) (.tmp 26)) rfl ?_); go_loud (refine wpList_storeR rfl rfl 27 (.tmp 2) (.tmp 26) rfl g2 0 rfl (.agg #[.int .i64 a0, .int .i64 b0, .slice A0 n0 c0, .int .i64 a1, .int .i64 b1, .slice A1 n1 c1, .int .i64 a2, .int .i64 b2, .slice A2 n2 c2, .int .i64 a3, .int .i64 b3, .slice A3 n3 c3]) rfl [.int .i64 a0, .int .i64 b0, .slice A0 n0 c0, .int .i64 a1, .int .i64 b1, .slice A1 n1 c1, .int .i64 a2, .int .i64 b2, .slice A2 n2 c2, .int .i64 a3, .int .i64 b3, .slice A3 n3 c3] rfl #[.int .i64 0, .int .i64 0, .slice none 0 0, .int .i64 0, .int .i64 0, .slice none 0 0, .int .i64 0, .int .i64 0, .slice none 0 0, .int .i64 0, .int .i64 0, .slice none 0 0] 27 B26.out size27 (by simp) (by simp [Value.oneCell']) #[.int .i64 a0, .int .i64 b0, .slice A0 n0 c0, .int .i64 a1, .int .i64 b1, .slice A1 n1 c1, .int .i64 a2, .int .i64 b2, .slice A2 n2 c2, .int .i64 a3, .int .i64 b3, .slice A3 n3 c3] rfl ?_); intro w8 hs st; have B28 := Aside0.mk hs; have HB8 := Aside0.mk (st.fresh HBB.out GE2.out); have HJ8 := Aside0.mk (HJO.out.keep st (fun k_ hk_ => hk_.1)); clear hs st))
          (try simp only [Exit.inBlock, Exit.then])
          refine bodyPost_ret (results_row_tmp rfl _ _ g2 27 #[.int .i64 a0, .int .i64 b0, .slice A0 n0 c0, .int .i64 a1, .int .i64 b1, .slice A1 n1 c1, .int .i64 a2, .int .i64 b2, .slice A2 n2 c2, .int .i64 a3, .int .i64 b3, .slice A3 n3 c3] (0, 0) _ (.bool false) rfl rfl B28.out hu27 rfl size27) rfl ?_
          exact ⟨[.int .i64 a0, .int .i64 b0, .slice A0 n0 c0, .int .i64 a1, .int .i64 b1, .slice A1 n1 c1, .int .i64 a2, .int .i64 b2, .slice A2 n2 c2, .int .i64 a3, .int .i64 b3, .slice A3 n3 c3], rfl, HJ8.out.now, HB8.out⟩
theorem index27_0 (v0 v1 v2 v3 v4 v5 v6 v7 v8 v9 v10 v11 : Value) (W : World) : (Instr.index 27 (.agg #[v0, v1, v2, v3, v4, v5, v6, v7, v8, v9, v10, v11]) (.int .i64 0)).run Try.prog W = .ok (.agg #[v0, v1, v2]) W := by
  have hu27 := Try.underlying27
  have hu25 := Try.underlying25
  unfold Instr.index
  go_simp
theorem index27_1 (v0 v1 v2 v3 v4 v5 v6 v7 v8 v9 v10 v11 : Value) (W : World) : (Instr.index 27 (.agg #[v0, v1, v2, v3, v4, v5, v6, v7, v8, v9, v10, v11]) (.int .i64 1)).run Try.prog W = .ok (.agg #[v3, v4, v5]) W := by
  have hu27 := Try.underlying27
  have hu25 := Try.underlying25
  unfold Instr.index
  go_simp
theorem index27_2 (v0 v1 v2 v3 v4 v5 v6 v7 v8 v9 v10 v11 : Value) (W : World) : (Instr.index 27 (.agg #[v0, v1, v2, v3, v4, v5, v6, v7, v8, v9, v10, v11]) (.int .i64 2)).run Try.prog W = .ok (.agg #[v6, v7, v8]) W := by
  have hu27 := Try.underlying27
  have hu25 := Try.underlying25
  unfold Instr.index
  go_simp
theorem index27_3 (v0 v1 v2 v3 v4 v5 v6 v7 v8 v9 v10 v11 : Value) (W : World) : (Instr.index 27 (.agg #[v0, v1, v2, v3, v4, v5, v6, v7, v8, v9, v10, v11]) (.int .i64 3)).run Try.prog W = .ok (.agg #[v9, v10, v11]) W := by
  have hu27 := Try.underlying27
  have hu25 := Try.underlying25
  unfold Instr.index
  go_simp
theorem run_index27 {J : List Log} {cs : List Value} {w : World} (h : JV w J cs) {i : Nat} (hi : i < 4) : ∃ A c, (∀ W, (Instr.index 27 (.agg cs.toArray) (.int .i64 (i : Int))).run Try.prog W = .ok (.agg #[.int .i64 (lg J i).1, .int .i64 (lg J i).2.1, .slice A (lg J i).2.2.length c]) W) ∧ (lg J i).2.2.length ≤ c ∧ Kd.C k32 w A (lg J i).2.2.length (lg J i).2.2 := by
  obtain ⟨A, c, h0, h1, h2, h3, h4⟩ := h.at_ i hi
  obtain ⟨a0, b0, A0, n0, c0, a1, b1, A1, n1, c1, a2, b2, A2, n2, c2, a3, b3, A3, n3, c3, hcs⟩ := JV.open_ h
  subst hcs
  refine ⟨A, c, fun W => ?_, h3, h4⟩
  obtain rfl | rfl | rfl | rfl : i = 0 ∨ i = 1 ∨ i = 2 ∨ i = 3 := by omega
  · have e0 := Option.some.inj h0
    have e1 := Option.some.inj h1
    have e2 := Option.some.inj h2
    rw [← e0, ← e1, ← e2]
    exact index27_0 _ _ _ _ _ _ _ _ _ _ _ _ W
  · have e0 := Option.some.inj h0
    have e1 := Option.some.inj h1
    have e2 := Option.some.inj h2
    rw [← e0, ← e1, ← e2]
    exact index27_1 _ _ _ _ _ _ _ _ _ _ _ _ W
  · have e0 := Option.some.inj h0
    have e1 := Option.some.inj h1
    have e2 := Option.some.inj h2
    rw [← e0, ← e1, ← e2]
    exact index27_2 _ _ _ _ _ _ _ _ _ _ _ _ W
  · have e0 := Option.some.inj h0
    have e1 := Option.some.inj h1
    have e2 := Option.some.inj h2
    rw [← e0, ← e1, ← e2]
    exact index27_3 _ _ _ _ _ _ _ _ _ _ _ _ W
theorem wpList_indexF {P : Program} {w : World} {ops : Array Oper} {rest : List Oper} {o : Oper} {a : Act} {Q : Exit → Act → World → Prop} (hgd : o.guard = none) (t : TypeId) (x y : Operand) (ho : o.op = .index t x y) (u k v : Value) (hx : a.eval x = u) (hy : a.eval y = k)
    (hrun : (Instr.index t u k).run P w = .ok v w) (h : wpList P ops Q rest (a.put o.dst v) w) : wpList P ops Q (o :: rest) a w := by
  refine wpList_plain hgd fun K hK => ?_
  unfold Oper.wp execOp
  simp only [ho, hx, hy, Sem.run_bind, Sem.run_pure, Result.andThen_ok, hrun]
  exact hK _ _ h
/-- The entries that make a partition's log, and a journal's first partitions. -/
def entP (i : Nat) (p : Log) : List S32 := (if p.1 = 0 then [] else [⟨3, (i : Int), p.1, 0, p.2.1, 0, 0⟩]) ++ p.2.2
def entsTo (J : List Log) : Nat → List S32
  | 0 => []
  | n + 1 => entsTo J n ++ entP n (lg J n)
theorem entsTo_len {J : List Log} (h : fewN 1000 J) : ∀ n, n ≤ 4 → (entsTo J n).length ≤ n * 1001
  | 0, _ => by simp [entsTo]
  | n + 1, hn => by
    have h1 := entsTo_len h n (by omega)
    have h2 := h n (by omega)
    rw [entsTo, List.length_append]
    have : (entP n (lg J n)).length ≤ 1001 := by
      unfold entP
      rw [List.length_append]
      split <;> simp <;> omega
    omega
set_option maxHeartbeats 8000000 in
set_option maxRecDepth 100000 in
theorem journal_Entries.calls (J : List Log) (cs : List Value) (w : World) (hJ : JV w J cs) (hf : fewN 1000 J) :
    Calls Try.prog 11 #[.agg cs.toArray] w fun e w' => ∃ v, e = .returned v ∧ Kd.R k32 32 w' w.heap.size (fun _ => True) v (entsTo J 4) ∧ Below w.heap.size w w' := by
  have HB := Aside0.mk (Below.refl w.heap.size w)
  have HJ := Aside0.mk hJ
  have HF := Aside0.mk hf
  clear hJ hf
  have hu25 := Try.underlying25
  have hu32 := Try.underlying32
  have hu27 := Try.underlying27
  go_enter Try.func11, Try.ntmps11
  go_wp2_with (first | ((with_reducible refine gate_dst (N := 1) rfl ?_); refine box_event ?hg (N := 1) ?hd (cs := cs.toArray) (t := 27) ?hr ?_; (case hd => rfl); (case hg => rfl); (case hr => first | (go_simp; done) | (go_simp; rfl)); intro g1 hg w1 hbox hb; have B1 := Aside0.mk hbox; have n0_ := Aside0.mk (below_step HB.out hb); clear HB; have HB := n0_; clear n0_ hb hbox hg) | ((with_reducible refine gate_dst (N := 6) rfl ?_); go_loud (refine wpList_load_row rfl 27 (.tmp 1) rfl g1 rfl 27 cs.toArray (0, 0) _ B1.out hu27 rfl (by rw [size27, List.size_toArray, HJ.out.len.2]) ?_)))
  go_loopg [3, 7] 4 (fun m v3 v7 wr => ∃ (i : Nat), v7 = .int .i64 (i : Int) ∧ Aside0 (i + m = 4) ∧ Aside0 (Kd.R k32 32 wr w.heap.size (fun _ => True) v3 (entsTo J i)) ∧ Aside0 (Below w.heap.size w wr))
  case atStart => exact ⟨0, rfl, ⟨rfl⟩, ⟨Kd.R_nil _ _ _ _ _⟩, ⟨HB.out⟩⟩
  case round =>
    clear HB B1
    obtain ⟨i, rfl, HK, HO, HB⟩ := hrel
    cases gk with
    | zero =>
      have hi : i = 4 := by have := HK.out; omega
      subst hi
      go_wp2
      go_ret
      exact ⟨_, rfl, HO.out, HB.out⟩
    | succ m =>
      have hi : i < 4 := by have := HK.out; omega
      obtain ⟨A, c, hidx, hle, hC⟩ := run_index27 HJ.out hi
      have HIX := Aside0.mk hidx
      have HC := Aside0.mk hC
      have HLN := Aside0.mk (entsTo_len HF.out i (by omega))
      have HL1 := Aside0.mk (HF.out i hi)
      have HE := Aside0.mk (show entsTo J (i + 1) = entsTo J i ++ entP i (lg J i) from rfl)
      obtain ⟨p, hp⟩ : ∃ p, p = lg J i := ⟨_, rfl⟩
      rw [← hp] at HIX HC HL1 HE
      clear hidx hle hC hp
      have r1 : decide ((i : Int) < 4) = true := decide_eq_true (by omega)
      have r2 : (i : Int) < 4 := by omega
      have r3 : (0 : Int) ≤ (i : Int) := by omega
      by_cases h0 : p.1 = 0
      · have q0 : (p.1 != 0) = false := bne_eq_false_iff_eq.mpr h0
        have HEP := Aside0.mk (show entP i p = p.2.2 from by unfold entP; rw [if_pos h0]; rfl)
        clear h0
        go_wp2_with (first
          | ((with_reducible refine gate_dst (N := 10) rfl ?_); go_loud (refine wpList_indexF rfl 27 (.tmp 6) (.tmp 7) rfl (.agg cs.toArray) (.int .i64 (i : Int)) (.agg #[.int .i64 p.1, .int .i64 p.2.1, .slice A p.2.2.length c]) rfl rfl (HIX.out _) ?_))
          | ((with_reducible refine gate_dst (N := 5) rfl ?_); refine box_event ?hg (N := 5) ?hd (cs := #[.int .i64 0, .int .i64 0, .slice none 0 0]) (t := 25) ?hr ?_; (case hd => rfl); (case hg => rfl); (case hr => first | (go_simp; done) | (go_simp; rfl)); intro g5 hg w5 hbox hb; have B5 := Aside0.mk hbox; have GE5 := Aside0.mk (show w.heap.size ≤ g5 by (rw [hg]; exact HB.out.size)); have n0_ := Aside0.mk (below_step HB.out hb); have n1_ := Aside0.mk (Kd.R_below HO.out hb); clear HB HO; have HB := n0_; have HO := n1_; clear n0_ n1_ hb hbox hg)
          | ((with_reducible refine gate_ (.store 25 (.tmp 5) (.tmp 10)) rfl ?_); go_loud (refine wpList_storeR rfl rfl 25 (.tmp 5) (.tmp 10) rfl g5 0 rfl (.agg #[.int .i64 p.1, .int .i64 p.2.1, .slice A p.2.2.length c]) rfl [.int .i64 p.1, .int .i64 p.2.1, .slice A p.2.2.length c] rfl #[.int .i64 0, .int .i64 0, .slice none 0 0] 25 B5.out size25 (by simp) (by simp [Value.oneCell']) #[.int .i64 p.1, .int .i64 p.2.1, .slice A p.2.2.length c] rfl ?_); intro w6 hs st; have n0_ := Aside0.mk (st.fresh HB.out GE5.out); have n1_ := Aside0.mk (Kd.R_mono (Kd.R_keep (Kd.R_types HO.out B5.out (by decide)) st.1 (fun _ hk => hk.2)) (fun _ _ => trivial)); clear HB HO B5; have HB := n0_; have HO := n1_; have B5 := Aside0.mk hs; clear n0_ n1_ hs st; have hc0 : w6.cell? ⟨g5, 0, none⟩ = some (.int .i64 p.1) := (blk_cell B5.out 0).trans rfl; have hc1 : w6.cell? ⟨g5, 1, none⟩ = some (.int .i64 p.2.1) := (blk_cell B5.out 1).trans rfl; have hc2 : w6.cell? ⟨g5, 2, none⟩ = some (.slice A p.2.2.length c) := (blk_cell B5.out 2).trans rfl)
          | ((with_reducible refine gate_builtin (b := .append) (xs := #[.tmp 23, .tmp 25]) rfl ?_); at_builtin; go_loud (refine Kd.R_append_rows k32 (w0 := w) w.heap.size rfl (.tmp 23) (.tmp 25) 22 32 (.agg (ecells z32)) 56 rfl Try.underlying22 info32 rfl (by decide) (by omega) _ (entsTo J i) p.2.2 _ _ _ (fun _ => True) (fun _ => False) rfl rfl HO.out (Kd.C_below HC.out HB.out) (fun _ _ h => h) (fun _ h => h.elim) (fun _ _ => trivial) HB.out HB.out.size (by have h_1 := HLN.out; have h_2 := HL1.out; skip; omega) ?_); intro v9 w9 ho hb hg _; clear HB HO; have HB := Aside0.mk hb; have HO := Aside0.mk ho; clear ho hb hg))
        go_roundg m
        case measure => omega
        case rel => exact ⟨i + 1, by rw [show ((i + 1 : Nat) : Int) = (i : Int) + 1 from by omega], ⟨by have := HK.out; omega⟩, ⟨by rw [HE.out, HEP.out]; exact HO.out⟩, ⟨HB.out⟩⟩
      · have q0 : (p.1 != 0) = true := bne_iff_ne.mpr h0
        have HEP := Aside0.mk (show entP i p = (⟨3, (i : Int), p.1, 0, p.2.1, 0, 0⟩ : S32) :: p.2.2 from by unfold entP; rw [if_neg h0]; rfl)
        clear h0
        go_wp2_with (first
          | ((with_reducible refine gate_dst (N := 10) rfl ?_); go_loud (refine wpList_indexF rfl 27 (.tmp 6) (.tmp 7) rfl (.agg cs.toArray) (.int .i64 (i : Int)) (.agg #[.int .i64 p.1, .int .i64 p.2.1, .slice A p.2.2.length c]) rfl rfl (HIX.out _) ?_))
          | ((with_reducible refine gate_dst (N := 5) rfl ?_); refine box_event ?hg (N := 5) ?hd (cs := #[.int .i64 0, .int .i64 0, .slice none 0 0]) (t := 25) ?hr ?_; (case hd => rfl); (case hg => rfl); (case hr => first | (go_simp; done) | (go_simp; rfl)); intro g5 hg w5 hbox hb; have B5 := Aside0.mk hbox; have GE5 := Aside0.mk (show w.heap.size ≤ g5 by (rw [hg]; exact HB.out.size)); have n0_ := Aside0.mk (below_step HB.out hb); have n1_ := Aside0.mk (Kd.R_below HO.out hb); clear HB HO; have HB := n0_; have HO := n1_; clear n0_ n1_ hb hbox hg)
          | ((with_reducible refine gate_ (.store 25 (.tmp 5) (.tmp 10)) rfl ?_); go_loud (refine wpList_storeR rfl rfl 25 (.tmp 5) (.tmp 10) rfl g5 0 rfl (.agg #[.int .i64 p.1, .int .i64 p.2.1, .slice A p.2.2.length c]) rfl [.int .i64 p.1, .int .i64 p.2.1, .slice A p.2.2.length c] rfl #[.int .i64 0, .int .i64 0, .slice none 0 0] 25 B5.out size25 (by simp) (by simp [Value.oneCell']) #[.int .i64 p.1, .int .i64 p.2.1, .slice A p.2.2.length c] rfl ?_); intro w6 hs st; have n0_ := Aside0.mk (st.fresh HB.out GE5.out); have n1_ := Aside0.mk (Kd.R_mono (Kd.R_keep (Kd.R_types HO.out B5.out (by decide)) st.1 (fun _ hk => hk.2)) (fun _ _ => trivial)); clear HB HO B5; have HB := n0_; have HO := n1_; have B5 := Aside0.mk hs; clear n0_ n1_ hs st; have hc0 : w6.cell? ⟨g5, 0, none⟩ = some (.int .i64 p.1) := (blk_cell B5.out 0).trans rfl; have hc1 : w6.cell? ⟨g5, 1, none⟩ = some (.int .i64 p.2.1) := (blk_cell B5.out 1).trans rfl; have hc2 : w6.cell? ⟨g5, 2, none⟩ = some (.slice A p.2.2.length c) := (blk_cell B5.out 2).trans rfl)
          | ((with_reducible refine gate_builtin (b := .append) (xs := #[.tmp 14, .tmp 21]) rfl ?_); at_builtin; go_loud (refine Kd.R_append_rows k32 (w0 := w) w.heap.size rfl (.tmp 14) (.tmp 21) 22 32 (.agg (ecells z32)) 56 rfl Try.underlying22 info32 rfl (by decide) (by omega) _ (entsTo J i) [(⟨3, (i : Int), p.1, 0, p.2.1, 0, 0⟩ : S32)] _ _ _ (fun _ => True) (fun _ => False) rfl rfl (Kd.R_alloc HO.out _) (C_one32 (x := (⟨3, (i : Int), p.1, 0, p.2.1, 0, 0⟩ : S32)) (heap_alloc_last _ _)) (fun _ _ h => h) (fun _ h => h.elim) (fun _ _ => trivial) (below_alloc HB.out _) (Nat.le_trans HB.out.size (below_alloc (Below.refl _ _) _).size) (by have h_1 := HLN.out; have h_2 := HL1.out; skip; omega) ?_); intro v8 w8 ho hb hg _; have n1_ := Aside0.mk (blk_grown (g := g5) (o := .cells #[.int .i64 p.1, .int .i64 p.2.1, .slice A p.2.2.length c] 25 (0, 0)) (blk_alloc B5.out _) hg (Kd.R_ne HO.out B5.out (by decide))); clear HB HO B5; have HB := Aside0.mk hb; have HO := Aside0.mk ho; have B5 := n1_; clear n1_ ho hb hg; have hc2 : w8.cell? ⟨g5, 2, none⟩ = some (.slice A p.2.2.length c) := (blk_cell B5.out 2).trans rfl)
          | ((with_reducible refine gate_builtin (b := .append) (xs := #[.tmp 23, .tmp 25]) rfl ?_); at_builtin; go_loud (refine Kd.R_append_rows k32 (w0 := w) w.heap.size rfl (.tmp 23) (.tmp 25) 22 32 (.agg (ecells z32)) 56 rfl Try.underlying22 info32 rfl (by decide) (by omega) _ (entsTo J i ++ [(⟨3, (i : Int), p.1, 0, p.2.1, 0, 0⟩ : S32)]) p.2.2 _ _ _ (fun _ => True) (fun _ => False) rfl rfl HO.out (Kd.C_below HC.out HB.out) (fun _ _ h => h) (fun _ h => h.elim) (fun _ _ => trivial) HB.out HB.out.size (by have h_1 := HLN.out; have h_2 := HL1.out; (simp only [List.length_append, List.length_cons, List.length_nil]); omega) ?_); intro v9 w9 ho hb hg _; clear HB HO; have HB := Aside0.mk hb; have HO := Aside0.mk ho; clear ho hb hg))
        go_roundg m
        case measure => omega
        case rel => exact ⟨i + 1, by rw [show ((i + 1 : Nat) : Int) = (i : Int) + 1 from by omega], ⟨by have := HK.out; omega⟩, ⟨by rw [HE.out, HEP.out]; rw [show entsTo J i ++ ((⟨3, (i : Int), p.1, 0, p.2.1, 0, 0⟩ : S32) :: p.2.2) = (entsTo J i ++ [(⟨3, (i : Int), p.1, 0, p.2.1, 0, 0⟩ : S32)]) ++ p.2.2 from by simp]; exact HO.out⟩, ⟨HB.out⟩⟩
def awL : List S32 := [⟨1, 0, 1, 0, 5, 0, 0⟩, ⟨1, 0, 2, 5, 9, 0, 0⟩, ⟨2, 0, 1, 0, 0, 0, 0⟩]
def awJ : List Log := [(1, 5, [⟨1, 0, 2, 5, 9, 0, 0⟩]), (0, 0, []), (0, 0, []), (0, 0, [])]
theorem aw_made : madeJ J0 awL = (awJ, true) := by rfl
theorem aw_end : (if (0 : Int) ≤ 0 ∧ (0 : Int) ≤ 3 then endL (lg awJ (0 : Int).toNat) else 0) = 9 := by rfl
theorem aw_last : (if (0 : Int) ≤ 0 ∧ (0 : Int) ≤ 3 then lastL (lg awJ (0 : Int).toNat) else 0) = 2 := by rfl
theorem aw_few : fewN 1000 awJ := by
  intro i hi
  obtain rfl | rfl | rfl | rfl : i = 0 ∨ i = 1 ∨ i = 2 ∨ i = 3 := by omega
  all_goals (simp [lg, awJ])
theorem aw_len : (entsTo awJ 4).length = 2 := by rfl
theorem C_rows32 {W : World} {k : Nat} {l : List S32} {cells : Array Value} (h : W.heap[k]? = some (.cells cells 32 (0, 0))) (hl : l.length ≤ 9223372036854775807) (hc : ∀ j p, l[j]? = some p → ∀ i u, (ecells p).toList[i]? = some u → cells[j * 7 + i]? = some u) : Kd.C k32 W (some ⟨k, 0, none⟩) l.length l :=
  ⟨rfl, hl, fun _ => ⟨_, rfl, fun j p hp => ⟨(ecells p).toList, rfl, k32_mk W p, fun i u hu => by
    show W.cell? (Addr.add ⟨k, 0, none⟩ (j * 7 + i)) = some u
    rw [Addr.add_mid, Nat.zero_add]
    exact (blk_cell h _).trans (hc j p hp i u hu)⟩⟩⟩
theorem aw_row (w : World) : Kd.C k32 (w.alloc (.cells #[.int .i64 1, .int .i64 0, .int .i64 1, .int .i64 0, .int .i64 5, .int .i64 0, .int .i64 0, .int .i64 1, .int .i64 0, .int .i64 2, .int .i64 5, .int .i64 9, .int .i64 0, .int .i64 0, .int .i64 2, .int .i64 0, .int .i64 1, .int .i64 0, .int .i64 0, .int .i64 0, .int .i64 0] 32)) (some ⟨w.heap.size, 0, none⟩) awL.length awL := by
  refine C_rows32 (heap_alloc_last _ _) (by decide) ?_
  intro j p hp i u hu
  have hj : j < 3 := (List.getElem?_eq_some_iff.1 hp).1
  have hi : i < 7 := (List.getElem?_eq_some_iff.1 hu).1
  obtain rfl | rfl | rfl : j = 0 ∨ j = 1 ∨ j = 2 := by omega
  all_goals
    obtain rfl := Option.some.inj hp
    rw [← hu]
    obtain rfl | rfl | rfl | rfl | rfl | rfl | rfl : i = 0 ∨ i = 1 ∨ i = 2 ∨ i = 3 ∨ i = 4 ∨ i = 5 ∨ i = 6 := by omega
    all_goals rfl
set_option maxHeartbeats 8000000 in
set_option maxRecDepth 100000 in
theorem winnowerlaw14_awake.calls (w : World) :
    Calls Try.prog 6 #[] w fun e w' => e = .returned (.bool true) ∧ Below w.heap.size w w' := by
  have HB := Aside0.mk (Below.refl w.heap.size w)
  have hu25 := Try.underlying25
  have hu32 := Try.underlying32
  have hu27 := Try.underlying27
  go_enter Try.func6, Try.ntmps6
  go_wp2_with (first
    | ((with_reducible refine gate_callee (f := 10) rfl ?_); refine goesL_ (some 8) rfl rfl Try.func10 (by kernel_rfl) rfl #[.slice (some ⟨w.heap.size, 0, none⟩) 3 3] rfl (by (try simp only [List.map_toArray, List.map_cons, List.map_nil]); first | done | rfl) ?_; go_loud (refine (winnowerlaw14_Made.calls awL (some ⟨w.heap.size, 0, none⟩) 3 awJ true _ (aw_row w) (by decide) aw_made).mono ?_); rintro e w3 ⟨cs, rfl, hj, hb⟩; refine ⟨_, rfl, ?_⟩; have n0_ := Aside0.mk (below_step (below_alloc HB.out _) hb); clear HB; have HB := n0_; clear n0_ hb; obtain ⟨a0, b0, A0, n0, c0, a1, b1, A1, n1, c1, a2, b2, A2, n2, c2, a3, b3, A3, n3, c3, hcs⟩ := JV.open_ hj; subst hcs; have hb0 : b0 = 5 := (by obtain ⟨_, _, _, h1, _⟩ := hj.at_ 0 (by decide); injection Option.some.inj h1); subst hb0; have HJ := Aside0.mk hj; clear hj)
    | ((with_reducible refine gate_dst (N := 1) rfl ?_); refine box_event ?hg (N := 1) ?hd (cs := #[.int .i64 0, .int .i64 0, .slice none 0 0, .int .i64 0, .int .i64 0, .slice none 0 0, .int .i64 0, .int .i64 0, .slice none 0 0, .int .i64 0, .int .i64 0, .slice none 0 0]) (t := 27) ?hr ?_; (case hd => rfl); (case hg => rfl); (case hr => first | (go_simp; done) | (go_simp; rfl)); intro g1 hg w4 hbox hb; have B1 := Aside0.mk hbox; have GE1 := Aside0.mk (show w.heap.size ≤ g1 by (rw [hg]; exact HB.out.size)); have GG_ : Aside0 (w3.heap.size ≤ g1) := Aside0.mk (by rw [hg]; exact Nat.le_refl _); have n0_ := Aside0.mk (below_step HB.out hb); have n1_ := Aside0.mk ((JVF.of_JV HJ.out).below hb); clear HB HJ; have HB := n0_; have HJ := n1_; clear n0_ n1_ hb hbox hg)
    | ((with_reducible refine gate_ (.store 27 (.tmp 1) (.tmp 9)) rfl ?_); go_loud (refine wpList_storeR rfl rfl 27 (.tmp 1) (.tmp 9) rfl g1 0 rfl (.agg #[.int .i64 a0, .int .i64 5, .slice A0 n0 c0, .int .i64 a1, .int .i64 b1, .slice A1 n1 c1, .int .i64 a2, .int .i64 b2, .slice A2 n2 c2, .int .i64 a3, .int .i64 b3, .slice A3 n3 c3]) rfl [.int .i64 a0, .int .i64 5, .slice A0 n0 c0, .int .i64 a1, .int .i64 b1, .slice A1 n1 c1, .int .i64 a2, .int .i64 b2, .slice A2 n2 c2, .int .i64 a3, .int .i64 b3, .slice A3 n3 c3] rfl #[.int .i64 0, .int .i64 0, .slice none 0 0, .int .i64 0, .int .i64 0, .slice none 0 0, .int .i64 0, .int .i64 0, .slice none 0 0, .int .i64 0, .int .i64 0, .slice none 0 0] 27 B1.out size27 (by simp) (by simp [Value.oneCell']) #[.int .i64 a0, .int .i64 5, .slice A0 n0 c0, .int .i64 a1, .int .i64 b1, .slice A1 n1 c1, .int .i64 a2, .int .i64 b2, .slice A2 n2 c2, .int .i64 a3, .int .i64 b3, .slice A3 n3 c3] rfl ?_); intro w5 hs st; have n0_ := Aside0.mk (st.fresh HB.out GE1.out); have n1_ := Aside0.mk (HJ.out.keep st (fun k_ hk_ => Nat.ne_of_lt (Nat.lt_of_lt_of_le hk_.2 GG_.out))).now; clear HB HJ B1; have HB := n0_; have HJ := n1_; have B1 := Aside0.mk hs; clear n0_ n1_ hs st; have hc0 : w5.cell? ⟨g1, 0, none⟩ = some (.int .i64 a0) := (blk_cell B1.out 0).trans rfl; have hc1 : w5.cell? ⟨g1, 1, none⟩ = some (.int .i64 5) := (blk_cell B1.out 1).trans rfl; have hc2 : w5.cell? ⟨g1, 2, none⟩ = some (.slice A0 n0 c0) := (blk_cell B1.out 2).trans rfl; have hc3 : w5.cell? ⟨g1, 3, none⟩ = some (.int .i64 a1) := (blk_cell B1.out 3).trans rfl; have hc4 : w5.cell? ⟨g1, 4, none⟩ = some (.int .i64 b1) := (blk_cell B1.out 4).trans rfl; have hc5 : w5.cell? ⟨g1, 5, none⟩ = some (.slice A1 n1 c1) := (blk_cell B1.out 5).trans rfl; have hc6 : w5.cell? ⟨g1, 6, none⟩ = some (.int .i64 a2) := (blk_cell B1.out 6).trans rfl; have hc7 : w5.cell? ⟨g1, 7, none⟩ = some (.int .i64 b2) := (blk_cell B1.out 7).trans rfl; have hc8 : w5.cell? ⟨g1, 8, none⟩ = some (.slice A2 n2 c2) := (blk_cell B1.out 8).trans rfl; have hc9 : w5.cell? ⟨g1, 9, none⟩ = some (.int .i64 a3) := (blk_cell B1.out 9).trans rfl; have hc10 : w5.cell? ⟨g1, 10, none⟩ = some (.int .i64 b3) := (blk_cell B1.out 10).trans rfl; have hc11 : w5.cell? ⟨g1, 11, none⟩ = some (.slice A3 n3 c3) := (blk_cell B1.out 11).trans rfl)
    | (go_at_call 8; go_loud (refine (journal_End.calls awJ [.int .i64 a0, .int .i64 5, .slice A0 n0 c0, .int .i64 a1, .int .i64 b1, .slice A1 n1 c1, .int .i64 a2, .int .i64 b2, .slice A2 n2 c2, .int .i64 a3, .int .i64 b3, .slice A3 n3 c3] 0 9 _ HJ.out aw_end).mono ?_); rintro e w6 ⟨rfl, hb⟩; have n0_ := Aside0.mk (below_step HB.out hb); have n1_ := Aside0.mk (blk_below B1.out hb); clear HB B1; have HB := n0_; have B1 := n1_; clear n0_ n1_; have hc0 : w6.cell? ⟨g1, 0, none⟩ = some (.int .i64 a0) := (blk_cell B1.out 0).trans rfl; have hc1 : w6.cell? ⟨g1, 1, none⟩ = some (.int .i64 5) := (blk_cell B1.out 1).trans rfl; have hc2 : w6.cell? ⟨g1, 2, none⟩ = some (.slice A0 n0 c0) := (blk_cell B1.out 2).trans rfl; have hc3 : w6.cell? ⟨g1, 3, none⟩ = some (.int .i64 a1) := (blk_cell B1.out 3).trans rfl; have hc4 : w6.cell? ⟨g1, 4, none⟩ = some (.int .i64 b1) := (blk_cell B1.out 4).trans rfl; have hc5 : w6.cell? ⟨g1, 5, none⟩ = some (.slice A1 n1 c1) := (blk_cell B1.out 5).trans rfl; have hc6 : w6.cell? ⟨g1, 6, none⟩ = some (.int .i64 a2) := (blk_cell B1.out 6).trans rfl; have hc7 : w6.cell? ⟨g1, 7, none⟩ = some (.int .i64 b2) := (blk_cell B1.out 7).trans rfl; have hc8 : w6.cell? ⟨g1, 8, none⟩ = some (.slice A2 n2 c2) := (blk_cell B1.out 8).trans rfl; have hc9 : w6.cell? ⟨g1, 9, none⟩ = some (.int .i64 a3) := (blk_cell B1.out 9).trans rfl; have hc10 : w6.cell? ⟨g1, 10, none⟩ = some (.int .i64 b3) := (blk_cell B1.out 10).trans rfl; have hc11 : w6.cell? ⟨g1, 11, none⟩ = some (.slice A3 n3 c3) := (blk_cell B1.out 11).trans rfl; have n2_ := Aside0.mk (HJ.out.below hb); clear HJ; have HJ := n2_; clear n2_; clear hb)
    | (go_at_call 9; go_loud (refine (journal_Last.calls awJ [.int .i64 a0, .int .i64 5, .slice A0 n0 c0, .int .i64 a1, .int .i64 b1, .slice A1 n1 c1, .int .i64 a2, .int .i64 b2, .slice A2 n2 c2, .int .i64 a3, .int .i64 b3, .slice A3 n3 c3] 0 2 _ HJ.out aw_last).mono ?_); rintro e w7 ⟨rfl, hb⟩; have n0_ := Aside0.mk (below_step HB.out hb); have n1_ := Aside0.mk (blk_below B1.out hb); clear HB B1; have HB := n0_; have B1 := n1_; clear n0_ n1_; have hc0 : w7.cell? ⟨g1, 0, none⟩ = some (.int .i64 a0) := (blk_cell B1.out 0).trans rfl; have hc1 : w7.cell? ⟨g1, 1, none⟩ = some (.int .i64 5) := (blk_cell B1.out 1).trans rfl; have hc2 : w7.cell? ⟨g1, 2, none⟩ = some (.slice A0 n0 c0) := (blk_cell B1.out 2).trans rfl; have hc3 : w7.cell? ⟨g1, 3, none⟩ = some (.int .i64 a1) := (blk_cell B1.out 3).trans rfl; have hc4 : w7.cell? ⟨g1, 4, none⟩ = some (.int .i64 b1) := (blk_cell B1.out 4).trans rfl; have hc5 : w7.cell? ⟨g1, 5, none⟩ = some (.slice A1 n1 c1) := (blk_cell B1.out 5).trans rfl; have hc6 : w7.cell? ⟨g1, 6, none⟩ = some (.int .i64 a2) := (blk_cell B1.out 6).trans rfl; have hc7 : w7.cell? ⟨g1, 7, none⟩ = some (.int .i64 b2) := (blk_cell B1.out 7).trans rfl; have hc8 : w7.cell? ⟨g1, 8, none⟩ = some (.slice A2 n2 c2) := (blk_cell B1.out 8).trans rfl; have hc9 : w7.cell? ⟨g1, 9, none⟩ = some (.int .i64 a3) := (blk_cell B1.out 9).trans rfl; have hc10 : w7.cell? ⟨g1, 10, none⟩ = some (.int .i64 b3) := (blk_cell B1.out 10).trans rfl; have hc11 : w7.cell? ⟨g1, 11, none⟩ = some (.slice A3 n3 c3) := (blk_cell B1.out 11).trans rfl; have n2_ := Aside0.mk (HJ.out.below hb); clear HJ; have HJ := n2_; clear n2_; clear hb)
    | (go_at_call 11; go_loud (refine (journal_Entries.calls awJ [.int .i64 a0, .int .i64 5, .slice A0 n0 c0, .int .i64 a1, .int .i64 b1, .slice A1 n1 c1, .int .i64 a2, .int .i64 b2, .slice A2 n2 c2, .int .i64 a3, .int .i64 b3, .slice A3 n3 c3] _ HJ.out aw_few).mono ?_); rintro e w8 ⟨v, rfl, hr, hb⟩; have n0_ := Aside0.mk (below_step HB.out hb); have n1_ := Aside0.mk (blk_below B1.out hb); clear HB B1; have HB := n0_; have B1 := n1_; clear n0_ n1_; have hc0 : w8.cell? ⟨g1, 0, none⟩ = some (.int .i64 a0) := (blk_cell B1.out 0).trans rfl; have hc1 : w8.cell? ⟨g1, 1, none⟩ = some (.int .i64 5) := (blk_cell B1.out 1).trans rfl; have hc2 : w8.cell? ⟨g1, 2, none⟩ = some (.slice A0 n0 c0) := (blk_cell B1.out 2).trans rfl; have hc3 : w8.cell? ⟨g1, 3, none⟩ = some (.int .i64 a1) := (blk_cell B1.out 3).trans rfl; have hc4 : w8.cell? ⟨g1, 4, none⟩ = some (.int .i64 b1) := (blk_cell B1.out 4).trans rfl; have hc5 : w8.cell? ⟨g1, 5, none⟩ = some (.slice A1 n1 c1) := (blk_cell B1.out 5).trans rfl; have hc6 : w8.cell? ⟨g1, 6, none⟩ = some (.int .i64 a2) := (blk_cell B1.out 6).trans rfl; have hc7 : w8.cell? ⟨g1, 7, none⟩ = some (.int .i64 b2) := (blk_cell B1.out 7).trans rfl; have hc8 : w8.cell? ⟨g1, 8, none⟩ = some (.slice A2 n2 c2) := (blk_cell B1.out 8).trans rfl; have hc9 : w8.cell? ⟨g1, 9, none⟩ = some (.int .i64 a3) := (blk_cell B1.out 9).trans rfl; have hc10 : w8.cell? ⟨g1, 10, none⟩ = some (.int .i64 b3) := (blk_cell B1.out 10).trans rfl; have hc11 : w8.cell? ⟨g1, 11, none⟩ = some (.slice A3 n3 c3) := (blk_cell B1.out 11).trans rfl; obtain ⟨A9, c9, e9⟩ := Kd.R_slice hr; subst e9; have HLE := aw_len; clear hb))
  go_ret
  exact ⟨rfl, HB.out⟩
theorem applyJ_ok {J J' : List Log} {x : S32} (h : applyJ J x = (J', 0)) : ∃ q, mayE x = true ∧ applyL (lg J x.f1.toNat) x = some q ∧ J' = J.set x.f1.toNat q := by
  unfold applyJ at h
  split at h
  · rename_i hm
    split at h
    · exact absurd (Prod.mk.inj h).2 (by decide)
    · rename_i q hq
      exact ⟨q, hm, hq, (Prod.mk.inj h).1.symm⟩
  · exact absurd (Prod.mk.inj h).2 (by decide)
theorem applyJ_err {J J' : List Log} {x : S32} {e : Int} (h : applyJ J x = (J', e)) (he : e ≠ 0) : J' = J0 := by
  unfold applyJ at h
  split at h
  · split at h
    · exact (Prod.mk.inj h).1.symm
    · exact absurd (Prod.mk.inj h).2.symm he
  · exact (Prod.mk.inj h).1.symm
theorem applyJ_other {J J' : List Log} {x : S32} (hJ : J.length = 4) (h : applyJ J x = (J', 0)) (i : Nat) (hi : (i : Int) ≠ x.f1) : lg J' i = lg J i := by
  obtain ⟨q, hm, hq, rfl⟩ := applyJ_ok h
  obtain ⟨_, h0, h1⟩ := mayE_parts hm
  rw [lg_set (by omega), if_neg (by omega)]
theorem mayE_commit {x : S32} (h : mayE x = true) (h0 : x.f0 = 1) : x.f3 ≤ x.f4 := by
  unfold mayE mayB at h
  rw [if_pos h0, Bool.and_eq_true, Bool.and_eq_true, Bool.and_eq_true, Bool.and_eq_true, Bool.and_eq_true] at h
  have h1 : inB x.f3 0 x.f4 = true := h.1.1.1.1.1
  exact (of_decide_eq_true h1).2
theorem endL_app (a b : Int) (l : List S32) (x : S32) : endL (a, b, l ++ [x]) = x.f4 := by
  unfold endL rd_T32
  simp only [List.length_append, List.length_cons, List.length_nil]
  rw [if_neg (by omega), List.getD_eq_getElem?_getD, List.getElem?_append_right (by omega)]
  simp
theorem applyJ_end {J J' : List Log} {x : S32} (hJ : J.length = 4) (h : applyJ J x = (J', 0)) : (0 ≤ x.f1 ∧ x.f1 ≤ 3) ∧ (x.f0 = 2 ∨ x.f0 = 3 ∨ endL (lg J x.f1.toNat) ≤ endL (lg J' x.f1.toNat)) := by
  obtain ⟨q, hm, hq, rfl⟩ := applyJ_ok h
  obtain ⟨hk, h0, h1⟩ := mayE_parts hm
  refine ⟨⟨h0, h1⟩, ?_⟩
  rcases hk with hk | hk | hk
  · refine .inr (.inr ?_)
    unfold applyL at hq
    rw [if_pos hk] at hq
    unfold step1 at hq
    split at hq
    · rename_i hs
      injection hq with hq
      subst hq
      rw [lg_set (by omega), if_pos rfl, endL_app, ← hs.2]
      exact mayE_commit hm hk
    · exact absurd hq (by simp)
  · exact .inl hk
  · exact .inr (.inl hk)
set_option maxHeartbeats 8000000 in
set_option maxRecDepth 100000 in
theorem winnowerlaw14_JournalParts.many (J : List Log) (cs : List Value) (x : S32) (w : World) (hJ : JV w J cs) (hF : fewJ J = false) :
    Calls Try.prog 4 #[.agg cs.toArray, .agg (ecells x)] w fun e w' => e = .returned (.bool true) ∧ Below w.heap.size w w' := by
  have HB := Aside0.mk (Below.refl w.heap.size w)
  have HJ := Aside0.mk hJ
  have HN := Aside0.mk hJ.len.2
  have HFW := Aside0.mk hF
  have hu25 := Try.underlying25
  have hu32 := Try.underlying32
  have hu27 := Try.underlying27
  clear hJ hF
  go_enter Try.func4, Try.ntmps4
  go_wp2_with (first
    | ((with_reducible refine gate_dst (N := 2) rfl ?_); refine box_event ?hg (N := 2) ?hd (cs := cs.toArray) (t := 27) ?hr ?_; (case hd => rfl); (case hg => rfl); (case hr => first | (go_simp; done) | (go_simp; rfl)); intro gj hg w1 hbox hb; have BJ := Aside0.mk hbox; have GEBJ := Aside0.mk ((by rw [hg]; exact (below_size (by repeat (first | (with_reducible first | exact HB.out | apply below_alloc | apply pw_below_drewN | apply below_drew1) | exact HB.out)))) : w.heap.size ≤ gj); have n_HB := Aside0.mk (below_step (by repeat (first | (with_reducible first | exact HB.out | apply below_alloc | apply pw_below_drewN | apply below_drew1) | exact HB.out)) hb); clear HB ; have HB := n_HB; clear n_HB ; clear hbox hg hb)
    | ((with_reducible refine gate_dst (N := 3) rfl ?_); refine box_event ?hg (N := 3) ?hd (cs := ecells x) (t := 32) ?hr ?_; (case hd => rfl); (case hg => rfl); (case hr => first | (go_simp; done) | (go_simp; rfl)); intro gx hg w2 hbox hb; have BX := Aside0.mk hbox; have GEBX := Aside0.mk ((by rw [hg]; exact (below_size (by repeat (first | (with_reducible first | exact HB.out | apply below_alloc | apply pw_below_drewN | apply below_drew1) | exact HB.out)))) : w.heap.size ≤ gx); have NBJBX := Aside0.mk ((by rw [hg]; exact Nat.ne_of_lt (blk_lt (by (with_reducible repeat (first | refine blk_drewN ?_ _ | refine blk_drew ?_ | refine blk_alloc ?_ _)); exact BJ.out))) : gj ≠ gx); have n_BJ := Aside0.mk (blk_below (by (with_reducible repeat (first | refine blk_drewN ?_ _ | refine blk_drew ?_ | refine blk_alloc ?_ _)); exact BJ.out) hb); have n_HB := Aside0.mk (below_step (by repeat (first | (with_reducible first | exact HB.out | apply below_alloc | apply pw_below_drewN | apply below_drew1) | exact HB.out)) hb); clear HB BJ; have HB := n_HB; have BJ := n_BJ; clear n_HB n_BJ; clear hbox hg hb; have hx0 : w2.cell? ⟨gx, 0, none⟩ = some (.int .i64 x.f0) := (blk_cell BX.out 0).trans rfl; have hx1 : w2.cell? ⟨gx, 1, none⟩ = some (.int .i64 x.f1) := (blk_cell BX.out 1).trans rfl)
    | ((with_reducible refine gate_callee (f := 6) rfl ?_); refine goesL_ (some 14) rfl rfl Try.func6 (by kernel_rfl) rfl #[] rfl (by (try simp only [List.map_toArray, List.map_cons, List.map_nil]); first | done | rfl) ?_; go_loud (refine (winnowerlaw14_awake.calls _).mono ?_); rintro e w3 ⟨rfl, hb⟩; refine ⟨_, rfl, ?_⟩; have n_BJ := Aside0.mk (blk_below (by (with_reducible repeat (first | refine blk_drewN ?_ _ | refine blk_drew ?_ | refine blk_alloc ?_ _)); exact BJ.out) hb); have n_BX := Aside0.mk (blk_below (by (with_reducible repeat (first | refine blk_drewN ?_ _ | refine blk_drew ?_ | refine blk_alloc ?_ _)); exact BX.out) hb); have n_HB := Aside0.mk (below_step (by repeat (first | (with_reducible first | exact HB.out | apply below_alloc | apply pw_below_drewN | apply below_drew1) | exact HB.out)) hb); clear HB BJ BX; have HB := n_HB; have BJ := n_BJ; have BX := n_BX; clear n_HB n_BJ n_BX; clear hb; have hx0 : w3.cell? ⟨gx, 0, none⟩ = some (.int .i64 x.f0) := (blk_cell BX.out 0).trans rfl; have hx1 : w3.cell? ⟨gx, 1, none⟩ = some (.int .i64 x.f1) := (blk_cell BX.out 1).trans rfl)
    | ((with_reducible refine gate_dst (N := 15) rfl ?_); go_loud (refine wpList_load_row rfl 27 (.tmp 2) rfl gj rfl 27 cs.toArray (0, 0) _ BJ.out Try.underlying27 rfl (by rw [size27, List.size_toArray, HN.out]) ?_))
    | ((with_reducible refine gate_callee (f := 13) rfl ?_); refine goesL_ (some 16) rfl rfl Try.func13 (by kernel_rfl) rfl #[.agg cs.toArray] rfl (by (try simp only [List.map_toArray, List.map_cons, List.map_nil]); first | done | rfl) ?_; go_loud (refine (winnowerref14_Few.calls J cs false _ (HJ.out.below (by repeat (first | (with_reducible first | exact HB.out | apply below_alloc | apply pw_below_drewN | apply below_drew1) | exact HB.out))) HFW.out).mono ?_); rintro e w4 ⟨rfl, hb⟩; refine ⟨_, rfl, ?_⟩; have n_BJ := Aside0.mk (blk_below (by (with_reducible repeat (first | refine blk_drewN ?_ _ | refine blk_drew ?_ | refine blk_alloc ?_ _)); exact BJ.out) hb); have n_BX := Aside0.mk (blk_below (by (with_reducible repeat (first | refine blk_drewN ?_ _ | refine blk_drew ?_ | refine blk_alloc ?_ _)); exact BX.out) hb); have n_HB := Aside0.mk (below_step (by repeat (first | (with_reducible first | exact HB.out | apply below_alloc | apply pw_below_drewN | apply below_drew1) | exact HB.out)) hb); clear HB BJ BX; have HB := n_HB; have BJ := n_BJ; have BX := n_BX; clear n_HB n_BJ n_BX; clear hb; have hx0 : w4.cell? ⟨gx, 0, none⟩ = some (.int .i64 x.f0) := (blk_cell BX.out 0).trans rfl; have hx1 : w4.cell? ⟨gx, 1, none⟩ = some (.int .i64 x.f1) := (blk_cell BX.out 1).trans rfl))
  go_ret
  exact ⟨rfl, HB.out⟩
set_option maxHeartbeats 8000000 in
set_option maxRecDepth 100000 in
theorem winnowerlaw14_JournalParts.err (J J' : List Log) (cs : List Value) (x : S32) (er : Int) (w : World) (hJ : JV w J cs) (hF : fewJ J = true) (hA : applyJ J x = (J', er)) (he : er ≠ 0) :
    Calls Try.prog 4 #[.agg cs.toArray, .agg (ecells x)] w fun e w' => e = .returned (.bool true) ∧ Below w.heap.size w w' := by
  have HB := Aside0.mk (Below.refl w.heap.size w)
  have HJ := Aside0.mk hJ
  have HN := Aside0.mk hJ.len.2
  have HFW := Aside0.mk hF
  have hu25 := Try.underlying25
  have hu32 := Try.underlying32
  have hu27 := Try.underlying27
  have HS := Aside0.mk (show ∀ i, i < 4 → (lg J i).2.2.length ≤ 100000 from fun i hi => by
    have h_ := of_decide_eq_true (show decide (∀ i : Nat, i < 4 → (lg J i).2.2.length ≤ 100) = true from hF) i hi
    omega)
  have HA := Aside0.mk hA
  obtain rfl := applyJ_err hA he
  have he1 : (er != 0) = true := bne_iff_ne.mpr he
  clear hJ hF hA he
  go_enter Try.func4, Try.ntmps4
  go_wp2_with (first
    | ((with_reducible refine gate_dst (N := 2) rfl ?_); refine box_event ?hg (N := 2) ?hd (cs := cs.toArray) (t := 27) ?hr ?_; (case hd => rfl); (case hg => rfl); (case hr => first | (go_simp; done) | (go_simp; rfl)); intro gj hg w1 hbox hb; have BJ := Aside0.mk hbox; have GEBJ := Aside0.mk ((by rw [hg]; exact (below_size (by repeat (first | (with_reducible first | exact HB.out | apply below_alloc | apply pw_below_drewN | apply below_drew1) | exact HB.out)))) : w.heap.size ≤ gj); have n_HB := Aside0.mk (below_step (by repeat (first | (with_reducible first | exact HB.out | apply below_alloc | apply pw_below_drewN | apply below_drew1) | exact HB.out)) hb); clear HB ; have HB := n_HB; clear n_HB ; clear hbox hg hb)
    | ((with_reducible refine gate_dst (N := 3) rfl ?_); refine box_event ?hg (N := 3) ?hd (cs := ecells x) (t := 32) ?hr ?_; (case hd => rfl); (case hg => rfl); (case hr => first | (go_simp; done) | (go_simp; rfl)); intro gx hg w2 hbox hb; have BX := Aside0.mk hbox; have GEBX := Aside0.mk ((by rw [hg]; exact (below_size (by repeat (first | (with_reducible first | exact HB.out | apply below_alloc | apply pw_below_drewN | apply below_drew1) | exact HB.out)))) : w.heap.size ≤ gx); have NBJBX := Aside0.mk ((by rw [hg]; exact Nat.ne_of_lt (blk_lt (by (with_reducible repeat (first | refine blk_drewN ?_ _ | refine blk_drew ?_ | refine blk_alloc ?_ _)); exact BJ.out))) : gj ≠ gx); have n_BJ := Aside0.mk (blk_below (by (with_reducible repeat (first | refine blk_drewN ?_ _ | refine blk_drew ?_ | refine blk_alloc ?_ _)); exact BJ.out) hb); have n_HB := Aside0.mk (below_step (by repeat (first | (with_reducible first | exact HB.out | apply below_alloc | apply pw_below_drewN | apply below_drew1) | exact HB.out)) hb); clear HB BJ; have HB := n_HB; have BJ := n_BJ; clear n_HB n_BJ; clear hbox hg hb; have hx0 : w2.cell? ⟨gx, 0, none⟩ = some (.int .i64 x.f0) := (blk_cell BX.out 0).trans rfl; have hx1 : w2.cell? ⟨gx, 1, none⟩ = some (.int .i64 x.f1) := (blk_cell BX.out 1).trans rfl)
    | ((with_reducible refine gate_callee (f := 6) rfl ?_); refine goesL_ (some 14) rfl rfl Try.func6 (by kernel_rfl) rfl #[] rfl (by (try simp only [List.map_toArray, List.map_cons, List.map_nil]); first | done | rfl) ?_; go_loud (refine (winnowerlaw14_awake.calls _).mono ?_); rintro e w3 ⟨rfl, hb⟩; refine ⟨_, rfl, ?_⟩; have n_BJ := Aside0.mk (blk_below (by (with_reducible repeat (first | refine blk_drewN ?_ _ | refine blk_drew ?_ | refine blk_alloc ?_ _)); exact BJ.out) hb); have n_BX := Aside0.mk (blk_below (by (with_reducible repeat (first | refine blk_drewN ?_ _ | refine blk_drew ?_ | refine blk_alloc ?_ _)); exact BX.out) hb); have n_HB := Aside0.mk (below_step (by repeat (first | (with_reducible first | exact HB.out | apply below_alloc | apply pw_below_drewN | apply below_drew1) | exact HB.out)) hb); clear HB BJ BX; have HB := n_HB; have BJ := n_BJ; have BX := n_BX; clear n_HB n_BJ n_BX; clear hb; have hx0 : w3.cell? ⟨gx, 0, none⟩ = some (.int .i64 x.f0) := (blk_cell BX.out 0).trans rfl; have hx1 : w3.cell? ⟨gx, 1, none⟩ = some (.int .i64 x.f1) := (blk_cell BX.out 1).trans rfl)
    | ((with_reducible refine gate_dst (N := 15) rfl ?_); go_loud (refine wpList_load_row rfl 27 (.tmp 2) rfl gj rfl 27 cs.toArray (0, 0) _ BJ.out Try.underlying27 rfl (by rw [size27, List.size_toArray, HN.out]) ?_))
    | ((with_reducible refine gate_callee (f := 13) rfl ?_); refine goesL_ (some 16) rfl rfl Try.func13 (by kernel_rfl) rfl #[.agg cs.toArray] rfl (by (try simp only [List.map_toArray, List.map_cons, List.map_nil]); first | done | rfl) ?_; go_loud (refine (winnowerref14_Few.calls J cs true _ (HJ.out.below (by repeat (first | (with_reducible first | exact HB.out | apply below_alloc | apply pw_below_drewN | apply below_drew1) | exact HB.out))) HFW.out).mono ?_); rintro e w4 ⟨rfl, hb⟩; refine ⟨_, rfl, ?_⟩; have n_BJ := Aside0.mk (blk_below (by (with_reducible repeat (first | refine blk_drewN ?_ _ | refine blk_drew ?_ | refine blk_alloc ?_ _)); exact BJ.out) hb); have n_BX := Aside0.mk (blk_below (by (with_reducible repeat (first | refine blk_drewN ?_ _ | refine blk_drew ?_ | refine blk_alloc ?_ _)); exact BX.out) hb); have n_HB := Aside0.mk (below_step (by repeat (first | (with_reducible first | exact HB.out | apply below_alloc | apply pw_below_drewN | apply below_drew1) | exact HB.out)) hb); clear HB BJ BX; have HB := n_HB; have BJ := n_BJ; have BX := n_BX; clear n_HB n_BJ n_BX; clear hb; have hx0 : w4.cell? ⟨gx, 0, none⟩ = some (.int .i64 x.f0) := (blk_cell BX.out 0).trans rfl; have hx1 : w4.cell? ⟨gx, 1, none⟩ = some (.int .i64 x.f1) := (blk_cell BX.out 1).trans rfl)
    | ((with_reducible refine gate_dst (N := 25) rfl ?_); go_loud (refine wpList_load_row rfl 27 (.tmp 2) rfl gj rfl 27 cs.toArray (0, 0) _ BJ.out Try.underlying27 rfl (by rw [size27, List.size_toArray, HN.out]) ?_))
    | ((with_reducible refine gate_dst (N := 26) rfl ?_); go_loud (refine wpList_load_row rfl 32 (.tmp 3) rfl gx rfl 32 (ecells x) (0, 0) _ BX.out Try.underlying32 rfl size32 ?_))
    | ((with_reducible refine gate_callee (f := 7) rfl ?_); refine goesL_ (some 27) rfl rfl Try.func7 (by kernel_rfl) rfl #[.agg cs.toArray, .agg (ecells x)] rfl (by (try simp only [List.map_toArray, List.map_cons, List.map_nil]); first | done | rfl) ?_; go_loud (refine (journal_Apply.calls J J0 cs x er _ _ (JVF.of_JV (HJ.out.below (by repeat (first | (with_reducible first | exact HB.out | apply below_alloc | apply pw_below_drewN | apply below_drew1) | exact HB.out)))) HS.out HA.out).mono ?_); rintro e w5 ⟨cs', rfl, hj5, hb⟩; refine ⟨_, rfl, ?_⟩; have n_BJ := Aside0.mk (blk_below (by (with_reducible repeat (first | refine blk_drewN ?_ _ | refine blk_drew ?_ | refine blk_alloc ?_ _)); exact BJ.out) hb); have n_BX := Aside0.mk (blk_below (by (with_reducible repeat (first | refine blk_drewN ?_ _ | refine blk_drew ?_ | refine blk_alloc ?_ _)); exact BX.out) hb); have n_HB := Aside0.mk (below_step (by repeat (first | (with_reducible first | exact HB.out | apply below_alloc | apply pw_below_drewN | apply below_drew1) | exact HB.out)) hb); clear HB BJ BX; have HB := n_HB; have BJ := n_BJ; have BX := n_BX; clear n_HB n_BJ n_BX; clear hb; have hx0 : w5.cell? ⟨gx, 0, none⟩ = some (.int .i64 x.f0) := (blk_cell BX.out 0).trans rfl; have hx1 : w5.cell? ⟨gx, 1, none⟩ = some (.int .i64 x.f1) := (blk_cell BX.out 1).trans rfl; have HJ5 := Aside0.mk hj5; have HN5 := Aside0.mk hj5.now.len.2; clear hj5)
    | ((with_reducible refine gate_dst (N := 7) rfl ?_); refine box_event ?hg (N := 7) ?hd (cs := #[.int .i64 0, .int .i64 0, .slice none 0 0, .int .i64 0, .int .i64 0, .slice none 0 0, .int .i64 0, .int .i64 0, .slice none 0 0, .int .i64 0, .int .i64 0, .slice none 0 0]) (t := 27) ?hr ?_; (case hd => rfl); (case hg => rfl); (case hr => first | (go_simp; done) | (go_simp; rfl)); intro g7 hg w6 hbox hb; have B7 := Aside0.mk hbox; have GEB7 := Aside0.mk ((by rw [hg]; exact (below_size (by repeat (first | (with_reducible first | exact HB.out | apply below_alloc | apply pw_below_drewN | apply below_drew1) | exact HB.out)))) : w.heap.size ≤ g7); have NBJB7 := Aside0.mk ((by rw [hg]; exact Nat.ne_of_lt (blk_lt (by (with_reducible repeat (first | refine blk_drewN ?_ _ | refine blk_drew ?_ | refine blk_alloc ?_ _)); exact BJ.out))) : gj ≠ g7); have NBXB7 := Aside0.mk ((by rw [hg]; exact Nat.ne_of_lt (blk_lt (by (with_reducible repeat (first | refine blk_drewN ?_ _ | refine blk_drew ?_ | refine blk_alloc ?_ _)); exact BX.out))) : gx ≠ g7); have HJN : Aside0 (JVF w6 (fun k_ => k_ < w5.heap.size) J0 cs') := Aside0.mk ((HJ5.out.bound.below hb).mono (fun k_ hk_ => hk_.1.2)); have G7N : Aside0 (w5.heap.size ≤ g7) := Aside0.mk (by rw [hg]; exact Nat.le_refl _); have n_BJ := Aside0.mk (blk_below (by (with_reducible repeat (first | refine blk_drewN ?_ _ | refine blk_drew ?_ | refine blk_alloc ?_ _)); exact BJ.out) hb); have n_BX := Aside0.mk (blk_below (by (with_reducible repeat (first | refine blk_drewN ?_ _ | refine blk_drew ?_ | refine blk_alloc ?_ _)); exact BX.out) hb); have n_HB := Aside0.mk (below_step (by repeat (first | (with_reducible first | exact HB.out | apply below_alloc | apply pw_below_drewN | apply below_drew1) | exact HB.out)) hb); clear HB BJ BX; have HB := n_HB; have BJ := n_BJ; have BX := n_BX; clear n_HB n_BJ n_BX; clear hbox hg hb; have hx0 : w6.cell? ⟨gx, 0, none⟩ = some (.int .i64 x.f0) := (blk_cell BX.out 0).trans rfl; have hx1 : w6.cell? ⟨gx, 1, none⟩ = some (.int .i64 x.f1) := (blk_cell BX.out 1).trans rfl)
    | ((with_reducible refine gate_ (.store 27 (.tmp 7) (.tmp 28)) rfl ?_); go_loud (refine wpList_storeR rfl rfl 27 (.tmp 7) (.tmp 28) rfl g7 (0) rfl (.agg cs'.toArray) rfl cs' rfl #[.int .i64 0, .int .i64 0, .slice none 0 0, .int .i64 0, .int .i64 0, .slice none 0 0, .int .i64 0, .int .i64 0, .slice none 0 0, .int .i64 0, .int .i64 0, .slice none 0 0] 27 B7.out (by rw [size27, HN5.out]) (by rw [HN5.out]; decide) (Kd.K_one _ HJN.out.now) cs'.toArray (by rw [HN5.out]; simp) ?_); intro w7 hs st; have n_J := Aside0.mk (HJN.out.keep st (fun k_ hk_ => Nat.ne_of_lt (Nat.lt_of_lt_of_le hk_ G7N.out))); clear HJN; have HJN := n_J; clear n_J; have n_BJ := Aside0.mk (Step.blk st (by (with_reducible repeat (first | refine blk_drewN ?_ _ | refine blk_drew ?_ | refine blk_alloc ?_ _)); exact BJ.out) (NBJB7.out)); have n_BX := Aside0.mk (Step.blk st (by (with_reducible repeat (first | refine blk_drewN ?_ _ | refine blk_drew ?_ | refine blk_alloc ?_ _)); exact BX.out) (NBXB7.out)); have n_HB := Aside0.mk (Step.fresh st (by repeat (first | (with_reducible first | exact HB.out | apply below_alloc | apply pw_below_drewN | apply below_drew1) | exact HB.out)) GEB7.out); clear HB BJ BX; have HB := n_HB; have BJ := n_BJ; have BX := n_BX; clear n_HB n_BJ n_BX; clear B7; have B7 := Aside0.mk hs; clear hs st; have hx0 : w7.cell? ⟨gx, 0, none⟩ = some (.int .i64 x.f0) := (blk_cell BX.out 0).trans rfl; have hx1 : w7.cell? ⟨gx, 1, none⟩ = some (.int .i64 x.f1) := (blk_cell BX.out 1).trans rfl)
    | ((with_reducible refine gate_dst (N := 32) rfl ?_); go_loud (refine wpList_load_row rfl 27 (.tmp 7) rfl g7 rfl 27 cs'.toArray (0, 0) _ B7.out Try.underlying27 rfl (by rw [size27, List.size_toArray, HN5.out]) ?_))
    | ((with_reducible refine gate_callee (f := 12) rfl ?_); refine goesL_ (some 34) rfl rfl Try.func12 (by kernel_rfl) rfl #[.agg cs'.toArray, .agg #[.int .i64 0, .int .i64 0, .slice none 0 0, .int .i64 0, .int .i64 0, .slice none 0 0, .int .i64 0, .int .i64 0, .slice none 0 0, .int .i64 0, .int .i64 0, .slice none 0 0]] rfl (by (try simp only [List.map_toArray, List.map_cons, List.map_nil]); first | done | rfl) ?_; go_loud (refine (winnowerref14_Same.calls J0 cs' cs0 _ HJN.out.now (JV.zero _)).mono ?_); rintro e w8 ⟨rfl, hb⟩; refine ⟨_, rfl, ?_⟩; have n_BJ := Aside0.mk (blk_below (by (with_reducible repeat (first | refine blk_drewN ?_ _ | refine blk_drew ?_ | refine blk_alloc ?_ _)); exact BJ.out) hb); have n_BX := Aside0.mk (blk_below (by (with_reducible repeat (first | refine blk_drewN ?_ _ | refine blk_drew ?_ | refine blk_alloc ?_ _)); exact BX.out) hb); have n_HB := Aside0.mk (below_step (by repeat (first | (with_reducible first | exact HB.out | apply below_alloc | apply pw_below_drewN | apply below_drew1) | exact HB.out)) hb); clear HB BJ BX; have HB := n_HB; have BJ := n_BJ; have BX := n_BX; clear n_HB n_BJ n_BX; clear hb; have hx0 : w8.cell? ⟨gx, 0, none⟩ = some (.int .i64 x.f0) := (blk_cell BX.out 0).trans rfl; have hx1 : w8.cell? ⟨gx, 1, none⟩ = some (.int .i64 x.f1) := (blk_cell BX.out 1).trans rfl))
  go_ret
  exact ⟨rfl, HB.out⟩
set_option maxHeartbeats 8000000 in
set_option maxRecDepth 100000 in
theorem winnowerlaw14_JournalParts.ok (J J' : List Log) (cs : List Value) (x : S32) (w : World) (hJ : JV w J cs) (hF : fewJ J = true) (hA : applyJ J x = (J', 0)) :
    Calls Try.prog 4 #[.agg cs.toArray, .agg (ecells x)] w fun e w' => e = .returned (.bool true) ∧ Below w.heap.size w w' := by
  have HB := Aside0.mk (Below.refl w.heap.size w)
  have HJ := Aside0.mk hJ
  have HN := Aside0.mk hJ.len.2
  have HFW := Aside0.mk hF
  have hu25 := Try.underlying25
  have hu32 := Try.underlying32
  have hu27 := Try.underlying27
  have HS := Aside0.mk (show ∀ i, i < 4 → (lg J i).2.2.length ≤ 100000 from fun i hi => by
    have h_ := of_decide_eq_true (show decide (∀ i : Nat, i < 4 → (lg J i).2.2.length ≤ 100) = true from hF) i hi
    omega)
  have HA := Aside0.mk hA
  have HOT := Aside0.mk (applyJ_other hJ.len.1 hA)
  obtain ⟨hp, hend⟩ := applyJ_end hJ.len.1 hA
  have HE1 := Aside0.mk hend
  obtain ⟨ip, hip⟩ := Int.eq_ofNat_of_zero_le hp.1
  have HIP := Aside0.mk hip
  have HP4 := Aside0.mk (show ip < 4 by omega)
  have HPP := Aside0.mk hp
  clear hJ hF hA hp hend hip
  go_enter Try.func4, Try.ntmps4
  go_wp2_with (first
    | ((with_reducible refine gate_dst (N := 2) rfl ?_); refine box_event ?hg (N := 2) ?hd (cs := cs.toArray) (t := 27) ?hr ?_; (case hd => rfl); (case hg => rfl); (case hr => first | (go_simp; done) | (go_simp; rfl)); intro gj hg w1 hbox hb; have BJ := Aside0.mk hbox; have GEBJ := Aside0.mk ((by rw [hg]; exact (below_size (by repeat (first | (with_reducible first | exact HB.out | apply below_alloc | apply pw_below_drewN | apply below_drew1) | exact HB.out)))) : w.heap.size ≤ gj); have n_HB := Aside0.mk (below_step (by repeat (first | (with_reducible first | exact HB.out | apply below_alloc | apply pw_below_drewN | apply below_drew1) | exact HB.out)) hb); clear HB ; have HB := n_HB; clear n_HB ; clear hbox hg hb)
    | ((with_reducible refine gate_dst (N := 3) rfl ?_); refine box_event ?hg (N := 3) ?hd (cs := ecells x) (t := 32) ?hr ?_; (case hd => rfl); (case hg => rfl); (case hr => first | (go_simp; done) | (go_simp; rfl)); intro gx hg w2 hbox hb; have BX := Aside0.mk hbox; have GEBX := Aside0.mk ((by rw [hg]; exact (below_size (by repeat (first | (with_reducible first | exact HB.out | apply below_alloc | apply pw_below_drewN | apply below_drew1) | exact HB.out)))) : w.heap.size ≤ gx); have NBJBX := Aside0.mk ((by rw [hg]; exact Nat.ne_of_lt (blk_lt (by (with_reducible repeat (first | refine blk_drewN ?_ _ | refine blk_drew ?_ | refine blk_alloc ?_ _)); exact BJ.out))) : gj ≠ gx); have n_BJ := Aside0.mk (blk_below (by (with_reducible repeat (first | refine blk_drewN ?_ _ | refine blk_drew ?_ | refine blk_alloc ?_ _)); exact BJ.out) hb); have n_HB := Aside0.mk (below_step (by repeat (first | (with_reducible first | exact HB.out | apply below_alloc | apply pw_below_drewN | apply below_drew1) | exact HB.out)) hb); clear HB BJ; have HB := n_HB; have BJ := n_BJ; clear n_HB n_BJ; clear hbox hg hb; have hx0 : w2.cell? ⟨gx, 0, none⟩ = some (.int .i64 x.f0) := (blk_cell BX.out 0).trans rfl; have hx1 : w2.cell? ⟨gx, 1, none⟩ = some (.int .i64 x.f1) := (blk_cell BX.out 1).trans rfl)
    | ((with_reducible refine gate_callee (f := 6) rfl ?_); refine goesL_ (some 14) rfl rfl Try.func6 (by kernel_rfl) rfl #[] rfl (by (try simp only [List.map_toArray, List.map_cons, List.map_nil]); first | done | rfl) ?_; go_loud (refine (winnowerlaw14_awake.calls _).mono ?_); rintro e w3 ⟨rfl, hb⟩; refine ⟨_, rfl, ?_⟩; have n_BJ := Aside0.mk (blk_below (by (with_reducible repeat (first | refine blk_drewN ?_ _ | refine blk_drew ?_ | refine blk_alloc ?_ _)); exact BJ.out) hb); have n_BX := Aside0.mk (blk_below (by (with_reducible repeat (first | refine blk_drewN ?_ _ | refine blk_drew ?_ | refine blk_alloc ?_ _)); exact BX.out) hb); have n_HB := Aside0.mk (below_step (by repeat (first | (with_reducible first | exact HB.out | apply below_alloc | apply pw_below_drewN | apply below_drew1) | exact HB.out)) hb); clear HB BJ BX; have HB := n_HB; have BJ := n_BJ; have BX := n_BX; clear n_HB n_BJ n_BX; clear hb; have hx0 : w3.cell? ⟨gx, 0, none⟩ = some (.int .i64 x.f0) := (blk_cell BX.out 0).trans rfl; have hx1 : w3.cell? ⟨gx, 1, none⟩ = some (.int .i64 x.f1) := (blk_cell BX.out 1).trans rfl)
    | ((with_reducible refine gate_dst (N := 15) rfl ?_); go_loud (refine wpList_load_row rfl 27 (.tmp 2) rfl gj rfl 27 cs.toArray (0, 0) _ BJ.out Try.underlying27 rfl (by rw [size27, List.size_toArray, HN.out]) ?_))
    | ((with_reducible refine gate_callee (f := 13) rfl ?_); refine goesL_ (some 16) rfl rfl Try.func13 (by kernel_rfl) rfl #[.agg cs.toArray] rfl (by (try simp only [List.map_toArray, List.map_cons, List.map_nil]); first | done | rfl) ?_; go_loud (refine (winnowerref14_Few.calls J cs true _ (HJ.out.below (by repeat (first | (with_reducible first | exact HB.out | apply below_alloc | apply pw_below_drewN | apply below_drew1) | exact HB.out))) HFW.out).mono ?_); rintro e w4 ⟨rfl, hb⟩; refine ⟨_, rfl, ?_⟩; have n_BJ := Aside0.mk (blk_below (by (with_reducible repeat (first | refine blk_drewN ?_ _ | refine blk_drew ?_ | refine blk_alloc ?_ _)); exact BJ.out) hb); have n_BX := Aside0.mk (blk_below (by (with_reducible repeat (first | refine blk_drewN ?_ _ | refine blk_drew ?_ | refine blk_alloc ?_ _)); exact BX.out) hb); have n_HB := Aside0.mk (below_step (by repeat (first | (with_reducible first | exact HB.out | apply below_alloc | apply pw_below_drewN | apply below_drew1) | exact HB.out)) hb); clear HB BJ BX; have HB := n_HB; have BJ := n_BJ; have BX := n_BX; clear n_HB n_BJ n_BX; clear hb; have hx0 : w4.cell? ⟨gx, 0, none⟩ = some (.int .i64 x.f0) := (blk_cell BX.out 0).trans rfl; have hx1 : w4.cell? ⟨gx, 1, none⟩ = some (.int .i64 x.f1) := (blk_cell BX.out 1).trans rfl)
    | ((with_reducible refine gate_dst (N := 25) rfl ?_); go_loud (refine wpList_load_row rfl 27 (.tmp 2) rfl gj rfl 27 cs.toArray (0, 0) _ BJ.out Try.underlying27 rfl (by rw [size27, List.size_toArray, HN.out]) ?_))
    | ((with_reducible refine gate_dst (N := 26) rfl ?_); go_loud (refine wpList_load_row rfl 32 (.tmp 3) rfl gx rfl 32 (ecells x) (0, 0) _ BX.out Try.underlying32 rfl size32 ?_))
    | ((with_reducible refine gate_callee (f := 7) rfl ?_); refine goesL_ (some 27) rfl rfl Try.func7 (by kernel_rfl) rfl #[.agg cs.toArray, .agg (ecells x)] rfl (by (try simp only [List.map_toArray, List.map_cons, List.map_nil]); first | done | rfl) ?_; go_loud (refine (journal_Apply.calls J J' cs x 0 _ _ (JVF.of_JV (HJ.out.below (by repeat (first | (with_reducible first | exact HB.out | apply below_alloc | apply pw_below_drewN | apply below_drew1) | exact HB.out)))) HS.out HA.out).mono ?_); rintro e w5 ⟨cs', rfl, hj5, hb⟩; refine ⟨_, rfl, ?_⟩; have n_BJ := Aside0.mk (blk_below (by (with_reducible repeat (first | refine blk_drewN ?_ _ | refine blk_drew ?_ | refine blk_alloc ?_ _)); exact BJ.out) hb); have n_BX := Aside0.mk (blk_below (by (with_reducible repeat (first | refine blk_drewN ?_ _ | refine blk_drew ?_ | refine blk_alloc ?_ _)); exact BX.out) hb); have n_HB := Aside0.mk (below_step (by repeat (first | (with_reducible first | exact HB.out | apply below_alloc | apply pw_below_drewN | apply below_drew1) | exact HB.out)) hb); clear HB BJ BX; have HB := n_HB; have BJ := n_BJ; have BX := n_BX; clear n_HB n_BJ n_BX; clear hb; have hx0 : w5.cell? ⟨gx, 0, none⟩ = some (.int .i64 x.f0) := (blk_cell BX.out 0).trans rfl; have hx1 : w5.cell? ⟨gx, 1, none⟩ = some (.int .i64 x.f1) := (blk_cell BX.out 1).trans rfl; have HJ5 := Aside0.mk hj5; have HN5 := Aside0.mk hj5.now.len.2; clear hj5)
    | ((with_reducible refine gate_dst (N := 7) rfl ?_); refine box_event ?hg (N := 7) ?hd (cs := #[.int .i64 0, .int .i64 0, .slice none 0 0, .int .i64 0, .int .i64 0, .slice none 0 0, .int .i64 0, .int .i64 0, .slice none 0 0, .int .i64 0, .int .i64 0, .slice none 0 0]) (t := 27) ?hr ?_; (case hd => rfl); (case hg => rfl); (case hr => first | (go_simp; done) | (go_simp; rfl)); intro g7 hg w6 hbox hb; have B7 := Aside0.mk hbox; have GEB7 := Aside0.mk ((by rw [hg]; exact (below_size (by repeat (first | (with_reducible first | exact HB.out | apply below_alloc | apply pw_below_drewN | apply below_drew1) | exact HB.out)))) : w.heap.size ≤ g7); have NBJB7 := Aside0.mk ((by rw [hg]; exact Nat.ne_of_lt (blk_lt (by (with_reducible repeat (first | refine blk_drewN ?_ _ | refine blk_drew ?_ | refine blk_alloc ?_ _)); exact BJ.out))) : gj ≠ g7); have NBXB7 := Aside0.mk ((by rw [hg]; exact Nat.ne_of_lt (blk_lt (by (with_reducible repeat (first | refine blk_drewN ?_ _ | refine blk_drew ?_ | refine blk_alloc ?_ _)); exact BX.out))) : gx ≠ g7); have HJN : Aside0 (JVF w6 (fun k_ => k_ < w5.heap.size) J' cs') := Aside0.mk ((HJ5.out.bound.below hb).mono (fun k_ hk_ => hk_.1.2)); have G7N : Aside0 (w5.heap.size ≤ g7) := Aside0.mk (by rw [hg]; exact Nat.le_refl _); have n_BJ := Aside0.mk (blk_below (by (with_reducible repeat (first | refine blk_drewN ?_ _ | refine blk_drew ?_ | refine blk_alloc ?_ _)); exact BJ.out) hb); have n_BX := Aside0.mk (blk_below (by (with_reducible repeat (first | refine blk_drewN ?_ _ | refine blk_drew ?_ | refine blk_alloc ?_ _)); exact BX.out) hb); have n_HB := Aside0.mk (below_step (by repeat (first | (with_reducible first | exact HB.out | apply below_alloc | apply pw_below_drewN | apply below_drew1) | exact HB.out)) hb); clear HB BJ BX; have HB := n_HB; have BJ := n_BJ; have BX := n_BX; clear n_HB n_BJ n_BX; clear hbox hg hb; have hx0 : w6.cell? ⟨gx, 0, none⟩ = some (.int .i64 x.f0) := (blk_cell BX.out 0).trans rfl; have hx1 : w6.cell? ⟨gx, 1, none⟩ = some (.int .i64 x.f1) := (blk_cell BX.out 1).trans rfl)
    | ((with_reducible refine gate_ (.store 27 (.tmp 7) (.tmp 28)) rfl ?_); go_loud (refine wpList_storeR rfl rfl 27 (.tmp 7) (.tmp 28) rfl g7 (0) rfl (.agg cs'.toArray) rfl cs' rfl #[.int .i64 0, .int .i64 0, .slice none 0 0, .int .i64 0, .int .i64 0, .slice none 0 0, .int .i64 0, .int .i64 0, .slice none 0 0, .int .i64 0, .int .i64 0, .slice none 0 0] 27 B7.out (by rw [size27, HN5.out]) (by rw [HN5.out]; decide) (Kd.K_one _ HJN.out.now) cs'.toArray (by rw [HN5.out]; simp) ?_); intro w7 hs st; have n_J := Aside0.mk (HJN.out.keep st (fun k_ hk_ => Nat.ne_of_lt (Nat.lt_of_lt_of_le hk_ G7N.out))); clear HJN; have HJN := n_J; clear n_J; have n_BJ := Aside0.mk (Step.blk st (by (with_reducible repeat (first | refine blk_drewN ?_ _ | refine blk_drew ?_ | refine blk_alloc ?_ _)); exact BJ.out) (NBJB7.out)); have n_BX := Aside0.mk (Step.blk st (by (with_reducible repeat (first | refine blk_drewN ?_ _ | refine blk_drew ?_ | refine blk_alloc ?_ _)); exact BX.out) (NBXB7.out)); have n_HB := Aside0.mk (Step.fresh st (by repeat (first | (with_reducible first | exact HB.out | apply below_alloc | apply pw_below_drewN | apply below_drew1) | exact HB.out)) GEB7.out); clear HB BJ BX; have HB := n_HB; have BJ := n_BJ; have BX := n_BX; clear n_HB n_BJ n_BX; clear B7; have B7 := Aside0.mk hs; clear hs st; have hx0 : w7.cell? ⟨gx, 0, none⟩ = some (.int .i64 x.f0) := (blk_cell BX.out 0).trans rfl; have hx1 : w7.cell? ⟨gx, 1, none⟩ = some (.int .i64 x.f1) := (blk_cell BX.out 1).trans rfl))
  have HW5 := Aside0.mk (Nat.le_refl w5.heap.size)
  go_loopg [9] 4 (fun m v9 wr => ∃ i : Nat, v9 = .int .i64 (i : Int) ∧ Aside0 (i + m = 4) ∧ Aside0 (Below w.heap.size w wr) ∧ Aside0 (wr.heap[gj]? = some (.cells cs.toArray 27 (0, 0))) ∧ Aside0 (wr.heap[gx]? = some (.cells (ecells x) 32 (0, 0))) ∧ Aside0 (wr.heap[g7]? = some (.cells cs'.toArray 27 (0, 0))) ∧ Aside0 (JVF wr (fun k_ => k_ < w5.heap.size) J' cs') ∧ Aside0 (w5.heap.size ≤ wr.heap.size))
  case atStart => exact ⟨0, rfl, ⟨rfl⟩, ⟨HB.out⟩, ⟨BJ.out⟩, ⟨BX.out⟩, ⟨B7.out⟩, ⟨HJN.out⟩, ⟨Nat.le_trans G7N.out (Nat.le_of_lt (blk_lt B7.out))⟩⟩
  case round =>
    clear HB BJ BX B7 HJN hx0 hx1
    obtain ⟨i, rfl, HK, HB, BJ, BX, B7, HJN, HSZ⟩ := hrel
    have hx0 : wr.cell? ⟨gx, 0, none⟩ = some (.int .i64 x.f0) := (blk_cell BX.out 0).trans rfl
    have hx1 : wr.cell? ⟨gx, 1, none⟩ = some (.int .i64 x.f1) := (blk_cell BX.out 1).trans rfl
    cases gk with
    | zero =>
      have hi : i = 4 := by have := HK.out; omega
      subst hi
      obtain ⟨e1, he1⟩ : ∃ e, e = endL (lg J' x.f1.toNat) := ⟨_, rfl⟩
      obtain ⟨e0, he0⟩ : ∃ e, e = endL (lg J x.f1.toNat) := ⟨_, rfl⟩
      have hend := HE1.out
      rw [← he1, ← he0] at hend
      have HR1 := Aside0.mk (show (if 0 ≤ x.f1 ∧ x.f1 ≤ 3 then endL (lg J' x.f1.toNat) else 0) = e1 by rw [if_pos HPP.out, he1])
      have HR0 := Aside0.mk (show (if 0 ≤ x.f1 ∧ x.f1 ≤ 3 then endL (lg J x.f1.toNat) else 0) = e0 by rw [if_pos HPP.out, he0])
      clear he1 he0 HE1
      by_cases hge : e0 ≤ e1
      · have g0 : decide (e0 ≤ e1) = true := decide_eq_true hge
        clear hge hend
        go_wp2_with (first | ((with_reducible refine gate_dst (N := 58) rfl ?_); go_loud (refine wpList_load_row rfl 27 (.tmp 7) rfl g7 rfl 27 cs'.toArray (0, 0) _ B7.out Try.underlying27 rfl (by rw [size27, List.size_toArray, HN5.out]) ?_)) | ((with_reducible refine gate_callee (f := 8) rfl ?_); refine goesL_ (some 61) rfl rfl Try.func8 (by kernel_rfl) rfl #[.agg cs'.toArray, .int .i64 x.f1] rfl (by (try simp only [List.map_toArray, List.map_cons, List.map_nil]); first | done | rfl) ?_; go_loud (refine (journal_End.calls J' cs' x.f1 e1 _ HJN.out.now HR1.out).mono ?_); rintro e w20 ⟨rfl, hb⟩; refine ⟨_, rfl, ?_⟩; have n_J := Aside0.mk ((HJN.out.below hb).mono (fun k_ hk_ => hk_.1)); clear HJN; have HJN := n_J; clear n_J; have n_BJ := Aside0.mk (blk_below (by (with_reducible repeat (first | refine blk_drewN ?_ _ | refine blk_drew ?_ | refine blk_alloc ?_ _)); exact BJ.out) hb); have n_BX := Aside0.mk (blk_below (by (with_reducible repeat (first | refine blk_drewN ?_ _ | refine blk_drew ?_ | refine blk_alloc ?_ _)); exact BX.out) hb); have n_B7 := Aside0.mk (blk_below (by (with_reducible repeat (first | refine blk_drewN ?_ _ | refine blk_drew ?_ | refine blk_alloc ?_ _)); exact B7.out) hb); have n_HB := Aside0.mk (below_step (by repeat (first | (with_reducible first | exact HB.out | apply below_alloc | apply pw_below_drewN | apply below_drew1) | exact HB.out)) hb); clear HB BJ BX B7; have HB := n_HB; have BJ := n_BJ; have BX := n_BX; have B7 := n_B7; clear n_HB n_BJ n_BX n_B7; clear hb; have hx0 : w20.cell? ⟨gx, 0, none⟩ = some (.int .i64 x.f0) := (blk_cell BX.out 0).trans rfl; have hx1 : w20.cell? ⟨gx, 1, none⟩ = some (.int .i64 x.f1) := (blk_cell BX.out 1).trans rfl) | ((with_reducible refine gate_dst (N := 63) rfl ?_); go_loud (refine wpList_load_row rfl 27 (.tmp 2) rfl gj rfl 27 cs.toArray (0, 0) _ BJ.out Try.underlying27 rfl (by rw [size27, List.size_toArray, HN.out]) ?_)) | ((with_reducible refine gate_callee (f := 8) rfl ?_); refine goesL_ (some 66) rfl rfl Try.func8 (by kernel_rfl) rfl #[.agg cs.toArray, .int .i64 x.f1] rfl (by (try simp only [List.map_toArray, List.map_cons, List.map_nil]); first | done | rfl) ?_; go_loud (refine (journal_End.calls J cs x.f1 e0 _ (HJ.out.below (by repeat (first | (with_reducible first | exact HB.out | apply below_alloc | apply pw_below_drewN | apply below_drew1) | exact HB.out))) HR0.out).mono ?_); rintro e w21 ⟨rfl, hb⟩; refine ⟨_, rfl, ?_⟩; have n_J := Aside0.mk ((HJN.out.below hb).mono (fun k_ hk_ => hk_.1)); clear HJN; have HJN := n_J; clear n_J; have n_BJ := Aside0.mk (blk_below (by (with_reducible repeat (first | refine blk_drewN ?_ _ | refine blk_drew ?_ | refine blk_alloc ?_ _)); exact BJ.out) hb); have n_BX := Aside0.mk (blk_below (by (with_reducible repeat (first | refine blk_drewN ?_ _ | refine blk_drew ?_ | refine blk_alloc ?_ _)); exact BX.out) hb); have n_B7 := Aside0.mk (blk_below (by (with_reducible repeat (first | refine blk_drewN ?_ _ | refine blk_drew ?_ | refine blk_alloc ?_ _)); exact B7.out) hb); have n_HB := Aside0.mk (below_step (by repeat (first | (with_reducible first | exact HB.out | apply below_alloc | apply pw_below_drewN | apply below_drew1) | exact HB.out)) hb); clear HB BJ BX B7; have HB := n_HB; have BJ := n_BJ; have BX := n_BX; have B7 := n_B7; clear n_HB n_BJ n_BX n_B7; clear hb; have hx0 : w21.cell? ⟨gx, 0, none⟩ = some (.int .i64 x.f0) := (blk_cell BX.out 0).trans rfl; have hx1 : w21.cell? ⟨gx, 1, none⟩ = some (.int .i64 x.f1) := (blk_cell BX.out 1).trans rfl))
        go_ret
        exact ⟨rfl, HB.out⟩
      · have g0 : decide (e0 ≤ e1) = false := decide_eq_false hge
        rcases hend with h2 | h3 | h4
        · have g2 : (x.f0 == 2) = true := beq_iff_eq.mpr h2
          clear hge h2
          go_wp2_with (first | ((with_reducible refine gate_dst (N := 58) rfl ?_); go_loud (refine wpList_load_row rfl 27 (.tmp 7) rfl g7 rfl 27 cs'.toArray (0, 0) _ B7.out Try.underlying27 rfl (by rw [size27, List.size_toArray, HN5.out]) ?_)) | ((with_reducible refine gate_callee (f := 8) rfl ?_); refine goesL_ (some 61) rfl rfl Try.func8 (by kernel_rfl) rfl #[.agg cs'.toArray, .int .i64 x.f1] rfl (by (try simp only [List.map_toArray, List.map_cons, List.map_nil]); first | done | rfl) ?_; go_loud (refine (journal_End.calls J' cs' x.f1 e1 _ HJN.out.now HR1.out).mono ?_); rintro e w20 ⟨rfl, hb⟩; refine ⟨_, rfl, ?_⟩; have n_J := Aside0.mk ((HJN.out.below hb).mono (fun k_ hk_ => hk_.1)); clear HJN; have HJN := n_J; clear n_J; have n_BJ := Aside0.mk (blk_below (by (with_reducible repeat (first | refine blk_drewN ?_ _ | refine blk_drew ?_ | refine blk_alloc ?_ _)); exact BJ.out) hb); have n_BX := Aside0.mk (blk_below (by (with_reducible repeat (first | refine blk_drewN ?_ _ | refine blk_drew ?_ | refine blk_alloc ?_ _)); exact BX.out) hb); have n_B7 := Aside0.mk (blk_below (by (with_reducible repeat (first | refine blk_drewN ?_ _ | refine blk_drew ?_ | refine blk_alloc ?_ _)); exact B7.out) hb); have n_HB := Aside0.mk (below_step (by repeat (first | (with_reducible first | exact HB.out | apply below_alloc | apply pw_below_drewN | apply below_drew1) | exact HB.out)) hb); clear HB BJ BX B7; have HB := n_HB; have BJ := n_BJ; have BX := n_BX; have B7 := n_B7; clear n_HB n_BJ n_BX n_B7; clear hb; have hx0 : w20.cell? ⟨gx, 0, none⟩ = some (.int .i64 x.f0) := (blk_cell BX.out 0).trans rfl; have hx1 : w20.cell? ⟨gx, 1, none⟩ = some (.int .i64 x.f1) := (blk_cell BX.out 1).trans rfl) | ((with_reducible refine gate_dst (N := 63) rfl ?_); go_loud (refine wpList_load_row rfl 27 (.tmp 2) rfl gj rfl 27 cs.toArray (0, 0) _ BJ.out Try.underlying27 rfl (by rw [size27, List.size_toArray, HN.out]) ?_)) | ((with_reducible refine gate_callee (f := 8) rfl ?_); refine goesL_ (some 66) rfl rfl Try.func8 (by kernel_rfl) rfl #[.agg cs.toArray, .int .i64 x.f1] rfl (by (try simp only [List.map_toArray, List.map_cons, List.map_nil]); first | done | rfl) ?_; go_loud (refine (journal_End.calls J cs x.f1 e0 _ (HJ.out.below (by repeat (first | (with_reducible first | exact HB.out | apply below_alloc | apply pw_below_drewN | apply below_drew1) | exact HB.out))) HR0.out).mono ?_); rintro e w21 ⟨rfl, hb⟩; refine ⟨_, rfl, ?_⟩; have n_J := Aside0.mk ((HJN.out.below hb).mono (fun k_ hk_ => hk_.1)); clear HJN; have HJN := n_J; clear n_J; have n_BJ := Aside0.mk (blk_below (by (with_reducible repeat (first | refine blk_drewN ?_ _ | refine blk_drew ?_ | refine blk_alloc ?_ _)); exact BJ.out) hb); have n_BX := Aside0.mk (blk_below (by (with_reducible repeat (first | refine blk_drewN ?_ _ | refine blk_drew ?_ | refine blk_alloc ?_ _)); exact BX.out) hb); have n_B7 := Aside0.mk (blk_below (by (with_reducible repeat (first | refine blk_drewN ?_ _ | refine blk_drew ?_ | refine blk_alloc ?_ _)); exact B7.out) hb); have n_HB := Aside0.mk (below_step (by repeat (first | (with_reducible first | exact HB.out | apply below_alloc | apply pw_below_drewN | apply below_drew1) | exact HB.out)) hb); clear HB BJ BX B7; have HB := n_HB; have BJ := n_BJ; have BX := n_BX; have B7 := n_B7; clear n_HB n_BJ n_BX n_B7; clear hb; have hx0 : w21.cell? ⟨gx, 0, none⟩ = some (.int .i64 x.f0) := (blk_cell BX.out 0).trans rfl; have hx1 : w21.cell? ⟨gx, 1, none⟩ = some (.int .i64 x.f1) := (blk_cell BX.out 1).trans rfl))
          go_ret
          exact ⟨rfl, HB.out⟩
        · have g2 : (x.f0 == 2) = false := beq_eq_false_iff_ne.mpr (by rw [h3]; decide)
          have g3 : (x.f0 == 3) = true := beq_iff_eq.mpr h3
          clear hge h3
          go_wp2_with (first | ((with_reducible refine gate_dst (N := 58) rfl ?_); go_loud (refine wpList_load_row rfl 27 (.tmp 7) rfl g7 rfl 27 cs'.toArray (0, 0) _ B7.out Try.underlying27 rfl (by rw [size27, List.size_toArray, HN5.out]) ?_)) | ((with_reducible refine gate_callee (f := 8) rfl ?_); refine goesL_ (some 61) rfl rfl Try.func8 (by kernel_rfl) rfl #[.agg cs'.toArray, .int .i64 x.f1] rfl (by (try simp only [List.map_toArray, List.map_cons, List.map_nil]); first | done | rfl) ?_; go_loud (refine (journal_End.calls J' cs' x.f1 e1 _ HJN.out.now HR1.out).mono ?_); rintro e w20 ⟨rfl, hb⟩; refine ⟨_, rfl, ?_⟩; have n_J := Aside0.mk ((HJN.out.below hb).mono (fun k_ hk_ => hk_.1)); clear HJN; have HJN := n_J; clear n_J; have n_BJ := Aside0.mk (blk_below (by (with_reducible repeat (first | refine blk_drewN ?_ _ | refine blk_drew ?_ | refine blk_alloc ?_ _)); exact BJ.out) hb); have n_BX := Aside0.mk (blk_below (by (with_reducible repeat (first | refine blk_drewN ?_ _ | refine blk_drew ?_ | refine blk_alloc ?_ _)); exact BX.out) hb); have n_B7 := Aside0.mk (blk_below (by (with_reducible repeat (first | refine blk_drewN ?_ _ | refine blk_drew ?_ | refine blk_alloc ?_ _)); exact B7.out) hb); have n_HB := Aside0.mk (below_step (by repeat (first | (with_reducible first | exact HB.out | apply below_alloc | apply pw_below_drewN | apply below_drew1) | exact HB.out)) hb); clear HB BJ BX B7; have HB := n_HB; have BJ := n_BJ; have BX := n_BX; have B7 := n_B7; clear n_HB n_BJ n_BX n_B7; clear hb; have hx0 : w20.cell? ⟨gx, 0, none⟩ = some (.int .i64 x.f0) := (blk_cell BX.out 0).trans rfl; have hx1 : w20.cell? ⟨gx, 1, none⟩ = some (.int .i64 x.f1) := (blk_cell BX.out 1).trans rfl) | ((with_reducible refine gate_dst (N := 63) rfl ?_); go_loud (refine wpList_load_row rfl 27 (.tmp 2) rfl gj rfl 27 cs.toArray (0, 0) _ BJ.out Try.underlying27 rfl (by rw [size27, List.size_toArray, HN.out]) ?_)) | ((with_reducible refine gate_callee (f := 8) rfl ?_); refine goesL_ (some 66) rfl rfl Try.func8 (by kernel_rfl) rfl #[.agg cs.toArray, .int .i64 x.f1] rfl (by (try simp only [List.map_toArray, List.map_cons, List.map_nil]); first | done | rfl) ?_; go_loud (refine (journal_End.calls J cs x.f1 e0 _ (HJ.out.below (by repeat (first | (with_reducible first | exact HB.out | apply below_alloc | apply pw_below_drewN | apply below_drew1) | exact HB.out))) HR0.out).mono ?_); rintro e w21 ⟨rfl, hb⟩; refine ⟨_, rfl, ?_⟩; have n_J := Aside0.mk ((HJN.out.below hb).mono (fun k_ hk_ => hk_.1)); clear HJN; have HJN := n_J; clear n_J; have n_BJ := Aside0.mk (blk_below (by (with_reducible repeat (first | refine blk_drewN ?_ _ | refine blk_drew ?_ | refine blk_alloc ?_ _)); exact BJ.out) hb); have n_BX := Aside0.mk (blk_below (by (with_reducible repeat (first | refine blk_drewN ?_ _ | refine blk_drew ?_ | refine blk_alloc ?_ _)); exact BX.out) hb); have n_B7 := Aside0.mk (blk_below (by (with_reducible repeat (first | refine blk_drewN ?_ _ | refine blk_drew ?_ | refine blk_alloc ?_ _)); exact B7.out) hb); have n_HB := Aside0.mk (below_step (by repeat (first | (with_reducible first | exact HB.out | apply below_alloc | apply pw_below_drewN | apply below_drew1) | exact HB.out)) hb); clear HB BJ BX B7; have HB := n_HB; have BJ := n_BJ; have BX := n_BX; have B7 := n_B7; clear n_HB n_BJ n_BX n_B7; clear hb; have hx0 : w21.cell? ⟨gx, 0, none⟩ = some (.int .i64 x.f0) := (blk_cell BX.out 0).trans rfl; have hx1 : w21.cell? ⟨gx, 1, none⟩ = some (.int .i64 x.f1) := (blk_cell BX.out 1).trans rfl))
          go_ret
          exact ⟨rfl, HB.out⟩
        · exact absurd h4 hge
    | succ m =>
      have hi : i < 4 := by have := HK.out; omega
      have q0 : (0 : Int) ≤ (i : Int) := by omega
      have q1 : (i : Int) < 4 := by omega
      by_cases hpi : (i : Int) = x.f1
      · have qe : ((i : Int) == x.f1) = true := beq_iff_eq.mpr hpi
        clear hpi
        go_wp2
        go_roundg m
        case measure => omega
        case rel => exact ⟨i + 1, by rw [show ((i + 1 : Nat) : Int) = (i : Int) + 1 from by omega], ⟨by have := HK.out; omega⟩, ⟨HB.out⟩, ⟨BJ.out⟩, ⟨BX.out⟩, ⟨B7.out⟩, ⟨HJN.out⟩, ⟨HSZ.out⟩⟩
      · have qe : ((i : Int) == x.f1) = false := beq_eq_false_iff_ne.mpr hpi
        have hoth := HOT.out i hpi
        obtain ⟨A1, c1, a0, a1, a2, hle1, hC1⟩ := (HJ.out).at_ i hi
        obtain ⟨A2, c2, b0, b1, b2, hle2, hC2⟩ := (HJN.out).at_ i hi
        rw [hoth] at b0 b1 b2 hle2 hC2
        obtain ⟨p, hp⟩ : ∃ p, p = lg J i := ⟨_, rfl⟩
        rw [← hp] at a0 a1 a2 hle1 hC1 b0 b1 b2 hle2 hC2
        have HA0 := Aside0.mk a0
        have HA1 := Aside0.mk a1
        have HA2 := Aside0.mk a2
        have HB0 := Aside0.mk b0
        have HB1 := Aside0.mk b1
        have HB2 := Aside0.mk b2
        have HC1 := Aside0.mk hC1
        have HC2 := Aside0.mk hC2
        have HL1 := Aside0.mk hle1
        have HL2 := Aside0.mk hle2
        clear a0 a1 a2 b0 b1 b2 hC1 hC2 hle1 hle2 hp hoth hpi
        go_wp2_with (first
          | ((with_reducible refine gate_dst (N := 10) rfl ?_); refine box_event ?hg (N := 10) ?hd (cs := #[.int .i64 0, .int .i64 0, .slice none 0 0, .int .i64 0, .int .i64 0, .slice none 0 0, .int .i64 0, .int .i64 0, .slice none 0 0, .int .i64 0, .int .i64 0, .slice none 0 0]) (t := 27) ?hr ?_; (case hd => rfl); (case hg => rfl); (case hr => first | (go_simp; done) | (go_simp; rfl)); intro g10 hg w8 hbox hb; have B10 := Aside0.mk hbox; have GEB10 := Aside0.mk ((by rw [hg]; exact (below_size (by repeat (first | (with_reducible first | exact HB.out | apply below_alloc | apply pw_below_drewN | apply below_drew1) | exact HB.out)))) : w.heap.size ≤ g10); have NBJB10 := Aside0.mk ((by rw [hg]; exact Nat.ne_of_lt (blk_lt (by (with_reducible repeat (first | refine blk_drewN ?_ _ | refine blk_drew ?_ | refine blk_alloc ?_ _)); exact BJ.out))) : gj ≠ g10); have NBXB10 := Aside0.mk ((by rw [hg]; exact Nat.ne_of_lt (blk_lt (by (with_reducible repeat (first | refine blk_drewN ?_ _ | refine blk_drew ?_ | refine blk_alloc ?_ _)); exact BX.out))) : gx ≠ g10); have NB7B10 := Aside0.mk ((by rw [hg]; exact Nat.ne_of_lt (blk_lt (by (with_reducible repeat (first | refine blk_drewN ?_ _ | refine blk_drew ?_ | refine blk_alloc ?_ _)); exact B7.out))) : g7 ≠ g10); have GB10N : Aside0 (w5.heap.size ≤ g10) := Aside0.mk (by rw [hg]; have h_ := HSZ.out; first | exact h_ | (simp; exact h_) | omega); have n_J := Aside0.mk ((HJN.out.below hb).mono (fun k_ hk_ => hk_.1)); have n_C := Aside0.mk (Kd.F_mono (Kd.F_below HC2.out hb) (fun k_ hk_ => hk_)); have n_S := Aside0.mk (Nat.le_trans HSZ.out hb.size); clear HJN HC2 HSZ; have HJN := n_J; have HC2 := n_C; have HSZ := n_S; clear n_J n_C n_S; have n_BJ := Aside0.mk (blk_below (by (with_reducible repeat (first | refine blk_drewN ?_ _ | refine blk_drew ?_ | refine blk_alloc ?_ _)); exact BJ.out) hb); have n_BX := Aside0.mk (blk_below (by (with_reducible repeat (first | refine blk_drewN ?_ _ | refine blk_drew ?_ | refine blk_alloc ?_ _)); exact BX.out) hb); have n_B7 := Aside0.mk (blk_below (by (with_reducible repeat (first | refine blk_drewN ?_ _ | refine blk_drew ?_ | refine blk_alloc ?_ _)); exact B7.out) hb); have n_HB := Aside0.mk (below_step (by repeat (first | (with_reducible first | exact HB.out | apply below_alloc | apply pw_below_drewN | apply below_drew1) | exact HB.out)) hb); clear HB BJ BX B7; have HB := n_HB; have BJ := n_BJ; have BX := n_BX; have B7 := n_B7; clear n_HB n_BJ n_BX n_B7; clear hbox hg hb; have hx0 : w8.cell? ⟨gx, 0, none⟩ = some (.int .i64 x.f0) := (blk_cell BX.out 0).trans rfl; have hx1 : w8.cell? ⟨gx, 1, none⟩ = some (.int .i64 x.f1) := (blk_cell BX.out 1).trans rfl)
          | ((with_reducible refine gate_ (.store 27 (.tmp 10) (.tmp 43)) rfl ?_); go_loud (refine wpList_storeR rfl rfl 27 (.tmp 10) (.tmp 43) rfl g10 (0) rfl (.agg #[.int .i64 0, .int .i64 0, .slice none 0 0, .int .i64 0, .int .i64 0, .slice none 0 0, .int .i64 0, .int .i64 0, .slice none 0 0, .int .i64 0, .int .i64 0, .slice none 0 0]) rfl [.int .i64 0, .int .i64 0, .slice none 0 0, .int .i64 0, .int .i64 0, .slice none 0 0, .int .i64 0, .int .i64 0, .slice none 0 0, .int .i64 0, .int .i64 0, .slice none 0 0] rfl #[.int .i64 0, .int .i64 0, .slice none 0 0, .int .i64 0, .int .i64 0, .slice none 0 0, .int .i64 0, .int .i64 0, .slice none 0 0, .int .i64 0, .int .i64 0, .slice none 0 0] 27 B10.out size27 (by simp) (by simp [Value.oneCell']) #[.int .i64 0, .int .i64 0, .slice none 0 0, .int .i64 0, .int .i64 0, .slice none 0 0, .int .i64 0, .int .i64 0, .slice none 0 0, .int .i64 0, .int .i64 0, .slice none 0 0] rfl ?_); intro w9 hs st; have n_J := Aside0.mk (HJN.out.keep st (fun k_ hk_ => Nat.ne_of_lt (Nat.lt_of_lt_of_le hk_ GB10N.out))); have n_C := Aside0.mk (Kd.F_keep HC2.out st.1 (fun k_ hk_ => Nat.ne_of_lt (Nat.lt_of_lt_of_le hk_ GB10N.out))); have n_S := Aside0.mk (Nat.le_trans HSZ.out st.1.1); clear HJN HC2 HSZ; have HJN := n_J; have HC2 := n_C; have HSZ := n_S; clear n_J n_C n_S; have n_BJ := Aside0.mk (Step.blk st (by (with_reducible repeat (first | refine blk_drewN ?_ _ | refine blk_drew ?_ | refine blk_alloc ?_ _)); exact BJ.out) (NBJB10.out)); have n_BX := Aside0.mk (Step.blk st (by (with_reducible repeat (first | refine blk_drewN ?_ _ | refine blk_drew ?_ | refine blk_alloc ?_ _)); exact BX.out) (NBXB10.out)); have n_B7 := Aside0.mk (Step.blk st (by (with_reducible repeat (first | refine blk_drewN ?_ _ | refine blk_drew ?_ | refine blk_alloc ?_ _)); exact B7.out) (NB7B10.out)); have n_HB := Aside0.mk (Step.fresh st (by repeat (first | (with_reducible first | exact HB.out | apply below_alloc | apply pw_below_drewN | apply below_drew1) | exact HB.out)) GEB10.out); clear HB BJ BX B7; have HB := n_HB; have BJ := n_BJ; have BX := n_BX; have B7 := n_B7; clear n_HB n_BJ n_BX n_B7; clear B10; have B10 := Aside0.mk hs; clear hs st; have hx0 : w9.cell? ⟨gx, 0, none⟩ = some (.int .i64 x.f0) := (blk_cell BX.out 0).trans rfl; have hx1 : w9.cell? ⟨gx, 1, none⟩ = some (.int .i64 x.f1) := (blk_cell BX.out 1).trans rfl)
          | ((with_reducible refine gate_dst (N := 11) rfl ?_); refine box_event ?hg (N := 11) ?hd (cs := #[.int .i64 0, .int .i64 0, .slice none 0 0, .int .i64 0, .int .i64 0, .slice none 0 0, .int .i64 0, .int .i64 0, .slice none 0 0, .int .i64 0, .int .i64 0, .slice none 0 0]) (t := 27) ?hr ?_; (case hd => rfl); (case hg => rfl); (case hr => first | (go_simp; done) | (go_simp; rfl)); intro g11 hg w10 hbox hb; have B11 := Aside0.mk hbox; have GEB11 := Aside0.mk ((by rw [hg]; exact (below_size (by repeat (first | (with_reducible first | exact HB.out | apply below_alloc | apply pw_below_drewN | apply below_drew1) | exact HB.out)))) : w.heap.size ≤ g11); have NBJB11 := Aside0.mk ((by rw [hg]; exact Nat.ne_of_lt (blk_lt (by (with_reducible repeat (first | refine blk_drewN ?_ _ | refine blk_drew ?_ | refine blk_alloc ?_ _)); exact BJ.out))) : gj ≠ g11); have NBXB11 := Aside0.mk ((by rw [hg]; exact Nat.ne_of_lt (blk_lt (by (with_reducible repeat (first | refine blk_drewN ?_ _ | refine blk_drew ?_ | refine blk_alloc ?_ _)); exact BX.out))) : gx ≠ g11); have NB7B11 := Aside0.mk ((by rw [hg]; exact Nat.ne_of_lt (blk_lt (by (with_reducible repeat (first | refine blk_drewN ?_ _ | refine blk_drew ?_ | refine blk_alloc ?_ _)); exact B7.out))) : g7 ≠ g11); have NB10B11 := Aside0.mk ((by rw [hg]; exact Nat.ne_of_lt (blk_lt (by (with_reducible repeat (first | refine blk_drewN ?_ _ | refine blk_drew ?_ | refine blk_alloc ?_ _)); exact B10.out))) : g10 ≠ g11); have GB11N : Aside0 (w5.heap.size ≤ g11) := Aside0.mk (by rw [hg]; have h_ := HSZ.out; first | exact h_ | (simp; exact h_) | omega); have n_J := Aside0.mk ((HJN.out.below hb).mono (fun k_ hk_ => hk_.1)); have n_C := Aside0.mk (Kd.F_mono (Kd.F_below HC2.out hb) (fun k_ hk_ => hk_)); have n_S := Aside0.mk (Nat.le_trans HSZ.out hb.size); clear HJN HC2 HSZ; have HJN := n_J; have HC2 := n_C; have HSZ := n_S; clear n_J n_C n_S; have n_BJ := Aside0.mk (blk_below (by (with_reducible repeat (first | refine blk_drewN ?_ _ | refine blk_drew ?_ | refine blk_alloc ?_ _)); exact BJ.out) hb); have n_BX := Aside0.mk (blk_below (by (with_reducible repeat (first | refine blk_drewN ?_ _ | refine blk_drew ?_ | refine blk_alloc ?_ _)); exact BX.out) hb); have n_B7 := Aside0.mk (blk_below (by (with_reducible repeat (first | refine blk_drewN ?_ _ | refine blk_drew ?_ | refine blk_alloc ?_ _)); exact B7.out) hb); have n_B10 := Aside0.mk (blk_below (by (with_reducible repeat (first | refine blk_drewN ?_ _ | refine blk_drew ?_ | refine blk_alloc ?_ _)); exact B10.out) hb); have n_HB := Aside0.mk (below_step (by repeat (first | (with_reducible first | exact HB.out | apply below_alloc | apply pw_below_drewN | apply below_drew1) | exact HB.out)) hb); clear HB BJ BX B7 B10; have HB := n_HB; have BJ := n_BJ; have BX := n_BX; have B7 := n_B7; have B10 := n_B10; clear n_HB n_BJ n_BX n_B7 n_B10; clear hbox hg hb; have hx0 : w10.cell? ⟨gx, 0, none⟩ = some (.int .i64 x.f0) := (blk_cell BX.out 0).trans rfl; have hx1 : w10.cell? ⟨gx, 1, none⟩ = some (.int .i64 x.f1) := (blk_cell BX.out 1).trans rfl)
          | ((with_reducible refine gate_ (.store 27 (.tmp 11) (.tmp 44)) rfl ?_); go_loud (refine wpList_storeR rfl rfl 27 (.tmp 11) (.tmp 44) rfl g11 (0) rfl (.agg #[.int .i64 0, .int .i64 0, .slice none 0 0, .int .i64 0, .int .i64 0, .slice none 0 0, .int .i64 0, .int .i64 0, .slice none 0 0, .int .i64 0, .int .i64 0, .slice none 0 0]) rfl [.int .i64 0, .int .i64 0, .slice none 0 0, .int .i64 0, .int .i64 0, .slice none 0 0, .int .i64 0, .int .i64 0, .slice none 0 0, .int .i64 0, .int .i64 0, .slice none 0 0] rfl #[.int .i64 0, .int .i64 0, .slice none 0 0, .int .i64 0, .int .i64 0, .slice none 0 0, .int .i64 0, .int .i64 0, .slice none 0 0, .int .i64 0, .int .i64 0, .slice none 0 0] 27 B11.out size27 (by simp) (by simp [Value.oneCell']) #[.int .i64 0, .int .i64 0, .slice none 0 0, .int .i64 0, .int .i64 0, .slice none 0 0, .int .i64 0, .int .i64 0, .slice none 0 0, .int .i64 0, .int .i64 0, .slice none 0 0] rfl ?_); intro w11 hs st; have n_J := Aside0.mk (HJN.out.keep st (fun k_ hk_ => Nat.ne_of_lt (Nat.lt_of_lt_of_le hk_ GB11N.out))); have n_C := Aside0.mk (Kd.F_keep HC2.out st.1 (fun k_ hk_ => Nat.ne_of_lt (Nat.lt_of_lt_of_le hk_ GB11N.out))); have n_S := Aside0.mk (Nat.le_trans HSZ.out st.1.1); clear HJN HC2 HSZ; have HJN := n_J; have HC2 := n_C; have HSZ := n_S; clear n_J n_C n_S; have n_BJ := Aside0.mk (Step.blk st (by (with_reducible repeat (first | refine blk_drewN ?_ _ | refine blk_drew ?_ | refine blk_alloc ?_ _)); exact BJ.out) (NBJB11.out)); have n_BX := Aside0.mk (Step.blk st (by (with_reducible repeat (first | refine blk_drewN ?_ _ | refine blk_drew ?_ | refine blk_alloc ?_ _)); exact BX.out) (NBXB11.out)); have n_B7 := Aside0.mk (Step.blk st (by (with_reducible repeat (first | refine blk_drewN ?_ _ | refine blk_drew ?_ | refine blk_alloc ?_ _)); exact B7.out) (NB7B11.out)); have n_B10 := Aside0.mk (Step.blk st (by (with_reducible repeat (first | refine blk_drewN ?_ _ | refine blk_drew ?_ | refine blk_alloc ?_ _)); exact B10.out) (NB10B11.out)); have n_HB := Aside0.mk (Step.fresh st (by repeat (first | (with_reducible first | exact HB.out | apply below_alloc | apply pw_below_drewN | apply below_drew1) | exact HB.out)) GEB11.out); clear HB BJ BX B7 B10; have HB := n_HB; have BJ := n_BJ; have BX := n_BX; have B7 := n_B7; have B10 := n_B10; clear n_HB n_BJ n_BX n_B7 n_B10; clear B11; have B11 := Aside0.mk hs; clear hs st; have hx0 : w11.cell? ⟨gx, 0, none⟩ = some (.int .i64 x.f0) := (blk_cell BX.out 0).trans rfl; have hx1 : w11.cell? ⟨gx, 1, none⟩ = some (.int .i64 x.f1) := (blk_cell BX.out 1).trans rfl)
          | ((with_reducible refine gate_dst (N := 47) rfl ?_); go_loud (refine wpList_load_mid rfl 25 (.tmp 46) rfl gj (i * 3) rfl [.int .i64 p.1, .int .i64 p.2.1, .slice A1 p.2.2.length c1] _ (jrange BJ.out (by simpa using HA0.out) (by simpa using HA1.out) (by simpa using HA2.out)) Try.underlying25 rfl size25 ?_))
          | ((with_reducible refine gate_ (.store 25 (.tmp 48) (.tmp 47)) rfl ?_); go_loud (refine wpList_storeR rfl rfl 25 (.tmp 48) (.tmp 47) rfl g10 (0) rfl (.agg #[.int .i64 p.1, .int .i64 p.2.1, .slice A1 p.2.2.length c1]) rfl [.int .i64 p.1, .int .i64 p.2.1, .slice A1 p.2.2.length c1] rfl #[.int .i64 0, .int .i64 0, .slice none 0 0, .int .i64 0, .int .i64 0, .slice none 0 0, .int .i64 0, .int .i64 0, .slice none 0 0, .int .i64 0, .int .i64 0, .slice none 0 0] 27 B10.out size25 (by simp) (by simp [Value.oneCell']) (setCs cs0 0 [.int .i64 p.1, .int .i64 p.2.1, .slice A1 p.2.2.length c1]).toArray (by simp [setCs]) ?_); intro w12 hs st; have n_J := Aside0.mk (HJN.out.keep st (fun k_ hk_ => Nat.ne_of_lt (Nat.lt_of_lt_of_le hk_ GB10N.out))); have n_C := Aside0.mk (Kd.F_keep HC2.out st.1 (fun k_ hk_ => Nat.ne_of_lt (Nat.lt_of_lt_of_le hk_ GB10N.out))); have n_S := Aside0.mk (Nat.le_trans HSZ.out st.1.1); clear HJN HC2 HSZ; have HJN := n_J; have HC2 := n_C; have HSZ := n_S; clear n_J n_C n_S; have n_BJ := Aside0.mk (Step.blk st (by (with_reducible repeat (first | refine blk_drewN ?_ _ | refine blk_drew ?_ | refine blk_alloc ?_ _)); exact BJ.out) (NBJB10.out)); have n_BX := Aside0.mk (Step.blk st (by (with_reducible repeat (first | refine blk_drewN ?_ _ | refine blk_drew ?_ | refine blk_alloc ?_ _)); exact BX.out) (NBXB10.out)); have n_B7 := Aside0.mk (Step.blk st (by (with_reducible repeat (first | refine blk_drewN ?_ _ | refine blk_drew ?_ | refine blk_alloc ?_ _)); exact B7.out) (NB7B10.out)); have n_B11 := Aside0.mk (Step.blk st (by (with_reducible repeat (first | refine blk_drewN ?_ _ | refine blk_drew ?_ | refine blk_alloc ?_ _)); exact B11.out) (NB10B11.out.symm)); have n_HB := Aside0.mk (Step.fresh st (by repeat (first | (with_reducible first | exact HB.out | apply below_alloc | apply pw_below_drewN | apply below_drew1) | exact HB.out)) GEB10.out); clear HB BJ BX B7 B11; have HB := n_HB; have BJ := n_BJ; have BX := n_BX; have B7 := n_B7; have B11 := n_B11; clear n_HB n_BJ n_BX n_B7 n_B11; clear B10; have B10 := Aside0.mk hs; clear hs st; have hx0 : w12.cell? ⟨gx, 0, none⟩ = some (.int .i64 x.f0) := (blk_cell BX.out 0).trans rfl; have hx1 : w12.cell? ⟨gx, 1, none⟩ = some (.int .i64 x.f1) := (blk_cell BX.out 1).trans rfl)
          | ((with_reducible refine gate_dst (N := 51) rfl ?_); go_loud (refine wpList_load_mid rfl 25 (.tmp 50) rfl g7 (i * 3) rfl [.int .i64 p.1, .int .i64 p.2.1, .slice A2 p.2.2.length c2] _ (jrange B7.out (by simpa using HB0.out) (by simpa using HB1.out) (by simpa using HB2.out)) Try.underlying25 rfl size25 ?_))
          | ((with_reducible refine gate_ (.store 25 (.tmp 52) (.tmp 51)) rfl ?_); go_loud (refine wpList_storeR rfl rfl 25 (.tmp 52) (.tmp 51) rfl g11 (0) rfl (.agg #[.int .i64 p.1, .int .i64 p.2.1, .slice A2 p.2.2.length c2]) rfl [.int .i64 p.1, .int .i64 p.2.1, .slice A2 p.2.2.length c2] rfl #[.int .i64 0, .int .i64 0, .slice none 0 0, .int .i64 0, .int .i64 0, .slice none 0 0, .int .i64 0, .int .i64 0, .slice none 0 0, .int .i64 0, .int .i64 0, .slice none 0 0] 27 B11.out size25 (by simp) (by simp [Value.oneCell']) (setCs cs0 0 [.int .i64 p.1, .int .i64 p.2.1, .slice A2 p.2.2.length c2]).toArray (by simp [setCs]) ?_); intro w13 hs st; have n_J := Aside0.mk (HJN.out.keep st (fun k_ hk_ => Nat.ne_of_lt (Nat.lt_of_lt_of_le hk_ GB11N.out))); have n_C := Aside0.mk (Kd.F_keep HC2.out st.1 (fun k_ hk_ => Nat.ne_of_lt (Nat.lt_of_lt_of_le hk_ GB11N.out))); have n_S := Aside0.mk (Nat.le_trans HSZ.out st.1.1); clear HJN HC2 HSZ; have HJN := n_J; have HC2 := n_C; have HSZ := n_S; clear n_J n_C n_S; have n_BJ := Aside0.mk (Step.blk st (by (with_reducible repeat (first | refine blk_drewN ?_ _ | refine blk_drew ?_ | refine blk_alloc ?_ _)); exact BJ.out) (NBJB11.out)); have n_BX := Aside0.mk (Step.blk st (by (with_reducible repeat (first | refine blk_drewN ?_ _ | refine blk_drew ?_ | refine blk_alloc ?_ _)); exact BX.out) (NBXB11.out)); have n_B7 := Aside0.mk (Step.blk st (by (with_reducible repeat (first | refine blk_drewN ?_ _ | refine blk_drew ?_ | refine blk_alloc ?_ _)); exact B7.out) (NB7B11.out)); have n_B10 := Aside0.mk (Step.blk st (by (with_reducible repeat (first | refine blk_drewN ?_ _ | refine blk_drew ?_ | refine blk_alloc ?_ _)); exact B10.out) (NB10B11.out)); have n_HB := Aside0.mk (Step.fresh st (by repeat (first | (with_reducible first | exact HB.out | apply below_alloc | apply pw_below_drewN | apply below_drew1) | exact HB.out)) GEB11.out); clear HB BJ BX B7 B10; have HB := n_HB; have BJ := n_BJ; have BX := n_BX; have B7 := n_B7; have B10 := n_B10; clear n_HB n_BJ n_BX n_B7 n_B10; clear B11; have B11 := Aside0.mk hs; clear hs st; have hx0 : w13.cell? ⟨gx, 0, none⟩ = some (.int .i64 x.f0) := (blk_cell BX.out 0).trans rfl; have hx1 : w13.cell? ⟨gx, 1, none⟩ = some (.int .i64 x.f1) := (blk_cell BX.out 1).trans rfl)
          | ((with_reducible refine gate_dst (N := 53) rfl ?_); go_loud (refine wpList_load_row rfl 27 (.tmp 10) rfl g10 rfl 27 (setCs cs0 0 [.int .i64 p.1, .int .i64 p.2.1, .slice A1 p.2.2.length c1]).toArray (0, 0) _ B10.out Try.underlying27 rfl (by rw [size27]; rfl) ?_))
          | ((with_reducible refine gate_dst (N := 54) rfl ?_); go_loud (refine wpList_load_row rfl 27 (.tmp 11) rfl g11 rfl 27 (setCs cs0 0 [.int .i64 p.1, .int .i64 p.2.1, .slice A2 p.2.2.length c2]).toArray (0, 0) _ B11.out Try.underlying27 rfl (by rw [size27]; rfl) ?_))
          | ((with_reducible refine gate_callee (f := 12) rfl ?_); refine goesL_ (some 55) rfl rfl Try.func12 (by kernel_rfl) rfl #[.agg (setCs cs0 0 [.int .i64 p.1, .int .i64 p.2.1, .slice A1 p.2.2.length c1]).toArray, .agg (setCs cs0 0 [.int .i64 p.1, .int .i64 p.2.1, .slice A2 p.2.2.length c2]).toArray] rfl (by (try simp only [List.map_toArray, List.map_cons, List.map_nil]); first | done | rfl) ?_; go_loud (refine (winnowerref14_Same.calls (J0.set 0 p) (setCs cs0 0 [.int .i64 p.1, .int .i64 p.2.1, .slice A1 p.2.2.length c1]) (setCs cs0 0 [.int .i64 p.1, .int .i64 p.2.1, .slice A2 p.2.2.length c2]) _ (JV.set (JV.zero _) (by decide) HL1.out (Kd.C_below HC1.out (by repeat (first | (with_reducible first | exact HB.out | apply below_alloc | apply pw_below_drewN | apply below_drew1) | exact HB.out)))) (JV.set (JV.zero _) (by decide) HL2.out (Kd.F_now HC2.out))).mono ?_); rintro e w14 ⟨rfl, hb⟩; refine ⟨_, rfl, ?_⟩; have n_J := Aside0.mk ((HJN.out.below hb).mono (fun k_ hk_ => hk_.1)); have n_S := Aside0.mk (Nat.le_trans HSZ.out hb.size); clear HJN HSZ; have HJN := n_J; have HSZ := n_S; clear n_J n_S; have n_BJ := Aside0.mk (blk_below (by (with_reducible repeat (first | refine blk_drewN ?_ _ | refine blk_drew ?_ | refine blk_alloc ?_ _)); exact BJ.out) hb); have n_BX := Aside0.mk (blk_below (by (with_reducible repeat (first | refine blk_drewN ?_ _ | refine blk_drew ?_ | refine blk_alloc ?_ _)); exact BX.out) hb); have n_B7 := Aside0.mk (blk_below (by (with_reducible repeat (first | refine blk_drewN ?_ _ | refine blk_drew ?_ | refine blk_alloc ?_ _)); exact B7.out) hb); have n_HB := Aside0.mk (below_step (by repeat (first | (with_reducible first | exact HB.out | apply below_alloc | apply pw_below_drewN | apply below_drew1) | exact HB.out)) hb); clear HB BJ BX B7; have HB := n_HB; have BJ := n_BJ; have BX := n_BX; have B7 := n_B7; clear n_HB n_BJ n_BX n_B7; clear hb; have hx0 : w14.cell? ⟨gx, 0, none⟩ = some (.int .i64 x.f0) := (blk_cell BX.out 0).trans rfl; have hx1 : w14.cell? ⟨gx, 1, none⟩ = some (.int .i64 x.f1) := (blk_cell BX.out 1).trans rfl))
        go_roundg m
        case measure => omega
        case rel => exact ⟨i + 1, by rw [show ((i + 1 : Nat) : Int) = (i : Int) + 1 from by omega], ⟨by have := HK.out; omega⟩, ⟨HB.out⟩, ⟨BJ.out⟩, ⟨BX.out⟩, ⟨B7.out⟩, ⟨HJN.out⟩, ⟨HSZ.out⟩⟩
theorem winnowerlaw14_JournalParts.calls (J : List Log) (cs : List Value) (x : S32) (w : World) (hJ : JV w J cs) :
    Calls Try.prog 4 #[.agg cs.toArray, .agg (ecells x)] w fun e w' => e = .returned (.bool true) ∧ Below w.heap.size w w' := by
  cases hF : fewJ J with
  | false => exact winnowerlaw14_JournalParts.many J cs x w hJ hF
  | true =>
    obtain ⟨J', er, ha⟩ : ∃ J' er, applyJ J x = (J', er) := ⟨_, _, rfl⟩
    by_cases he : er = 0
    · subst he
      exact winnowerlaw14_JournalParts.ok J J' cs x w hJ hF ha
    · exact winnowerlaw14_JournalParts.err J J' cs x er w hJ hF ha he
/-- An argument that is an array. -/
theorem arrayArg {P : Program} {w : World} {t e : TypeId} {α : Type} {d : Kd α} {ok : α → Prop} (h : Hopen.Opens P w t d ok) {n : Nat} (ht : P.underlying t = some (.array n e)) {r : Reach} {b0 : Nat} {H : Type} {enc : TypeId × Value → H} {v : Value} {x : DataW H} {p : List MemPlace} (hv : Value.okWide P w r b0 t v) (hx : DataW.Trod enc P w 0 (fun _ => true) true t v x p) :
    ∃ (a : α) (cs : List Value), v = .agg cs.toArray ∧ d.K w a cs ∧ ok a := by
  simp only [Value.okWide, ht] at hv
  obtain ⟨cs, rfl, _⟩ := hv
  obtain ⟨a, ha, oa⟩ := h.arg hx
  exact ⟨a, cs.toList, by simp, ha, oa⟩
theorem JournalParts.call_ (J : List Log) (cs : List Value) (x : S32) (cs1 : List Value) (w : World) (hk0 : (Kd.arr 4 kLog (by decide)).K w J cs) (hk1 : k32.K w x cs1) :
    Calls Try.prog 4 #[.agg cs.toArray, .agg cs1.toArray] w fun e w' => e = .returned (.bool true) ∧ Below w.heap.size w w' := by
  obtain rfl := k32_open hk1
  exact winnowerlaw14_JournalParts.calls J cs x w hk0

end Go.Proofs.Ytdcomcdbknniiaa.Q
