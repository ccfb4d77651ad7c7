/- Journals by hand (chapter 14): a journal's twelve cells as data that is read (JV), and what the functions over journals answer. Type and function numbers are those of seat law14 (Ytdcomcdbknniiaa). -/
import Derived.Laws.Rows
import Derived.Laws.CopyOwn
import Derived.Deep.MidRow
import Derived.Deep.RegionHeld3
import Derived.Lib.SliceRun
import Derived.Deep.RegionLaw
import Derived.Deep.WholeRow
import Derived.Test.YtdcomcdbknniiaaHstep
import Derived.Test.YtdcomcdbknniiaaHmapint
import Derived.Test.YtdcomcdbknniiaaHopen
import Derived.Test.YtdcomcdbknniiaaQx0
import Derived.Test.YtdcomcdbknniiaaQx1
import Derived.Test.YtdcomcdbknniiaaQx2
namespace Go.Proofs.Ytdcomcdbknniiaa.Q
open Go.RowKit Go.Proofs.YtdcomcdbknniiaaW.PrintWords Go.Proofs.YtdcomcdbknniiaaW.PrintLast Go.Proofs.YtdcomcdbknniiaaW.PrintMore
attribute [local go_sem] max2_int min2_int max_two min_two max_three min_three max_four min_four   -- for this text's walks alone
set_option linter.unusedVariables false
set_option linter.unusedSimpArgs false

-- SAYS Journals by hand (chapter 14): a journal's twelve cells as data that is read (JV), and what the functions over journals answer. Type and function numbers are those of seat law14 (Ytdcomcdbknniiaa).
-- FUNCS winnower/winnowerref14.Few
-- NEEDS journal_log_end.calls journal_part.calls journal_in.f journal_May.calls
-- IMPORT Derived.Laws.Rows
-- IMPORT Derived.Laws.CopyOwn
-- IMPORT Derived.Deep.MidRow
-- IMPORT Derived.Deep.RegionHeld3
-- IMPORT Derived.Lib.SliceRun
-- IMPORT Derived.Deep.RegionLaw
-- IMPORT Derived.Deep.WholeRow
-- IMPORT Derived.Test.YtdcomcdbknniiaaHstep
-- IMPORT Derived.Test.YtdcomcdbknniiaaHmapint
-- IMPORT Derived.Test.YtdcomcdbknniiaaHopen
open Go.Proofs.Ytdcomcdbknniiaa.Hstep Go.Proofs.Ytdcomcdbknniiaa.Hmapint
/-- What is told of a partition: up to which segment, and offset, all is gone, and the live segments. -/
abbrev Log := Int × Int × List S32
abbrev kLog : Kd Log := Kd.pair (Kd.int .i64) (Kd.pair (Kd.int .i64) (Kd.slice 32 k32))
/-- A journal: its twelve cells. -/
def JV (w : World) (J : List Log) (cs : List Value) : Prop := (Kd.arr 4 kLog (by decide)).K w J cs
def lg (J : List Log) (i : Nat) : Log := J.getD i (0, 0, [])
theorem JV.below {w w1 : World} {J : List Log} {cs : List Value} (h : JV w J cs) (hb : Below w.heap.size w w1) : JV w1 J cs := Kd.K_below _ hb h
theorem JV.len {w : World} {J : List Log} {cs : List Value} (h : JV w J cs) : J.length = 4 ∧ cs.length = 12 := ⟨h.1, h.2.1.trans (by rw [h.1]; rfl)⟩
theorem JV.at_ {w : World} {J : List Log} {cs : List Value} (h : JV w J cs) (i : Nat) (hi : i < 4) :
    ∃ A c, cs[i * 3]? = some (.int .i64 (lg J i).1) ∧ cs[i * 3 + 1]? = some (.int .i64 (lg J i).2.1) ∧ cs[i * 3 + 2]? = some (.slice A (lg J i).2.2.length c) ∧ (lg J i).2.2.length ≤ c ∧ Kd.C k32 w A (lg J i).2.2.length (lg J i).2.2 := by
  have hl := h.1
  have hg : J[i]? = some (lg J i) := by
    unfold lg
    rw [List.getD_eq_getElem?_getD, List.getElem?_eq_getElem (by omega)]
    rfl
  obtain ⟨c1, c2, hc, h1, c3, c4, h2, h3, A, c, h4, h5, h6⟩ := h.2.2 i _ hg
  have h1' : c1 = [.int .i64 (lg J i).1] := h1
  have h3' : c3 = [.int .i64 (lg J i).2.1] := h3
  subst h1' h3' h4 h2
  have hc' : (cs.drop (i * 3)).take 3 = [.int .i64 (lg J i).1, .int .i64 (lg J i).2.1, .slice A (lg J i).2.2.length c] := hc
  have key : ∀ j u, ([Value.int .i64 (lg J i).1, .int .i64 (lg J i).2.1, .slice A (lg J i).2.2.length c])[j]? = some u → cs[i * 3 + j]? = some u := by
    intro j u hu
    have hj : j < 3 := (List.getElem?_eq_some_iff.1 hu).1
    rw [← hc', List.getElem?_take_of_lt hj, List.getElem?_drop] at hu
    exact hu
  exact ⟨A, c, key 0 _ rfl, key 1 _ rfl, key 2 _ rfl, h5, h6⟩
/-- A box of a journal, in a world: its cells. -/
theorem jcell {w : World} {g : Nat} {cs : Array Value} {t : TypeId} {fr : Nat × Nat} (h : w.heap[g]? = some (.cells cs t fr)) (j : Nat) {u : Value} (hu : cs.toList[j]? = some u) : w.cell? ⟨g, j, none⟩ = some u := by
  rw [cell_of_row w g j cs t fr h]; simpa using hu
def fewJ (J : List Log) : Bool := decide (∀ i : Nat, i < 4 → (lg J i).2.2.length ≤ 100)
set_option maxHeartbeats 4000000 in
set_option maxRecDepth 100000 in
theorem winnowerref14_Few.calls (J : List Log) (cs : List Value) (b : Bool) (w : World) (hJ : JV w J cs) (hb : fewJ J = b) :
    Calls Try.prog 13 #[.agg cs.toArray] w fun e w' => e = .returned (.bool b) ∧ Below w.heap.size w w' := by
  have HE := Aside0.mk hb
  clear hb
  have HJ := Aside0.mk hJ
  have HN := Aside0.mk hJ.len.2
  clear hJ
  have HB := Aside0.mk (Below.refl w.heap.size w)
  go_enter Try.func13, Try.ntmps13
  go_wp2_with (((with_reducible refine gate_dst (N := 1) rfl ?_); refine box_event ?hg (N := 1) ?hd (cs := cs.toArray) (t := 27) ?hr ?_; (case hd => rfl); (case hg => rfl); (case hr => first | (go_simp; done) | (go_simp; rfl)); intro g hg w1 hbox hb; have BX := Aside0.mk hbox; have n0_ := Aside0.mk hb; clear HB; have HB := n0_; clear n0_ hb hbox hg))
  go_loopg [3] 4 (fun m v3 wr => ∃ i : Nat, v3 = .int .i64 (i : Int) ∧ Aside0 (i + m = 4) ∧ Aside0 (∀ j : Nat, j < i → (lg J j).2.2.length ≤ 100) ∧ Aside0 (Below w.heap.size w wr) ∧ Aside0 (wr.heap[g]? = some (.cells cs.toArray 27 (0, 0))))
  case atStart => exact ⟨0, rfl, ⟨rfl⟩, ⟨fun j hj => by omega⟩, ⟨HB.out⟩, ⟨BX.out⟩⟩
  case round =>
    clear HB BX
    obtain ⟨i, rfl, HM, HA, HB, BX⟩ := hrel
    cases gk with
    | zero =>
      have hi : i = 4 := by have := HM.out; omega
      subst hi
      obtain rfl : b = true := HE.out.symm.trans (decide_eq_true HA.out)
      go_wp2
      go_ret
      exact ⟨rfl, HB.out⟩
    | succ m =>
      have hi : i < 4 := by have := HM.out; omega
      obtain ⟨A, c, h0, h1, h2, hle, hC⟩ := (HJ.out).at_ i hi
      have hx := jcell BX.out (i * 3 + 2) (by simpa using h2)
      clear h0 h1 h2
      have q0 : (0 : Int) ≤ (i : Int) := by omega
      have q1 : (i : Int) < 4 := by omega
      by_cases hb : ((lg J i).2.2.length : Int) > 100
      · obtain rfl : b = false := HE.out.symm.trans (decide_eq_false (fun h => by have := h i hi; omega))
        have hb1 : (100 : Int) < ((lg J i).2.2.length : Int) := hb
        go_wp2
        go_ret
        exact ⟨rfl, HB.out⟩
      · have hb1 : ((lg J i).2.2.length : Int) ≤ 100 := by omega
        go_wp2
        go_roundg m
        case measure => omega
        case rel => exact ⟨i + 1, by rw [show ((i + 1 : Nat) : Int) = (i : Int) + 1 from by omega], ⟨by have := HM.out; omega⟩, ⟨fun j hj => by
          by_cases e : j = i
          · subst e; omega
          · exact HA.out j (by omega)⟩, ⟨HB.out⟩, ⟨BX.out⟩⟩
theorem wrapI {x : Int} (h1 : -9223372036854775808 ≤ x) (h2 : x ≤ 9223372036854775807) : wrap64 x = x := by unfold wrap64; omega
def endL (p : Log) : Int := if p.2.2.length = 0 then p.2.1 else (rd_T32 p.2.2 ((p.2.2.length : Int) - 1)).f4
def lastL (p : Log) : Int := if p.2.2.length = 0 then p.1 else (rd_T32 p.2.2 ((p.2.2.length : Int) - 1)).f2
theorem log_end_tell (p : Log) (h : p.2.2.length ≤ 9223372036854775807) : journal_log_end.f p.1 p.2.1 p.2.2 = some (endL p, p.1, p.2.1) := by
  unfold journal_log_end.f endL
  by_cases h0 : p.2.2.length = 0
  · rw [if_neg (by omega), if_pos h0]
  · rw [if_pos (by omega), wrapI (by omega) (by omega), if_pos (by omega), if_pos (by omega), if_neg h0]
theorem log_last_tell (p : Log) (h : p.2.2.length ≤ 9223372036854775807) : journal_log_last.f p.1 p.2.1 p.2.2 = some (lastL p, p.1, p.2.1) := by
  unfold journal_log_last.f lastL
  by_cases h0 : p.2.2.length = 0
  · rw [if_neg (by omega), if_pos h0]
  · rw [if_pos (by omega), wrapI (by omega) (by omega), if_pos (by omega), if_pos (by omega), if_neg h0]
theorem part_tell (n : Int) : journal_part.f n = some (decide (0 ≤ n ∧ n ≤ 3)) := by
  unfold journal_part.f journal_in.f
  by_cases h : n ≥ 0
  · rw [if_pos h, Option.bind_some]
    congr 1
    exact decide_eq_decide.2 (by omega)
  · rw [if_neg h, Option.bind_some, decide_eq_false (by omega)]
theorem size25 : (Try.prog.info? 25).map (·.size) = some 3 := by kernel_rfl
theorem size53 : (Try.prog.info? 53).map (·.size) = some 3 := by kernel_rfl
/-- The three cells of a partition, in a box of a journal. -/
theorem jrange {w : World} {g : Nat} {cs : Array Value} {t : TypeId} {fr : Nat × Nat} (h : w.heap[g]? = some (.cells cs t fr)) {i : Nat} {a b c : Value} (h0 : cs.toList[i * 3]? = some a) (h1 : cs.toList[i * 3 + 1]? = some b) (h2 : cs.toList[i * 3 + 2]? = some c) : w.rangeAt g (i * 3) [a, b, c] := by
  intro j v hv
  have hj : j < 3 := (List.getElem?_eq_some_iff.1 hv).1
  refine jcell h _ ?_
  obtain rfl | rfl | rfl : j = 0 ∨ j = 1 ∨ j = 2 := by omega
  · rw [← hv]; exact h0
  · rw [← hv]; exact h1
  · rw [← hv]; exact h2
set_option maxHeartbeats 4000000 in
set_option maxRecDepth 100000 in
theorem journal_End.calls (J : List Log) (cs : List Value) (n : Int) (r : Int) (w : World) (hJ : JV w J cs) (hr : (if 0 ≤ n ∧ n ≤ 3 then endL (lg J n.toNat) else 0) = r) :
    Calls Try.prog 8 #[.agg cs.toArray, .int .i64 n] w fun e w' => e = .returned (.int .i64 r) ∧ Below w.heap.size w w' := by
  have HB := Aside0.mk (Below.refl w.heap.size w)
  have hu25 := Try.underlying25
  have hu53 := Try.underlying53
  by_cases hn : 0 ≤ n ∧ n ≤ 3
  · rw [if_pos hn] at hr
    have HP := Aside0.mk ((part_tell n).trans (congrArg some (decide_eq_true hn)))
    obtain ⟨i, rfl⟩ := Int.eq_ofNat_of_zero_le hn.1
    rw [Int.toNat_natCast] at hr
    have q0 : (0 : Int) ≤ (i : Int) := by omega
    have q1 : (i : Int) < 4 := by omega
    clear hn
    obtain ⟨A, c, h0, h1, h2, hle, hC⟩ := hJ.at_ i (by omega)
    have HC := Aside0.mk hC
    have HR := Aside0.mk hr
    have H0 := Aside0.mk h0
    have H1 := Aside0.mk h1
    have H2 := Aside0.mk h2
    obtain ⟨p, hp⟩ : ∃ p, p = lg J i := ⟨_, rfl⟩
    rw [← hp] at HC HR H0 H1 H2 hle
    clear hr h0 h1 h2 hC hJ hp
    go_enter Try.func8, Try.ntmps8
    go_wp2_with (first | ((with_reducible refine gate_dst (N := 2) rfl ?_); refine box_event ?hg (N := 2) ?hd (cs := cs.toArray) (t := 27) ?hr ?_; (case hd => rfl); (case hg => rfl); (case hr => first | (go_simp; done) | (go_simp; rfl)); intro g hg w1 hbox hb; have BX := Aside0.mk hbox; have n0_ := Aside0.mk hb; clear HB; have HB := n0_; clear n0_ hb hbox hg) | ((with_reducible refine gate_callee (f := 21) rfl ?_); refine goesL_ (some 7) rfl rfl Try.func21 (by kernel_rfl) rfl #[.int .i64 (i : Int)] rfl (by (try simp only [List.map_toArray, List.map_cons, List.map_nil]); first | done | rfl) ?_; (with_reducible refine (journal_part.calls (i : Int) true _ HP.out).mono ?_); rintro e w' ⟨rfl, ⟨nd, rfl⟩⟩; refine ⟨_, rfl, ?_⟩) | ((with_reducible refine gate_dst (N := 11) rfl ?_); go_loud (refine wpList_load_mid rfl 25 (.tmp 10) rfl g (i * 3) rfl [.int .i64 p.1, .int .i64 p.2.1, .slice A p.2.2.length c] _ (jrange BX.out (by simpa using H0.out) (by simpa using H1.out) (by simpa using H2.out)) Try.underlying25 rfl size25 ?_)) | ((with_reducible refine gate_dst (N := 5) rfl ?_); go_loud (refine box_event ?hg (N := 5) ?hd (cs := #[.int .i64 0, .int .i64 0, .slice none 0 0]) (t := 53) ?hr ?_); (case hd => rfl); (case hg => rfl); (case hr => first | (go_simp; done) | (go_simp; rfl)); intro g5 hg w2 hbox hb; have BP := Aside0.mk hbox; have GP := Aside0.mk ((by rw [hg]; exact (below_size (by repeat (first | (with_reducible first | exact HB.out | apply below_alloc | apply pw_below_drewN | apply below_drew1) | exact HB.out)))) : w.heap.size ≤ g5); have n0_ := Aside0.mk (below_step (by repeat (first | (with_reducible first | exact HB.out | apply below_alloc | apply pw_below_drewN | apply below_drew1) | exact HB.out)) hb); clear HB; have HB := n0_; clear n0_ hb hbox hg) | ((with_reducible refine gate_store rfl ?_); go_loud (refine wpList_store_row rfl 53 (.tmp 5) (.tmp 11) rfl g5 #[.int .i64 p.1, .int .i64 p.2.1, .slice A p.2.2.length c] rfl rfl 53 _ BP.out size53 rfl (by simp [Value.oneCell']) ?_); have n0_ := Aside0.mk (below_setRow (by repeat (first | (with_reducible first | exact HB.out | apply below_alloc | apply pw_below_drewN | apply below_drew1) | exact HB.out)) GP.out #[.int .i64 p.1, .int .i64 p.2.1, .slice A p.2.2.length c]); have n1_ := Aside0.mk (setRow_heap _ g5 _ #[.int .i64 p.1, .int .i64 p.2.1, .slice A p.2.2.length c] 53 _ BP.out); clear HB BP; have HB := n0_; have BP := n1_; clear n0_ n1_) | ((with_reducible refine gate_callee (f := 22) rfl ?_); refine goesL_ (some 12) rfl rfl Try.func22 (by kernel_rfl) rfl #[.pointer (some ⟨g5, 0, none⟩)] rfl (by (try simp only [List.map_toArray, List.map_cons, List.map_nil]); first | done | rfl) ?_; go_loud (refine (journal_log_end.calls g5 p.1 p.2.1 p.2.2 (endL p) p.1 p.2.1 w _ ⟨A, c, BP.out, GP.out, HC.out⟩ (by repeat (first | (with_reducible first | exact HB.out | apply below_alloc | apply pw_below_drewN | apply below_drew1) | exact HB.out)) (log_end_tell p HC.out.2.1)).mono ?_); rintro e w3 ⟨rfl, _, hb, _⟩; refine ⟨_, rfl, ?_⟩; have n0_ := Aside0.mk hb; clear HB; have HB := n0_; clear n0_ hb))
    go_ret
    exact ⟨by first | rfl | (rw [← HR.out]; rfl) | (have e_ := HR.out; subst e_; rfl) | (simp [HR.out]), by repeat (first | (with_reducible first | exact HB.out | apply below_alloc | apply pw_below_drewN | apply below_drew1) | exact HB.out)⟩
  · rw [if_neg hn] at hr
    subst hr
    have HP := Aside0.mk ((part_tell n).trans (congrArg some (decide_eq_false hn)))
    clear hn
    go_enter Try.func8, Try.ntmps8
    go_wp2_with (first | ((with_reducible refine gate_dst (N := 2) rfl ?_); refine box_event ?hg (N := 2) ?hd (cs := cs.toArray) (t := 27) ?hr ?_; (case hd => rfl); (case hg => rfl); (case hr => first | (go_simp; done) | (go_simp; rfl)); intro g hg w1 hbox hb; have n0_ := Aside0.mk hb; clear HB; have HB := n0_; clear n0_ hb hbox hg) | ((with_reducible refine gate_callee (f := 21) rfl ?_); refine goesL_ (some 7) rfl rfl Try.func21 (by kernel_rfl) rfl #[.int .i64 n] rfl (by (try simp only [List.map_toArray, List.map_cons, List.map_nil]); first | done | rfl) ?_; (with_reducible refine (journal_part.calls n false _ HP.out).mono ?_); rintro e w' ⟨rfl, ⟨nd, rfl⟩⟩; refine ⟨_, rfl, ?_⟩))
    go_ret
    exact ⟨rfl, by repeat (first | (with_reducible first | exact HB.out | apply below_alloc | apply pw_below_drewN | apply below_drew1) | exact HB.out)⟩
set_option maxHeartbeats 4000000 in
set_option maxRecDepth 100000 in
theorem journal_Last.calls (J : List Log) (cs : List Value) (n : Int) (r : Int) (w : World) (hJ : JV w J cs) (hr : (if 0 ≤ n ∧ n ≤ 3 then lastL (lg J n.toNat) else 0) = r) :
    Calls Try.prog 9 #[.agg cs.toArray, .int .i64 n] w fun e w' => e = .returned (.int .i64 r) ∧ Below w.heap.size w w' := by
  have HB := Aside0.mk (Below.refl w.heap.size w)
  have hu25 := Try.underlying25
  have hu53 := Try.underlying53
  by_cases hn : 0 ≤ n ∧ n ≤ 3
  · rw [if_pos hn] at hr
    have HP := Aside0.mk ((part_tell n).trans (congrArg some (decide_eq_true hn)))
    obtain ⟨i, rfl⟩ := Int.eq_ofNat_of_zero_le hn.1
    rw [Int.toNat_natCast] at hr
    have q0 : (0 : Int) ≤ (i : Int) := by omega
    have q1 : (i : Int) < 4 := by omega
    clear hn
    obtain ⟨A, c, h0, h1, h2, hle, hC⟩ := hJ.at_ i (by omega)
    have HC := Aside0.mk hC
    have HR := Aside0.mk hr
    have H0 := Aside0.mk h0
    have H1 := Aside0.mk h1
    have H2 := Aside0.mk h2
    obtain ⟨p, hp⟩ : ∃ p, p = lg J i := ⟨_, rfl⟩
    rw [← hp] at HC HR H0 H1 H2 hle
    clear hr h0 h1 h2 hC hJ hp
    go_enter Try.func9, Try.ntmps9
    go_wp2_with (first | ((with_reducible refine gate_dst (N := 2) rfl ?_); refine box_event ?hg (N := 2) ?hd (cs := cs.toArray) (t := 27) ?hr ?_; (case hd => rfl); (case hg => rfl); (case hr => first | (go_simp; done) | (go_simp; rfl)); intro g hg w1 hbox hb; have BX := Aside0.mk hbox; have n0_ := Aside0.mk hb; clear HB; have HB := n0_; clear n0_ hb hbox hg) | ((with_reducible refine gate_callee (f := 21) rfl ?_); refine goesL_ (some 7) rfl rfl Try.func21 (by kernel_rfl) rfl #[.int .i64 (i : Int)] rfl (by (try simp only [List.map_toArray, List.map_cons, List.map_nil]); first | done | rfl) ?_; (with_reducible refine (journal_part.calls (i : Int) true _ HP.out).mono ?_); rintro e w' ⟨rfl, ⟨nd, rfl⟩⟩; refine ⟨_, rfl, ?_⟩) | ((with_reducible refine gate_dst (N := 11) rfl ?_); go_loud (refine wpList_load_mid rfl 25 (.tmp 10) rfl g (i * 3) rfl [.int .i64 p.1, .int .i64 p.2.1, .slice A p.2.2.length c] _ (jrange BX.out (by simpa using H0.out) (by simpa using H1.out) (by simpa using H2.out)) Try.underlying25 rfl size25 ?_)) | ((with_reducible refine gate_dst (N := 5) rfl ?_); go_loud (refine box_event ?hg (N := 5) ?hd (cs := #[.int .i64 0, .int .i64 0, .slice none 0 0]) (t := 53) ?hr ?_); (case hd => rfl); (case hg => rfl); (case hr => first | (go_simp; done) | (go_simp; rfl)); intro g5 hg w2 hbox hb; have BP := Aside0.mk hbox; have GP := Aside0.mk ((by rw [hg]; exact (below_size (by repeat (first | (with_reducible first | exact HB.out | apply below_alloc | apply pw_below_drewN | apply below_drew1) | exact HB.out)))) : w.heap.size ≤ g5); have n0_ := Aside0.mk (below_step (by repeat (first | (with_reducible first | exact HB.out | apply below_alloc | apply pw_below_drewN | apply below_drew1) | exact HB.out)) hb); clear HB; have HB := n0_; clear n0_ hb hbox hg) | ((with_reducible refine gate_store rfl ?_); go_loud (refine wpList_store_row rfl 53 (.tmp 5) (.tmp 11) rfl g5 #[.int .i64 p.1, .int .i64 p.2.1, .slice A p.2.2.length c] rfl rfl 53 _ BP.out size53 rfl (by simp [Value.oneCell']) ?_); have n0_ := Aside0.mk (below_setRow (by repeat (first | (with_reducible first | exact HB.out | apply below_alloc | apply pw_below_drewN | apply below_drew1) | exact HB.out)) GP.out #[.int .i64 p.1, .int .i64 p.2.1, .slice A p.2.2.length c]); have n1_ := Aside0.mk (setRow_heap _ g5 _ #[.int .i64 p.1, .int .i64 p.2.1, .slice A p.2.2.length c] 53 _ BP.out); clear HB BP; have HB := n0_; have BP := n1_; clear n0_ n1_) | ((with_reducible refine gate_callee (f := 23) rfl ?_); refine goesL_ (some 12) rfl rfl Try.func23 (by kernel_rfl) rfl #[.pointer (some ⟨g5, 0, none⟩)] rfl (by (try simp only [List.map_toArray, List.map_cons, List.map_nil]); first | done | rfl) ?_; go_loud (refine (journal_log_last.calls g5 p.1 p.2.1 p.2.2 (lastL p) p.1 p.2.1 w _ ⟨A, c, BP.out, GP.out, HC.out⟩ (by repeat (first | (with_reducible first | exact HB.out | apply below_alloc | apply pw_below_drewN | apply below_drew1) | exact HB.out)) (log_last_tell p HC.out.2.1)).mono ?_); rintro e w3 ⟨rfl, _, hb, _⟩; refine ⟨_, rfl, ?_⟩; have n0_ := Aside0.mk hb; clear HB; have HB := n0_; clear n0_ hb))
    go_ret
    exact ⟨by first | rfl | (rw [← HR.out]; rfl) | (have e_ := HR.out; subst e_; rfl) | (simp [HR.out]), by repeat (first | (with_reducible first | exact HB.out | apply below_alloc | apply pw_below_drewN | apply below_drew1) | exact HB.out)⟩
  · rw [if_neg hn] at hr
    subst hr
    have HP := Aside0.mk ((part_tell n).trans (congrArg some (decide_eq_false hn)))
    clear hn
    go_enter Try.func9, Try.ntmps9
    go_wp2_with (first | ((with_reducible refine gate_dst (N := 2) rfl ?_); refine box_event ?hg (N := 2) ?hd (cs := cs.toArray) (t := 27) ?hr ?_; (case hd => rfl); (case hg => rfl); (case hr => first | (go_simp; done) | (go_simp; rfl)); intro g hg w1 hbox hb; have n0_ := Aside0.mk hb; clear HB; have HB := n0_; clear n0_ hb hbox hg) | ((with_reducible refine gate_callee (f := 21) rfl ?_); refine goesL_ (some 7) rfl rfl Try.func21 (by kernel_rfl) rfl #[.int .i64 n] rfl (by (try simp only [List.map_toArray, List.map_cons, List.map_nil]); first | done | rfl) ?_; (with_reducible refine (journal_part.calls n false _ HP.out).mono ?_); rintro e w' ⟨rfl, ⟨nd, rfl⟩⟩; refine ⟨_, rfl, ?_⟩))
    go_ret
    exact ⟨rfl, by repeat (first | (with_reducible first | exact HB.out | apply below_alloc | apply pw_below_drewN | apply below_drew1) | exact HB.out)⟩
/-- An entry's cells. -/
abbrev ecells (x : S32) : Array Value := #[.int .i64 x.f0, .int .i64 x.f1, .int .i64 x.f2, .int .i64 x.f3, .int .i64 x.f4, .int .i64 x.f5, .int .i64 x.f6]
/-- A log's cells. -/
abbrev lcells (a b : Int) (A : Option Addr) (n c : Nat) : Array Value := #[.int .i64 a, .int .i64 b, .slice A n c]
set_option maxHeartbeats 4000000 in
set_option maxRecDepth 100000 in
theorem journal_base.calls (x : S32) (a b : Int) (A : Option Addr) (n c : Nat) (g : Nat) (r : Bool) (w : World) (hb : w.heap[g]? = some (.cells (lcells a b A n c) 53 (0, 0))) (hr : decide (n = 0 ∧ a = 0 ∧ b = 0) = r) :
    Calls Try.prog 20 #[.pointer (some ⟨g, 0, none⟩), .agg (ecells x)] w fun e w' => e = .returned (.bool r) ∧ w'.heap[g]? = some (.cells (if r = true then lcells x.f2 x.f4 A n c else lcells a b A n c) 53 (0, 0)) ∧ Step g w w' := by
  have HB := Aside0.mk (Below.refl w.heap.size w)
  have BG := Aside0.mk hb
  clear hb
  have hu32 := Try.underlying32
  have hu53 := Try.underlying53
  by_cases h0 : n = 0
  · subst h0
    by_cases h1 : a = 0
    · subst h1
      by_cases h2 : b = 0
      · subst h2
        obtain rfl : r = true := hr.symm
        clear hr
        go_enter Try.func20, Try.ntmps20
        go_wp2_with (first | ((with_reducible refine gate_dst (N := 3) rfl ?_); refine box_event ?hg (N := 3) ?hd (cs := ecells x) (t := 32) ?hr ?_; (case hd => rfl); (case hg => rfl); (case hr => first | (go_simp; done) | (go_simp; rfl)); intro gx hg w1 hbox hb; have BX := Aside0.mk hbox; have n0_ := Aside0.mk hb; have n1_ := Aside0.mk ((hb.block g (blk_lt BG.out)).trans BG.out); have HNE := Aside0.mk (show gx ≠ g by (have h_ := blk_lt BG.out; omega)); clear HB BG; have HB := n0_; have BG := n1_; clear n0_ n1_ hb hbox hg; have hg0 := (blk_cell BG.out 0).trans rfl; have hg1 := (blk_cell BG.out 1).trans rfl; have hg2 := (blk_cell BG.out 2).trans rfl))
        have fg0 := blk_frozen BG.out 0
        have fg1 := blk_frozen BG.out 1
        have hx2 : w1.cell? ⟨gx, 2, none⟩ = some (.int .i64 x.f2) := (blk_cell BX.out 2).trans rfl
        have hx4 : w1.cell? ⟨gx, 4, none⟩ = some (.int .i64 x.f4) := (blk_cell BX.out 4).trans rfl
        have hne := HNE.out
        have hne' : g ≠ gx := fun e => hne e.symm
        go_region_held3 (fun w' => w'.cell? ⟨gx, 2, none⟩ = some (.int .i64 x.f2) ∧ w'.cell? ⟨gx, 4, none⟩ = some (.int .i64 x.f4) ∧ w'.frozen? ⟨g, 0, none⟩ = false ∧ w'.frozen? ⟨g, 1, none⟩ = false) (go_keep) (first | fail)
        all_goals go_wp2
        all_goals go_ret
        all_goals exact ⟨rfl, by (have h_ := blk_set (blk_set BG.out 0 (.int .i64 x.f2)) 1 (.int .i64 x.f4)); simp at h_; exact h_, by first | exact ((((Step.of_below HB.out).set_ 0 _).set_ 1 _).drew) | exact ((((Step.of_below HB.out).set_ 1 _).set_ 0 _).drew)⟩
      · have hb1 : (b == 0) = false := beq_eq_false_iff_ne.mpr h2
        have hb2 : (b != 0) = true := bne_iff_ne.mpr h2
        obtain rfl : r = false := hr.symm.trans (decide_eq_false (fun h => h2 h.2.2))
        clear hr
        go_enter Try.func20, Try.ntmps20
        go_wp2_with (first | ((with_reducible refine gate_dst (N := 3) rfl ?_); refine box_event ?hg (N := 3) ?hd (cs := ecells x) (t := 32) ?hr ?_; (case hd => rfl); (case hg => rfl); (case hr => first | (go_simp; done) | (go_simp; rfl)); intro gx hg w1 hbox hb; have BX := Aside0.mk hbox; have n0_ := Aside0.mk hb; have n1_ := Aside0.mk ((hb.block g (blk_lt BG.out)).trans BG.out); have HNE := Aside0.mk (show gx ≠ g by (have h_ := blk_lt BG.out; omega)); clear HB BG; have HB := n0_; have BG := n1_; clear n0_ n1_ hb hbox hg; have hg0 := (blk_cell BG.out 0).trans rfl; have hg1 := (blk_cell BG.out 1).trans rfl; have hg2 := (blk_cell BG.out 2).trans rfl))
        go_ret
        exact ⟨rfl, BG.out, Step.of_below HB.out⟩
    · have hb1 : (a == 0) = false := beq_eq_false_iff_ne.mpr h1
      have hb2 : (a != 0) = true := bne_iff_ne.mpr h1
      obtain rfl : r = false := hr.symm.trans (decide_eq_false (fun h => h1 h.2.1))
      clear hr
      go_enter Try.func20, Try.ntmps20
      go_wp2_with (first | ((with_reducible refine gate_dst (N := 3) rfl ?_); refine box_event ?hg (N := 3) ?hd (cs := ecells x) (t := 32) ?hr ?_; (case hd => rfl); (case hg => rfl); (case hr => first | (go_simp; done) | (go_simp; rfl)); intro gx hg w1 hbox hb; have BX := Aside0.mk hbox; have n0_ := Aside0.mk hb; have n1_ := Aside0.mk ((hb.block g (blk_lt BG.out)).trans BG.out); have HNE := Aside0.mk (show gx ≠ g by (have h_ := blk_lt BG.out; omega)); clear HB BG; have HB := n0_; have BG := n1_; clear n0_ n1_ hb hbox hg; have hg0 := (blk_cell BG.out 0).trans rfl; have hg1 := (blk_cell BG.out 1).trans rfl; have hg2 := (blk_cell BG.out 2).trans rfl))
      go_ret
      exact ⟨rfl, BG.out, Step.of_below HB.out⟩
  · have hn1 : (0 : Int) < (n : Int) := by omega
    have hn2 : 0 < n := by omega
    obtain rfl : r = false := hr.symm.trans (decide_eq_false (fun h => h0 h.1))
    clear hr
    go_enter Try.func20, Try.ntmps20
    go_wp2_with (first | ((with_reducible refine gate_dst (N := 3) rfl ?_); refine box_event ?hg (N := 3) ?hd (cs := ecells x) (t := 32) ?hr ?_; (case hd => rfl); (case hg => rfl); (case hr => first | (go_simp; done) | (go_simp; rfl)); intro gx hg w1 hbox hb; have BX := Aside0.mk hbox; have n0_ := Aside0.mk hb; have n1_ := Aside0.mk ((hb.block g (blk_lt BG.out)).trans BG.out); have HNE := Aside0.mk (show gx ≠ g by (have h_ := blk_lt BG.out; omega)); clear HB BG; have HB := n0_; have BG := n1_; clear n0_ n1_ hb hbox hg; have hg0 := (blk_cell BG.out 0).trans rfl; have hg1 := (blk_cell BG.out 1).trans rfl; have hg2 := (blk_cell BG.out 2).trans rfl))
    go_ret
    exact ⟨rfl, BG.out, Step.of_below HB.out⟩
theorem row_none32 (w : World) : Kd.R k32 32 (w.alloc (.cells #[] 32)) w.heap.size (fun _ => True) (.slice (some ⟨w.heap.size, 0, none⟩) 0 0) [] :=
  ⟨fun _ _ => trivial, [], World.ownsRow_lit (base := w.heap.size) (e := 32) (size := 7) w #[] 0 (Nat.le_refl _) (by decide) rfl, Reps.none _ _⟩
theorem info32 : (Try.prog.info? 32).map (fun i => (i.zero, i.size, i.bytes)) = some (some (.agg (ecells z32)), 7, 56) := by kernel_rfl
set_option maxHeartbeats 4000000 in
set_option maxRecDepth 100000 in
theorem slices_Clone32.calls (A0 : Option Addr) (c0 : Nat) (l0 : List S32) (w : World) (hr0 : Kd.C k32 w A0 l0.length l0) (hc0 : l0.length ≤ c0) (hl : l0.length ≤ 1000000) :
    Calls Try.prog 31 #[.slice A0 l0.length c0] w fun e w' => ∃ v0_ : Value, e = .returned v0_ ∧ Kd.R k32 32 w' w.heap.size (fun _ => True) v0_ l0 ∧ Below w.heap.size w w' := by
  have HR := Aside0.mk hr0
  have HC := Aside0.mk hc0
  clear hr0 hc0
  have qnil := fun W a n c => Lib.run_eql_slice_nil (P := Try.prog) W 22 32 a n c 0 0 Try.underlying22
  cases A0 with
  | none =>
    have hz : l0 = [] := by
      by_cases h : l0.length = 0
      · exact List.length_eq_zero_iff.1 h
      · obtain ⟨ad, e, _⟩ := HR.out.2.2 (by omega)
        cases e
    subst hz
    go_enter Try.func31, Try.ntmps31
    go_wp2
    go_ret
    exact ⟨_, rfl, Kd.R_nil _ _ _ _ _, Below.refl _ _⟩
  | some ad =>
    go_enter Try.func31, Try.ntmps31
    go_wp2_with ((with_reducible refine gate_builtin (b := .append) (xs := #[.tmp 5, .tmp 6]) rfl ?_); at_builtin; refine Kd.R_append_rows k32 (w0 := w) w.heap.size rfl (.tmp 5) (.tmp 6) 22 32 (.agg (ecells z32)) 56 rfl Try.underlying22 info32 rfl (by decide) (by omega) _ [] l0 _ _ _ (fun _ => True) (fun _ => False) rfl rfl ?aO ?aR (fun _ _ h => h) (fun _ h => h.elim) ?aF ?aB ?aS ?aL ?_; (case aR => exact Kd.C_alloc HR.out _); (case aB => exact (Below.refl _ w).alloc (Nat.le_refl _) _); (case aF => exact (fun _ _ => trivial)); (case aO => exact row_none32 w); (case aS => exact (by simp)); (case aL => (simp only [List.length_nil]; omega)); intro v1 w1 ho hb hg hat; rw [List.nil_append] at ho; have HO := Aside0.mk ho; have HB := Aside0.mk hb; clear ho hb hg hat)
    go_ret
    exact ⟨_, rfl, HO.out, HB.out⟩
def dropOk (x : S32) (l : List S32) : Bool := match l with
  | [] => false
  | y :: _ => y.f2 == x.f2
set_option maxHeartbeats 4000000 in
set_option maxRecDepth 100000 in
theorem journal_drop.empty_ (x : S32) (a b : Int) (A : Option Addr) (c : Nat) (g : Nat) (w : World) (hb : w.heap[g]? = some (.cells (lcells a b A 0 c) 53 (0, 0))) :
    Calls Try.prog 19 #[.pointer (some ⟨g, 0, none⟩), .agg (ecells x)] w fun e w' => e = .returned (.bool false) ∧ w'.heap[g]? = some (.cells (lcells a b A 0 c) 53 (0, 0)) ∧ Step g w w' := by
  have HB := Aside0.mk (Below.refl w.heap.size w)
  have BG := Aside0.mk hb
  clear hb
  have hu32 := Try.underlying32
  have hu53 := Try.underlying53
  go_enter Try.func19, Try.ntmps19
  go_wp2_with (first | ((with_reducible refine gate_dst (N := 3) rfl ?_); refine box_event ?hg (N := 3) ?hd (cs := ecells x) (t := 32) ?hr ?_; (case hd => rfl); (case hg => rfl); (case hr => first | (go_simp; done) | (go_simp; rfl)); intro gx hg w1 hbox hb; have BX := Aside0.mk hbox; have n0_ := Aside0.mk hb; have n1_ := Aside0.mk ((hb.block g (blk_lt BG.out)).trans BG.out); have HNE := Aside0.mk (show gx ≠ g by (have h_ := blk_lt BG.out; omega)); clear HB BG; have HB := n0_; have BG := n1_; clear n0_ n1_ hb hbox hg; have hg0 := (blk_cell BG.out 0).trans rfl; have hg1 := (blk_cell BG.out 1).trans rfl; have hg2 := (blk_cell BG.out 2).trans rfl))
  go_quiet (fail)
  all_goals go_wp2
  all_goals go_ret
  all_goals exact ⟨rfl, BG.out, (Step.of_below HB.out).drewN _⟩
set_option maxHeartbeats 4000000 in
set_option maxRecDepth 100000 in
theorem journal_drop.other (x y : S32) (t : List S32) (a b : Int) (ad : Addr) (c : Nat) (g : Nat) (w : World) (hb : w.heap[g]? = some (.cells (lcells a b (some ad) (y :: t).length c) 53 (0, 0))) (hr : Kd.C k32 w (some ad) (y :: t).length (y :: t)) (hne0 : y.f2 ≠ x.f2) (hl : t.length ≤ 1000000) :
    Calls Try.prog 19 #[.pointer (some ⟨g, 0, none⟩), .agg (ecells x)] w fun e w' => e = .returned (.bool false) ∧ w'.heap[g]? = some (.cells (lcells a b (some ad) (y :: t).length c) 53 (0, 0)) ∧ Step g w w' := by
  have HB := Aside0.mk (Below.refl w.heap.size w)
  have BG := Aside0.mk hb
  obtain ⟨ad_, e_, hy0, hy1, hy2, hy3, hy4, _⟩ := at_T32 hr 0 (by omega) (by simp only [List.length_cons]; omega)
  cases e_
  rw [show ((0 : Int)).toNat = 0 from rfl, Nat.zero_mul, Addr.add_zero'] at hy2
  have HY2 := Aside0.mk (hy2.trans (show _ = some (Value.int .i64 y.f2) from rfl))
  clear hb hr hy0 hy1 hy2 hy3 hy4
  obtain ⟨n, hn⟩ : ∃ n, n = (y :: t).length := ⟨_, rfl⟩
  rw [← hn] at BG ⊢
  have q0 : (0 : Int) < (n : Int) := by rw [hn]; simp only [List.length_cons]; omega
  have q1 : ((n : Int) == 0) = false := beq_eq_false_iff_ne.mpr (by omega)
  have q2 : (y.f2 != x.f2) = true := bne_iff_ne.mpr hne0
  have q3 : 0 < n := by omega
  clear hn hl
  have hu32 := Try.underlying32
  have hu53 := Try.underlying53
  go_enter Try.func19, Try.ntmps19
  go_wp2_with (first | ((with_reducible refine gate_dst (N := 3) rfl ?_); refine box_event ?hg (N := 3) ?hd (cs := ecells x) (t := 32) ?hr ?_; (case hd => rfl); (case hg => rfl); (case hr => first | (go_simp; done) | (go_simp; rfl)); intro gx hg w1 hbox hb; have BX := Aside0.mk hbox; have n0_ := Aside0.mk hb; have n1_ := Aside0.mk ((hb.block g (blk_lt BG.out)).trans BG.out); have HNE := Aside0.mk (show gx ≠ g by (have h_ := blk_lt BG.out; omega)); clear HB BG; have HB := n0_; have BG := n1_; clear n0_ n1_ hb hbox hg; have hg0 := (blk_cell BG.out 0).trans rfl; have hg1 := (blk_cell BG.out 1).trans rfl; have hg2 := (blk_cell BG.out 2).trans rfl))
  have hyw := (HB.out.cell (World.block_lt_of_cell? w _ HY2.out)).trans HY2.out
  have hx2 : w1.cell? ⟨gx, 2, none⟩ = some (.int .i64 x.f2) := (blk_cell BX.out 2).trans rfl
  go_quiet (fail)
  all_goals go_wp2
  all_goals go_ret
  all_goals exact ⟨rfl, BG.out, (Step.of_below HB.out).drewN _⟩
theorem cell_set_same (w : World) (g i j : Nat) (v : Value) (h : i ≠ j) : (w.setCell ⟨g, i, none⟩ v).cell? ⟨g, j, none⟩ = w.cell? ⟨g, j, none⟩ := by
  unfold World.setCell World.cell?
  simp only [Array.getElem?_modify]
  cases w.heap[g]? with
  | none => rfl
  | some o => cases o <;> simp_all
set_option maxHeartbeats 4000000 in
set_option maxRecDepth 100000 in
theorem journal_drop.yes (x y : S32) (t : List S32) (a b : Int) (ad : Addr) (c : Nat) (g : Nat) (w0 w : World) (hb : w.heap[g]? = some (.cells (lcells a b (some ad) (y :: t).length c) 53 (0, 0))) (hr : Kd.C k32 w0 (some ad) (y :: t).length (y :: t)) (hB0 : Below w0.heap.size w0 w) (hg0_ : w0.heap.size ≤ g) (hc : (y :: t).length ≤ c) (he0 : y.f2 = x.f2) (hl : t.length ≤ 100000) :
    Calls Try.prog 19 #[.pointer (some ⟨g, 0, none⟩), .agg (ecells x)] w fun e w' => e = .returned (.bool true) ∧ Step g w w' ∧ ∃ A' c', w'.heap[g]? = some (.cells (lcells x.f2 y.f4 A' t.length c') 53 (0, 0)) ∧ t.length ≤ c' ∧ Kd.F k32 w' (fun k => w.heap.size ≤ k ∧ k ≠ g) A' t.length t := by
  have HB := Aside0.mk (Below.refl w.heap.size w)
  have BG := Aside0.mk hb
  obtain ⟨ad_, e_, hy0, hy1, hy2, hy3, hy4, _⟩ := at_T32 (Kd.C_below hr hB0) 0 (by omega) (by simp only [List.length_cons]; omega)
  cases e_
  rw [show ((0 : Int)).toNat = 0 from rfl, Nat.zero_mul, Addr.add_zero'] at hy2 hy4
  have hgn : ad.block ≠ g := by
    obtain ⟨ad2, e2, hz0, _⟩ := at_T32 hr 0 (by omega) (by simp only [List.length_cons]; omega)
    cases e2
    rw [show ((0 : Int)).toNat = 0 from rfl, Nat.zero_mul, Addr.add_zero'] at hz0
    have := World.block_lt_of_cell? w0 _ hz0
    omega
  have HB0 := Aside0.mk hB0
  have HG0 := Aside0.mk hg0_
  clear hB0 hg0_
  have HY2 := Aside0.mk (hy2.trans (show _ = some (Value.int .i64 y.f2) from rfl))
  have HY4 := Aside0.mk (hy4.trans (show _ = some (Value.int .i64 y.f4) from rfl))
  obtain ⟨i0, hi0, _, hsz0, _⟩ := info_parts info32
  have hcut := cut_from (P := Try.prog) 22 32 .i64 Try.underlying22 hi0 7 hsz0 (some ad) (y :: t).length c 1 (by omega) (by simp only [List.length_cons]; omega)
  obtain ⟨A', hA'⟩ : ∃ A', A' = (if c = 1 then some ad else (some ad).map (·.add (1 * 7))) := ⟨_, rfl⟩
  have HT : Aside0 (Kd.C k32 w0 A' t.length t) := Aside0.mk (by rw [hA']; exact Kd.C_drop (m := 1) hr (by simp only [List.length_cons]; omega) hc)
  have hcut' : ∀ W : World, (Instr.slice 22 (.slice (some ad) (y :: t).length c) (some (.int .i64 1)) none none).run Try.prog W = .ok (.slice A' t.length (c - 1)) W := by
    intro W; rw [hA']; exact hcut W
  have HTc : Aside0 (t.length ≤ c - 1) := Aside0.mk (by simp only [List.length_cons] at hc; omega)
  clear hcut hA'
  clear hb hr hy0 hy1 hy2 hy3 hy4
  obtain ⟨n, hn⟩ : ∃ n, n = (y :: t).length := ⟨_, rfl⟩
  rw [← hn] at BG hcut'
  have q0 : (0 : Int) < (n : Int) := by rw [hn]; simp only [List.length_cons]; omega
  have q1 : ((n : Int) == 0) = false := beq_eq_false_iff_ne.mpr (by omega)
  have q2 : (x.f2 != x.f2) = false := bne_eq_false_iff_eq.mpr rfl
  have q3 : 0 < n := by omega
  have HN := Aside0.mk hn
  have HLL := Aside0.mk hl
  have HE0 := Aside0.mk he0
  rw [he0] at HY2
  clear hn hl he0
  have hu32 := Try.underlying32
  have hu53 := Try.underlying53
  go_enter Try.func19, Try.ntmps19
  go_wp2_with (first | ((with_reducible refine gate_dst (N := 3) rfl ?_); refine box_event ?hg (N := 3) ?hd (cs := ecells x) (t := 32) ?hr ?_; (case hd => rfl); (case hg => rfl); (case hr => first | (go_simp; done) | (go_simp; rfl)); intro gx hg w1 hbox hb; have BX := Aside0.mk hbox; have n0_ := Aside0.mk hb; have n1_ := Aside0.mk ((hb.block g (blk_lt BG.out)).trans BG.out); have HNE := Aside0.mk (show gx ≠ g by (have h_ := blk_lt BG.out; omega)); clear HB BG; have HB := n0_; have BG := n1_; clear n0_ n1_ hb hbox hg; have hg0 := (blk_cell BG.out 0).trans rfl; have hg1 := (blk_cell BG.out 1).trans rfl; have hg2 := (blk_cell BG.out 2).trans rfl))
  have hyw := (HB.out.cell (World.block_lt_of_cell? w _ HY2.out)).trans HY2.out
  have hyw4 := (HB.out.cell (World.block_lt_of_cell? w _ HY4.out)).trans HY4.out
  have hx2 : w1.cell? ⟨gx, 2, none⟩ = some (.int .i64 x.f2) := (blk_cell BX.out 2).trans rfl
  go_quiet (fail)
  go_wp2
  have hgn' : g ≠ ad.block := fun e => hgn e.symm
  have hg2' : w1.cell? ⟨g, 2, none⟩ = some (.slice (some ad) n c) := (blk_cell BG.out 2).trans rfl
  have fg0 := blk_frozen BG.out 0
  have fg1 := blk_frozen BG.out 1
  have hne := HNE.out
  have hne' : g ≠ gx := fun e => hne e.symm
  go_region_held3 (fun w' => w'.cell? ⟨gx, 2, none⟩ = some (.int .i64 x.f2) ∧ w'.cell? ⟨g, 2, none⟩ = some (.slice (some ad) n c) ∧ w'.cell? ⟨ad.block, ad.off + 4, none⟩ = some (.int .i64 y.f4) ∧ w'.frozen? ⟨g, 0, none⟩ = false ∧ w'.frozen? ⟨g, 1, none⟩ = false) (first | (go_keep; done) | ((try dsimp only); refine ⟨?_, ?_, ?_, ?_, ?_⟩ <;> (first | (go_keep; done) | (simp [*, World.cell?_alloc_some, World.cell?_setCell_far, cell_set_same]; done)))) (first | fail)
  have BG2 := Aside0.mk (show (((w1.drewN (nq + 1)).setCell ⟨g, 0, none⟩ (.int .i64 x.f2)).setCell ⟨g, 1, none⟩ (.int .i64 y.f4)).heap[g]? = some (.cells (lcells x.f2 y.f4 (some ad) n c) 53 (0, 0)) from by (have h_ := blk_set (blk_set BG.out 0 (.int .i64 x.f2)) 1 (.int .i64 y.f4)); simp at h_; exact h_)
  have ST2 := Aside0.mk (show Step g w (((w1.drewN (nq + 1)).setCell ⟨g, 0, none⟩ (.int .i64 x.f2)).setCell ⟨g, 1, none⟩ (.int .i64 y.f4)) from (((Step.of_below HB.out).drewN _).set_ 0 _).set_ 1 _)
  generalize (((w1.drewN (nq + 1)).setCell ⟨g, 0, none⟩ (.int .i64 x.f2)).setCell ⟨g, 1, none⟩ (.int .i64 y.f4)) = W2 at BG2 ST2 ⊢
  clear hg0 hg1 hg2 hg2' fg0 fg1 hyw hyw4 hx2
  have hk2 : W2.cell? ⟨g, 2, none⟩ = some (.slice (some ad) n c) := (blk_cell BG2.out 2).trans rfl
  have fk2 := blk_frozen BG2.out 2
  go_wp2_with (first | ((with_reducible refine gate_callee (f := 31) rfl ?_); refine goesL_ (some 44) rfl rfl Try.func31 (by kernel_rfl) rfl #[.slice A' t.length (c - 1)] rfl (by (try simp only [List.map_toArray, List.map_cons, List.map_nil]); first | done | rfl) ?_; go_loud (refine (slices_Clone32.calls A' (c - 1) t _ (Kd.C_below HT.out (ST2.out.2 w0 HG0.out HB0.out)) HTc.out (by have := HLL.out; omega)).mono ?_); rintro e W3 ⟨v3, rfl, ho, hb⟩; refine ⟨_, rfl, ?_⟩; have HO := Aside0.mk ho; have HB3 := Aside0.mk hb; have BG3 := Aside0.mk ((hb.block g (blk_lt BG2.out)).trans BG2.out); clear ho hb; obtain ⟨A3, c3, e3⟩ := Kd.R_slice HO.out; subst e3; have fk3 := blk_frozen BG3.out 2; have hk3 : W3.cell? ⟨g, 2, none⟩ = some (.slice (some ad) n c) := (blk_cell BG3.out 2).trans rfl))
  go_ret
  have HF := Kd.R_far (p := ⟨g, 2, none⟩) (Kd.R_types HO.out BG3.out (by decide)) (fun _ hk => hk.2) (.slice A3 t.length c3)
  refine ⟨rfl, ?_, A3, c3, ?_, (Kd.R_reads' HO.out).2.1, ?_⟩
  · exact (Step.below ST2.out HB3.out).set_ 2 _
  · have h_ := blk_set BG3.out 2 (.slice A3 t.length c3)
    simp at h_
    exact h_
  · exact Kd.R_F (Kd.R_mono (Kd.R_bound HF) (fun k hk => ⟨Nat.le_trans ST2.out.1.1 hk.2.1, hk.1.2⟩))
set_option maxHeartbeats 8000000 in
set_option maxRecDepth 100000 in
theorem log_last.quiet (g : Nat) (a b : Int) (A : Option Addr) (c : Nat) (l : List S32) (L : Int) (w : World) (hg : w.heap[g]? = some (.cells (lcells a b A l.length c) 53 (0, 0))) (hC : Kd.C k32 w A l.length l) (hl : l.length ≤ 9223372036854775807) (hL : lastL (a, b, l) = L) :
    Calls Try.prog 23 #[.pointer (some ⟨g, 0, none⟩)] w fun e w' => e = .returned (.int .i64 L) ∧ w' = w := by
  have hg0 : w.cell? ⟨g, 0, none⟩ = some (.int .i64 a) := (blk_cell hg 0).trans rfl
  have hg1 : w.cell? ⟨g, 1, none⟩ = some (.int .i64 b) := (blk_cell hg 1).trans rfl
  have hg2 : w.cell? ⟨g, 2, none⟩ = some (.slice A l.length c) := (blk_cell hg 2).trans rfl
  have hu53 := Try.underlying53
  have hu32 := Try.underlying32
  unfold lastL at hL
  simp only at hL
  by_cases h0 : l.length = 0
  · rw [if_pos h0] at hL
    have c2b0 : decide (0 < (l.length : Int)) = false := decide_eq_false (by omega)
    have c2b1 : decide (0 < l.length) = false := decide_eq_false (by omega)
    clear hg hC h0 hl
    go_enter Try.func23, Try.ntmps23
    go_wp2
    go_ret
    exact ⟨by rw [← hL]; rfl, rfl⟩
  · rw [if_neg h0] at hL
    have c2b0 : decide (0 < (l.length : Int)) = true := decide_eq_true (by omega)
    have c2b1 : decide (0 < l.length) = true := decide_eq_true (by omega)
    obtain ⟨j, hj⟩ : ∃ j_ : Int, wrap64 ((l.length : Int) - 1) = j_ := ⟨_, rfl⟩
    have hj2 := hj
    rw [wrapI (by omega) (by omega)] at hj2
    have hjw : IntKind.i64.wrap ((l.length : Int) - 1) = j := (i64_w _).trans hj
    have c4 : decide (0 ≤ j) = true := decide_eq_true (by omega)
    have c5 : decide (j < (l.length : Int)) = true := decide_eq_true (by omega)
    have p1 : 0 ≤ j := by omega
    have q1 : j < (l.length : Int) := by omega
    obtain ⟨ad, e, x0, x1, x2, x3, x4, x5, x6⟩ := at_T32 hC j p1 q1
    cases e
    rw [hj2] at hL
    clear hg hC h0 hl hj hj2 x0 x1 x3 x5 x6
    replace p1 := eq_true p1
    replace q1 := eq_true q1
    go_enter Try.func23, Try.ntmps23
    go_wp2
    go_ret
    exact ⟨by rw [← hL]; rfl, rfl⟩
set_option maxHeartbeats 8000000 in
set_option maxRecDepth 100000 in
theorem log_end.quiet (g : Nat) (a b : Int) (A : Option Addr) (c : Nat) (l : List S32) (L : Int) (w : World) (hg : w.heap[g]? = some (.cells (lcells a b A l.length c) 53 (0, 0))) (hC : Kd.C k32 w A l.length l) (hl : l.length ≤ 9223372036854775807) (hL : endL (a, b, l) = L) :
    Calls Try.prog 22 #[.pointer (some ⟨g, 0, none⟩)] w fun e w' => e = .returned (.int .i64 L) ∧ w' = w := by
  have hg0 : w.cell? ⟨g, 0, none⟩ = some (.int .i64 a) := (blk_cell hg 0).trans rfl
  have hg1 : w.cell? ⟨g, 1, none⟩ = some (.int .i64 b) := (blk_cell hg 1).trans rfl
  have hg2 : w.cell? ⟨g, 2, none⟩ = some (.slice A l.length c) := (blk_cell hg 2).trans rfl
  have hu53 := Try.underlying53
  have hu32 := Try.underlying32
  unfold endL at hL
  simp only at hL
  by_cases h0 : l.length = 0
  · rw [if_pos h0] at hL
    have c2b0 : decide (0 < (l.length : Int)) = false := decide_eq_false (by omega)
    have c2b1 : decide (0 < l.length) = false := decide_eq_false (by omega)
    clear hg hC h0 hl
    go_enter Try.func22, Try.ntmps22
    go_wp2
    go_ret
    exact ⟨by rw [← hL]; rfl, rfl⟩
  · rw [if_neg h0] at hL
    have c2b0 : decide (0 < (l.length : Int)) = true := decide_eq_true (by omega)
    have c2b1 : decide (0 < l.length) = true := decide_eq_true (by omega)
    obtain ⟨j, hj⟩ : ∃ j_ : Int, wrap64 ((l.length : Int) - 1) = j_ := ⟨_, rfl⟩
    have hj2 := hj
    rw [wrapI (by omega) (by omega)] at hj2
    have hjw : IntKind.i64.wrap ((l.length : Int) - 1) = j := (i64_w _).trans hj
    have c4 : decide (0 ≤ j) = true := decide_eq_true (by omega)
    have c5 : decide (j < (l.length : Int)) = true := decide_eq_true (by omega)
    have p1 : 0 ≤ j := by omega
    have q1 : j < (l.length : Int) := by omega
    obtain ⟨ad, e, x0, x1, x2, x3, x4, x5, x6⟩ := at_T32 hC j p1 q1
    cases e
    rw [hj2] at hL
    clear hg hC h0 hl hj hj2 x0 x1 x3 x5 x6
    replace p1 := eq_true p1
    replace q1 := eq_true q1
    go_enter Try.func22, Try.ntmps22
    go_wp2
    go_ret
    exact ⟨by rw [← hL]; rfl, rfl⟩
set_option maxHeartbeats 8000000 in
set_option maxRecDepth 100000 in
theorem journal_commit.id_ (x : S32) (a b : Int) (A : Option Addr) (c : Nat) (l : List S32) (g : Nat) (L : Int) (w0 w : World) (hb : w.heap[g]? = some (.cells (lcells a b A l.length c) 53 (0, 0))) (hr : Kd.C k32 w0 A l.length l) (hB0 : Below w0.heap.size w0 w) (hg0_ : w0.heap.size ≤ g) (hc : l.length ≤ c) (hl : l.length ≤ 100000) (hLt : lastL (a, b, l) = L) (q0 : (x.f2 != IntKind.i64.wrap (L + 1)) = true) :
    Calls Try.prog 18 #[.pointer (some ⟨g, 0, none⟩), .agg (ecells x)] w fun e w' => e = .returned (.bool false) ∧ Step g w w' ∧ w'.heap[g]? = some (.cells (lcells a b A l.length c) 53 (0, 0)) := by
  have HB := Aside0.mk (Below.refl w.heap.size w)
  have BG := Aside0.mk hb
  have HR := Aside0.mk hr
  have HB0 := Aside0.mk hB0
  have HG0 := Aside0.mk hg0_
  have HCC := Aside0.mk hc
  have HLL := Aside0.mk hl
  have HLt := Aside0.mk hLt
  clear hb hr hB0 hg0_ hc hl hLt
  have hu32 := Try.underlying32
  have hu53 := Try.underlying53
  go_enter Try.func18, Try.ntmps18
  go_wp2_with (first | ((with_reducible refine gate_dst (N := 3) rfl ?_); refine box_event ?hg (N := 3) ?hd (cs := ecells x) (t := 32) ?hr ?_; (case hd => rfl); (case hg => rfl); (case hr => first | (go_simp; done) | (go_simp; rfl)); intro gx hg w1 hbox hb; have BX := Aside0.mk hbox; have n0_ := Aside0.mk hb; have n1_ := Aside0.mk ((hb.block g (blk_lt BG.out)).trans BG.out); have HNE := Aside0.mk (show gx ≠ g by (have h_ := blk_lt BG.out; omega)); clear HB BG; have HB := n0_; have BG := n1_; clear n0_ n1_ hb hbox hg; have hx2 : w1.cell? ⟨gx, 2, none⟩ = some (.int .i64 x.f2) := (blk_cell BX.out 2).trans rfl; have hx3 : w1.cell? ⟨gx, 3, none⟩ = some (.int .i64 x.f3) := (blk_cell BX.out 3).trans rfl))
  go_quiet (first | (go_at_call 23; go_loud (refine Calls.quiet_of_same (log_last.quiet g a b A c l L _ ?h1 ?h2 ?h3 HLt.out)); (case h1 => exact BG.out); (case h2 => exact Kd.C_below (Kd.C_below HR.out (below_step HB0.out HB.out)) (pw_below_drewN (Below.refl _ _) _)); (case h3 => have := HLL.out; omega)))
  go_wp2
  go_ret
  exact ⟨rfl, (Step.of_below HB.out).drewN _, BG.out⟩
set_option maxHeartbeats 8000000 in
set_option maxRecDepth 100000 in
theorem journal_commit.start_ (x : S32) (a b : Int) (A : Option Addr) (c : Nat) (l : List S32) (g : Nat) (L E : Int) (w0 w : World) (hb : w.heap[g]? = some (.cells (lcells a b A l.length c) 53 (0, 0))) (hr : Kd.C k32 w0 A l.length l) (hB0 : Below w0.heap.size w0 w) (hg0_ : w0.heap.size ≤ g) (hc : l.length ≤ c) (hl : l.length ≤ 100000) (hLt : lastL (a, b, l) = L) (hEt : endL (a, b, l) = E) (q0 : (x.f2 != IntKind.i64.wrap (L + 1)) = false) (q1 : (x.f3 != E) = true) :
    Calls Try.prog 18 #[.pointer (some ⟨g, 0, none⟩), .agg (ecells x)] w fun e w' => e = .returned (.bool false) ∧ Step g w w' ∧ w'.heap[g]? = some (.cells (lcells a b A l.length c) 53 (0, 0)) := by
  have HB := Aside0.mk (Below.refl w.heap.size w)
  have BG := Aside0.mk hb
  have HR := Aside0.mk hr
  have HB0 := Aside0.mk hB0
  have HG0 := Aside0.mk hg0_
  have HCC := Aside0.mk hc
  have HLL := Aside0.mk hl
  have HLt := Aside0.mk hLt
  clear hb hr hB0 hg0_ hc hl hLt
  have hu32 := Try.underlying32
  have hu53 := Try.underlying53
  have HEt := Aside0.mk hEt
  clear hEt
  go_enter Try.func18, Try.ntmps18
  go_wp2_with (first | ((with_reducible refine gate_dst (N := 3) rfl ?_); refine box_event ?hg (N := 3) ?hd (cs := ecells x) (t := 32) ?hr ?_; (case hd => rfl); (case hg => rfl); (case hr => first | (go_simp; done) | (go_simp; rfl)); intro gx hg w1 hbox hb; have BX := Aside0.mk hbox; have n0_ := Aside0.mk hb; have n1_ := Aside0.mk ((hb.block g (blk_lt BG.out)).trans BG.out); have HNE := Aside0.mk (show gx ≠ g by (have h_ := blk_lt BG.out; omega)); clear HB BG; have HB := n0_; have BG := n1_; clear n0_ n1_ hb hbox hg; have hx2 : w1.cell? ⟨gx, 2, none⟩ = some (.int .i64 x.f2) := (blk_cell BX.out 2).trans rfl; have hx3 : w1.cell? ⟨gx, 3, none⟩ = some (.int .i64 x.f3) := (blk_cell BX.out 3).trans rfl))
  go_quiet (first | (go_at_call 23; go_loud (refine Calls.quiet_of_same (log_last.quiet g a b A c l L _ ?h1 ?h2 ?h3 HLt.out)); (case h1 => exact BG.out); (case h2 => exact Kd.C_below (Kd.C_below HR.out (below_step HB0.out HB.out)) (pw_below_drewN (Below.refl _ _) _)); (case h3 => have := HLL.out; omega)) | (go_at_call 22; go_loud (refine Calls.quiet_of_same (log_end.quiet g a b A c l E _ ?h1 ?h2 ?h3 HEt.out)); (case h1 => exact BG.out); (case h2 => exact Kd.C_below (Kd.C_below HR.out (below_step HB0.out HB.out)) (pw_below_drewN (Below.refl _ _) _)); (case h3 => have := HLL.out; omega)))
  go_wp2
  go_ret
  exact ⟨rfl, (Step.of_below HB.out).drewN _, BG.out⟩
theorem C_one32 {W : World} {k : Nat} {x : S32} (h : W.heap[k]? = some (.cells (ecells x) 32 (0, 0))) : Kd.C k32 W (some ⟨k, 0, none⟩) 1 [x] :=
  ⟨rfl, by decide, fun _ => ⟨_, rfl, fun j p hp => by
    have hj : j = 0 := by
      have := (List.getElem?_eq_some_iff.1 hp).1
      simp only [List.length_cons, List.length_nil] at this
      omega
    subst hj
    obtain rfl : x = p := Option.some.inj hp
    refine ⟨(ecells x).toList, rfl, k32_mk W x, fun i u hu => ?_⟩
    rw [Addr.add_mid, Nat.zero_mul, Nat.zero_add, Nat.zero_add]
    exact (blk_cell h i).trans (by simpa using hu)⟩⟩
set_option maxHeartbeats 8000000 in
set_option maxRecDepth 100000 in
theorem journal_commit.yes (x : S32) (a b : Int) (A : Option Addr) (c : Nat) (l : List S32) (g : Nat) (L E : Int) (w0 w : World) (hb : w.heap[g]? = some (.cells (lcells a b A l.length c) 53 (0, 0))) (hr : Kd.C k32 w0 A l.length l) (hB0 : Below w0.heap.size w0 w) (hg0_ : w0.heap.size ≤ g) (hc : l.length ≤ c) (hl : l.length ≤ 100000) (hLt : lastL (a, b, l) = L) (hEt : endL (a, b, l) = E) (q0 : (x.f2 != IntKind.i64.wrap (L + 1)) = false) (q1 : (x.f3 != E) = false) :
    Calls Try.prog 18 #[.pointer (some ⟨g, 0, none⟩), .agg (ecells x)] w fun e w' => e = .returned (.bool true) ∧ Step g w w' ∧ ∃ A' c', w'.heap[g]? = some (.cells (lcells a b A' (l ++ [x]).length c') 53 (0, 0)) ∧ (l ++ [x]).length ≤ c' ∧ Kd.F k32 w' (fun k => w.heap.size ≤ k ∧ k ≠ g) A' (l ++ [x]).length (l ++ [x]) := by
  have HB := Aside0.mk (Below.refl w.heap.size w)
  have BG := Aside0.mk hb
  have HR := Aside0.mk hr
  have HB0 := Aside0.mk hB0
  have HG0 := Aside0.mk hg0_
  have HCC := Aside0.mk hc
  have HLL := Aside0.mk hl
  have HLt := Aside0.mk hLt
  clear hb hr hB0 hg0_ hc hl hLt
  have hu32 := Try.underlying32
  have hu53 := Try.underlying53
  have HEt := Aside0.mk hEt
  clear hEt
  go_enter Try.func18, Try.ntmps18
  go_wp2_with (first | ((with_reducible refine gate_dst (N := 3) rfl ?_); refine box_event ?hg (N := 3) ?hd (cs := ecells x) (t := 32) ?hr ?_; (case hd => rfl); (case hg => rfl); (case hr => first | (go_simp; done) | (go_simp; rfl)); intro gx hg w1 hbox hb; have BX := Aside0.mk hbox; have n0_ := Aside0.mk hb; have n1_ := Aside0.mk ((hb.block g (blk_lt BG.out)).trans BG.out); have HNE := Aside0.mk (show gx ≠ g by (have h_ := blk_lt BG.out; omega)); clear HB BG; have HB := n0_; have BG := n1_; clear n0_ n1_ hb hbox hg; have hx2 : w1.cell? ⟨gx, 2, none⟩ = some (.int .i64 x.f2) := (blk_cell BX.out 2).trans rfl; have hx3 : w1.cell? ⟨gx, 3, none⟩ = some (.int .i64 x.f3) := (blk_cell BX.out 3).trans rfl))
  go_quiet (first | (go_at_call 23; go_loud (refine Calls.quiet_of_same (log_last.quiet g a b A c l L _ ?h1 ?h2 ?h3 HLt.out)); (case h1 => exact BG.out); (case h2 => exact Kd.C_below (Kd.C_below HR.out (below_step HB0.out HB.out)) (pw_below_drewN (Below.refl _ _) _)); (case h3 => have := HLL.out; omega)) | (go_at_call 22; go_loud (refine Calls.quiet_of_same (log_end.quiet g a b A c l E _ ?h1 ?h2 ?h3 HEt.out)); (case h1 => exact BG.out); (case h2 => exact Kd.C_below (Kd.C_below HR.out (below_step HB0.out HB.out)) (pw_below_drewN (Below.refl _ _) _)); (case h3 => have := HLL.out; omega)))
  go_wp2
  have HS1 := Aside0.mk ((Step.of_below HB.out).drewN nq : Step g w (w1.drewN nq))
  have BX1 := Aside0.mk (show (w1.drewN nq).heap[gx]? = some (.cells (ecells x) 32 (0, 0)) from BX.out)
  have BG1 := Aside0.mk (show (w1.drewN nq).heap[g]? = some (.cells (lcells a b A l.length c) 53 (0, 0)) from BG.out)
  have HB5 := Aside0.mk (HS1.out.fresh HB0.out HG0.out)
  clear hx2 hx3
  generalize w1.drewN nq = W1 at HS1 BX1 BG1 HB5 ⊢
  have hg2 : W1.cell? ⟨g, 2, none⟩ = some (.slice A l.length c) := (blk_cell BG1.out 2).trans rfl
  have hg2a : (W1.alloc (.cells #[.int .i64 x.f0, .int .i64 x.f1, .int .i64 x.f2, .int .i64 x.f3, .int .i64 x.f4, .int .i64 x.f5, .int .i64 x.f6] 32)).cell? ⟨g, 2, none⟩ = some (.slice A l.length c) := (World.cell?_alloc_some _ _ _ (by rw [hg2]; rfl)).trans hg2

  have hz0 : W1.cell? ⟨gx, 0, none⟩ = some (.int .i64 x.f0) := (blk_cell BX1.out 0).trans rfl
  have hz1 : W1.cell? ⟨gx, 1, none⟩ = some (.int .i64 x.f1) := (blk_cell BX1.out 1).trans rfl
  have hz2 : W1.cell? ⟨gx, 2, none⟩ = some (.int .i64 x.f2) := (blk_cell BX1.out 2).trans rfl
  have hz3 : W1.cell? ⟨gx, 3, none⟩ = some (.int .i64 x.f3) := (blk_cell BX1.out 3).trans rfl
  have hz4 : W1.cell? ⟨gx, 4, none⟩ = some (.int .i64 x.f4) := (blk_cell BX1.out 4).trans rfl
  have hz5 : W1.cell? ⟨gx, 5, none⟩ = some (.int .i64 x.f5) := (blk_cell BX1.out 5).trans rfl
  have hz6 : W1.cell? ⟨gx, 6, none⟩ = some (.int .i64 x.f6) := (blk_cell BX1.out 6).trans rfl
  go_region_law (first | (go_simp; go_at_call 31; refine (slices_Clone32.calls A c l _ (Kd.C_below HR.out (by repeat (first | exact HB5.out | apply below_alloc | apply below_drew1))) HCC.out (by have := HLL.out; omega)).mono ?_; rintro e W3 ⟨v3, rfl, ho, hb⟩; have HO := Aside0.mk ho; have HB3 := Aside0.mk hb; have BX3 := Aside0.mk (blk_below (o := .cells (ecells x) 32 (0, 0)) (g := gx) (by (with_reducible repeat (first | refine blk_drewN ?_ _ | refine blk_drew ?_ | refine blk_alloc ?_ _)); exact BX1.out) hb); have BG3 := Aside0.mk (blk_below (o := .cells (lcells a b A l.length c) 53 (0, 0)) (g := g) (by (with_reducible repeat (first | refine blk_drewN ?_ _ | refine blk_drew ?_ | refine blk_alloc ?_ _)); exact BG1.out) hb); have ST3 := Aside0.mk (Step.below (g := g) (by first | exact HS1.out.drew | exact Step.below HS1.out.drew (below_alloc (Below.refl _ _) _)) hb); have hy0 : W3.cell? ⟨gx, 0, none⟩ = some (.int .i64 x.f0) := (blk_cell BX3.out 0).trans rfl; have hy1 : W3.cell? ⟨gx, 1, none⟩ = some (.int .i64 x.f1) := (blk_cell BX3.out 1).trans rfl; have hy2 : W3.cell? ⟨gx, 2, none⟩ = some (.int .i64 x.f2) := (blk_cell BX3.out 2).trans rfl; have hy3 : W3.cell? ⟨gx, 3, none⟩ = some (.int .i64 x.f3) := (blk_cell BX3.out 3).trans rfl; have hy4 : W3.cell? ⟨gx, 4, none⟩ = some (.int .i64 x.f4) := (blk_cell BX3.out 4).trans rfl; have hy5 : W3.cell? ⟨gx, 5, none⟩ = some (.int .i64 x.f5) := (blk_cell BX3.out 5).trans rfl; have hy6 : W3.cell? ⟨gx, 6, none⟩ = some (.int .i64 x.f6) := (blk_cell BX3.out 6).trans rfl; try (have BL3 := Aside0.mk (blk_below (o := .cells (ecells x) 32 (0, 0)) (g := W1.drew.heap.size) (heap_alloc_last _ _) hb)); clear ho hb; dsimp only) | (refine Kd.R_append_rows_step k32 (w0 := W1.drew) (W1.drew).heap.size (by rfl) (.tmp 23) (.tmp 25) 22 32 (.agg (ecells z32)) 56 rfl Try.underlying22 info32 rfl (by decide) (by omega) _ l [x] _ _ _ (fun _ => True) (fun _ => False) rfl rfl (Kd.R_alloc HO.out _) (C_one32 (heap_alloc_last _ _)) (fun _ _ h => h) (fun _ h => h.elim) (fun _ _ => trivial) (below_alloc HB3.out _) (Nat.le_trans HB3.out.size (below_alloc (Below.refl _ _) _).size) (by have := HLL.out; omega) ?_; intro v5 w5 ho5 hb5 _ _; obtain ⟨A5, c5, e5⟩ := Kd.R_slice ho5; subst e5; have HO5 := Aside0.mk (Kd.R_lower ho5 (show W1.heap.size ≤ _ by first | exact Nat.le_refl _ | exact (below_alloc (Below.refl _ _) _).size)); have BG5 := Aside0.mk (blk_below (o := .cells (lcells a b A l.length c) 53 (0, 0)) (g := g) (by (with_reducible repeat (first | refine blk_drewN ?_ _ | refine blk_drew ?_ | refine blk_alloc ?_ _)); exact BG1.out) hb5); have ST5 := Aside0.mk (Step.below (g := g) (by first | exact HS1.out.drew | exact Step.below HS1.out.drew (below_alloc (Below.refl _ _) _)) hb5); have hg5 : w5.cell? ⟨g, 2, none⟩ = some (.slice A l.length c) := (blk_cell BG5.out 2).trans rfl; have fg5 := blk_frozen BG5.out 2; clear ho5 hb5) | (refine Kd.R_append_rows_step k32 (w0 := W1.drew.alloc (.cells (ecells x) 32)) (W1.drew.alloc (.cells (ecells x) 32)).heap.size (by rfl) (.tmp 23) (.tmp 25) 22 32 (.agg (ecells z32)) 56 rfl Try.underlying22 info32 rfl (by decide) (by omega) _ l [x] _ _ _ (fun _ => True) (fun _ => False) rfl rfl HO.out (C_one32 BL3.out) (fun _ _ h => h) (fun _ h => h.elim) (fun _ _ => trivial) HB3.out HB3.out.size (by have := HLL.out; omega) ?_; intro v5 w5 ho5 hb5 _ _; obtain ⟨A5, c5, e5⟩ := Kd.R_slice ho5; subst e5; have HO5 := Aside0.mk (Kd.R_lower ho5 (show W1.heap.size ≤ _ by first | exact Nat.le_refl _ | exact (below_alloc (Below.refl _ _) _).size)); have BG5 := Aside0.mk (blk_below (o := .cells (lcells a b A l.length c) 53 (0, 0)) (g := g) (by (with_reducible repeat (first | refine blk_drewN ?_ _ | refine blk_drew ?_ | refine blk_alloc ?_ _)); exact BG1.out) hb5); have ST5 := Aside0.mk (Step.below (g := g) (by first | exact HS1.out.drew | exact Step.below HS1.out.drew (below_alloc (Below.refl _ _) _)) hb5); have hg5 : w5.cell? ⟨g, 2, none⟩ = some (.slice A l.length c) := (blk_cell BG5.out 2).trans rfl; have fg5 := blk_frozen BG5.out 2; clear ho5 hb5))
  all_goals go_wp2
  all_goals go_ret
  all_goals (have HF := Kd.R_far (p := ⟨g, 2, none⟩) (Kd.R_types HO5.out BG5.out (by decide)) (fun _ hk => hk.2) (.slice A5 (l ++ [x]).length c5))
  all_goals (have HLE := (Kd.R_reads' HO5.out).2.1)
  all_goals (have HFC := Kd.R_F (Kd.R_mono (Kd.R_bound HF) (fun k hk => (⟨Nat.le_trans HS1.out.1.1 hk.2.1, hk.1.2⟩ : w.heap.size ≤ k ∧ k ≠ g))))
  all_goals (have hle : (l ++ [x]).length = l.length + 1 := by simp)
  all_goals (rw [hle] at HLE HFC)
  all_goals (rw [hle])
  all_goals (refine ⟨rfl, ST5.out.set_ 2 _, A5, c5, ?_, HLE, HFC⟩)
  all_goals (have h_ := blk_set BG5.out 2 (.slice A5 (l.length + 1) c5); simp at h_; exact h_)
def step1 (p : Log) (x : S32) : Option Log := if x.f2 = IntKind.i64.wrap (lastL p + 1) ∧ x.f3 = endL p then some (p.1, p.2.1, p.2.2 ++ [x]) else none
def step2 (p : Log) (x : S32) : Option Log := match p.2.2 with
  | [] => none
  | y :: t => if y.f2 = x.f2 then some (x.f2, y.f4, t) else none
def step3 (p : Log) (x : S32) : Option Log := if p.2.2.length = 0 ∧ p.1 = 0 ∧ p.2.1 = 0 then some (x.f2, x.f4, p.2.2) else none
/-- What a log's method leaves: the log that it makes (or the one that was), its row apart from the log's block. -/
def Does (g : Nat) (ok : Nat → Prop) (w0 w : World) (p : Log) (r : Option Log) (e : Ending) (w' : World) : Prop :=
  e = .returned (.bool r.isSome) ∧ Step g w w' ∧ ∃ A' c', w'.heap[g]? = some (.cells (lcells (r.getD p).1 (r.getD p).2.1 A' (r.getD p).2.2.length c') 53 (0, 0)) ∧ (r.getD p).2.2.length ≤ c' ∧ Kd.F k32 w' (fun k => ((ok k ∧ k < w0.heap.size) ∨ w.heap.size ≤ k) ∧ k ≠ g) A' (r.getD p).2.2.length (r.getD p).2.2
theorem F_same {w0 w' : World} {ok : Nat → Prop} {A : Option Addr} {n g B : Nat} {l : List S32} (hr : Kd.F k32 w0 ok A n l) (hb : Below w0.heap.size w0 w') (hg : w0.heap.size ≤ g) : Kd.F k32 w' (fun k => ((ok k ∧ k < w0.heap.size) ∨ B ≤ k) ∧ k ≠ g) A n l :=
  Kd.F_mono (Kd.F_step (Kd.F_bound hr) (fun k hk _ => hb.block k hk.2)) (fun k hk => ⟨.inl hk, by have := hk.2; omega⟩)
theorem does1.calls (x : S32) (p : Log) (A : Option Addr) (c g : Nat) (ok : Nat → Prop) (r : Option Log) (w0 w : World) (hb : w.heap[g]? = some (.cells (lcells p.1 p.2.1 A p.2.2.length c) 53 (0, 0))) (hF : Kd.F k32 w0 ok A p.2.2.length p.2.2) (hB0 : Below w0.heap.size w0 w) (hg0_ : w0.heap.size ≤ g) (hc : p.2.2.length ≤ c) (hl : p.2.2.length ≤ 100000) (h : step1 p x = r) :
    Calls Try.prog 18 #[.pointer (some ⟨g, 0, none⟩), .agg (ecells x)] w (Does g ok w0 w p r) := by
  have hr := Kd.F_now hF
  obtain ⟨a, b, l⟩ := p
  unfold step1 at h
  by_cases h1 : x.f2 = IntKind.i64.wrap (lastL (a, b, l) + 1)
  · have q0 : (x.f2 != IntKind.i64.wrap (lastL (a, b, l) + 1)) = false := bne_eq_false_iff_eq.mpr h1
    by_cases h2 : x.f3 = endL (a, b, l)
    · rw [if_pos ⟨h1, h2⟩] at h
      subst h
      refine (journal_commit.yes x a b A c l g _ _ w0 w hb hr hB0 hg0_ hc hl rfl rfl q0 (bne_eq_false_iff_eq.mpr h2)).mono ?_
      rintro e w' ⟨rfl, st, A', c', h1, h2, h3⟩
      exact ⟨rfl, st, A', c', h1, h2, Kd.F_mono h3 (fun k hk => ⟨.inr hk.1, hk.2⟩)⟩
    · rw [if_neg (fun h => h2 h.2)] at h
      subst h
      refine (journal_commit.start_ x a b A c l g _ _ w0 w hb hr hB0 hg0_ hc hl rfl rfl q0 (bne_iff_ne.mpr h2)).mono ?_
      rintro e w' ⟨rfl, st, h1⟩
      exact ⟨rfl, st, A, c, h1, hc, F_same hF (st.fresh hB0 hg0_) hg0_⟩
  · rw [if_neg (fun h => h1 h.1)] at h
    subst h
    refine (journal_commit.id_ x a b A c l g _ w0 w hb hr hB0 hg0_ hc hl rfl (bne_iff_ne.mpr h1)).mono ?_
    rintro e w' ⟨rfl, st, h1⟩
    exact ⟨rfl, st, A, c, h1, hc, F_same hF (st.fresh hB0 hg0_) hg0_⟩
theorem does2.calls (x : S32) (p : Log) (A : Option Addr) (c g : Nat) (ok : Nat → Prop) (r : Option Log) (w0 w : World) (hb : w.heap[g]? = some (.cells (lcells p.1 p.2.1 A p.2.2.length c) 53 (0, 0))) (hF : Kd.F k32 w0 ok A p.2.2.length p.2.2) (hB0 : Below w0.heap.size w0 w) (hg0_ : w0.heap.size ≤ g) (hc : p.2.2.length ≤ c) (hl : p.2.2.length ≤ 100000) (h : step2 p x = r) :
    Calls Try.prog 19 #[.pointer (some ⟨g, 0, none⟩), .agg (ecells x)] w (Does g ok w0 w p r) := by
  have hr := Kd.F_now hF
  obtain ⟨a, b, l⟩ := p
  cases l with
  | nil =>
    obtain rfl : none = r := h
    refine (journal_drop.empty_ x a b A c g w hb).mono ?_
    rintro e w' ⟨rfl, h1, st⟩
    exact ⟨rfl, st, A, c, h1, hc, F_same hF (st.fresh hB0 hg0_) hg0_⟩
  | cons y t =>
    obtain ⟨ad, hA, _⟩ := hr.2.2 (by simp)
    subst hA
    have hlt : t.length ≤ 100000 := by simp only [List.length_cons] at hl; omega
    by_cases h2 : y.f2 = x.f2
    · have h' : some (x.f2, y.f4, t) = r := by rw [← h]; unfold step2; simp [h2]
      subst h'
      refine (journal_drop.yes x y t a b ad c g w0 w hb hr hB0 hg0_ hc h2 hlt).mono ?_
      rintro e w' ⟨rfl, st, A', c', h1, h2, h3⟩
      exact ⟨rfl, st, A', c', h1, h2, Kd.F_mono h3 (fun k hk => ⟨.inr hk.1, hk.2⟩)⟩
    · have h' : none = r := by rw [← h]; unfold step2; simp [h2]
      subst h'
      refine (journal_drop.other x y t a b ad c g w hb (Kd.C_below hr hB0) h2 (by omega)).mono ?_
      rintro e w' ⟨rfl, h1, st⟩
      exact ⟨rfl, st, some ad, c, h1, hc, F_same hF (st.fresh hB0 hg0_) hg0_⟩
theorem does3.calls (x : S32) (p : Log) (A : Option Addr) (c g : Nat) (ok : Nat → Prop) (r : Option Log) (w0 w : World) (hb : w.heap[g]? = some (.cells (lcells p.1 p.2.1 A p.2.2.length c) 53 (0, 0))) (hF : Kd.F k32 w0 ok A p.2.2.length p.2.2) (hB0 : Below w0.heap.size w0 w) (hg0_ : w0.heap.size ≤ g) (hc : p.2.2.length ≤ c) (hl : p.2.2.length ≤ 100000) (h : step3 p x = r) :
    Calls Try.prog 20 #[.pointer (some ⟨g, 0, none⟩), .agg (ecells x)] w (Does g ok w0 w p r) := by
  have hr := Kd.F_now hF
  obtain ⟨a, b, l⟩ := p
  unfold step3 at h
  by_cases h1 : l.length = 0 ∧ a = 0 ∧ b = 0
  · rw [if_pos h1] at h
    subst h
    refine (journal_base.calls x a b A l.length c g true w hb (decide_eq_true h1)).mono ?_
    rintro e w' ⟨rfl, h2, st⟩
    exact ⟨rfl, st, A, c, h2, hc, F_same hF (st.fresh hB0 hg0_) hg0_⟩
  · rw [if_neg h1] at h
    subst h
    refine (journal_base.calls x a b A l.length c g false w hb (decide_eq_false h1)).mono ?_
    rintro e w' ⟨rfl, h2, st⟩
    exact ⟨rfl, st, A, c, h2, hc, F_same hF (st.fresh hB0 hg0_) hg0_⟩
theorem kLog_mk {w : World} {p : Log} {A : Option Addr} {c : Nat} (hc : p.2.2.length ≤ c) (hC : Kd.C k32 w A p.2.2.length p.2.2) : kLog.K w p [.int .i64 p.1, .int .i64 p.2.1, .slice A p.2.2.length c] :=
  ⟨[.int .i64 p.1], [.int .i64 p.2.1, .slice A p.2.2.length c], rfl, rfl, ⟨[.int .i64 p.2.1], [.slice A p.2.2.length c], rfl, rfl, ⟨A, c, rfl, hc, hC⟩⟩⟩
/-- A journal's cells with those of one partition laid anew. -/
abbrev setCs (cs : List Value) (i : Nat) (seg : List Value) : List Value := cs.take (i * 3) ++ (seg ++ cs.drop (i * 3 + 3))
theorem JV.set {w : World} {J : List Log} {cs : List Value} (h : JV w J cs) {i : Nat} (hi : i < 4) {p : Log} {A : Option Addr} {c : Nat} (hc : p.2.2.length ≤ c) (hC : Kd.C k32 w A p.2.2.length p.2.2) :
    JV w (J.set i p) (setCs cs i [.int .i64 p.1, .int .i64 p.2.1, .slice A p.2.2.length c]) := by
  obtain ⟨hJ, hcs⟩ := h.len
  refine ⟨by simpa using hJ, ?_, ?_⟩
  · simp only [setCs, List.length_append, List.length_take, List.length_drop, List.length_set, hcs, hJ]
    show _ = 4 * 3
    simp
    omega
  · intro k y hk
    have hk4 : k < 4 := by
      have := (List.getElem?_eq_some_iff.1 hk).1
      simpa [hJ] using this
    have hget : ∀ j, j < 3 → (setCs cs i [.int .i64 p.1, .int .i64 p.2.1, .slice A p.2.2.length c])[k * 3 + j]? = if k = i then ([Value.int .i64 p.1, .int .i64 p.2.1, .slice A p.2.2.length c])[j]? else cs[k * 3 + j]? := by
      intro j hj
      simp only [setCs]
      have hlt : (cs.take (i * 3)).length = i * 3 := by rw [List.length_take, hcs]; omega
      by_cases hki : k = i
      · subst hki
        rw [if_pos rfl, List.getElem?_append_right (by rw [hlt]; omega), hlt, show k * 3 + j - k * 3 = j from by omega, List.getElem?_append_left (by simpa using hj)]
      · rw [if_neg hki]
        by_cases hlo : k < i
        · rw [List.getElem?_append_left (by rw [hlt]; omega), List.getElem?_take_of_lt (by omega)]
        · rw [List.getElem?_append_right (by rw [hlt]; omega), hlt, List.getElem?_append_right (by simp; omega), List.getElem?_drop]
          congr 1
          simp
          omega
    have hext : ∀ L : List Value, (∀ j, j < 3 → (setCs cs i [.int .i64 p.1, .int .i64 p.2.1, .slice A p.2.2.length c])[k * 3 + j]? = L[j]?) → L.length ≤ 3 → ((setCs cs i [.int .i64 p.1, .int .i64 p.2.1, .slice A p.2.2.length c]).drop (k * 3)).take 3 = L := by
      intro L hL hl3
      apply List.ext_getElem?
      intro j
      by_cases hj : j < 3
      · rw [List.getElem?_take_of_lt hj, List.getElem?_drop]
        exact hL j hj
      · rw [List.getElem?_eq_none (by rw [List.length_take]; omega), List.getElem?_eq_none (by omega)]
    by_cases hki : k = i
    · subst hki
      have hy : y = p := by
        rw [List.getElem?_set_self (by rw [hJ]; omega)] at hk
        exact (Option.some.inj hk).symm
      subst hy
      have := hext [Value.int .i64 y.1, .int .i64 y.2.1, .slice A y.2.2.length c] (fun j hj => by rw [hget j hj, if_pos rfl]) (by simp)
      show kLog.K w y (List.take 3 (List.drop (k * 3) _))
      rw [this]
      exact kLog_mk hc hC
    · have hk' : J[k]? = some y := by rw [← hk, List.getElem?_set_ne (fun e => hki e.symm)]
      have h0 := h.2.2 k y hk'
      have := hext ((cs.drop (k * 3)).take 3) (fun j hj => by rw [hget j hj, if_neg hki, List.getElem?_take_of_lt hj, List.getElem?_drop]) (by rw [List.length_take]; omega)
      show kLog.K w y (List.take 3 (List.drop (k * 3) _))
      rw [this]
      exact h0
theorem heap32 : Kd.Heap k32 := Kd.heap_iso _ (Kd.heap_pair (Kd.heap_int _) (Kd.heap_pair (Kd.heap_int _) (Kd.heap_pair (Kd.heap_int _) (Kd.heap_pair (Kd.heap_int _) (Kd.heap_pair (Kd.heap_int _) (Kd.heap_pair (Kd.heap_int _) (Kd.heap_int _)))))))
/-- A journal that is read, its rows in the blocks of ok. -/
def JVF (w : World) (ok : Nat → Prop) (J : List Log) (cs : List Value) : Prop := Foot (fun W => JV W J cs) w ok
theorem JVF.now {w : World} {ok : Nat → Prop} {J : List Log} {cs : List Value} (h : JVF w ok J cs) : JV w J cs := Foot.now h
theorem JVF.mono {w : World} {ok ok' : Nat → Prop} {J : List Log} {cs : List Value} (h : JVF w ok J cs) (hok : ∀ k, ok k → ok' k) : JVF w ok' J cs := Foot.mono h hok
theorem JVF.bound {w : World} {ok : Nat → Prop} {J : List Log} {cs : List Value} (h : JVF w ok J cs) : JVF w (fun k => ok k ∧ k < w.heap.size) J cs := Foot.bound h
theorem JVF.step_ {w w1 : World} {ok : Nat → Prop} {J : List Log} {cs : List Value} (h : JVF w ok J cs) (hm : ∀ k, ok k → k < w.heap.size → w1.heap[k]? = w.heap[k]?) : JVF w1 ok J cs := Foot.step h hm
theorem JVF.below {w w1 : World} {ok : Nat → Prop} {J : List Log} {cs : List Value} (h : JVF w ok J cs) (hb : Below w.heap.size w w1) : JVF w1 (fun k => ok k ∧ k < w.heap.size) J cs := Foot.old h hb
theorem JVF.keep {w w1 : World} {ok : Nat → Prop} {J : List Log} {cs : List Value} {g : Nat} (h : JVF w ok J cs) (st : Step g w w1) (hok : ∀ k, ok k → k ≠ g) : JVF w1 ok J cs := JVF.step_ h (fun k hk hlt => st.1.2 k hlt (hok k hk) (by simp))
theorem JVF.of_JV {w : World} {J : List Log} {cs : List Value} (h : JV w J cs) : JVF w (fun k => k < w.heap.size) J cs := fun W' hW => (Kd.heap_arr (Kd.heap_pair (Kd.heap_int .i64) (Kd.heap_pair (Kd.heap_int .i64) (Kd.heap_slice 32 heap32)))).K (fun k hk => hW k hk hk) h
theorem JVF.at_ {w : World} {ok : Nat → Prop} {J : List Log} {cs : List Value} (h : JVF w ok J cs) (i : Nat) (hi : i < 4) :
    ∃ A c, cs[i * 3]? = some (.int .i64 (lg J i).1) ∧ cs[i * 3 + 1]? = some (.int .i64 (lg J i).2.1) ∧ cs[i * 3 + 2]? = some (.slice A (lg J i).2.2.length c) ∧ (lg J i).2.2.length ≤ c ∧ Kd.F k32 w ok A (lg J i).2.2.length (lg J i).2.2 := by
  obtain ⟨A, c, h0, h1, h2, h3, _⟩ := h.now.at_ i hi
  refine ⟨A, c, h0, h1, h2, h3, fun W' hW => ?_⟩
  obtain ⟨A', c', _, _, h2', _, h4⟩ := (h W' hW).at_ i hi
  have e := Option.some.inj (h2.symm.trans h2')
  injection e with e1 _ _
  subst e1
  exact h4
theorem JVF.set {w : World} {ok : Nat → Prop} {J : List Log} {cs : List Value} (h : JVF w ok J cs) {i : Nat} (hi : i < 4) {p : Log} {A : Option Addr} {c : Nat} (hc : p.2.2.length ≤ c) (hC : Kd.F k32 w ok A p.2.2.length p.2.2) :
    JVF w ok (J.set i p) (setCs cs i [.int .i64 p.1, .int .i64 p.2.1, .slice A p.2.2.length c]) := fun W' hW => JV.set (h W' hW) hi hc (hC W' hW)
/-- The journal of nothing. -/
def J0 : List Log := List.replicate 4 (0, 0, [])
abbrev cs0 : List Value := [.int .i64 0, .int .i64 0, .slice none 0 0, .int .i64 0, .int .i64 0, .slice none 0 0, .int .i64 0, .int .i64 0, .slice none 0 0, .int .i64 0, .int .i64 0, .slice none 0 0]
theorem JV.zero (w : World) : JV w J0 cs0 := by
  refine ⟨rfl, rfl, fun i p hp => ?_⟩
  have hi : i < 4 := by
    have := (List.getElem?_eq_some_iff.1 hp).1
    simpa [J0] using this
  have hz : p = (0, 0, []) := by
    have := List.mem_of_getElem? hp
    unfold J0 at this
    exact (List.mem_replicate.1 this).2
  subst hz
  obtain rfl | rfl | rfl | rfl : i = 0 ∨ i = 1 ∨ i = 2 ∨ i = 3 := by omega
  all_goals exact kLog_mk (p := (0, 0, [])) (c := 0) (Nat.le_refl 0) (Kd.C_nil k32 w)
theorem JVF.zero (w : World) (ok : Nat → Prop) : JVF w ok J0 cs0 := fun W' _ => JV.zero W'
/-- Two results, the first a variable of the function's own that holds a row. -/
theorem results_row_tmp {P : Program} {fn : Func} {p q : Tmp} {ty : TypeId} (h : fn.results = #[.cell p ty, .tmp q]) (tmps : Array Value) (w : World) (g : Nat) (t : TypeId) (cs : Array Value) (fr : Nat × Nat) (d : TypeDesc) (v : Value)
    (hp : tmps.getD p undef = .pointer (some ⟨g, 0, none⟩)) (hv : tmps.getD q undef = v) (hg : w.heap[g]? = some (.cells cs t fr))
    (hu : P.underlying ty = some d) (hd : (match d with | .struct _ | .array _ _ => true | _ => false) = true) (hi : (P.info? ty).map (·.size) = some cs.size) :
    (results fn tmps).run P w = .ok (.tuple #[.agg cs, v]) w := by
  have hp' : tmps[p]?.getD undef = .pointer (some ⟨g, 0, none⟩) := by simpa using hp
  have hv' : tmps[q]?.getD undef = v := by simpa using hv
  simp [results, h, hp', hv', asAddr, run_loadVar_row w g t ty cs fr d hg hu hd hi, Result.andThen]
theorem size27 : (Try.prog.info? 27).map (·.size) = some 12 := by kernel_rfl
set_option maxHeartbeats 8000000 in
set_option maxRecDepth 100000 in
theorem journal_Apply.not_ (J : List Log) (cs : List Value) (a0 a1 a2 a3 a4 a5 a6 : Int) (w : World) (hJ : JV w J cs) (hM : journal_May.f a0 a1 a2 a3 a4 a5 a6 = some false) :
    Calls Try.prog 7 #[.agg cs.toArray, .agg #[.int .i64 a0, .int .i64 a1, .int .i64 a2, .int .i64 a3, .int .i64 a4, .int .i64 a5, .int .i64 a6]] w fun e w' => e = .returned (.tuple #[.agg #[.int .i64 0, .int .i64 0, .slice none 0 0, .int .i64 0, .int .i64 0, .slice none 0 0, .int .i64 0, .int .i64 0, .slice none 0 0, .int .i64 0, .int .i64 0, .slice none 0 0], .int .i64 1]) ∧ Below w.heap.size w w' := by
  have HB := Aside0.mk (Below.refl w.heap.size w)
  have HM := Aside0.mk hM
  clear hM hJ
  have hu25 := Try.underlying25
  have hu32 := Try.underlying32
  have hu53 := Try.underlying53
  go_enter Try.func7, Try.ntmps7
  go_wp2_with (first
    | ((with_reducible refine gate_dst (N := 2) rfl ?_); refine box_event ?hg (N := 2) ?hd (cs := cs.toArray) (t := 27) ?hr ?_; (case hd => rfl); (case hg => rfl); (case hr => first | (go_simp; done) | (go_simp; rfl)); intro gj hg w1 hbox hb; have BJ := Aside0.mk hbox; have GEBJ := Aside0.mk ((by rw [hg]; exact (below_size (by repeat (first | (with_reducible first | exact HB.out | apply below_alloc | apply pw_below_drewN | apply below_drew1) | exact HB.out)))) : w.heap.size ≤ gj); have n_HB := Aside0.mk (below_step (by repeat (first | (with_reducible first | exact HB.out | apply below_alloc | apply pw_below_drewN | apply below_drew1) | exact HB.out)) hb); clear HB ; have HB := n_HB; clear n_HB ; clear hbox hg hb)
    | ((with_reducible refine gate_dst (N := 3) rfl ?_); refine box_event ?hg (N := 3) ?hd (cs := #[.int .i64 a0, .int .i64 a1, .int .i64 a2, .int .i64 a3, .int .i64 a4, .int .i64 a5, .int .i64 a6]) (t := 32) ?hr ?_; (case hd => rfl); (case hg => rfl); (case hr => first | (go_simp; done) | (go_simp; rfl)); intro gx hg w2 hbox hb; have BX := Aside0.mk hbox; have GEBX := Aside0.mk ((by rw [hg]; exact (below_size (by repeat (first | (with_reducible first | exact HB.out | apply below_alloc | apply pw_below_drewN | apply below_drew1) | exact HB.out)))) : w.heap.size ≤ gx); have NBJBX := Aside0.mk ((by rw [hg]; exact Nat.ne_of_lt (blk_lt (by (with_reducible repeat (first | refine blk_drewN ?_ _ | refine blk_drew ?_ | refine blk_alloc ?_ _)); exact BJ.out))) : gj ≠ gx); have n_BJ := Aside0.mk (blk_below (by (with_reducible repeat (first | refine blk_drewN ?_ _ | refine blk_drew ?_ | refine blk_alloc ?_ _)); exact BJ.out) hb); have n_HB := Aside0.mk (below_step (by repeat (first | (with_reducible first | exact HB.out | apply below_alloc | apply pw_below_drewN | apply below_drew1) | exact HB.out)) hb); clear HB BJ; have HB := n_HB; have BJ := n_BJ; clear n_HB n_BJ; clear hbox hg hb; have hx0 : w2.cell? ⟨gx, 0, none⟩ = some (.int .i64 a0) := (blk_cell BX.out 0).trans rfl; have hx1 : w2.cell? ⟨gx, 1, none⟩ = some (.int .i64 a1) := (blk_cell BX.out 1).trans rfl)
    | ((with_reducible refine gate_dst (N := 4) rfl ?_); refine box_event ?hg (N := 4) ?hd (cs := #[.int .i64 0, .int .i64 0, .slice none 0 0, .int .i64 0, .int .i64 0, .slice none 0 0, .int .i64 0, .int .i64 0, .slice none 0 0, .int .i64 0, .int .i64 0, .slice none 0 0]) (t := 27) ?hr ?_; (case hd => rfl); (case hg => rfl); (case hr => first | (go_simp; done) | (go_simp; rfl)); intro g4 hg w3 hbox hb; have B4 := Aside0.mk hbox; have GEB4 := Aside0.mk ((by rw [hg]; exact (below_size (by repeat (first | (with_reducible first | exact HB.out | apply below_alloc | apply pw_below_drewN | apply below_drew1) | exact HB.out)))) : w.heap.size ≤ g4); have NBJB4 := Aside0.mk ((by rw [hg]; exact Nat.ne_of_lt (blk_lt (by (with_reducible repeat (first | refine blk_drewN ?_ _ | refine blk_drew ?_ | refine blk_alloc ?_ _)); exact BJ.out))) : gj ≠ g4); have NBXB4 := Aside0.mk ((by rw [hg]; exact Nat.ne_of_lt (blk_lt (by (with_reducible repeat (first | refine blk_drewN ?_ _ | refine blk_drew ?_ | refine blk_alloc ?_ _)); exact BX.out))) : gx ≠ g4); have n_BJ := Aside0.mk (blk_below (by (with_reducible repeat (first | refine blk_drewN ?_ _ | refine blk_drew ?_ | refine blk_alloc ?_ _)); exact BJ.out) hb); have n_BX := Aside0.mk (blk_below (by (with_reducible repeat (first | refine blk_drewN ?_ _ | refine blk_drew ?_ | refine blk_alloc ?_ _)); exact BX.out) hb); have n_HB := Aside0.mk (below_step (by repeat (first | (with_reducible first | exact HB.out | apply below_alloc | apply pw_below_drewN | apply below_drew1) | exact HB.out)) hb); clear HB BJ BX; have HB := n_HB; have BJ := n_BJ; have BX := n_BX; clear n_HB n_BJ n_BX; clear hbox hg hb; have hx0 : w3.cell? ⟨gx, 0, none⟩ = some (.int .i64 a0) := (blk_cell BX.out 0).trans rfl; have hx1 : w3.cell? ⟨gx, 1, none⟩ = some (.int .i64 a1) := (blk_cell BX.out 1).trans rfl)
    | ((with_reducible refine gate_dst (N := 8) rfl ?_); go_loud (refine wpList_load_row rfl 32 (.tmp 3) rfl gx rfl 32 #[.int .i64 a0, .int .i64 a1, .int .i64 a2, .int .i64 a3, .int .i64 a4, .int .i64 a5, .int .i64 a6] (0, 0) _ BX.out Try.underlying32 rfl size32 ?_))
    | ((with_reducible refine gate_callee (f := 17) rfl ?_); refine goesL_ (some 9) rfl rfl Try.func17 (by kernel_rfl) rfl #[.agg #[.int .i64 a0, .int .i64 a1, .int .i64 a2, .int .i64 a3, .int .i64 a4, .int .i64 a5, .int .i64 a6]] rfl (by (try simp only [List.map_toArray, List.map_cons, List.map_nil]); first | done | rfl) ?_; go_loud (refine (journal_May.calls a0 a1 a2 a3 a4 a5 a6 false _ HM.out).mono ?_); rintro e w5 ⟨rfl, hb⟩; refine ⟨_, rfl, ?_⟩; have n_BJ := Aside0.mk (blk_below (by (with_reducible repeat (first | refine blk_drewN ?_ _ | refine blk_drew ?_ | refine blk_alloc ?_ _)); exact BJ.out) hb); have n_BX := Aside0.mk (blk_below (by (with_reducible repeat (first | refine blk_drewN ?_ _ | refine blk_drew ?_ | refine blk_alloc ?_ _)); exact BX.out) hb); have n_B4 := Aside0.mk (blk_below (by (with_reducible repeat (first | refine blk_drewN ?_ _ | refine blk_drew ?_ | refine blk_alloc ?_ _)); exact B4.out) hb); have n_HB := Aside0.mk (below_step (by repeat (first | (with_reducible first | exact HB.out | apply below_alloc | apply pw_below_drewN | apply below_drew1) | exact HB.out)) hb); clear HB BJ BX B4; have HB := n_HB; have BJ := n_BJ; have BX := n_BX; have B4 := n_B4; clear n_HB n_BJ n_BX n_B4; clear hb; have hx0 : w5.cell? ⟨gx, 0, none⟩ = some (.int .i64 a0) := (blk_cell BX.out 0).trans rfl; have hx1 : w5.cell? ⟨gx, 1, none⟩ = some (.int .i64 a1) := (blk_cell BX.out 1).trans rfl)
    | ((with_reducible refine gate_ (.store 27 (.tmp 4) (.tmp 11)) rfl ?_); go_loud (refine wpList_storeR rfl rfl 27 (.tmp 4) (.tmp 11) rfl g4 (0) rfl (.agg #[.int .i64 0, .int .i64 0, .slice none 0 0, .int .i64 0, .int .i64 0, .slice none 0 0, .int .i64 0, .int .i64 0, .slice none 0 0, .int .i64 0, .int .i64 0, .slice none 0 0]) rfl [.int .i64 0, .int .i64 0, .slice none 0 0, .int .i64 0, .int .i64 0, .slice none 0 0, .int .i64 0, .int .i64 0, .slice none 0 0, .int .i64 0, .int .i64 0, .slice none 0 0] rfl #[.int .i64 0, .int .i64 0, .slice none 0 0, .int .i64 0, .int .i64 0, .slice none 0 0, .int .i64 0, .int .i64 0, .slice none 0 0, .int .i64 0, .int .i64 0, .slice none 0 0] 27 B4.out size27 (by simp) (by simp [Value.oneCell']) #[.int .i64 0, .int .i64 0, .slice none 0 0, .int .i64 0, .int .i64 0, .slice none 0 0, .int .i64 0, .int .i64 0, .slice none 0 0, .int .i64 0, .int .i64 0, .slice none 0 0] rfl ?_); intro w6 hs st; have n_BJ := Aside0.mk (Step.blk st (by (with_reducible repeat (first | refine blk_drewN ?_ _ | refine blk_drew ?_ | refine blk_alloc ?_ _)); exact BJ.out) (NBJB4.out)); have n_BX := Aside0.mk (Step.blk st (by (with_reducible repeat (first | refine blk_drewN ?_ _ | refine blk_drew ?_ | refine blk_alloc ?_ _)); exact BX.out) (NBXB4.out)); have n_HB := Aside0.mk (Step.fresh st (by repeat (first | (with_reducible first | exact HB.out | apply below_alloc | apply pw_below_drewN | apply below_drew1) | exact HB.out)) GEB4.out); clear HB BJ BX; have HB := n_HB; have BJ := n_BJ; have BX := n_BX; clear n_HB n_BJ n_BX; clear B4; have B4 := Aside0.mk hs; clear hs st; have hx0 : w6.cell? ⟨gx, 0, none⟩ = some (.int .i64 a0) := (blk_cell BX.out 0).trans rfl; have hx1 : w6.cell? ⟨gx, 1, none⟩ = some (.int .i64 a1) := (blk_cell BX.out 1).trans rfl))
  (try simp only [Exit.inBlock, Exit.then])
  refine bodyPost_ret (results_row_tmp rfl _ _ g4 27 #[.int .i64 0, .int .i64 0, .slice none 0 0, .int .i64 0, .int .i64 0, .slice none 0 0, .int .i64 0, .int .i64 0, .slice none 0 0, .int .i64 0, .int .i64 0, .slice none 0 0] (0, 0) _ (.int .i64 1) rfl rfl B4.out Try.underlying27 rfl size27) rfl ?_
  exact ⟨rfl, by repeat (first | (with_reducible first | exact HB.out | apply below_alloc | apply pw_below_drewN | apply below_drew1) | exact HB.out)⟩
set_option maxHeartbeats 8000000 in
set_option maxRecDepth 100000 in
theorem journal_Apply.no1 (J : List Log) (cs : List Value) (i : Nat) (a2 a3 a4 a5 a6 : Int) (ok : Nat → Prop) (w : World) (hJ : JVF w ok J cs) (hi : i < 4) (hM : journal_May.f 1 (i : Int) a2 a3 a4 a5 a6 = some true) (hl : (lg J i).2.2.length ≤ 100000) (hr : step1 (lg J i) (⟨1, (i : Int), a2, a3, a4, a5, a6⟩ : S32) = none) :
    Calls Try.prog 7 #[.agg cs.toArray, .agg #[.int .i64 1, .int .i64 (i : Int), .int .i64 a2, .int .i64 a3, .int .i64 a4, .int .i64 a5, .int .i64 a6]] w fun e w' => e = .returned (.tuple #[.agg #[.int .i64 0, .int .i64 0, .slice none 0 0, .int .i64 0, .int .i64 0, .slice none 0 0, .int .i64 0, .int .i64 0, .slice none 0 0, .int .i64 0, .int .i64 0, .slice none 0 0], .int .i64 5]) ∧ Below w.heap.size w w' := by
  have HB := Aside0.mk (Below.refl w.heap.size w)
  have HM := Aside0.mk hM
  have HJ := Aside0.mk hJ
  have HI := Aside0.mk hi
  have HCL := Aside0.mk hJ.now.len.2
  have q0 : (0 : Int) ≤ (i : Int) := by omega
  have q1 : (i : Int) < 4 := by omega
  obtain ⟨A, c, h0, h1, h2, hle, hC⟩ := hJ.at_ i hi
  obtain ⟨p, hp⟩ : ∃ p, p = lg J i := ⟨_, rfl⟩
  rw [← hp] at hr hl h0 h1 h2 hle hC
  have HC := Aside0.mk hC
  have HR := Aside0.mk hr
  have HL := Aside0.mk hl
  have HLE := Aside0.mk hle
  have H0 := Aside0.mk h0
  have H1 := Aside0.mk h1
  have H2 := Aside0.mk h2
  clear hM hJ hi h0 h1 h2 hle hC hr hl hp
  have hu25 := Try.underlying25
  have hu32 := Try.underlying32
  have hu53 := Try.underlying53
  go_enter Try.func7, Try.ntmps7
  go_wp2_with (first
    | ((with_reducible refine gate_dst (N := 2) rfl ?_); refine box_event ?hg (N := 2) ?hd (cs := cs.toArray) (t := 27) ?hr ?_; (case hd => rfl); (case hg => rfl); (case hr => first | (go_simp; done) | (go_simp; rfl)); intro gj hg w1 hbox hb; have BJ := Aside0.mk hbox; have GEBJ := Aside0.mk ((by rw [hg]; exact (below_size (by repeat (first | (with_reducible first | exact HB.out | apply below_alloc | apply pw_below_drewN | apply below_drew1) | exact HB.out)))) : w.heap.size ≤ gj); have n_HB := Aside0.mk (below_step (by repeat (first | (with_reducible first | exact HB.out | apply below_alloc | apply pw_below_drewN | apply below_drew1) | exact HB.out)) hb); clear HB ; have HB := n_HB; clear n_HB ; clear hbox hg hb)
    | ((with_reducible refine gate_dst (N := 3) rfl ?_); refine box_event ?hg (N := 3) ?hd (cs := #[.int .i64 1, .int .i64 (i : Int), .int .i64 a2, .int .i64 a3, .int .i64 a4, .int .i64 a5, .int .i64 a6]) (t := 32) ?hr ?_; (case hd => rfl); (case hg => rfl); (case hr => first | (go_simp; done) | (go_simp; rfl)); intro gx hg w2 hbox hb; have BX := Aside0.mk hbox; have GEBX := Aside0.mk ((by rw [hg]; exact (below_size (by repeat (first | (with_reducible first | exact HB.out | apply below_alloc | apply pw_below_drewN | apply below_drew1) | exact HB.out)))) : w.heap.size ≤ gx); have NBJBX := Aside0.mk ((by rw [hg]; exact Nat.ne_of_lt (blk_lt (by (with_reducible repeat (first | refine blk_drewN ?_ _ | refine blk_drew ?_ | refine blk_alloc ?_ _)); exact BJ.out))) : gj ≠ gx); have n_BJ := Aside0.mk (blk_below (by (with_reducible repeat (first | refine blk_drewN ?_ _ | refine blk_drew ?_ | refine blk_alloc ?_ _)); exact BJ.out) hb); have n_HB := Aside0.mk (below_step (by repeat (first | (with_reducible first | exact HB.out | apply below_alloc | apply pw_below_drewN | apply below_drew1) | exact HB.out)) hb); clear HB BJ; have HB := n_HB; have BJ := n_BJ; clear n_HB n_BJ; clear hbox hg hb; have hx0 : w2.cell? ⟨gx, 0, none⟩ = some (.int .i64 1) := (blk_cell BX.out 0).trans rfl; have hx1 : w2.cell? ⟨gx, 1, none⟩ = some (.int .i64 (i : Int)) := (blk_cell BX.out 1).trans rfl)
    | ((with_reducible refine gate_dst (N := 4) rfl ?_); refine box_event ?hg (N := 4) ?hd (cs := #[.int .i64 0, .int .i64 0, .slice none 0 0, .int .i64 0, .int .i64 0, .slice none 0 0, .int .i64 0, .int .i64 0, .slice none 0 0, .int .i64 0, .int .i64 0, .slice none 0 0]) (t := 27) ?hr ?_; (case hd => rfl); (case hg => rfl); (case hr => first | (go_simp; done) | (go_simp; rfl)); intro g4 hg w3 hbox hb; have B4 := Aside0.mk hbox; have GEB4 := Aside0.mk ((by rw [hg]; exact (below_size (by repeat (first | (with_reducible first | exact HB.out | apply below_alloc | apply pw_below_drewN | apply below_drew1) | exact HB.out)))) : w.heap.size ≤ g4); have NBJB4 := Aside0.mk ((by rw [hg]; exact Nat.ne_of_lt (blk_lt (by (with_reducible repeat (first | refine blk_drewN ?_ _ | refine blk_drew ?_ | refine blk_alloc ?_ _)); exact BJ.out))) : gj ≠ g4); have NBXB4 := Aside0.mk ((by rw [hg]; exact Nat.ne_of_lt (blk_lt (by (with_reducible repeat (first | refine blk_drewN ?_ _ | refine blk_drew ?_ | refine blk_alloc ?_ _)); exact BX.out))) : gx ≠ g4); have n_BJ := Aside0.mk (blk_below (by (with_reducible repeat (first | refine blk_drewN ?_ _ | refine blk_drew ?_ | refine blk_alloc ?_ _)); exact BJ.out) hb); have n_BX := Aside0.mk (blk_below (by (with_reducible repeat (first | refine blk_drewN ?_ _ | refine blk_drew ?_ | refine blk_alloc ?_ _)); exact BX.out) hb); have n_HB := Aside0.mk (below_step (by repeat (first | (with_reducible first | exact HB.out | apply below_alloc | apply pw_below_drewN | apply below_drew1) | exact HB.out)) hb); clear HB BJ BX; have HB := n_HB; have BJ := n_BJ; have BX := n_BX; clear n_HB n_BJ n_BX; clear hbox hg hb; have hx0 : w3.cell? ⟨gx, 0, none⟩ = some (.int .i64 1) := (blk_cell BX.out 0).trans rfl; have hx1 : w3.cell? ⟨gx, 1, none⟩ = some (.int .i64 (i : Int)) := (blk_cell BX.out 1).trans rfl)
    | ((with_reducible refine gate_dst (N := 8) rfl ?_); go_loud (refine wpList_load_row rfl 32 (.tmp 3) rfl gx rfl 32 #[.int .i64 1, .int .i64 (i : Int), .int .i64 a2, .int .i64 a3, .int .i64 a4, .int .i64 a5, .int .i64 a6] (0, 0) _ BX.out Try.underlying32 rfl size32 ?_))
    | ((with_reducible refine gate_callee (f := 17) rfl ?_); refine goesL_ (some 9) rfl rfl Try.func17 (by kernel_rfl) rfl #[.agg #[.int .i64 1, .int .i64 (i : Int), .int .i64 a2, .int .i64 a3, .int .i64 a4, .int .i64 a5, .int .i64 a6]] rfl (by (try simp only [List.map_toArray, List.map_cons, List.map_nil]); first | done | rfl) ?_; go_loud (refine (journal_May.calls 1 (i : Int) a2 a3 a4 a5 a6 true _ HM.out).mono ?_); rintro e w5 ⟨rfl, hb⟩; refine ⟨_, rfl, ?_⟩; have n_BJ := Aside0.mk (blk_below (by (with_reducible repeat (first | refine blk_drewN ?_ _ | refine blk_drew ?_ | refine blk_alloc ?_ _)); exact BJ.out) hb); have n_BX := Aside0.mk (blk_below (by (with_reducible repeat (first | refine blk_drewN ?_ _ | refine blk_drew ?_ | refine blk_alloc ?_ _)); exact BX.out) hb); have n_B4 := Aside0.mk (blk_below (by (with_reducible repeat (first | refine blk_drewN ?_ _ | refine blk_drew ?_ | refine blk_alloc ?_ _)); exact B4.out) hb); have n_HB := Aside0.mk (below_step (by repeat (first | (with_reducible first | exact HB.out | apply below_alloc | apply pw_below_drewN | apply below_drew1) | exact HB.out)) hb); clear HB BJ BX B4; have HB := n_HB; have BJ := n_BJ; have BX := n_BX; have B4 := n_B4; clear n_HB n_BJ n_BX n_B4; clear hb; have hx0 : w5.cell? ⟨gx, 0, none⟩ = some (.int .i64 1) := (blk_cell BX.out 0).trans rfl; have hx1 : w5.cell? ⟨gx, 1, none⟩ = some (.int .i64 (i : Int)) := (blk_cell BX.out 1).trans rfl)
    | ((with_reducible refine gate_dst (N := 12) rfl ?_); go_loud (refine wpList_makeMapF rfl 52 rfl ?_); intro w6 gm hg hbm hb; have BM := Aside0.mk hbm; have GEM := Aside0.mk ((by rw [hg]; exact (below_size (by repeat (first | (with_reducible first | exact HB.out | apply below_alloc | apply pw_below_drewN | apply below_drew1) | exact HB.out)))) : w.heap.size ≤ gm); have NBJM := Aside0.mk ((by rw [hg]; exact Nat.ne_of_lt (blk_lt (by (with_reducible repeat (first | refine blk_drewN ?_ _ | refine blk_drew ?_ | refine blk_alloc ?_ _)); exact BJ.out))) : gj ≠ gm); have NBXM := Aside0.mk ((by rw [hg]; exact Nat.ne_of_lt (blk_lt (by (with_reducible repeat (first | refine blk_drewN ?_ _ | refine blk_drew ?_ | refine blk_alloc ?_ _)); exact BX.out))) : gx ≠ gm); have NB4M := Aside0.mk ((by rw [hg]; exact Nat.ne_of_lt (blk_lt (by (with_reducible repeat (first | refine blk_drewN ?_ _ | refine blk_drew ?_ | refine blk_alloc ?_ _)); exact B4.out))) : g4 ≠ gm); have n_BJ := Aside0.mk (blk_below (by (with_reducible repeat (first | refine blk_drewN ?_ _ | refine blk_drew ?_ | refine blk_alloc ?_ _)); exact BJ.out) hb); have n_BX := Aside0.mk (blk_below (by (with_reducible repeat (first | refine blk_drewN ?_ _ | refine blk_drew ?_ | refine blk_alloc ?_ _)); exact BX.out) hb); have n_B4 := Aside0.mk (blk_below (by (with_reducible repeat (first | refine blk_drewN ?_ _ | refine blk_drew ?_ | refine blk_alloc ?_ _)); exact B4.out) hb); have n_HB := Aside0.mk (below_step (by repeat (first | (with_reducible first | exact HB.out | apply below_alloc | apply pw_below_drewN | apply below_drew1) | exact HB.out)) hb); clear HB BJ BX B4; have HB := n_HB; have BJ := n_BJ; have BX := n_BX; have B4 := n_B4; clear n_HB n_BJ n_BX n_B4; clear hg hbm hb; have hx0 : w6.cell? ⟨gx, 0, none⟩ = some (.int .i64 1) := (blk_cell BX.out 0).trans rfl; have hx1 : w6.cell? ⟨gx, 1, none⟩ = some (.int .i64 (i : Int)) := (blk_cell BX.out 1).trans rfl)
    | ((with_reducible refine gate_ (.insert 52 (.tmp 12) (.const (.int .i64 1)) (.func 18)) rfl ?_); go_loud (refine wpList_insertF rfl rfl 52 (.tmp 12) (.const (.int .i64 1)) (.func 18) rfl gm rfl (.int .i64 1) (.func (.func 18) #[] #[]) rfl rfl 3 50 Try.underlying52 (.int .i64) Try.underlying3 rfl #[] 0 BM.out rfl ?_); intro w7 hs st; have n_BJ := Aside0.mk (Step.blk st (by (with_reducible repeat (first | refine blk_drewN ?_ _ | refine blk_drew ?_ | refine blk_alloc ?_ _)); exact BJ.out) (NBJM.out)); have n_BX := Aside0.mk (Step.blk st (by (with_reducible repeat (first | refine blk_drewN ?_ _ | refine blk_drew ?_ | refine blk_alloc ?_ _)); exact BX.out) (NBXM.out)); have n_B4 := Aside0.mk (Step.blk st (by (with_reducible repeat (first | refine blk_drewN ?_ _ | refine blk_drew ?_ | refine blk_alloc ?_ _)); exact B4.out) (NB4M.out)); have n_HB := Aside0.mk (Step.fresh st (by repeat (first | (with_reducible first | exact HB.out | apply below_alloc | apply pw_below_drewN | apply below_drew1) | exact HB.out)) GEM.out); clear HB BJ BX B4; have HB := n_HB; have BJ := n_BJ; have BX := n_BX; have B4 := n_B4; clear n_HB n_BJ n_BX n_B4; clear BM; have BM := Aside0.mk hs; clear hs st; have hx0 : w7.cell? ⟨gx, 0, none⟩ = some (.int .i64 1) := (blk_cell BX.out 0).trans rfl; have hx1 : w7.cell? ⟨gx, 1, none⟩ = some (.int .i64 (i : Int)) := (blk_cell BX.out 1).trans rfl)
    | ((with_reducible refine gate_ (.insert 52 (.tmp 12) (.const (.int .i64 2)) (.func 19)) rfl ?_); go_loud (refine wpList_insertF rfl rfl 52 (.tmp 12) (.const (.int .i64 2)) (.func 19) rfl gm rfl (.int .i64 2) (.func (.func 19) #[] #[]) rfl rfl 3 50 Try.underlying52 (.int .i64) Try.underlying3 rfl #[{ key := .int .i64 1, val := .func (.func 18) #[] #[], born := 0 }] 1 BM.out rfl ?_); intro w7 hs st; have n_BJ := Aside0.mk (Step.blk st (by (with_reducible repeat (first | refine blk_drewN ?_ _ | refine blk_drew ?_ | refine blk_alloc ?_ _)); exact BJ.out) (NBJM.out)); have n_BX := Aside0.mk (Step.blk st (by (with_reducible repeat (first | refine blk_drewN ?_ _ | refine blk_drew ?_ | refine blk_alloc ?_ _)); exact BX.out) (NBXM.out)); have n_B4 := Aside0.mk (Step.blk st (by (with_reducible repeat (first | refine blk_drewN ?_ _ | refine blk_drew ?_ | refine blk_alloc ?_ _)); exact B4.out) (NB4M.out)); have n_HB := Aside0.mk (Step.fresh st (by repeat (first | (with_reducible first | exact HB.out | apply below_alloc | apply pw_below_drewN | apply below_drew1) | exact HB.out)) GEM.out); clear HB BJ BX B4; have HB := n_HB; have BJ := n_BJ; have BX := n_BX; have B4 := n_B4; clear n_HB n_BJ n_BX n_B4; clear BM; have BM := Aside0.mk hs; clear hs st; have hx0 : w7.cell? ⟨gx, 0, none⟩ = some (.int .i64 1) := (blk_cell BX.out 0).trans rfl; have hx1 : w7.cell? ⟨gx, 1, none⟩ = some (.int .i64 (i : Int)) := (blk_cell BX.out 1).trans rfl)
    | ((with_reducible refine gate_ (.insert 52 (.tmp 12) (.const (.int .i64 3)) (.func 20)) rfl ?_); go_loud (refine wpList_insertF rfl rfl 52 (.tmp 12) (.const (.int .i64 3)) (.func 20) rfl gm rfl (.int .i64 3) (.func (.func 20) #[] #[]) rfl rfl 3 50 Try.underlying52 (.int .i64) Try.underlying3 rfl #[{ key := .int .i64 1, val := .func (.func 18) #[] #[], born := 0 }, { key := .int .i64 2, val := .func (.func 19) #[] #[], born := 1 }] 2 BM.out rfl ?_); intro w7 hs st; have n_BJ := Aside0.mk (Step.blk st (by (with_reducible repeat (first | refine blk_drewN ?_ _ | refine blk_drew ?_ | refine blk_alloc ?_ _)); exact BJ.out) (NBJM.out)); have n_BX := Aside0.mk (Step.blk st (by (with_reducible repeat (first | refine blk_drewN ?_ _ | refine blk_drew ?_ | refine blk_alloc ?_ _)); exact BX.out) (NBXM.out)); have n_B4 := Aside0.mk (Step.blk st (by (with_reducible repeat (first | refine blk_drewN ?_ _ | refine blk_drew ?_ | refine blk_alloc ?_ _)); exact B4.out) (NB4M.out)); have n_HB := Aside0.mk (Step.fresh st (by repeat (first | (with_reducible first | exact HB.out | apply below_alloc | apply pw_below_drewN | apply below_drew1) | exact HB.out)) GEM.out); clear HB BJ BX B4; have HB := n_HB; have BJ := n_BJ; have BX := n_BX; have B4 := n_B4; clear n_HB n_BJ n_BX n_B4; clear BM; have BM := Aside0.mk hs; clear hs st; have hx0 : w7.cell? ⟨gx, 0, none⟩ = some (.int .i64 1) := (blk_cell BX.out 0).trans rfl; have hx1 : w7.cell? ⟨gx, 1, none⟩ = some (.int .i64 (i : Int)) := (blk_cell BX.out 1).trans rfl)
    | ((with_reducible refine gate_dst (N := 17) rfl ?_); go_loud (refine wpList_load_mid rfl 25 (.tmp 16) rfl gj (i * 3) rfl [.int .i64 p.1, .int .i64 p.2.1, .slice A p.2.2.length c] _ (jrange BJ.out (by simpa using H0.out) (by simpa using H1.out) (by simpa using H2.out)) Try.underlying25 rfl size25 ?_))
    | ((with_reducible refine gate_dst (N := 7) rfl ?_); refine box_event ?hg (N := 7) ?hd (cs := #[.int .i64 0, .int .i64 0, .slice none 0 0]) (t := 53) ?hr ?_; (case hd => rfl); (case hg => rfl); (case hr => first | (go_simp; done) | (go_simp; rfl)); intro g7 hg w8 hbox hb; have B7 := Aside0.mk hbox; have GEB7 := Aside0.mk ((by rw [hg]; exact (below_size (by repeat (first | (with_reducible first | exact HB.out | apply below_alloc | apply pw_below_drewN | apply below_drew1) | exact HB.out)))) : w.heap.size ≤ g7); have NBJB7 := Aside0.mk ((by rw [hg]; exact Nat.ne_of_lt (blk_lt (by (with_reducible repeat (first | refine blk_drewN ?_ _ | refine blk_drew ?_ | refine blk_alloc ?_ _)); exact BJ.out))) : gj ≠ g7); have NBXB7 := Aside0.mk ((by rw [hg]; exact Nat.ne_of_lt (blk_lt (by (with_reducible repeat (first | refine blk_drewN ?_ _ | refine blk_drew ?_ | refine blk_alloc ?_ _)); exact BX.out))) : gx ≠ g7); have NB4B7 := Aside0.mk ((by rw [hg]; exact Nat.ne_of_lt (blk_lt (by (with_reducible repeat (first | refine blk_drewN ?_ _ | refine blk_drew ?_ | refine blk_alloc ?_ _)); exact B4.out))) : g4 ≠ g7); have NBMB7 := Aside0.mk ((by rw [hg]; exact Nat.ne_of_lt (blk_lt (by (with_reducible repeat (first | refine blk_drewN ?_ _ | refine blk_drew ?_ | refine blk_alloc ?_ _)); exact BM.out))) : gm ≠ g7); have n_BJ := Aside0.mk (blk_below (by (with_reducible repeat (first | refine blk_drewN ?_ _ | refine blk_drew ?_ | refine blk_alloc ?_ _)); exact BJ.out) hb); have n_BX := Aside0.mk (blk_below (by (with_reducible repeat (first | refine blk_drewN ?_ _ | refine blk_drew ?_ | refine blk_alloc ?_ _)); exact BX.out) hb); have n_B4 := Aside0.mk (blk_below (by (with_reducible repeat (first | refine blk_drewN ?_ _ | refine blk_drew ?_ | refine blk_alloc ?_ _)); exact B4.out) hb); have n_BM := Aside0.mk (blk_below (by (with_reducible repeat (first | refine blk_drewN ?_ _ | refine blk_drew ?_ | refine blk_alloc ?_ _)); exact BM.out) hb); have n_HB := Aside0.mk (below_step (by repeat (first | (with_reducible first | exact HB.out | apply below_alloc | apply pw_below_drewN | apply below_drew1) | exact HB.out)) hb); clear HB BJ BX B4 BM; have HB := n_HB; have BJ := n_BJ; have BX := n_BX; have B4 := n_B4; have BM := n_BM; clear n_HB n_BJ n_BX n_B4 n_BM; clear hbox hg hb; have hx0 : w8.cell? ⟨gx, 0, none⟩ = some (.int .i64 1) := (blk_cell BX.out 0).trans rfl; have hx1 : w8.cell? ⟨gx, 1, none⟩ = some (.int .i64 (i : Int)) := (blk_cell BX.out 1).trans rfl)
    | ((with_reducible refine gate_ (.store 53 (.tmp 7) (.tmp 17)) rfl ?_); go_loud (refine wpList_storeR rfl rfl 53 (.tmp 7) (.tmp 17) rfl g7 (0) rfl (.agg #[.int .i64 p.1, .int .i64 p.2.1, .slice A p.2.2.length c]) rfl [.int .i64 p.1, .int .i64 p.2.1, .slice A p.2.2.length c] rfl #[.int .i64 0, .int .i64 0, .slice none 0 0] 53 B7.out size53 (by simp) (by simp [Value.oneCell']) #[.int .i64 p.1, .int .i64 p.2.1, .slice A p.2.2.length c] rfl ?_); intro w9 hs st; have n_BJ := Aside0.mk (Step.blk st (by (with_reducible repeat (first | refine blk_drewN ?_ _ | refine blk_drew ?_ | refine blk_alloc ?_ _)); exact BJ.out) (NBJB7.out)); have n_BX := Aside0.mk (Step.blk st (by (with_reducible repeat (first | refine blk_drewN ?_ _ | refine blk_drew ?_ | refine blk_alloc ?_ _)); exact BX.out) (NBXB7.out)); have n_B4 := Aside0.mk (Step.blk st (by (with_reducible repeat (first | refine blk_drewN ?_ _ | refine blk_drew ?_ | refine blk_alloc ?_ _)); exact B4.out) (NB4B7.out)); have n_BM := Aside0.mk (Step.blk st (by (with_reducible repeat (first | refine blk_drewN ?_ _ | refine blk_drew ?_ | refine blk_alloc ?_ _)); exact BM.out) (NBMB7.out)); have n_HB := Aside0.mk (Step.fresh st (by repeat (first | (with_reducible first | exact HB.out | apply below_alloc | apply pw_below_drewN | apply below_drew1) | exact HB.out)) GEB7.out); clear HB BJ BX B4 BM; have HB := n_HB; have BJ := n_BJ; have BX := n_BX; have B4 := n_B4; have BM := n_BM; clear n_HB n_BJ n_BX n_B4 n_BM; clear B7; have B7 := Aside0.mk hs; clear hs st; have hx0 : w9.cell? ⟨gx, 0, none⟩ = some (.int .i64 1) := (blk_cell BX.out 0).trans rfl; have hx1 : w9.cell? ⟨gx, 1, none⟩ = some (.int .i64 (i : Int)) := (blk_cell BX.out 1).trans rfl)
    | ((with_reducible refine gate_dst (N := 21) rfl ?_); go_loud (refine wpList_lookupF rfl 52 (.tmp 18) (.tmp 20) rfl gm rfl (.int .i64 1) (.func (.func 18) #[] #[]) rfl 3 50 Try.underlying52 (.int .i64) Try.underlying3 rfl #[{ key := .int .i64 1, val := .func (.func 18) #[] #[], born := 0 }, { key := .int .i64 2, val := .func (.func 19) #[] #[], born := 1 }, { key := .int .i64 3, val := .func (.func 20) #[] #[], born := 2 }] 3 BM.out 0 rfl ?_))
    | ((with_reducible refine gate_dst (N := 22) rfl ?_); go_loud (refine wpList_load_row rfl 32 (.tmp 3) rfl gx rfl 32 #[.int .i64 1, .int .i64 (i : Int), .int .i64 a2, .int .i64 a3, .int .i64 a4, .int .i64 a5, .int .i64 a6] (0, 0) _ BX.out Try.underlying32 rfl size32 ?_))
    | (go_at_call 18; go_loud (refine (does1.calls (⟨1, (i : Int), a2, a3, a4, a5, a6⟩ : S32) p A c g7 ok none w _ B7.out HC.out (by repeat (first | (with_reducible first | exact HB.out | apply below_alloc | apply pw_below_drewN | apply below_drew1) | exact HB.out)) GEB7.out HLE.out HL.out HR.out).mono ?_); intro e w10 hd; obtain rfl := hd.1; have LJ := Aside0.mk (blk_lt BJ.out); have L4 := Aside0.mk (blk_lt B4.out); have n_BJ := Aside0.mk (Step.blk hd.2.1 (by (with_reducible repeat (first | refine blk_drewN ?_ _ | refine blk_drew ?_ | refine blk_alloc ?_ _)); exact BJ.out) (NBJB7.out)); have n_BX := Aside0.mk (Step.blk hd.2.1 (by (with_reducible repeat (first | refine blk_drewN ?_ _ | refine blk_drew ?_ | refine blk_alloc ?_ _)); exact BX.out) (NBXB7.out)); have n_B4 := Aside0.mk (Step.blk hd.2.1 (by (with_reducible repeat (first | refine blk_drewN ?_ _ | refine blk_drew ?_ | refine blk_alloc ?_ _)); exact B4.out) (NB4B7.out)); have n_HB := Aside0.mk (Step.fresh hd.2.1 (by repeat (first | (with_reducible first | exact HB.out | apply below_alloc | apply pw_below_drewN | apply below_drew1) | exact HB.out)) GEB7.out); clear HB BJ BX B4; have HB := n_HB; have BJ := n_BJ; have BX := n_BX; have B4 := n_B4; clear n_HB n_BJ n_BX n_B4; obtain ⟨A', c', h1_, h2_, h3_⟩ := hd.2.2; clear B7; skip; clear LJ L4 h1_ h2_ h3_ hd; have hx0 : w10.cell? ⟨gx, 0, none⟩ = some (.int .i64 1) := (blk_cell BX.out 0).trans rfl; have hx1 : w10.cell? ⟨gx, 1, none⟩ = some (.int .i64 (i : Int)) := (blk_cell BX.out 1).trans rfl)
    | ((with_reducible refine gate_ (.store 27 (.tmp 4) (.tmp 25)) rfl ?_); go_loud (refine wpList_storeR rfl rfl 27 (.tmp 4) (.tmp 25) rfl g4 (0) rfl (.agg #[.int .i64 0, .int .i64 0, .slice none 0 0, .int .i64 0, .int .i64 0, .slice none 0 0, .int .i64 0, .int .i64 0, .slice none 0 0, .int .i64 0, .int .i64 0, .slice none 0 0]) rfl [.int .i64 0, .int .i64 0, .slice none 0 0, .int .i64 0, .int .i64 0, .slice none 0 0, .int .i64 0, .int .i64 0, .slice none 0 0, .int .i64 0, .int .i64 0, .slice none 0 0] rfl #[.int .i64 0, .int .i64 0, .slice none 0 0, .int .i64 0, .int .i64 0, .slice none 0 0, .int .i64 0, .int .i64 0, .slice none 0 0, .int .i64 0, .int .i64 0, .slice none 0 0] 27 B4.out size27 (by simp) (by simp [Value.oneCell']) #[.int .i64 0, .int .i64 0, .slice none 0 0, .int .i64 0, .int .i64 0, .slice none 0 0, .int .i64 0, .int .i64 0, .slice none 0 0, .int .i64 0, .int .i64 0, .slice none 0 0] rfl ?_); intro w12 hs st; have n_BJ := Aside0.mk (Step.blk st (by (with_reducible repeat (first | refine blk_drewN ?_ _ | refine blk_drew ?_ | refine blk_alloc ?_ _)); exact BJ.out) (NBJB4.out)); have n_BX := Aside0.mk (Step.blk st (by (with_reducible repeat (first | refine blk_drewN ?_ _ | refine blk_drew ?_ | refine blk_alloc ?_ _)); exact BX.out) (NBXB4.out)); have n_HB := Aside0.mk (Step.fresh st (by repeat (first | (with_reducible first | exact HB.out | apply below_alloc | apply pw_below_drewN | apply below_drew1) | exact HB.out)) GEB4.out); clear HB BJ BX; have HB := n_HB; have BJ := n_BJ; have BX := n_BX; clear n_HB n_BJ n_BX; clear B4; have B4 := Aside0.mk hs; clear hs st; have hx0 : w12.cell? ⟨gx, 0, none⟩ = some (.int .i64 1) := (blk_cell BX.out 0).trans rfl; have hx1 : w12.cell? ⟨gx, 1, none⟩ = some (.int .i64 (i : Int)) := (blk_cell BX.out 1).trans rfl))
  (try simp only [Exit.inBlock, Exit.then])
  refine bodyPost_ret (results_row_tmp rfl _ _ g4 27 #[.int .i64 0, .int .i64 0, .slice none 0 0, .int .i64 0, .int .i64 0, .slice none 0 0, .int .i64 0, .int .i64 0, .slice none 0 0, .int .i64 0, .int .i64 0, .slice none 0 0] (0, 0) _ (.int .i64 5) rfl rfl B4.out Try.underlying27 rfl size27) rfl ?_
  exact ⟨rfl, by repeat (first | (with_reducible first | exact HB.out | apply below_alloc | apply pw_below_drewN | apply below_drew1) | exact HB.out)⟩
set_option maxHeartbeats 8000000 in
set_option maxRecDepth 100000 in
theorem journal_Apply.do1 (J : List Log) (cs : List Value) (i : Nat) (a2 a3 a4 a5 a6 : Int) (ok : Nat → Prop) (q : Log) (w : World) (hJ : JVF w ok J cs) (hi : i < 4) (hM : journal_May.f 1 (i : Int) a2 a3 a4 a5 a6 = some true) (hl : (lg J i).2.2.length ≤ 100000) (hr : step1 (lg J i) (⟨1, (i : Int), a2, a3, a4, a5, a6⟩ : S32) = some q) :
    Calls Try.prog 7 #[.agg cs.toArray, .agg #[.int .i64 1, .int .i64 (i : Int), .int .i64 a2, .int .i64 a3, .int .i64 a4, .int .i64 a5, .int .i64 a6]] w fun e w' => ∃ cs', e = .returned (.tuple #[.agg (List.toArray cs'), .int .i64 0]) ∧ JVF w' (fun k => (ok k ∧ k < w.heap.size) ∨ w.heap.size ≤ k) (J.set i q) cs' ∧ Below w.heap.size w w' := by
  have HB := Aside0.mk (Below.refl w.heap.size w)
  have HM := Aside0.mk hM
  have HJ := Aside0.mk hJ
  have HI := Aside0.mk hi
  have HCL := Aside0.mk hJ.now.len.2
  have q0 : (0 : Int) ≤ (i : Int) := by omega
  have q1 : (i : Int) < 4 := by omega
  obtain ⟨A, c, h0, h1, h2, hle, hC⟩ := hJ.at_ i hi
  obtain ⟨p, hp⟩ : ∃ p, p = lg J i := ⟨_, rfl⟩
  rw [← hp] at hr hl h0 h1 h2 hle hC
  have HC := Aside0.mk hC
  have HR := Aside0.mk hr
  have HL := Aside0.mk hl
  have HLE := Aside0.mk hle
  have H0 := Aside0.mk h0
  have H1 := Aside0.mk h1
  have H2 := Aside0.mk h2
  clear hM hJ hi h0 h1 h2 hle hC hr hl hp
  have hu25 := Try.underlying25
  have hu32 := Try.underlying32
  have hu53 := Try.underlying53
  go_enter Try.func7, Try.ntmps7
  go_wp2_with (first
    | ((with_reducible refine gate_dst (N := 2) rfl ?_); refine box_event ?hg (N := 2) ?hd (cs := cs.toArray) (t := 27) ?hr ?_; (case hd => rfl); (case hg => rfl); (case hr => first | (go_simp; done) | (go_simp; rfl)); intro gj hg w1 hbox hb; have BJ := Aside0.mk hbox; have GEBJ := Aside0.mk ((by rw [hg]; exact (below_size (by repeat (first | (with_reducible first | exact HB.out | apply below_alloc | apply pw_below_drewN | apply below_drew1) | exact HB.out)))) : w.heap.size ≤ gj); have n_HB := Aside0.mk (below_step (by repeat (first | (with_reducible first | exact HB.out | apply below_alloc | apply pw_below_drewN | apply below_drew1) | exact HB.out)) hb); clear HB ; have HB := n_HB; clear n_HB ; clear hbox hg hb)
    | ((with_reducible refine gate_dst (N := 3) rfl ?_); refine box_event ?hg (N := 3) ?hd (cs := #[.int .i64 1, .int .i64 (i : Int), .int .i64 a2, .int .i64 a3, .int .i64 a4, .int .i64 a5, .int .i64 a6]) (t := 32) ?hr ?_; (case hd => rfl); (case hg => rfl); (case hr => first | (go_simp; done) | (go_simp; rfl)); intro gx hg w2 hbox hb; have BX := Aside0.mk hbox; have GEBX := Aside0.mk ((by rw [hg]; exact (below_size (by repeat (first | (with_reducible first | exact HB.out | apply below_alloc | apply pw_below_drewN | apply below_drew1) | exact HB.out)))) : w.heap.size ≤ gx); have NBJBX := Aside0.mk ((by rw [hg]; exact Nat.ne_of_lt (blk_lt (by (with_reducible repeat (first | refine blk_drewN ?_ _ | refine blk_drew ?_ | refine blk_alloc ?_ _)); exact BJ.out))) : gj ≠ gx); have n_BJ := Aside0.mk (blk_below (by (with_reducible repeat (first | refine blk_drewN ?_ _ | refine blk_drew ?_ | refine blk_alloc ?_ _)); exact BJ.out) hb); have n_HB := Aside0.mk (below_step (by repeat (first | (with_reducible first | exact HB.out | apply below_alloc | apply pw_below_drewN | apply below_drew1) | exact HB.out)) hb); clear HB BJ; have HB := n_HB; have BJ := n_BJ; clear n_HB n_BJ; clear hbox hg hb; have hx0 : w2.cell? ⟨gx, 0, none⟩ = some (.int .i64 1) := (blk_cell BX.out 0).trans rfl; have hx1 : w2.cell? ⟨gx, 1, none⟩ = some (.int .i64 (i : Int)) := (blk_cell BX.out 1).trans rfl)
    | ((with_reducible refine gate_dst (N := 4) rfl ?_); refine box_event ?hg (N := 4) ?hd (cs := #[.int .i64 0, .int .i64 0, .slice none 0 0, .int .i64 0, .int .i64 0, .slice none 0 0, .int .i64 0, .int .i64 0, .slice none 0 0, .int .i64 0, .int .i64 0, .slice none 0 0]) (t := 27) ?hr ?_; (case hd => rfl); (case hg => rfl); (case hr => first | (go_simp; done) | (go_simp; rfl)); intro g4 hg w3 hbox hb; have B4 := Aside0.mk hbox; have GEB4 := Aside0.mk ((by rw [hg]; exact (below_size (by repeat (first | (with_reducible first | exact HB.out | apply below_alloc | apply pw_below_drewN | apply below_drew1) | exact HB.out)))) : w.heap.size ≤ g4); have NBJB4 := Aside0.mk ((by rw [hg]; exact Nat.ne_of_lt (blk_lt (by (with_reducible repeat (first | refine blk_drewN ?_ _ | refine blk_drew ?_ | refine blk_alloc ?_ _)); exact BJ.out))) : gj ≠ g4); have NBXB4 := Aside0.mk ((by rw [hg]; exact Nat.ne_of_lt (blk_lt (by (with_reducible repeat (first | refine blk_drewN ?_ _ | refine blk_drew ?_ | refine blk_alloc ?_ _)); exact BX.out))) : gx ≠ g4); have n_BJ := Aside0.mk (blk_below (by (with_reducible repeat (first | refine blk_drewN ?_ _ | refine blk_drew ?_ | refine blk_alloc ?_ _)); exact BJ.out) hb); have n_BX := Aside0.mk (blk_below (by (with_reducible repeat (first | refine blk_drewN ?_ _ | refine blk_drew ?_ | refine blk_alloc ?_ _)); exact BX.out) hb); have n_HB := Aside0.mk (below_step (by repeat (first | (with_reducible first | exact HB.out | apply below_alloc | apply pw_below_drewN | apply below_drew1) | exact HB.out)) hb); clear HB BJ BX; have HB := n_HB; have BJ := n_BJ; have BX := n_BX; clear n_HB n_BJ n_BX; clear hbox hg hb; have hx0 : w3.cell? ⟨gx, 0, none⟩ = some (.int .i64 1) := (blk_cell BX.out 0).trans rfl; have hx1 : w3.cell? ⟨gx, 1, none⟩ = some (.int .i64 (i : Int)) := (blk_cell BX.out 1).trans rfl)
    | ((with_reducible refine gate_dst (N := 8) rfl ?_); go_loud (refine wpList_load_row rfl 32 (.tmp 3) rfl gx rfl 32 #[.int .i64 1, .int .i64 (i : Int), .int .i64 a2, .int .i64 a3, .int .i64 a4, .int .i64 a5, .int .i64 a6] (0, 0) _ BX.out Try.underlying32 rfl size32 ?_))
    | ((with_reducible refine gate_callee (f := 17) rfl ?_); refine goesL_ (some 9) rfl rfl Try.func17 (by kernel_rfl) rfl #[.agg #[.int .i64 1, .int .i64 (i : Int), .int .i64 a2, .int .i64 a3, .int .i64 a4, .int .i64 a5, .int .i64 a6]] rfl (by (try simp only [List.map_toArray, List.map_cons, List.map_nil]); first | done | rfl) ?_; go_loud (refine (journal_May.calls 1 (i : Int) a2 a3 a4 a5 a6 true _ HM.out).mono ?_); rintro e w5 ⟨rfl, hb⟩; refine ⟨_, rfl, ?_⟩; have n_BJ := Aside0.mk (blk_below (by (with_reducible repeat (first | refine blk_drewN ?_ _ | refine blk_drew ?_ | refine blk_alloc ?_ _)); exact BJ.out) hb); have n_BX := Aside0.mk (blk_below (by (with_reducible repeat (first | refine blk_drewN ?_ _ | refine blk_drew ?_ | refine blk_alloc ?_ _)); exact BX.out) hb); have n_B4 := Aside0.mk (blk_below (by (with_reducible repeat (first | refine blk_drewN ?_ _ | refine blk_drew ?_ | refine blk_alloc ?_ _)); exact B4.out) hb); have n_HB := Aside0.mk (below_step (by repeat (first | (with_reducible first | exact HB.out | apply below_alloc | apply pw_below_drewN | apply below_drew1) | exact HB.out)) hb); clear HB BJ BX B4; have HB := n_HB; have BJ := n_BJ; have BX := n_BX; have B4 := n_B4; clear n_HB n_BJ n_BX n_B4; clear hb; have hx0 : w5.cell? ⟨gx, 0, none⟩ = some (.int .i64 1) := (blk_cell BX.out 0).trans rfl; have hx1 : w5.cell? ⟨gx, 1, none⟩ = some (.int .i64 (i : Int)) := (blk_cell BX.out 1).trans rfl)
    | ((with_reducible refine gate_dst (N := 12) rfl ?_); go_loud (refine wpList_makeMapF rfl 52 rfl ?_); intro w6 gm hg hbm hb; have BM := Aside0.mk hbm; have GEM := Aside0.mk ((by rw [hg]; exact (below_size (by repeat (first | (with_reducible first | exact HB.out | apply below_alloc | apply pw_below_drewN | apply below_drew1) | exact HB.out)))) : w.heap.size ≤ gm); have NBJM := Aside0.mk ((by rw [hg]; exact Nat.ne_of_lt (blk_lt (by (with_reducible repeat (first | refine blk_drewN ?_ _ | refine blk_drew ?_ | refine blk_alloc ?_ _)); exact BJ.out))) : gj ≠ gm); have NBXM := Aside0.mk ((by rw [hg]; exact Nat.ne_of_lt (blk_lt (by (with_reducible repeat (first | refine blk_drewN ?_ _ | refine blk_drew ?_ | refine blk_alloc ?_ _)); exact BX.out))) : gx ≠ gm); have NB4M := Aside0.mk ((by rw [hg]; exact Nat.ne_of_lt (blk_lt (by (with_reducible repeat (first | refine blk_drewN ?_ _ | refine blk_drew ?_ | refine blk_alloc ?_ _)); exact B4.out))) : g4 ≠ gm); have n_BJ := Aside0.mk (blk_below (by (with_reducible repeat (first | refine blk_drewN ?_ _ | refine blk_drew ?_ | refine blk_alloc ?_ _)); exact BJ.out) hb); have n_BX := Aside0.mk (blk_below (by (with_reducible repeat (first | refine blk_drewN ?_ _ | refine blk_drew ?_ | refine blk_alloc ?_ _)); exact BX.out) hb); have n_B4 := Aside0.mk (blk_below (by (with_reducible repeat (first | refine blk_drewN ?_ _ | refine blk_drew ?_ | refine blk_alloc ?_ _)); exact B4.out) hb); have n_HB := Aside0.mk (below_step (by repeat (first | (with_reducible first | exact HB.out | apply below_alloc | apply pw_below_drewN | apply below_drew1) | exact HB.out)) hb); clear HB BJ BX B4; have HB := n_HB; have BJ := n_BJ; have BX := n_BX; have B4 := n_B4; clear n_HB n_BJ n_BX n_B4; clear hg hbm hb; have hx0 : w6.cell? ⟨gx, 0, none⟩ = some (.int .i64 1) := (blk_cell BX.out 0).trans rfl; have hx1 : w6.cell? ⟨gx, 1, none⟩ = some (.int .i64 (i : Int)) := (blk_cell BX.out 1).trans rfl)
    | ((with_reducible refine gate_ (.insert 52 (.tmp 12) (.const (.int .i64 1)) (.func 18)) rfl ?_); go_loud (refine wpList_insertF rfl rfl 52 (.tmp 12) (.const (.int .i64 1)) (.func 18) rfl gm rfl (.int .i64 1) (.func (.func 18) #[] #[]) rfl rfl 3 50 Try.underlying52 (.int .i64) Try.underlying3 rfl #[] 0 BM.out rfl ?_); intro w7 hs st; have n_BJ := Aside0.mk (Step.blk st (by (with_reducible repeat (first | refine blk_drewN ?_ _ | refine blk_drew ?_ | refine blk_alloc ?_ _)); exact BJ.out) (NBJM.out)); have n_BX := Aside0.mk (Step.blk st (by (with_reducible repeat (first | refine blk_drewN ?_ _ | refine blk_drew ?_ | refine blk_alloc ?_ _)); exact BX.out) (NBXM.out)); have n_B4 := Aside0.mk (Step.blk st (by (with_reducible repeat (first | refine blk_drewN ?_ _ | refine blk_drew ?_ | refine blk_alloc ?_ _)); exact B4.out) (NB4M.out)); have n_HB := Aside0.mk (Step.fresh st (by repeat (first | (with_reducible first | exact HB.out | apply below_alloc | apply pw_below_drewN | apply below_drew1) | exact HB.out)) GEM.out); clear HB BJ BX B4; have HB := n_HB; have BJ := n_BJ; have BX := n_BX; have B4 := n_B4; clear n_HB n_BJ n_BX n_B4; clear BM; have BM := Aside0.mk hs; clear hs st; have hx0 : w7.cell? ⟨gx, 0, none⟩ = some (.int .i64 1) := (blk_cell BX.out 0).trans rfl; have hx1 : w7.cell? ⟨gx, 1, none⟩ = some (.int .i64 (i : Int)) := (blk_cell BX.out 1).trans rfl)
    | ((with_reducible refine gate_ (.insert 52 (.tmp 12) (.const (.int .i64 2)) (.func 19)) rfl ?_); go_loud (refine wpList_insertF rfl rfl 52 (.tmp 12) (.const (.int .i64 2)) (.func 19) rfl gm rfl (.int .i64 2) (.func (.func 19) #[] #[]) rfl rfl 3 50 Try.underlying52 (.int .i64) Try.underlying3 rfl #[{ key := .int .i64 1, val := .func (.func 18) #[] #[], born := 0 }] 1 BM.out rfl ?_); intro w7 hs st; have n_BJ := Aside0.mk (Step.blk st (by (with_reducible repeat (first | refine blk_drewN ?_ _ | refine blk_drew ?_ | refine blk_alloc ?_ _)); exact BJ.out) (NBJM.out)); have n_BX := Aside0.mk (Step.blk st (by (with_reducible repeat (first | refine blk_drewN ?_ _ | refine blk_drew ?_ | refine blk_alloc ?_ _)); exact BX.out) (NBXM.out)); have n_B4 := Aside0.mk (Step.blk st (by (with_reducible repeat (first | refine blk_drewN ?_ _ | refine blk_drew ?_ | refine blk_alloc ?_ _)); exact B4.out) (NB4M.out)); have n_HB := Aside0.mk (Step.fresh st (by repeat (first | (with_reducible first | exact HB.out | apply below_alloc | apply pw_below_drewN | apply below_drew1) | exact HB.out)) GEM.out); clear HB BJ BX B4; have HB := n_HB; have BJ := n_BJ; have BX := n_BX; have B4 := n_B4; clear n_HB n_BJ n_BX n_B4; clear BM; have BM := Aside0.mk hs; clear hs st; have hx0 : w7.cell? ⟨gx, 0, none⟩ = some (.int .i64 1) := (blk_cell BX.out 0).trans rfl; have hx1 : w7.cell? ⟨gx, 1, none⟩ = some (.int .i64 (i : Int)) := (blk_cell BX.out 1).trans rfl)
    | ((with_reducible refine gate_ (.insert 52 (.tmp 12) (.const (.int .i64 3)) (.func 20)) rfl ?_); go_loud (refine wpList_insertF rfl rfl 52 (.tmp 12) (.const (.int .i64 3)) (.func 20) rfl gm rfl (.int .i64 3) (.func (.func 20) #[] #[]) rfl rfl 3 50 Try.underlying52 (.int .i64) Try.underlying3 rfl #[{ key := .int .i64 1, val := .func (.func 18) #[] #[], born := 0 }, { key := .int .i64 2, val := .func (.func 19) #[] #[], born := 1 }] 2 BM.out rfl ?_); intro w7 hs st; have n_BJ := Aside0.mk (Step.blk st (by (with_reducible repeat (first | refine blk_drewN ?_ _ | refine blk_drew ?_ | refine blk_alloc ?_ _)); exact BJ.out) (NBJM.out)); have n_BX := Aside0.mk (Step.blk st (by (with_reducible repeat (first | refine blk_drewN ?_ _ | refine blk_drew ?_ | refine blk_alloc ?_ _)); exact BX.out) (NBXM.out)); have n_B4 := Aside0.mk (Step.blk st (by (with_reducible repeat (first | refine blk_drewN ?_ _ | refine blk_drew ?_ | refine blk_alloc ?_ _)); exact B4.out) (NB4M.out)); have n_HB := Aside0.mk (Step.fresh st (by repeat (first | (with_reducible first | exact HB.out | apply below_alloc | apply pw_below_drewN | apply below_drew1) | exact HB.out)) GEM.out); clear HB BJ BX B4; have HB := n_HB; have BJ := n_BJ; have BX := n_BX; have B4 := n_B4; clear n_HB n_BJ n_BX n_B4; clear BM; have BM := Aside0.mk hs; clear hs st; have hx0 : w7.cell? ⟨gx, 0, none⟩ = some (.int .i64 1) := (blk_cell BX.out 0).trans rfl; have hx1 : w7.cell? ⟨gx, 1, none⟩ = some (.int .i64 (i : Int)) := (blk_cell BX.out 1).trans rfl)
    | ((with_reducible refine gate_dst (N := 17) rfl ?_); go_loud (refine wpList_load_mid rfl 25 (.tmp 16) rfl gj (i * 3) rfl [.int .i64 p.1, .int .i64 p.2.1, .slice A p.2.2.length c] _ (jrange BJ.out (by simpa using H0.out) (by simpa using H1.out) (by simpa using H2.out)) Try.underlying25 rfl size25 ?_))
    | ((with_reducible refine gate_dst (N := 7) rfl ?_); refine box_event ?hg (N := 7) ?hd (cs := #[.int .i64 0, .int .i64 0, .slice none 0 0]) (t := 53) ?hr ?_; (case hd => rfl); (case hg => rfl); (case hr => first | (go_simp; done) | (go_simp; rfl)); intro g7 hg w8 hbox hb; have B7 := Aside0.mk hbox; have GEB7 := Aside0.mk ((by rw [hg]; exact (below_size (by repeat (first | (with_reducible first | exact HB.out | apply below_alloc | apply pw_below_drewN | apply below_drew1) | exact HB.out)))) : w.heap.size ≤ g7); have NBJB7 := Aside0.mk ((by rw [hg]; exact Nat.ne_of_lt (blk_lt (by (with_reducible repeat (first | refine blk_drewN ?_ _ | refine blk_drew ?_ | refine blk_alloc ?_ _)); exact BJ.out))) : gj ≠ g7); have NBXB7 := Aside0.mk ((by rw [hg]; exact Nat.ne_of_lt (blk_lt (by (with_reducible repeat (first | refine blk_drewN ?_ _ | refine blk_drew ?_ | refine blk_alloc ?_ _)); exact BX.out))) : gx ≠ g7); have NB4B7 := Aside0.mk ((by rw [hg]; exact Nat.ne_of_lt (blk_lt (by (with_reducible repeat (first | refine blk_drewN ?_ _ | refine blk_drew ?_ | refine blk_alloc ?_ _)); exact B4.out))) : g4 ≠ g7); have NBMB7 := Aside0.mk ((by rw [hg]; exact Nat.ne_of_lt (blk_lt (by (with_reducible repeat (first | refine blk_drewN ?_ _ | refine blk_drew ?_ | refine blk_alloc ?_ _)); exact BM.out))) : gm ≠ g7); have n_BJ := Aside0.mk (blk_below (by (with_reducible repeat (first | refine blk_drewN ?_ _ | refine blk_drew ?_ | refine blk_alloc ?_ _)); exact BJ.out) hb); have n_BX := Aside0.mk (blk_below (by (with_reducible repeat (first | refine blk_drewN ?_ _ | refine blk_drew ?_ | refine blk_alloc ?_ _)); exact BX.out) hb); have n_B4 := Aside0.mk (blk_below (by (with_reducible repeat (first | refine blk_drewN ?_ _ | refine blk_drew ?_ | refine blk_alloc ?_ _)); exact B4.out) hb); have n_BM := Aside0.mk (blk_below (by (with_reducible repeat (first | refine blk_drewN ?_ _ | refine blk_drew ?_ | refine blk_alloc ?_ _)); exact BM.out) hb); have n_HB := Aside0.mk (below_step (by repeat (first | (with_reducible first | exact HB.out | apply below_alloc | apply pw_below_drewN | apply below_drew1) | exact HB.out)) hb); clear HB BJ BX B4 BM; have HB := n_HB; have BJ := n_BJ; have BX := n_BX; have B4 := n_B4; have BM := n_BM; clear n_HB n_BJ n_BX n_B4 n_BM; clear hbox hg hb; have hx0 : w8.cell? ⟨gx, 0, none⟩ = some (.int .i64 1) := (blk_cell BX.out 0).trans rfl; have hx1 : w8.cell? ⟨gx, 1, none⟩ = some (.int .i64 (i : Int)) := (blk_cell BX.out 1).trans rfl)
    | ((with_reducible refine gate_ (.store 53 (.tmp 7) (.tmp 17)) rfl ?_); go_loud (refine wpList_storeR rfl rfl 53 (.tmp 7) (.tmp 17) rfl g7 (0) rfl (.agg #[.int .i64 p.1, .int .i64 p.2.1, .slice A p.2.2.length c]) rfl [.int .i64 p.1, .int .i64 p.2.1, .slice A p.2.2.length c] rfl #[.int .i64 0, .int .i64 0, .slice none 0 0] 53 B7.out size53 (by simp) (by simp [Value.oneCell']) #[.int .i64 p.1, .int .i64 p.2.1, .slice A p.2.2.length c] rfl ?_); intro w9 hs st; have n_BJ := Aside0.mk (Step.blk st (by (with_reducible repeat (first | refine blk_drewN ?_ _ | refine blk_drew ?_ | refine blk_alloc ?_ _)); exact BJ.out) (NBJB7.out)); have n_BX := Aside0.mk (Step.blk st (by (with_reducible repeat (first | refine blk_drewN ?_ _ | refine blk_drew ?_ | refine blk_alloc ?_ _)); exact BX.out) (NBXB7.out)); have n_B4 := Aside0.mk (Step.blk st (by (with_reducible repeat (first | refine blk_drewN ?_ _ | refine blk_drew ?_ | refine blk_alloc ?_ _)); exact B4.out) (NB4B7.out)); have n_BM := Aside0.mk (Step.blk st (by (with_reducible repeat (first | refine blk_drewN ?_ _ | refine blk_drew ?_ | refine blk_alloc ?_ _)); exact BM.out) (NBMB7.out)); have n_HB := Aside0.mk (Step.fresh st (by repeat (first | (with_reducible first | exact HB.out | apply below_alloc | apply pw_below_drewN | apply below_drew1) | exact HB.out)) GEB7.out); clear HB BJ BX B4 BM; have HB := n_HB; have BJ := n_BJ; have BX := n_BX; have B4 := n_B4; have BM := n_BM; clear n_HB n_BJ n_BX n_B4 n_BM; clear B7; have B7 := Aside0.mk hs; clear hs st; have hx0 : w9.cell? ⟨gx, 0, none⟩ = some (.int .i64 1) := (blk_cell BX.out 0).trans rfl; have hx1 : w9.cell? ⟨gx, 1, none⟩ = some (.int .i64 (i : Int)) := (blk_cell BX.out 1).trans rfl)
    | ((with_reducible refine gate_dst (N := 21) rfl ?_); go_loud (refine wpList_lookupF rfl 52 (.tmp 18) (.tmp 20) rfl gm rfl (.int .i64 1) (.func (.func 18) #[] #[]) rfl 3 50 Try.underlying52 (.int .i64) Try.underlying3 rfl #[{ key := .int .i64 1, val := .func (.func 18) #[] #[], born := 0 }, { key := .int .i64 2, val := .func (.func 19) #[] #[], born := 1 }, { key := .int .i64 3, val := .func (.func 20) #[] #[], born := 2 }] 3 BM.out 0 rfl ?_))
    | ((with_reducible refine gate_dst (N := 22) rfl ?_); go_loud (refine wpList_load_row rfl 32 (.tmp 3) rfl gx rfl 32 #[.int .i64 1, .int .i64 (i : Int), .int .i64 a2, .int .i64 a3, .int .i64 a4, .int .i64 a5, .int .i64 a6] (0, 0) _ BX.out Try.underlying32 rfl size32 ?_))
    | (go_at_call 18; go_loud (refine (does1.calls (⟨1, (i : Int), a2, a3, a4, a5, a6⟩ : S32) p A c g7 ok (some q) w _ B7.out HC.out (by repeat (first | (with_reducible first | exact HB.out | apply below_alloc | apply pw_below_drewN | apply below_drew1) | exact HB.out)) GEB7.out HLE.out HL.out HR.out).mono ?_); intro e w10 hd; obtain rfl := hd.1; have LJ := Aside0.mk (blk_lt BJ.out); have L4 := Aside0.mk (blk_lt B4.out); have n_BJ := Aside0.mk (Step.blk hd.2.1 (by (with_reducible repeat (first | refine blk_drewN ?_ _ | refine blk_drew ?_ | refine blk_alloc ?_ _)); exact BJ.out) (NBJB7.out)); have n_BX := Aside0.mk (Step.blk hd.2.1 (by (with_reducible repeat (first | refine blk_drewN ?_ _ | refine blk_drew ?_ | refine blk_alloc ?_ _)); exact BX.out) (NBXB7.out)); have n_B4 := Aside0.mk (Step.blk hd.2.1 (by (with_reducible repeat (first | refine blk_drewN ?_ _ | refine blk_drew ?_ | refine blk_alloc ?_ _)); exact B4.out) (NB4B7.out)); have n_HB := Aside0.mk (Step.fresh hd.2.1 (by repeat (first | (with_reducible first | exact HB.out | apply below_alloc | apply pw_below_drewN | apply below_drew1) | exact HB.out)) GEB7.out); clear HB BJ BX B4; have HB := n_HB; have BJ := n_BJ; have BX := n_BX; have B4 := n_B4; clear n_HB n_BJ n_BX n_B4; obtain ⟨A', c', h1_, h2_, h3_⟩ := hd.2.2; clear B7; have B7 : Aside0 (w10.heap[g7]? = some (.cells #[.int .i64 q.1, .int .i64 q.2.1, .slice A' q.2.2.length c'] 53 (0, 0))) := Aside0.mk h1_; have HLE2 : Aside0 (q.2.2.length ≤ c') := Aside0.mk h2_; have HF : Aside0 (Kd.F k32 w10 (fun k => ((ok k ∧ k < w.heap.size) ∨ w.heap.size ≤ k) ∧ k ≠ gj ∧ k ≠ g4) A' q.2.2.length q.2.2) := Aside0.mk (Kd.F_mono h3_ (fun k hk => by have h_2 := LJ.out; have h_3 := L4.out; have h_4 := GEBJ.out; have h_5 := GEB4.out; exact ⟨hk.1.imp id (fun h_ => by omega), by rcases hk.1 with h_ | h_ <;> omega, by rcases hk.1 with h_ | h_ <;> omega⟩)); clear LJ L4 h1_ h2_ h3_ hd; have hx0 : w10.cell? ⟨gx, 0, none⟩ = some (.int .i64 1) := (blk_cell BX.out 0).trans rfl; have hx1 : w10.cell? ⟨gx, 1, none⟩ = some (.int .i64 (i : Int)) := (blk_cell BX.out 1).trans rfl)
    | ((with_reducible refine gate_dst (N := 28) rfl ?_); go_loud (refine wpList_load_row rfl 53 (.tmp 7) rfl g7 rfl 53 #[.int .i64 q.1, .int .i64 q.2.1, .slice A' q.2.2.length c'] (0, 0) _ B7.out Try.underlying53 rfl size53 ?_))
    | ((with_reducible refine gate_ (.store 25 (.tmp 29) (.tmp 28)) rfl ?_); go_loud (refine wpList_storeR rfl rfl 25 (.tmp 29) (.tmp 28) rfl gj (i * 3) rfl (.agg #[.int .i64 q.1, .int .i64 q.2.1, .slice A' q.2.2.length c']) rfl [.int .i64 q.1, .int .i64 q.2.1, .slice A' q.2.2.length c'] rfl cs.toArray 27 BJ.out size25 (by have h_ := HCL.out; have hi_ := HI.out; simp [h_]; omega) (by simp [Value.oneCell']) (setCs cs i [.int .i64 q.1, .int .i64 q.2.1, .slice A' q.2.2.length c']).toArray (by simp [setCs]) ?_); intro w11 hs st; have HF2 := Aside0.mk (Kd.F_keep HF.out st.1 (fun k hk => hk.2.1)); have n_BX := Aside0.mk (Step.blk st (by (with_reducible repeat (first | refine blk_drewN ?_ _ | refine blk_drew ?_ | refine blk_alloc ?_ _)); exact BX.out) (NBJBX.out.symm)); have n_B4 := Aside0.mk (Step.blk st (by (with_reducible repeat (first | refine blk_drewN ?_ _ | refine blk_drew ?_ | refine blk_alloc ?_ _)); exact B4.out) (NBJB4.out.symm)); have n_HB := Aside0.mk (Step.fresh st (by repeat (first | (with_reducible first | exact HB.out | apply below_alloc | apply pw_below_drewN | apply below_drew1) | exact HB.out)) GEBJ.out); clear HB BX B4; have HB := n_HB; have BX := n_BX; have B4 := n_B4; clear n_HB n_BX n_B4; clear BJ; have BJ := Aside0.mk hs; clear hs st; have hx0 : w11.cell? ⟨gx, 0, none⟩ = some (.int .i64 1) := (blk_cell BX.out 0).trans rfl; have hx1 : w11.cell? ⟨gx, 1, none⟩ = some (.int .i64 (i : Int)) := (blk_cell BX.out 1).trans rfl)
    | ((with_reducible refine gate_dst (N := 30) rfl ?_); have HJ2 := Aside0.mk (JV.set (HJ.out.now.below HB.out) HI.out HLE2.out (Kd.F_now HF2.out)); have hl12 := Aside0.mk (show (setCs cs i [.int .i64 q.1, .int .i64 q.2.1, .slice A' q.2.2.length c']).length = 12 from HJ2.out.len.2); (with_reducible refine gate_dst (N := 30) rfl ?_); go_loud (refine wpList_load_row rfl 27 (.tmp 2) rfl gj rfl 27 (setCs cs i [.int .i64 q.1, .int .i64 q.2.1, .slice A' q.2.2.length c']).toArray (0, 0) _ BJ.out Try.underlying27 rfl (by rw [size27, List.size_toArray, hl12.out]) ?_))
    | ((with_reducible refine gate_ (.store 27 (.tmp 4) (.tmp 30)) rfl ?_); go_loud (refine wpList_storeR rfl rfl 27 (.tmp 4) (.tmp 30) rfl g4 (0) rfl (.agg (setCs cs i [.int .i64 q.1, .int .i64 q.2.1, .slice A' q.2.2.length c']).toArray) rfl (setCs cs i [.int .i64 q.1, .int .i64 q.2.1, .slice A' q.2.2.length c']) rfl #[.int .i64 0, .int .i64 0, .slice none 0 0, .int .i64 0, .int .i64 0, .slice none 0 0, .int .i64 0, .int .i64 0, .slice none 0 0, .int .i64 0, .int .i64 0, .slice none 0 0] 27 B4.out (by rw [size27, hl12.out]) (by rw [hl12.out]; decide) (Kd.K_one _ HJ2.out) (setCs cs i [.int .i64 q.1, .int .i64 q.2.1, .slice A' q.2.2.length c']).toArray (by rw [hl12.out]; simp) ?_); intro w12 hs st; have HF3 := Aside0.mk (Kd.F_keep HF2.out st.1 (fun k hk => hk.2.2)); have n_BJ := Aside0.mk (Step.blk st (by (with_reducible repeat (first | refine blk_drewN ?_ _ | refine blk_drew ?_ | refine blk_alloc ?_ _)); exact BJ.out) (NBJB4.out)); have n_BX := Aside0.mk (Step.blk st (by (with_reducible repeat (first | refine blk_drewN ?_ _ | refine blk_drew ?_ | refine blk_alloc ?_ _)); exact BX.out) (NBXB4.out)); have n_HB := Aside0.mk (Step.fresh st (by repeat (first | (with_reducible first | exact HB.out | apply below_alloc | apply pw_below_drewN | apply below_drew1) | exact HB.out)) GEB4.out); clear HB BJ BX; have HB := n_HB; have BJ := n_BJ; have BX := n_BX; clear n_HB n_BJ n_BX; clear B4; have B4 := Aside0.mk hs; clear hs st; have hx0 : w12.cell? ⟨gx, 0, none⟩ = some (.int .i64 1) := (blk_cell BX.out 0).trans rfl; have hx1 : w12.cell? ⟨gx, 1, none⟩ = some (.int .i64 (i : Int)) := (blk_cell BX.out 1).trans rfl))
  (try simp only [Exit.inBlock, Exit.then])
  refine bodyPost_ret (results_row_tmp rfl _ _ g4 27 (setCs cs i [.int .i64 q.1, .int .i64 q.2.1, .slice A' q.2.2.length c']).toArray (0, 0) _ (.int .i64 0) rfl rfl B4.out Try.underlying27 rfl (by rw [size27, List.size_toArray, hl12.out])) rfl ?_
  exact ⟨_, rfl, JVF.set ((HJ.out.below HB.out).mono (fun k hk => .inl hk)) HI.out HLE2.out (Kd.F_mono HF3.out (fun k hk => hk.1)), by repeat (first | (with_reducible first | exact HB.out | apply below_alloc | apply pw_below_drewN | apply below_drew1) | exact HB.out)⟩
set_option maxHeartbeats 8000000 in
set_option maxRecDepth 100000 in
theorem journal_Apply.no2 (J : List Log) (cs : List Value) (i : Nat) (a2 a3 a4 a5 a6 : Int) (ok : Nat → Prop) (w : World) (hJ : JVF w ok J cs) (hi : i < 4) (hM : journal_May.f 2 (i : Int) a2 a3 a4 a5 a6 = some true) (hl : (lg J i).2.2.length ≤ 100000) (hr : step2 (lg J i) (⟨2, (i : Int), a2, a3, a4, a5, a6⟩ : S32) = none) :
    Calls Try.prog 7 #[.agg cs.toArray, .agg #[.int .i64 2, .int .i64 (i : Int), .int .i64 a2, .int .i64 a3, .int .i64 a4, .int .i64 a5, .int .i64 a6]] w fun e w' => e = .returned (.tuple #[.agg #[.int .i64 0, .int .i64 0, .slice none 0 0, .int .i64 0, .int .i64 0, .slice none 0 0, .int .i64 0, .int .i64 0, .slice none 0 0, .int .i64 0, .int .i64 0, .slice none 0 0], .int .i64 5]) ∧ Below w.heap.size w w' := by
  have HB := Aside0.mk (Below.refl w.heap.size w)
  have HM := Aside0.mk hM
  have HJ := Aside0.mk hJ
  have HI := Aside0.mk hi
  have HCL := Aside0.mk hJ.now.len.2
  have q0 : (0 : Int) ≤ (i : Int) := by omega
  have q1 : (i : Int) < 4 := by omega
  obtain ⟨A, c, h0, h1, h2, hle, hC⟩ := hJ.at_ i hi
  obtain ⟨p, hp⟩ : ∃ p, p = lg J i := ⟨_, rfl⟩
  rw [← hp] at hr hl h0 h1 h2 hle hC
  have HC := Aside0.mk hC
  have HR := Aside0.mk hr
  have HL := Aside0.mk hl
  have HLE := Aside0.mk hle
  have H0 := Aside0.mk h0
  have H1 := Aside0.mk h1
  have H2 := Aside0.mk h2
  clear hM hJ hi h0 h1 h2 hle hC hr hl hp
  have hu25 := Try.underlying25
  have hu32 := Try.underlying32
  have hu53 := Try.underlying53
  go_enter Try.func7, Try.ntmps7
  go_wp2_with (first
    | ((with_reducible refine gate_dst (N := 2) rfl ?_); refine box_event ?hg (N := 2) ?hd (cs := cs.toArray) (t := 27) ?hr ?_; (case hd => rfl); (case hg => rfl); (case hr => first | (go_simp; done) | (go_simp; rfl)); intro gj hg w1 hbox hb; have BJ := Aside0.mk hbox; have GEBJ := Aside0.mk ((by rw [hg]; exact (below_size (by repeat (first | (with_reducible first | exact HB.out | apply below_alloc | apply pw_below_drewN | apply below_drew1) | exact HB.out)))) : w.heap.size ≤ gj); have n_HB := Aside0.mk (below_step (by repeat (first | (with_reducible first | exact HB.out | apply below_alloc | apply pw_below_drewN | apply below_drew1) | exact HB.out)) hb); clear HB ; have HB := n_HB; clear n_HB ; clear hbox hg hb)
    | ((with_reducible refine gate_dst (N := 3) rfl ?_); refine box_event ?hg (N := 3) ?hd (cs := #[.int .i64 2, .int .i64 (i : Int), .int .i64 a2, .int .i64 a3, .int .i64 a4, .int .i64 a5, .int .i64 a6]) (t := 32) ?hr ?_; (case hd => rfl); (case hg => rfl); (case hr => first | (go_simp; done) | (go_simp; rfl)); intro gx hg w2 hbox hb; have BX := Aside0.mk hbox; have GEBX := Aside0.mk ((by rw [hg]; exact (below_size (by repeat (first | (with_reducible first | exact HB.out | apply below_alloc | apply pw_below_drewN | apply below_drew1) | exact HB.out)))) : w.heap.size ≤ gx); have NBJBX := Aside0.mk ((by rw [hg]; exact Nat.ne_of_lt (blk_lt (by (with_reducible repeat (first | refine blk_drewN ?_ _ | refine blk_drew ?_ | refine blk_alloc ?_ _)); exact BJ.out))) : gj ≠ gx); have n_BJ := Aside0.mk (blk_below (by (with_reducible repeat (first | refine blk_drewN ?_ _ | refine blk_drew ?_ | refine blk_alloc ?_ _)); exact BJ.out) hb); have n_HB := Aside0.mk (below_step (by repeat (first | (with_reducible first | exact HB.out | apply below_alloc | apply pw_below_drewN | apply below_drew1) | exact HB.out)) hb); clear HB BJ; have HB := n_HB; have BJ := n_BJ; clear n_HB n_BJ; clear hbox hg hb; have hx0 : w2.cell? ⟨gx, 0, none⟩ = some (.int .i64 2) := (blk_cell BX.out 0).trans rfl; have hx1 : w2.cell? ⟨gx, 1, none⟩ = some (.int .i64 (i : Int)) := (blk_cell BX.out 1).trans rfl)
    | ((with_reducible refine gate_dst (N := 4) rfl ?_); refine box_event ?hg (N := 4) ?hd (cs := #[.int .i64 0, .int .i64 0, .slice none 0 0, .int .i64 0, .int .i64 0, .slice none 0 0, .int .i64 0, .int .i64 0, .slice none 0 0, .int .i64 0, .int .i64 0, .slice none 0 0]) (t := 27) ?hr ?_; (case hd => rfl); (case hg => rfl); (case hr => first | (go_simp; done) | (go_simp; rfl)); intro g4 hg w3 hbox hb; have B4 := Aside0.mk hbox; have GEB4 := Aside0.mk ((by rw [hg]; exact (below_size (by repeat (first | (with_reducible first | exact HB.out | apply below_alloc | apply pw_below_drewN | apply below_drew1) | exact HB.out)))) : w.heap.size ≤ g4); have NBJB4 := Aside0.mk ((by rw [hg]; exact Nat.ne_of_lt (blk_lt (by (with_reducible repeat (first | refine blk_drewN ?_ _ | refine blk_drew ?_ | refine blk_alloc ?_ _)); exact BJ.out))) : gj ≠ g4); have NBXB4 := Aside0.mk ((by rw [hg]; exact Nat.ne_of_lt (blk_lt (by (with_reducible repeat (first | refine blk_drewN ?_ _ | refine blk_drew ?_ | refine blk_alloc ?_ _)); exact BX.out))) : gx ≠ g4); have n_BJ := Aside0.mk (blk_below (by (with_reducible repeat (first | refine blk_drewN ?_ _ | refine blk_drew ?_ | refine blk_alloc ?_ _)); exact BJ.out) hb); have n_BX := Aside0.mk (blk_below (by (with_reducible repeat (first | refine blk_drewN ?_ _ | refine blk_drew ?_ | refine blk_alloc ?_ _)); exact BX.out) hb); have n_HB := Aside0.mk (below_step (by repeat (first | (with_reducible first | exact HB.out | apply below_alloc | apply pw_below_drewN | apply below_drew1) | exact HB.out)) hb); clear HB BJ BX; have HB := n_HB; have BJ := n_BJ; have BX := n_BX; clear n_HB n_BJ n_BX; clear hbox hg hb; have hx0 : w3.cell? ⟨gx, 0, none⟩ = some (.int .i64 2) := (blk_cell BX.out 0).trans rfl; have hx1 : w3.cell? ⟨gx, 1, none⟩ = some (.int .i64 (i : Int)) := (blk_cell BX.out 1).trans rfl)
    | ((with_reducible refine gate_dst (N := 8) rfl ?_); go_loud (refine wpList_load_row rfl 32 (.tmp 3) rfl gx rfl 32 #[.int .i64 2, .int .i64 (i : Int), .int .i64 a2, .int .i64 a3, .int .i64 a4, .int .i64 a5, .int .i64 a6] (0, 0) _ BX.out Try.underlying32 rfl size32 ?_))
    | ((with_reducible refine gate_callee (f := 17) rfl ?_); refine goesL_ (some 9) rfl rfl Try.func17 (by kernel_rfl) rfl #[.agg #[.int .i64 2, .int .i64 (i : Int), .int .i64 a2, .int .i64 a3, .int .i64 a4, .int .i64 a5, .int .i64 a6]] rfl (by (try simp only [List.map_toArray, List.map_cons, List.map_nil]); first | done | rfl) ?_; go_loud (refine (journal_May.calls 2 (i : Int) a2 a3 a4 a5 a6 true _ HM.out).mono ?_); rintro e w5 ⟨rfl, hb⟩; refine ⟨_, rfl, ?_⟩; have n_BJ := Aside0.mk (blk_below (by (with_reducible repeat (first | refine blk_drewN ?_ _ | refine blk_drew ?_ | refine blk_alloc ?_ _)); exact BJ.out) hb); have n_BX := Aside0.mk (blk_below (by (with_reducible repeat (first | refine blk_drewN ?_ _ | refine blk_drew ?_ | refine blk_alloc ?_ _)); exact BX.out) hb); have n_B4 := Aside0.mk (blk_below (by (with_reducible repeat (first | refine blk_drewN ?_ _ | refine blk_drew ?_ | refine blk_alloc ?_ _)); exact B4.out) hb); have n_HB := Aside0.mk (below_step (by repeat (first | (with_reducible first | exact HB.out | apply below_alloc | apply pw_below_drewN | apply below_drew1) | exact HB.out)) hb); clear HB BJ BX B4; have HB := n_HB; have BJ := n_BJ; have BX := n_BX; have B4 := n_B4; clear n_HB n_BJ n_BX n_B4; clear hb; have hx0 : w5.cell? ⟨gx, 0, none⟩ = some (.int .i64 2) := (blk_cell BX.out 0).trans rfl; have hx1 : w5.cell? ⟨gx, 1, none⟩ = some (.int .i64 (i : Int)) := (blk_cell BX.out 1).trans rfl)
    | ((with_reducible refine gate_dst (N := 12) rfl ?_); go_loud (refine wpList_makeMapF rfl 52 rfl ?_); intro w6 gm hg hbm hb; have BM := Aside0.mk hbm; have GEM := Aside0.mk ((by rw [hg]; exact (below_size (by repeat (first | (with_reducible first | exact HB.out | apply below_alloc | apply pw_below_drewN | apply below_drew1) | exact HB.out)))) : w.heap.size ≤ gm); have NBJM := Aside0.mk ((by rw [hg]; exact Nat.ne_of_lt (blk_lt (by (with_reducible repeat (first | refine blk_drewN ?_ _ | refine blk_drew ?_ | refine blk_alloc ?_ _)); exact BJ.out))) : gj ≠ gm); have NBXM := Aside0.mk ((by rw [hg]; exact Nat.ne_of_lt (blk_lt (by (with_reducible repeat (first | refine blk_drewN ?_ _ | refine blk_drew ?_ | refine blk_alloc ?_ _)); exact BX.out))) : gx ≠ gm); have NB4M := Aside0.mk ((by rw [hg]; exact Nat.ne_of_lt (blk_lt (by (with_reducible repeat (first | refine blk_drewN ?_ _ | refine blk_drew ?_ | refine blk_alloc ?_ _)); exact B4.out))) : g4 ≠ gm); have n_BJ := Aside0.mk (blk_below (by (with_reducible repeat (first | refine blk_drewN ?_ _ | refine blk_drew ?_ | refine blk_alloc ?_ _)); exact BJ.out) hb); have n_BX := Aside0.mk (blk_below (by (with_reducible repeat (first | refine blk_drewN ?_ _ | refine blk_drew ?_ | refine blk_alloc ?_ _)); exact BX.out) hb); have n_B4 := Aside0.mk (blk_below (by (with_reducible repeat (first | refine blk_drewN ?_ _ | refine blk_drew ?_ | refine blk_alloc ?_ _)); exact B4.out) hb); have n_HB := Aside0.mk (below_step (by repeat (first | (with_reducible first | exact HB.out | apply below_alloc | apply pw_below_drewN | apply below_drew1) | exact HB.out)) hb); clear HB BJ BX B4; have HB := n_HB; have BJ := n_BJ; have BX := n_BX; have B4 := n_B4; clear n_HB n_BJ n_BX n_B4; clear hg hbm hb; have hx0 : w6.cell? ⟨gx, 0, none⟩ = some (.int .i64 2) := (blk_cell BX.out 0).trans rfl; have hx1 : w6.cell? ⟨gx, 1, none⟩ = some (.int .i64 (i : Int)) := (blk_cell BX.out 1).trans rfl)
    | ((with_reducible refine gate_ (.insert 52 (.tmp 12) (.const (.int .i64 1)) (.func 18)) rfl ?_); go_loud (refine wpList_insertF rfl rfl 52 (.tmp 12) (.const (.int .i64 1)) (.func 18) rfl gm rfl (.int .i64 1) (.func (.func 18) #[] #[]) rfl rfl 3 50 Try.underlying52 (.int .i64) Try.underlying3 rfl #[] 0 BM.out rfl ?_); intro w7 hs st; have n_BJ := Aside0.mk (Step.blk st (by (with_reducible repeat (first | refine blk_drewN ?_ _ | refine blk_drew ?_ | refine blk_alloc ?_ _)); exact BJ.out) (NBJM.out)); have n_BX := Aside0.mk (Step.blk st (by (with_reducible repeat (first | refine blk_drewN ?_ _ | refine blk_drew ?_ | refine blk_alloc ?_ _)); exact BX.out) (NBXM.out)); have n_B4 := Aside0.mk (Step.blk st (by (with_reducible repeat (first | refine blk_drewN ?_ _ | refine blk_drew ?_ | refine blk_alloc ?_ _)); exact B4.out) (NB4M.out)); have n_HB := Aside0.mk (Step.fresh st (by repeat (first | (with_reducible first | exact HB.out | apply below_alloc | apply pw_below_drewN | apply below_drew1) | exact HB.out)) GEM.out); clear HB BJ BX B4; have HB := n_HB; have BJ := n_BJ; have BX := n_BX; have B4 := n_B4; clear n_HB n_BJ n_BX n_B4; clear BM; have BM := Aside0.mk hs; clear hs st; have hx0 : w7.cell? ⟨gx, 0, none⟩ = some (.int .i64 2) := (blk_cell BX.out 0).trans rfl; have hx1 : w7.cell? ⟨gx, 1, none⟩ = some (.int .i64 (i : Int)) := (blk_cell BX.out 1).trans rfl)
    | ((with_reducible refine gate_ (.insert 52 (.tmp 12) (.const (.int .i64 2)) (.func 19)) rfl ?_); go_loud (refine wpList_insertF rfl rfl 52 (.tmp 12) (.const (.int .i64 2)) (.func 19) rfl gm rfl (.int .i64 2) (.func (.func 19) #[] #[]) rfl rfl 3 50 Try.underlying52 (.int .i64) Try.underlying3 rfl #[{ key := .int .i64 1, val := .func (.func 18) #[] #[], born := 0 }] 1 BM.out rfl ?_); intro w7 hs st; have n_BJ := Aside0.mk (Step.blk st (by (with_reducible repeat (first | refine blk_drewN ?_ _ | refine blk_drew ?_ | refine blk_alloc ?_ _)); exact BJ.out) (NBJM.out)); have n_BX := Aside0.mk (Step.blk st (by (with_reducible repeat (first | refine blk_drewN ?_ _ | refine blk_drew ?_ | refine blk_alloc ?_ _)); exact BX.out) (NBXM.out)); have n_B4 := Aside0.mk (Step.blk st (by (with_reducible repeat (first | refine blk_drewN ?_ _ | refine blk_drew ?_ | refine blk_alloc ?_ _)); exact B4.out) (NB4M.out)); have n_HB := Aside0.mk (Step.fresh st (by repeat (first | (with_reducible first | exact HB.out | apply below_alloc | apply pw_below_drewN | apply below_drew1) | exact HB.out)) GEM.out); clear HB BJ BX B4; have HB := n_HB; have BJ := n_BJ; have BX := n_BX; have B4 := n_B4; clear n_HB n_BJ n_BX n_B4; clear BM; have BM := Aside0.mk hs; clear hs st; have hx0 : w7.cell? ⟨gx, 0, none⟩ = some (.int .i64 2) := (blk_cell BX.out 0).trans rfl; have hx1 : w7.cell? ⟨gx, 1, none⟩ = some (.int .i64 (i : Int)) := (blk_cell BX.out 1).trans rfl)
    | ((with_reducible refine gate_ (.insert 52 (.tmp 12) (.const (.int .i64 3)) (.func 20)) rfl ?_); go_loud (refine wpList_insertF rfl rfl 52 (.tmp 12) (.const (.int .i64 3)) (.func 20) rfl gm rfl (.int .i64 3) (.func (.func 20) #[] #[]) rfl rfl 3 50 Try.underlying52 (.int .i64) Try.underlying3 rfl #[{ key := .int .i64 1, val := .func (.func 18) #[] #[], born := 0 }, { key := .int .i64 2, val := .func (.func 19) #[] #[], born := 1 }] 2 BM.out rfl ?_); intro w7 hs st; have n_BJ := Aside0.mk (Step.blk st (by (with_reducible repeat (first | refine blk_drewN ?_ _ | refine blk_drew ?_ | refine blk_alloc ?_ _)); exact BJ.out) (NBJM.out)); have n_BX := Aside0.mk (Step.blk st (by (with_reducible repeat (first | refine blk_drewN ?_ _ | refine blk_drew ?_ | refine blk_alloc ?_ _)); exact BX.out) (NBXM.out)); have n_B4 := Aside0.mk (Step.blk st (by (with_reducible repeat (first | refine blk_drewN ?_ _ | refine blk_drew ?_ | refine blk_alloc ?_ _)); exact B4.out) (NB4M.out)); have n_HB := Aside0.mk (Step.fresh st (by repeat (first | (with_reducible first | exact HB.out | apply below_alloc | apply pw_below_drewN | apply below_drew1) | exact HB.out)) GEM.out); clear HB BJ BX B4; have HB := n_HB; have BJ := n_BJ; have BX := n_BX; have B4 := n_B4; clear n_HB n_BJ n_BX n_B4; clear BM; have BM := Aside0.mk hs; clear hs st; have hx0 : w7.cell? ⟨gx, 0, none⟩ = some (.int .i64 2) := (blk_cell BX.out 0).trans rfl; have hx1 : w7.cell? ⟨gx, 1, none⟩ = some (.int .i64 (i : Int)) := (blk_cell BX.out 1).trans rfl)
    | ((with_reducible refine gate_dst (N := 17) rfl ?_); go_loud (refine wpList_load_mid rfl 25 (.tmp 16) rfl gj (i * 3) rfl [.int .i64 p.1, .int .i64 p.2.1, .slice A p.2.2.length c] _ (jrange BJ.out (by simpa using H0.out) (by simpa using H1.out) (by simpa using H2.out)) Try.underlying25 rfl size25 ?_))
    | ((with_reducible refine gate_dst (N := 7) rfl ?_); refine box_event ?hg (N := 7) ?hd (cs := #[.int .i64 0, .int .i64 0, .slice none 0 0]) (t := 53) ?hr ?_; (case hd => rfl); (case hg => rfl); (case hr => first | (go_simp; done) | (go_simp; rfl)); intro g7 hg w8 hbox hb; have B7 := Aside0.mk hbox; have GEB7 := Aside0.mk ((by rw [hg]; exact (below_size (by repeat (first | (with_reducible first | exact HB.out | apply below_alloc | apply pw_below_drewN | apply below_drew1) | exact HB.out)))) : w.heap.size ≤ g7); have NBJB7 := Aside0.mk ((by rw [hg]; exact Nat.ne_of_lt (blk_lt (by (with_reducible repeat (first | refine blk_drewN ?_ _ | refine blk_drew ?_ | refine blk_alloc ?_ _)); exact BJ.out))) : gj ≠ g7); have NBXB7 := Aside0.mk ((by rw [hg]; exact Nat.ne_of_lt (blk_lt (by (with_reducible repeat (first | refine blk_drewN ?_ _ | refine blk_drew ?_ | refine blk_alloc ?_ _)); exact BX.out))) : gx ≠ g7); have NB4B7 := Aside0.mk ((by rw [hg]; exact Nat.ne_of_lt (blk_lt (by (with_reducible repeat (first | refine blk_drewN ?_ _ | refine blk_drew ?_ | refine blk_alloc ?_ _)); exact B4.out))) : g4 ≠ g7); have NBMB7 := Aside0.mk ((by rw [hg]; exact Nat.ne_of_lt (blk_lt (by (with_reducible repeat (first | refine blk_drewN ?_ _ | refine blk_drew ?_ | refine blk_alloc ?_ _)); exact BM.out))) : gm ≠ g7); have n_BJ := Aside0.mk (blk_below (by (with_reducible repeat (first | refine blk_drewN ?_ _ | refine blk_drew ?_ | refine blk_alloc ?_ _)); exact BJ.out) hb); have n_BX := Aside0.mk (blk_below (by (with_reducible repeat (first | refine blk_drewN ?_ _ | refine blk_drew ?_ | refine blk_alloc ?_ _)); exact BX.out) hb); have n_B4 := Aside0.mk (blk_below (by (with_reducible repeat (first | refine blk_drewN ?_ _ | refine blk_drew ?_ | refine blk_alloc ?_ _)); exact B4.out) hb); have n_BM := Aside0.mk (blk_below (by (with_reducible repeat (first | refine blk_drewN ?_ _ | refine blk_drew ?_ | refine blk_alloc ?_ _)); exact BM.out) hb); have n_HB := Aside0.mk (below_step (by repeat (first | (with_reducible first | exact HB.out | apply below_alloc | apply pw_below_drewN | apply below_drew1) | exact HB.out)) hb); clear HB BJ BX B4 BM; have HB := n_HB; have BJ := n_BJ; have BX := n_BX; have B4 := n_B4; have BM := n_BM; clear n_HB n_BJ n_BX n_B4 n_BM; clear hbox hg hb; have hx0 : w8.cell? ⟨gx, 0, none⟩ = some (.int .i64 2) := (blk_cell BX.out 0).trans rfl; have hx1 : w8.cell? ⟨gx, 1, none⟩ = some (.int .i64 (i : Int)) := (blk_cell BX.out 1).trans rfl)
    | ((with_reducible refine gate_ (.store 53 (.tmp 7) (.tmp 17)) rfl ?_); go_loud (refine wpList_storeR rfl rfl 53 (.tmp 7) (.tmp 17) rfl g7 (0) rfl (.agg #[.int .i64 p.1, .int .i64 p.2.1, .slice A p.2.2.length c]) rfl [.int .i64 p.1, .int .i64 p.2.1, .slice A p.2.2.length c] rfl #[.int .i64 0, .int .i64 0, .slice none 0 0] 53 B7.out size53 (by simp) (by simp [Value.oneCell']) #[.int .i64 p.1, .int .i64 p.2.1, .slice A p.2.2.length c] rfl ?_); intro w9 hs st; have n_BJ := Aside0.mk (Step.blk st (by (with_reducible repeat (first | refine blk_drewN ?_ _ | refine blk_drew ?_ | refine blk_alloc ?_ _)); exact BJ.out) (NBJB7.out)); have n_BX := Aside0.mk (Step.blk st (by (with_reducible repeat (first | refine blk_drewN ?_ _ | refine blk_drew ?_ | refine blk_alloc ?_ _)); exact BX.out) (NBXB7.out)); have n_B4 := Aside0.mk (Step.blk st (by (with_reducible repeat (first | refine blk_drewN ?_ _ | refine blk_drew ?_ | refine blk_alloc ?_ _)); exact B4.out) (NB4B7.out)); have n_BM := Aside0.mk (Step.blk st (by (with_reducible repeat (first | refine blk_drewN ?_ _ | refine blk_drew ?_ | refine blk_alloc ?_ _)); exact BM.out) (NBMB7.out)); have n_HB := Aside0.mk (Step.fresh st (by repeat (first | (with_reducible first | exact HB.out | apply below_alloc | apply pw_below_drewN | apply below_drew1) | exact HB.out)) GEB7.out); clear HB BJ BX B4 BM; have HB := n_HB; have BJ := n_BJ; have BX := n_BX; have B4 := n_B4; have BM := n_BM; clear n_HB n_BJ n_BX n_B4 n_BM; clear B7; have B7 := Aside0.mk hs; clear hs st; have hx0 : w9.cell? ⟨gx, 0, none⟩ = some (.int .i64 2) := (blk_cell BX.out 0).trans rfl; have hx1 : w9.cell? ⟨gx, 1, none⟩ = some (.int .i64 (i : Int)) := (blk_cell BX.out 1).trans rfl)
    | ((with_reducible refine gate_dst (N := 21) rfl ?_); go_loud (refine wpList_lookupF rfl 52 (.tmp 18) (.tmp 20) rfl gm rfl (.int .i64 2) (.func (.func 19) #[] #[]) rfl 3 50 Try.underlying52 (.int .i64) Try.underlying3 rfl #[{ key := .int .i64 1, val := .func (.func 18) #[] #[], born := 0 }, { key := .int .i64 2, val := .func (.func 19) #[] #[], born := 1 }, { key := .int .i64 3, val := .func (.func 20) #[] #[], born := 2 }] 3 BM.out 1 rfl ?_))
    | ((with_reducible refine gate_dst (N := 22) rfl ?_); go_loud (refine wpList_load_row rfl 32 (.tmp 3) rfl gx rfl 32 #[.int .i64 2, .int .i64 (i : Int), .int .i64 a2, .int .i64 a3, .int .i64 a4, .int .i64 a5, .int .i64 a6] (0, 0) _ BX.out Try.underlying32 rfl size32 ?_))
    | (go_at_call 19; go_loud (refine (does2.calls (⟨2, (i : Int), a2, a3, a4, a5, a6⟩ : S32) p A c g7 ok none w _ B7.out HC.out (by repeat (first | (with_reducible first | exact HB.out | apply below_alloc | apply pw_below_drewN | apply below_drew1) | exact HB.out)) GEB7.out HLE.out HL.out HR.out).mono ?_); intro e w10 hd; obtain rfl := hd.1; have LJ := Aside0.mk (blk_lt BJ.out); have L4 := Aside0.mk (blk_lt B4.out); have n_BJ := Aside0.mk (Step.blk hd.2.1 (by (with_reducible repeat (first | refine blk_drewN ?_ _ | refine blk_drew ?_ | refine blk_alloc ?_ _)); exact BJ.out) (NBJB7.out)); have n_BX := Aside0.mk (Step.blk hd.2.1 (by (with_reducible repeat (first | refine blk_drewN ?_ _ | refine blk_drew ?_ | refine blk_alloc ?_ _)); exact BX.out) (NBXB7.out)); have n_B4 := Aside0.mk (Step.blk hd.2.1 (by (with_reducible repeat (first | refine blk_drewN ?_ _ | refine blk_drew ?_ | refine blk_alloc ?_ _)); exact B4.out) (NB4B7.out)); have n_HB := Aside0.mk (Step.fresh hd.2.1 (by repeat (first | (with_reducible first | exact HB.out | apply below_alloc | apply pw_below_drewN | apply below_drew1) | exact HB.out)) GEB7.out); clear HB BJ BX B4; have HB := n_HB; have BJ := n_BJ; have BX := n_BX; have B4 := n_B4; clear n_HB n_BJ n_BX n_B4; obtain ⟨A', c', h1_, h2_, h3_⟩ := hd.2.2; clear B7; skip; clear LJ L4 h1_ h2_ h3_ hd; have hx0 : w10.cell? ⟨gx, 0, none⟩ = some (.int .i64 2) := (blk_cell BX.out 0).trans rfl; have hx1 : w10.cell? ⟨gx, 1, none⟩ = some (.int .i64 (i : Int)) := (blk_cell BX.out 1).trans rfl)
    | ((with_reducible refine gate_ (.store 27 (.tmp 4) (.tmp 25)) rfl ?_); go_loud (refine wpList_storeR rfl rfl 27 (.tmp 4) (.tmp 25) rfl g4 (0) rfl (.agg #[.int .i64 0, .int .i64 0, .slice none 0 0, .int .i64 0, .int .i64 0, .slice none 0 0, .int .i64 0, .int .i64 0, .slice none 0 0, .int .i64 0, .int .i64 0, .slice none 0 0]) rfl [.int .i64 0, .int .i64 0, .slice none 0 0, .int .i64 0, .int .i64 0, .slice none 0 0, .int .i64 0, .int .i64 0, .slice none 0 0, .int .i64 0, .int .i64 0, .slice none 0 0] rfl #[.int .i64 0, .int .i64 0, .slice none 0 0, .int .i64 0, .int .i64 0, .slice none 0 0, .int .i64 0, .int .i64 0, .slice none 0 0, .int .i64 0, .int .i64 0, .slice none 0 0] 27 B4.out size27 (by simp) (by simp [Value.oneCell']) #[.int .i64 0, .int .i64 0, .slice none 0 0, .int .i64 0, .int .i64 0, .slice none 0 0, .int .i64 0, .int .i64 0, .slice none 0 0, .int .i64 0, .int .i64 0, .slice none 0 0] rfl ?_); intro w12 hs st; have n_BJ := Aside0.mk (Step.blk st (by (with_reducible repeat (first | refine blk_drewN ?_ _ | refine blk_drew ?_ | refine blk_alloc ?_ _)); exact BJ.out) (NBJB4.out)); have n_BX := Aside0.mk (Step.blk st (by (with_reducible repeat (first | refine blk_drewN ?_ _ | refine blk_drew ?_ | refine blk_alloc ?_ _)); exact BX.out) (NBXB4.out)); have n_HB := Aside0.mk (Step.fresh st (by repeat (first | (with_reducible first | exact HB.out | apply below_alloc | apply pw_below_drewN | apply below_drew1) | exact HB.out)) GEB4.out); clear HB BJ BX; have HB := n_HB; have BJ := n_BJ; have BX := n_BX; clear n_HB n_BJ n_BX; clear B4; have B4 := Aside0.mk hs; clear hs st; have hx0 : w12.cell? ⟨gx, 0, none⟩ = some (.int .i64 2) := (blk_cell BX.out 0).trans rfl; have hx1 : w12.cell? ⟨gx, 1, none⟩ = some (.int .i64 (i : Int)) := (blk_cell BX.out 1).trans rfl))
  (try simp only [Exit.inBlock, Exit.then])
  refine bodyPost_ret (results_row_tmp rfl _ _ g4 27 #[.int .i64 0, .int .i64 0, .slice none 0 0, .int .i64 0, .int .i64 0, .slice none 0 0, .int .i64 0, .int .i64 0, .slice none 0 0, .int .i64 0, .int .i64 0, .slice none 0 0] (0, 0) _ (.int .i64 5) rfl rfl B4.out Try.underlying27 rfl size27) rfl ?_
  exact ⟨rfl, by repeat (first | (with_reducible first | exact HB.out | apply below_alloc | apply pw_below_drewN | apply below_drew1) | exact HB.out)⟩
set_option maxHeartbeats 8000000 in
set_option maxRecDepth 100000 in
theorem journal_Apply.do2 (J : List Log) (cs : List Value) (i : Nat) (a2 a3 a4 a5 a6 : Int) (ok : Nat → Prop) (q : Log) (w : World) (hJ : JVF w ok J cs) (hi : i < 4) (hM : journal_May.f 2 (i : Int) a2 a3 a4 a5 a6 = some true) (hl : (lg J i).2.2.length ≤ 100000) (hr : step2 (lg J i) (⟨2, (i : Int), a2, a3, a4, a5, a6⟩ : S32) = some q) :
    Calls Try.prog 7 #[.agg cs.toArray, .agg #[.int .i64 2, .int .i64 (i : Int), .int .i64 a2, .int .i64 a3, .int .i64 a4, .int .i64 a5, .int .i64 a6]] w fun e w' => ∃ cs', e = .returned (.tuple #[.agg (List.toArray cs'), .int .i64 0]) ∧ JVF w' (fun k => (ok k ∧ k < w.heap.size) ∨ w.heap.size ≤ k) (J.set i q) cs' ∧ Below w.heap.size w w' := by
  have HB := Aside0.mk (Below.refl w.heap.size w)
  have HM := Aside0.mk hM
  have HJ := Aside0.mk hJ
  have HI := Aside0.mk hi
  have HCL := Aside0.mk hJ.now.len.2
  have q0 : (0 : Int) ≤ (i : Int) := by omega
  have q1 : (i : Int) < 4 := by omega
  obtain ⟨A, c, h0, h1, h2, hle, hC⟩ := hJ.at_ i hi
  obtain ⟨p, hp⟩ : ∃ p, p = lg J i := ⟨_, rfl⟩
  rw [← hp] at hr hl h0 h1 h2 hle hC
  have HC := Aside0.mk hC
  have HR := Aside0.mk hr
  have HL := Aside0.mk hl
  have HLE := Aside0.mk hle
  have H0 := Aside0.mk h0
  have H1 := Aside0.mk h1
  have H2 := Aside0.mk h2
  clear hM hJ hi h0 h1 h2 hle hC hr hl hp
  have hu25 := Try.underlying25
  have hu32 := Try.underlying32
  have hu53 := Try.underlying53
  go_enter Try.func7, Try.ntmps7
  go_wp2_with (first
    | ((with_reducible refine gate_dst (N := 2) rfl ?_); refine box_event ?hg (N := 2) ?hd (cs := cs.toArray) (t := 27) ?hr ?_; (case hd => rfl); (case hg => rfl); (case hr => first | (go_simp; done) | (go_simp; rfl)); intro gj hg w1 hbox hb; have BJ := Aside0.mk hbox; have GEBJ := Aside0.mk ((by rw [hg]; exact (below_size (by repeat (first | (with_reducible first | exact HB.out | apply below_alloc | apply pw_below_drewN | apply below_drew1) | exact HB.out)))) : w.heap.size ≤ gj); have n_HB := Aside0.mk (below_step (by repeat (first | (with_reducible first | exact HB.out | apply below_alloc | apply pw_below_drewN | apply below_drew1) | exact HB.out)) hb); clear HB ; have HB := n_HB; clear n_HB ; clear hbox hg hb)
    | ((with_reducible refine gate_dst (N := 3) rfl ?_); refine box_event ?hg (N := 3) ?hd (cs := #[.int .i64 2, .int .i64 (i : Int), .int .i64 a2, .int .i64 a3, .int .i64 a4, .int .i64 a5, .int .i64 a6]) (t := 32) ?hr ?_; (case hd => rfl); (case hg => rfl); (case hr => first | (go_simp; done) | (go_simp; rfl)); intro gx hg w2 hbox hb; have BX := Aside0.mk hbox; have GEBX := Aside0.mk ((by rw [hg]; exact (below_size (by repeat (first | (with_reducible first | exact HB.out | apply below_alloc | apply pw_below_drewN | apply below_drew1) | exact HB.out)))) : w.heap.size ≤ gx); have NBJBX := Aside0.mk ((by rw [hg]; exact Nat.ne_of_lt (blk_lt (by (with_reducible repeat (first | refine blk_drewN ?_ _ | refine blk_drew ?_ | refine blk_alloc ?_ _)); exact BJ.out))) : gj ≠ gx); have n_BJ := Aside0.mk (blk_below (by (with_reducible repeat (first | refine blk_drewN ?_ _ | refine blk_drew ?_ | refine blk_alloc ?_ _)); exact BJ.out) hb); have n_HB := Aside0.mk (below_step (by repeat (first | (with_reducible first | exact HB.out | apply below_alloc | apply pw_below_drewN | apply below_drew1) | exact HB.out)) hb); clear HB BJ; have HB := n_HB; have BJ := n_BJ; clear n_HB n_BJ; clear hbox hg hb; have hx0 : w2.cell? ⟨gx, 0, none⟩ = some (.int .i64 2) := (blk_cell BX.out 0).trans rfl; have hx1 : w2.cell? ⟨gx, 1, none⟩ = some (.int .i64 (i : Int)) := (blk_cell BX.out 1).trans rfl)
    | ((with_reducible refine gate_dst (N := 4) rfl ?_); refine box_event ?hg (N := 4) ?hd (cs := #[.int .i64 0, .int .i64 0, .slice none 0 0, .int .i64 0, .int .i64 0, .slice none 0 0, .int .i64 0, .int .i64 0, .slice none 0 0, .int .i64 0, .int .i64 0, .slice none 0 0]) (t := 27) ?hr ?_; (case hd => rfl); (case hg => rfl); (case hr => first | (go_simp; done) | (go_simp; rfl)); intro g4 hg w3 hbox hb; have B4 := Aside0.mk hbox; have GEB4 := Aside0.mk ((by rw [hg]; exact (below_size (by repeat (first | (with_reducible first | exact HB.out | apply below_alloc | apply pw_below_drewN | apply below_drew1) | exact HB.out)))) : w.heap.size ≤ g4); have NBJB4 := Aside0.mk ((by rw [hg]; exact Nat.ne_of_lt (blk_lt (by (with_reducible repeat (first | refine blk_drewN ?_ _ | refine blk_drew ?_ | refine blk_alloc ?_ _)); exact BJ.out))) : gj ≠ g4); have NBXB4 := Aside0.mk ((by rw [hg]; exact Nat.ne_of_lt (blk_lt (by (with_reducible repeat (first | refine blk_drewN ?_ _ | refine blk_drew ?_ | refine blk_alloc ?_ _)); exact BX.out))) : gx ≠ g4); have n_BJ := Aside0.mk (blk_below (by (with_reducible repeat (first | refine blk_drewN ?_ _ | refine blk_drew ?_ | refine blk_alloc ?_ _)); exact BJ.out) hb); have n_BX := Aside0.mk (blk_below (by (with_reducible repeat (first | refine blk_drewN ?_ _ | refine blk_drew ?_ | refine blk_alloc ?_ _)); exact BX.out) hb); have n_HB := Aside0.mk (below_step (by repeat (first | (with_reducible first | exact HB.out | apply below_alloc | apply pw_below_drewN | apply below_drew1) | exact HB.out)) hb); clear HB BJ BX; have HB := n_HB; have BJ := n_BJ; have BX := n_BX; clear n_HB n_BJ n_BX; clear hbox hg hb; have hx0 : w3.cell? ⟨gx, 0, none⟩ = some (.int .i64 2) := (blk_cell BX.out 0).trans rfl; have hx1 : w3.cell? ⟨gx, 1, none⟩ = some (.int .i64 (i : Int)) := (blk_cell BX.out 1).trans rfl)
    | ((with_reducible refine gate_dst (N := 8) rfl ?_); go_loud (refine wpList_load_row rfl 32 (.tmp 3) rfl gx rfl 32 #[.int .i64 2, .int .i64 (i : Int), .int .i64 a2, .int .i64 a3, .int .i64 a4, .int .i64 a5, .int .i64 a6] (0, 0) _ BX.out Try.underlying32 rfl size32 ?_))
    | ((with_reducible refine gate_callee (f := 17) rfl ?_); refine goesL_ (some 9) rfl rfl Try.func17 (by kernel_rfl) rfl #[.agg #[.int .i64 2, .int .i64 (i : Int), .int .i64 a2, .int .i64 a3, .int .i64 a4, .int .i64 a5, .int .i64 a6]] rfl (by (try simp only [List.map_toArray, List.map_cons, List.map_nil]); first | done | rfl) ?_; go_loud (refine (journal_May.calls 2 (i : Int) a2 a3 a4 a5 a6 true _ HM.out).mono ?_); rintro e w5 ⟨rfl, hb⟩; refine ⟨_, rfl, ?_⟩; have n_BJ := Aside0.mk (blk_below (by (with_reducible repeat (first | refine blk_drewN ?_ _ | refine blk_drew ?_ | refine blk_alloc ?_ _)); exact BJ.out) hb); have n_BX := Aside0.mk (blk_below (by (with_reducible repeat (first | refine blk_drewN ?_ _ | refine blk_drew ?_ | refine blk_alloc ?_ _)); exact BX.out) hb); have n_B4 := Aside0.mk (blk_below (by (with_reducible repeat (first | refine blk_drewN ?_ _ | refine blk_drew ?_ | refine blk_alloc ?_ _)); exact B4.out) hb); have n_HB := Aside0.mk (below_step (by repeat (first | (with_reducible first | exact HB.out | apply below_alloc | apply pw_below_drewN | apply below_drew1) | exact HB.out)) hb); clear HB BJ BX B4; have HB := n_HB; have BJ := n_BJ; have BX := n_BX; have B4 := n_B4; clear n_HB n_BJ n_BX n_B4; clear hb; have hx0 : w5.cell? ⟨gx, 0, none⟩ = some (.int .i64 2) := (blk_cell BX.out 0).trans rfl; have hx1 : w5.cell? ⟨gx, 1, none⟩ = some (.int .i64 (i : Int)) := (blk_cell BX.out 1).trans rfl)
    | ((with_reducible refine gate_dst (N := 12) rfl ?_); go_loud (refine wpList_makeMapF rfl 52 rfl ?_); intro w6 gm hg hbm hb; have BM := Aside0.mk hbm; have GEM := Aside0.mk ((by rw [hg]; exact (below_size (by repeat (first | (with_reducible first | exact HB.out | apply below_alloc | apply pw_below_drewN | apply below_drew1) | exact HB.out)))) : w.heap.size ≤ gm); have NBJM := Aside0.mk ((by rw [hg]; exact Nat.ne_of_lt (blk_lt (by (with_reducible repeat (first | refine blk_drewN ?_ _ | refine blk_drew ?_ | refine blk_alloc ?_ _)); exact BJ.out))) : gj ≠ gm); have NBXM := Aside0.mk ((by rw [hg]; exact Nat.ne_of_lt (blk_lt (by (with_reducible repeat (first | refine blk_drewN ?_ _ | refine blk_drew ?_ | refine blk_alloc ?_ _)); exact BX.out))) : gx ≠ gm); have NB4M := Aside0.mk ((by rw [hg]; exact Nat.ne_of_lt (blk_lt (by (with_reducible repeat (first | refine blk_drewN ?_ _ | refine blk_drew ?_ | refine blk_alloc ?_ _)); exact B4.out))) : g4 ≠ gm); have n_BJ := Aside0.mk (blk_below (by (with_reducible repeat (first | refine blk_drewN ?_ _ | refine blk_drew ?_ | refine blk_alloc ?_ _)); exact BJ.out) hb); have n_BX := Aside0.mk (blk_below (by (with_reducible repeat (first | refine blk_drewN ?_ _ | refine blk_drew ?_ | refine blk_alloc ?_ _)); exact BX.out) hb); have n_B4 := Aside0.mk (blk_below (by (with_reducible repeat (first | refine blk_drewN ?_ _ | refine blk_drew ?_ | refine blk_alloc ?_ _)); exact B4.out) hb); have n_HB := Aside0.mk (below_step (by repeat (first | (with_reducible first | exact HB.out | apply below_alloc | apply pw_below_drewN | apply below_drew1) | exact HB.out)) hb); clear HB BJ BX B4; have HB := n_HB; have BJ := n_BJ; have BX := n_BX; have B4 := n_B4; clear n_HB n_BJ n_BX n_B4; clear hg hbm hb; have hx0 : w6.cell? ⟨gx, 0, none⟩ = some (.int .i64 2) := (blk_cell BX.out 0).trans rfl; have hx1 : w6.cell? ⟨gx, 1, none⟩ = some (.int .i64 (i : Int)) := (blk_cell BX.out 1).trans rfl)
    | ((with_reducible refine gate_ (.insert 52 (.tmp 12) (.const (.int .i64 1)) (.func 18)) rfl ?_); go_loud (refine wpList_insertF rfl rfl 52 (.tmp 12) (.const (.int .i64 1)) (.func 18) rfl gm rfl (.int .i64 1) (.func (.func 18) #[] #[]) rfl rfl 3 50 Try.underlying52 (.int .i64) Try.underlying3 rfl #[] 0 BM.out rfl ?_); intro w7 hs st; have n_BJ := Aside0.mk (Step.blk st (by (with_reducible repeat (first | refine blk_drewN ?_ _ | refine blk_drew ?_ | refine blk_alloc ?_ _)); exact BJ.out) (NBJM.out)); have n_BX := Aside0.mk (Step.blk st (by (with_reducible repeat (first | refine blk_drewN ?_ _ | refine blk_drew ?_ | refine blk_alloc ?_ _)); exact BX.out) (NBXM.out)); have n_B4 := Aside0.mk (Step.blk st (by (with_reducible repeat (first | refine blk_drewN ?_ _ | refine blk_drew ?_ | refine blk_alloc ?_ _)); exact B4.out) (NB4M.out)); have n_HB := Aside0.mk (Step.fresh st (by repeat (first | (with_reducible first | exact HB.out | apply below_alloc | apply pw_below_drewN | apply below_drew1) | exact HB.out)) GEM.out); clear HB BJ BX B4; have HB := n_HB; have BJ := n_BJ; have BX := n_BX; have B4 := n_B4; clear n_HB n_BJ n_BX n_B4; clear BM; have BM := Aside0.mk hs; clear hs st; have hx0 : w7.cell? ⟨gx, 0, none⟩ = some (.int .i64 2) := (blk_cell BX.out 0).trans rfl; have hx1 : w7.cell? ⟨gx, 1, none⟩ = some (.int .i64 (i : Int)) := (blk_cell BX.out 1).trans rfl)
    | ((with_reducible refine gate_ (.insert 52 (.tmp 12) (.const (.int .i64 2)) (.func 19)) rfl ?_); go_loud (refine wpList_insertF rfl rfl 52 (.tmp 12) (.const (.int .i64 2)) (.func 19) rfl gm rfl (.int .i64 2) (.func (.func 19) #[] #[]) rfl rfl 3 50 Try.underlying52 (.int .i64) Try.underlying3 rfl #[{ key := .int .i64 1, val := .func (.func 18) #[] #[], born := 0 }] 1 BM.out rfl ?_); intro w7 hs st; have n_BJ := Aside0.mk (Step.blk st (by (with_reducible repeat (first | refine blk_drewN ?_ _ | refine blk_drew ?_ | refine blk_alloc ?_ _)); exact BJ.out) (NBJM.out)); have n_BX := Aside0.mk (Step.blk st (by (with_reducible repeat (first | refine blk_drewN ?_ _ | refine blk_drew ?_ | refine blk_alloc ?_ _)); exact BX.out) (NBXM.out)); have n_B4 := Aside0.mk (Step.blk st (by (with_reducible repeat (first | refine blk_drewN ?_ _ | refine blk_drew ?_ | refine blk_alloc ?_ _)); exact B4.out) (NB4M.out)); have n_HB := Aside0.mk (Step.fresh st (by repeat (first | (with_reducible first | exact HB.out | apply below_alloc | apply pw_below_drewN | apply below_drew1) | exact HB.out)) GEM.out); clear HB BJ BX B4; have HB := n_HB; have BJ := n_BJ; have BX := n_BX; have B4 := n_B4; clear n_HB n_BJ n_BX n_B4; clear BM; have BM := Aside0.mk hs; clear hs st; have hx0 : w7.cell? ⟨gx, 0, none⟩ = some (.int .i64 2) := (blk_cell BX.out 0).trans rfl; have hx1 : w7.cell? ⟨gx, 1, none⟩ = some (.int .i64 (i : Int)) := (blk_cell BX.out 1).trans rfl)
    | ((with_reducible refine gate_ (.insert 52 (.tmp 12) (.const (.int .i64 3)) (.func 20)) rfl ?_); go_loud (refine wpList_insertF rfl rfl 52 (.tmp 12) (.const (.int .i64 3)) (.func 20) rfl gm rfl (.int .i64 3) (.func (.func 20) #[] #[]) rfl rfl 3 50 Try.underlying52 (.int .i64) Try.underlying3 rfl #[{ key := .int .i64 1, val := .func (.func 18) #[] #[], born := 0 }, { key := .int .i64 2, val := .func (.func 19) #[] #[], born := 1 }] 2 BM.out rfl ?_); intro w7 hs st; have n_BJ := Aside0.mk (Step.blk st (by (with_reducible repeat (first | refine blk_drewN ?_ _ | refine blk_drew ?_ | refine blk_alloc ?_ _)); exact BJ.out) (NBJM.out)); have n_BX := Aside0.mk (Step.blk st (by (with_reducible repeat (first | refine blk_drewN ?_ _ | refine blk_drew ?_ | refine blk_alloc ?_ _)); exact BX.out) (NBXM.out)); have n_B4 := Aside0.mk (Step.blk st (by (with_reducible repeat (first | refine blk_drewN ?_ _ | refine blk_drew ?_ | refine blk_alloc ?_ _)); exact B4.out) (NB4M.out)); have n_HB := Aside0.mk (Step.fresh st (by repeat (first | (with_reducible first | exact HB.out | apply below_alloc | apply pw_below_drewN | apply below_drew1) | exact HB.out)) GEM.out); clear HB BJ BX B4; have HB := n_HB; have BJ := n_BJ; have BX := n_BX; have B4 := n_B4; clear n_HB n_BJ n_BX n_B4; clear BM; have BM := Aside0.mk hs; clear hs st; have hx0 : w7.cell? ⟨gx, 0, none⟩ = some (.int .i64 2) := (blk_cell BX.out 0).trans rfl; have hx1 : w7.cell? ⟨gx, 1, none⟩ = some (.int .i64 (i : Int)) := (blk_cell BX.out 1).trans rfl)
    | ((with_reducible refine gate_dst (N := 17) rfl ?_); go_loud (refine wpList_load_mid rfl 25 (.tmp 16) rfl gj (i * 3) rfl [.int .i64 p.1, .int .i64 p.2.1, .slice A p.2.2.length c] _ (jrange BJ.out (by simpa using H0.out) (by simpa using H1.out) (by simpa using H2.out)) Try.underlying25 rfl size25 ?_))
    | ((with_reducible refine gate_dst (N := 7) rfl ?_); refine box_event ?hg (N := 7) ?hd (cs := #[.int .i64 0, .int .i64 0, .slice none 0 0]) (t := 53) ?hr ?_; (case hd => rfl); (case hg => rfl); (case hr => first | (go_simp; done) | (go_simp; rfl)); intro g7 hg w8 hbox hb; have B7 := Aside0.mk hbox; have GEB7 := Aside0.mk ((by rw [hg]; exact (below_size (by repeat (first | (with_reducible first | exact HB.out | apply below_alloc | apply pw_below_drewN | apply below_drew1) | exact HB.out)))) : w.heap.size ≤ g7); have NBJB7 := Aside0.mk ((by rw [hg]; exact Nat.ne_of_lt (blk_lt (by (with_reducible repeat (first | refine blk_drewN ?_ _ | refine blk_drew ?_ | refine blk_alloc ?_ _)); exact BJ.out))) : gj ≠ g7); have NBXB7 := Aside0.mk ((by rw [hg]; exact Nat.ne_of_lt (blk_lt (by (with_reducible repeat (first | refine blk_drewN ?_ _ | refine blk_drew ?_ | refine blk_alloc ?_ _)); exact BX.out))) : gx ≠ g7); have NB4B7 := Aside0.mk ((by rw [hg]; exact Nat.ne_of_lt (blk_lt (by (with_reducible repeat (first | refine blk_drewN ?_ _ | refine blk_drew ?_ | refine blk_alloc ?_ _)); exact B4.out))) : g4 ≠ g7); have NBMB7 := Aside0.mk ((by rw [hg]; exact Nat.ne_of_lt (blk_lt (by (with_reducible repeat (first | refine blk_drewN ?_ _ | refine blk_drew ?_ | refine blk_alloc ?_ _)); exact BM.out))) : gm ≠ g7); have n_BJ := Aside0.mk (blk_below (by (with_reducible repeat (first | refine blk_drewN ?_ _ | refine blk_drew ?_ | refine blk_alloc ?_ _)); exact BJ.out) hb); have n_BX := Aside0.mk (blk_below (by (with_reducible repeat (first | refine blk_drewN ?_ _ | refine blk_drew ?_ | refine blk_alloc ?_ _)); exact BX.out) hb); have n_B4 := Aside0.mk (blk_below (by (with_reducible repeat (first | refine blk_drewN ?_ _ | refine blk_drew ?_ | refine blk_alloc ?_ _)); exact B4.out) hb); have n_BM := Aside0.mk (blk_below (by (with_reducible repeat (first | refine blk_drewN ?_ _ | refine blk_drew ?_ | refine blk_alloc ?_ _)); exact BM.out) hb); have n_HB := Aside0.mk (below_step (by repeat (first | (with_reducible first | exact HB.out | apply below_alloc | apply pw_below_drewN | apply below_drew1) | exact HB.out)) hb); clear HB BJ BX B4 BM; have HB := n_HB; have BJ := n_BJ; have BX := n_BX; have B4 := n_B4; have BM := n_BM; clear n_HB n_BJ n_BX n_B4 n_BM; clear hbox hg hb; have hx0 : w8.cell? ⟨gx, 0, none⟩ = some (.int .i64 2) := (blk_cell BX.out 0).trans rfl; have hx1 : w8.cell? ⟨gx, 1, none⟩ = some (.int .i64 (i : Int)) := (blk_cell BX.out 1).trans rfl)
    | ((with_reducible refine gate_ (.store 53 (.tmp 7) (.tmp 17)) rfl ?_); go_loud (refine wpList_storeR rfl rfl 53 (.tmp 7) (.tmp 17) rfl g7 (0) rfl (.agg #[.int .i64 p.1, .int .i64 p.2.1, .slice A p.2.2.length c]) rfl [.int .i64 p.1, .int .i64 p.2.1, .slice A p.2.2.length c] rfl #[.int .i64 0, .int .i64 0, .slice none 0 0] 53 B7.out size53 (by simp) (by simp [Value.oneCell']) #[.int .i64 p.1, .int .i64 p.2.1, .slice A p.2.2.length c] rfl ?_); intro w9 hs st; have n_BJ := Aside0.mk (Step.blk st (by (with_reducible repeat (first | refine blk_drewN ?_ _ | refine blk_drew ?_ | refine blk_alloc ?_ _)); exact BJ.out) (NBJB7.out)); have n_BX := Aside0.mk (Step.blk st (by (with_reducible repeat (first | refine blk_drewN ?_ _ | refine blk_drew ?_ | refine blk_alloc ?_ _)); exact BX.out) (NBXB7.out)); have n_B4 := Aside0.mk (Step.blk st (by (with_reducible repeat (first | refine blk_drewN ?_ _ | refine blk_drew ?_ | refine blk_alloc ?_ _)); exact B4.out) (NB4B7.out)); have n_BM := Aside0.mk (Step.blk st (by (with_reducible repeat (first | refine blk_drewN ?_ _ | refine blk_drew ?_ | refine blk_alloc ?_ _)); exact BM.out) (NBMB7.out)); have n_HB := Aside0.mk (Step.fresh st (by repeat (first | (with_reducible first | exact HB.out | apply below_alloc | apply pw_below_drewN | apply below_drew1) | exact HB.out)) GEB7.out); clear HB BJ BX B4 BM; have HB := n_HB; have BJ := n_BJ; have BX := n_BX; have B4 := n_B4; have BM := n_BM; clear n_HB n_BJ n_BX n_B4 n_BM; clear B7; have B7 := Aside0.mk hs; clear hs st; have hx0 : w9.cell? ⟨gx, 0, none⟩ = some (.int .i64 2) := (blk_cell BX.out 0).trans rfl; have hx1 : w9.cell? ⟨gx, 1, none⟩ = some (.int .i64 (i : Int)) := (blk_cell BX.out 1).trans rfl)
    | ((with_reducible refine gate_dst (N := 21) rfl ?_); go_loud (refine wpList_lookupF rfl 52 (.tmp 18) (.tmp 20) rfl gm rfl (.int .i64 2) (.func (.func 19) #[] #[]) rfl 3 50 Try.underlying52 (.int .i64) Try.underlying3 rfl #[{ key := .int .i64 1, val := .func (.func 18) #[] #[], born := 0 }, { key := .int .i64 2, val := .func (.func 19) #[] #[], born := 1 }, { key := .int .i64 3, val := .func (.func 20) #[] #[], born := 2 }] 3 BM.out 1 rfl ?_))
    | ((with_reducible refine gate_dst (N := 22) rfl ?_); go_loud (refine wpList_load_row rfl 32 (.tmp 3) rfl gx rfl 32 #[.int .i64 2, .int .i64 (i : Int), .int .i64 a2, .int .i64 a3, .int .i64 a4, .int .i64 a5, .int .i64 a6] (0, 0) _ BX.out Try.underlying32 rfl size32 ?_))
    | (go_at_call 19; go_loud (refine (does2.calls (⟨2, (i : Int), a2, a3, a4, a5, a6⟩ : S32) p A c g7 ok (some q) w _ B7.out HC.out (by repeat (first | (with_reducible first | exact HB.out | apply below_alloc | apply pw_below_drewN | apply below_drew1) | exact HB.out)) GEB7.out HLE.out HL.out HR.out).mono ?_); intro e w10 hd; obtain rfl := hd.1; have LJ := Aside0.mk (blk_lt BJ.out); have L4 := Aside0.mk (blk_lt B4.out); have n_BJ := Aside0.mk (Step.blk hd.2.1 (by (with_reducible repeat (first | refine blk_drewN ?_ _ | refine blk_drew ?_ | refine blk_alloc ?_ _)); exact BJ.out) (NBJB7.out)); have n_BX := Aside0.mk (Step.blk hd.2.1 (by (with_reducible repeat (first | refine blk_drewN ?_ _ | refine blk_drew ?_ | refine blk_alloc ?_ _)); exact BX.out) (NBXB7.out)); have n_B4 := Aside0.mk (Step.blk hd.2.1 (by (with_reducible repeat (first | refine blk_drewN ?_ _ | refine blk_drew ?_ | refine blk_alloc ?_ _)); exact B4.out) (NB4B7.out)); have n_HB := Aside0.mk (Step.fresh hd.2.1 (by repeat (first | (with_reducible first | exact HB.out | apply below_alloc | apply pw_below_drewN | apply below_drew1) | exact HB.out)) GEB7.out); clear HB BJ BX B4; have HB := n_HB; have BJ := n_BJ; have BX := n_BX; have B4 := n_B4; clear n_HB n_BJ n_BX n_B4; obtain ⟨A', c', h1_, h2_, h3_⟩ := hd.2.2; clear B7; have B7 : Aside0 (w10.heap[g7]? = some (.cells #[.int .i64 q.1, .int .i64 q.2.1, .slice A' q.2.2.length c'] 53 (0, 0))) := Aside0.mk h1_; have HLE2 : Aside0 (q.2.2.length ≤ c') := Aside0.mk h2_; have HF : Aside0 (Kd.F k32 w10 (fun k => ((ok k ∧ k < w.heap.size) ∨ w.heap.size ≤ k) ∧ k ≠ gj ∧ k ≠ g4) A' q.2.2.length q.2.2) := Aside0.mk (Kd.F_mono h3_ (fun k hk => by have h_2 := LJ.out; have h_3 := L4.out; have h_4 := GEBJ.out; have h_5 := GEB4.out; exact ⟨hk.1.imp id (fun h_ => by omega), by rcases hk.1 with h_ | h_ <;> omega, by rcases hk.1 with h_ | h_ <;> omega⟩)); clear LJ L4 h1_ h2_ h3_ hd; have hx0 : w10.cell? ⟨gx, 0, none⟩ = some (.int .i64 2) := (blk_cell BX.out 0).trans rfl; have hx1 : w10.cell? ⟨gx, 1, none⟩ = some (.int .i64 (i : Int)) := (blk_cell BX.out 1).trans rfl)
    | ((with_reducible refine gate_dst (N := 28) rfl ?_); go_loud (refine wpList_load_row rfl 53 (.tmp 7) rfl g7 rfl 53 #[.int .i64 q.1, .int .i64 q.2.1, .slice A' q.2.2.length c'] (0, 0) _ B7.out Try.underlying53 rfl size53 ?_))
    | ((with_reducible refine gate_ (.store 25 (.tmp 29) (.tmp 28)) rfl ?_); go_loud (refine wpList_storeR rfl rfl 25 (.tmp 29) (.tmp 28) rfl gj (i * 3) rfl (.agg #[.int .i64 q.1, .int .i64 q.2.1, .slice A' q.2.2.length c']) rfl [.int .i64 q.1, .int .i64 q.2.1, .slice A' q.2.2.length c'] rfl cs.toArray 27 BJ.out size25 (by have h_ := HCL.out; have hi_ := HI.out; simp [h_]; omega) (by simp [Value.oneCell']) (setCs cs i [.int .i64 q.1, .int .i64 q.2.1, .slice A' q.2.2.length c']).toArray (by simp [setCs]) ?_); intro w11 hs st; have HF2 := Aside0.mk (Kd.F_keep HF.out st.1 (fun k hk => hk.2.1)); have n_BX := Aside0.mk (Step.blk st (by (with_reducible repeat (first | refine blk_drewN ?_ _ | refine blk_drew ?_ | refine blk_alloc ?_ _)); exact BX.out) (NBJBX.out.symm)); have n_B4 := Aside0.mk (Step.blk st (by (with_reducible repeat (first | refine blk_drewN ?_ _ | refine blk_drew ?_ | refine blk_alloc ?_ _)); exact B4.out) (NBJB4.out.symm)); have n_HB := Aside0.mk (Step.fresh st (by repeat (first | (with_reducible first | exact HB.out | apply below_alloc | apply pw_below_drewN | apply below_drew1) | exact HB.out)) GEBJ.out); clear HB BX B4; have HB := n_HB; have BX := n_BX; have B4 := n_B4; clear n_HB n_BX n_B4; clear BJ; have BJ := Aside0.mk hs; clear hs st; have hx0 : w11.cell? ⟨gx, 0, none⟩ = some (.int .i64 2) := (blk_cell BX.out 0).trans rfl; have hx1 : w11.cell? ⟨gx, 1, none⟩ = some (.int .i64 (i : Int)) := (blk_cell BX.out 1).trans rfl)
    | ((with_reducible refine gate_dst (N := 30) rfl ?_); have HJ2 := Aside0.mk (JV.set (HJ.out.now.below HB.out) HI.out HLE2.out (Kd.F_now HF2.out)); have hl12 := Aside0.mk (show (setCs cs i [.int .i64 q.1, .int .i64 q.2.1, .slice A' q.2.2.length c']).length = 12 from HJ2.out.len.2); (with_reducible refine gate_dst (N := 30) rfl ?_); go_loud (refine wpList_load_row rfl 27 (.tmp 2) rfl gj rfl 27 (setCs cs i [.int .i64 q.1, .int .i64 q.2.1, .slice A' q.2.2.length c']).toArray (0, 0) _ BJ.out Try.underlying27 rfl (by rw [size27, List.size_toArray, hl12.out]) ?_))
    | ((with_reducible refine gate_ (.store 27 (.tmp 4) (.tmp 30)) rfl ?_); go_loud (refine wpList_storeR rfl rfl 27 (.tmp 4) (.tmp 30) rfl g4 (0) rfl (.agg (setCs cs i [.int .i64 q.1, .int .i64 q.2.1, .slice A' q.2.2.length c']).toArray) rfl (setCs cs i [.int .i64 q.1, .int .i64 q.2.1, .slice A' q.2.2.length c']) rfl #[.int .i64 0, .int .i64 0, .slice none 0 0, .int .i64 0, .int .i64 0, .slice none 0 0, .int .i64 0, .int .i64 0, .slice none 0 0, .int .i64 0, .int .i64 0, .slice none 0 0] 27 B4.out (by rw [size27, hl12.out]) (by rw [hl12.out]; decide) (Kd.K_one _ HJ2.out) (setCs cs i [.int .i64 q.1, .int .i64 q.2.1, .slice A' q.2.2.length c']).toArray (by rw [hl12.out]; simp) ?_); intro w12 hs st; have HF3 := Aside0.mk (Kd.F_keep HF2.out st.1 (fun k hk => hk.2.2)); have n_BJ := Aside0.mk (Step.blk st (by (with_reducible repeat (first | refine blk_drewN ?_ _ | refine blk_drew ?_ | refine blk_alloc ?_ _)); exact BJ.out) (NBJB4.out)); have n_BX := Aside0.mk (Step.blk st (by (with_reducible repeat (first | refine blk_drewN ?_ _ | refine blk_drew ?_ | refine blk_alloc ?_ _)); exact BX.out) (NBXB4.out)); have n_HB := Aside0.mk (Step.fresh st (by repeat (first | (with_reducible first | exact HB.out | apply below_alloc | apply pw_below_drewN | apply below_drew1) | exact HB.out)) GEB4.out); clear HB BJ BX; have HB := n_HB; have BJ := n_BJ; have BX := n_BX; clear n_HB n_BJ n_BX; clear B4; have B4 := Aside0.mk hs; clear hs st; have hx0 : w12.cell? ⟨gx, 0, none⟩ = some (.int .i64 2) := (blk_cell BX.out 0).trans rfl; have hx1 : w12.cell? ⟨gx, 1, none⟩ = some (.int .i64 (i : Int)) := (blk_cell BX.out 1).trans rfl))
  (try simp only [Exit.inBlock, Exit.then])
  refine bodyPost_ret (results_row_tmp rfl _ _ g4 27 (setCs cs i [.int .i64 q.1, .int .i64 q.2.1, .slice A' q.2.2.length c']).toArray (0, 0) _ (.int .i64 0) rfl rfl B4.out Try.underlying27 rfl (by rw [size27, List.size_toArray, hl12.out])) rfl ?_
  exact ⟨_, rfl, JVF.set ((HJ.out.below HB.out).mono (fun k hk => .inl hk)) HI.out HLE2.out (Kd.F_mono HF3.out (fun k hk => hk.1)), by repeat (first | (with_reducible first | exact HB.out | apply below_alloc | apply pw_below_drewN | apply below_drew1) | exact HB.out)⟩
set_option maxHeartbeats 8000000 in
set_option maxRecDepth 100000 in
theorem journal_Apply.no3 (J : List Log) (cs : List Value) (i : Nat) (a2 a3 a4 a5 a6 : Int) (ok : Nat → Prop) (w : World) (hJ : JVF w ok J cs) (hi : i < 4) (hM : journal_May.f 3 (i : Int) a2 a3 a4 a5 a6 = some true) (hl : (lg J i).2.2.length ≤ 100000) (hr : step3 (lg J i) (⟨3, (i : Int), a2, a3, a4, a5, a6⟩ : S32) = none) :
    Calls Try.prog 7 #[.agg cs.toArray, .agg #[.int .i64 3, .int .i64 (i : Int), .int .i64 a2, .int .i64 a3, .int .i64 a4, .int .i64 a5, .int .i64 a6]] w fun e w' => e = .returned (.tuple #[.agg #[.int .i64 0, .int .i64 0, .slice none 0 0, .int .i64 0, .int .i64 0, .slice none 0 0, .int .i64 0, .int .i64 0, .slice none 0 0, .int .i64 0, .int .i64 0, .slice none 0 0], .int .i64 5]) ∧ Below w.heap.size w w' := by
  have HB := Aside0.mk (Below.refl w.heap.size w)
  have HM := Aside0.mk hM
  have HJ := Aside0.mk hJ
  have HI := Aside0.mk hi
  have HCL := Aside0.mk hJ.now.len.2
  have q0 : (0 : Int) ≤ (i : Int) := by omega
  have q1 : (i : Int) < 4 := by omega
  obtain ⟨A, c, h0, h1, h2, hle, hC⟩ := hJ.at_ i hi
  obtain ⟨p, hp⟩ : ∃ p, p = lg J i := ⟨_, rfl⟩
  rw [← hp] at hr hl h0 h1 h2 hle hC
  have HC := Aside0.mk hC
  have HR := Aside0.mk hr
  have HL := Aside0.mk hl
  have HLE := Aside0.mk hle
  have H0 := Aside0.mk h0
  have H1 := Aside0.mk h1
  have H2 := Aside0.mk h2
  clear hM hJ hi h0 h1 h2 hle hC hr hl hp
  have hu25 := Try.underlying25
  have hu32 := Try.underlying32
  have hu53 := Try.underlying53
  go_enter Try.func7, Try.ntmps7
  go_wp2_with (first
    | ((with_reducible refine gate_dst (N := 2) rfl ?_); refine box_event ?hg (N := 2) ?hd (cs := cs.toArray) (t := 27) ?hr ?_; (case hd => rfl); (case hg => rfl); (case hr => first | (go_simp; done) | (go_simp; rfl)); intro gj hg w1 hbox hb; have BJ := Aside0.mk hbox; have GEBJ := Aside0.mk ((by rw [hg]; exact (below_size (by repeat (first | (with_reducible first | exact HB.out | apply below_alloc | apply pw_below_drewN | apply below_drew1) | exact HB.out)))) : w.heap.size ≤ gj); have n_HB := Aside0.mk (below_step (by repeat (first | (with_reducible first | exact HB.out | apply below_alloc | apply pw_below_drewN | apply below_drew1) | exact HB.out)) hb); clear HB ; have HB := n_HB; clear n_HB ; clear hbox hg hb)
    | ((with_reducible refine gate_dst (N := 3) rfl ?_); refine box_event ?hg (N := 3) ?hd (cs := #[.int .i64 3, .int .i64 (i : Int), .int .i64 a2, .int .i64 a3, .int .i64 a4, .int .i64 a5, .int .i64 a6]) (t := 32) ?hr ?_; (case hd => rfl); (case hg => rfl); (case hr => first | (go_simp; done) | (go_simp; rfl)); intro gx hg w2 hbox hb; have BX := Aside0.mk hbox; have GEBX := Aside0.mk ((by rw [hg]; exact (below_size (by repeat (first | (with_reducible first | exact HB.out | apply below_alloc | apply pw_below_drewN | apply below_drew1) | exact HB.out)))) : w.heap.size ≤ gx); have NBJBX := Aside0.mk ((by rw [hg]; exact Nat.ne_of_lt (blk_lt (by (with_reducible repeat (first | refine blk_drewN ?_ _ | refine blk_drew ?_ | refine blk_alloc ?_ _)); exact BJ.out))) : gj ≠ gx); have n_BJ := Aside0.mk (blk_below (by (with_reducible repeat (first | refine blk_drewN ?_ _ | refine blk_drew ?_ | refine blk_alloc ?_ _)); exact BJ.out) hb); have n_HB := Aside0.mk (below_step (by repeat (first | (with_reducible first | exact HB.out | apply below_alloc | apply pw_below_drewN | apply below_drew1) | exact HB.out)) hb); clear HB BJ; have HB := n_HB; have BJ := n_BJ; clear n_HB n_BJ; clear hbox hg hb; have hx0 : w2.cell? ⟨gx, 0, none⟩ = some (.int .i64 3) := (blk_cell BX.out 0).trans rfl; have hx1 : w2.cell? ⟨gx, 1, none⟩ = some (.int .i64 (i : Int)) := (blk_cell BX.out 1).trans rfl)
    | ((with_reducible refine gate_dst (N := 4) rfl ?_); refine box_event ?hg (N := 4) ?hd (cs := #[.int .i64 0, .int .i64 0, .slice none 0 0, .int .i64 0, .int .i64 0, .slice none 0 0, .int .i64 0, .int .i64 0, .slice none 0 0, .int .i64 0, .int .i64 0, .slice none 0 0]) (t := 27) ?hr ?_; (case hd => rfl); (case hg => rfl); (case hr => first | (go_simp; done) | (go_simp; rfl)); intro g4 hg w3 hbox hb; have B4 := Aside0.mk hbox; have GEB4 := Aside0.mk ((by rw [hg]; exact (below_size (by repeat (first | (with_reducible first | exact HB.out | apply below_alloc | apply pw_below_drewN | apply below_drew1) | exact HB.out)))) : w.heap.size ≤ g4); have NBJB4 := Aside0.mk ((by rw [hg]; exact Nat.ne_of_lt (blk_lt (by (with_reducible repeat (first | refine blk_drewN ?_ _ | refine blk_drew ?_ | refine blk_alloc ?_ _)); exact BJ.out))) : gj ≠ g4); have NBXB4 := Aside0.mk ((by rw [hg]; exact Nat.ne_of_lt (blk_lt (by (with_reducible repeat (first | refine blk_drewN ?_ _ | refine blk_drew ?_ | refine blk_alloc ?_ _)); exact BX.out))) : gx ≠ g4); have n_BJ := Aside0.mk (blk_below (by (with_reducible repeat (first | refine blk_drewN ?_ _ | refine blk_drew ?_ | refine blk_alloc ?_ _)); exact BJ.out) hb); have n_BX := Aside0.mk (blk_below (by (with_reducible repeat (first | refine blk_drewN ?_ _ | refine blk_drew ?_ | refine blk_alloc ?_ _)); exact BX.out) hb); have n_HB := Aside0.mk (below_step (by repeat (first | (with_reducible first | exact HB.out | apply below_alloc | apply pw_below_drewN | apply below_drew1) | exact HB.out)) hb); clear HB BJ BX; have HB := n_HB; have BJ := n_BJ; have BX := n_BX; clear n_HB n_BJ n_BX; clear hbox hg hb; have hx0 : w3.cell? ⟨gx, 0, none⟩ = some (.int .i64 3) := (blk_cell BX.out 0).trans rfl; have hx1 : w3.cell? ⟨gx, 1, none⟩ = some (.int .i64 (i : Int)) := (blk_cell BX.out 1).trans rfl)
    | ((with_reducible refine gate_dst (N := 8) rfl ?_); go_loud (refine wpList_load_row rfl 32 (.tmp 3) rfl gx rfl 32 #[.int .i64 3, .int .i64 (i : Int), .int .i64 a2, .int .i64 a3, .int .i64 a4, .int .i64 a5, .int .i64 a6] (0, 0) _ BX.out Try.underlying32 rfl size32 ?_))
    | ((with_reducible refine gate_callee (f := 17) rfl ?_); refine goesL_ (some 9) rfl rfl Try.func17 (by kernel_rfl) rfl #[.agg #[.int .i64 3, .int .i64 (i : Int), .int .i64 a2, .int .i64 a3, .int .i64 a4, .int .i64 a5, .int .i64 a6]] rfl (by (try simp only [List.map_toArray, List.map_cons, List.map_nil]); first | done | rfl) ?_; go_loud (refine (journal_May.calls 3 (i : Int) a2 a3 a4 a5 a6 true _ HM.out).mono ?_); rintro e w5 ⟨rfl, hb⟩; refine ⟨_, rfl, ?_⟩; have n_BJ := Aside0.mk (blk_below (by (with_reducible repeat (first | refine blk_drewN ?_ _ | refine blk_drew ?_ | refine blk_alloc ?_ _)); exact BJ.out) hb); have n_BX := Aside0.mk (blk_below (by (with_reducible repeat (first | refine blk_drewN ?_ _ | refine blk_drew ?_ | refine blk_alloc ?_ _)); exact BX.out) hb); have n_B4 := Aside0.mk (blk_below (by (with_reducible repeat (first | refine blk_drewN ?_ _ | refine blk_drew ?_ | refine blk_alloc ?_ _)); exact B4.out) hb); have n_HB := Aside0.mk (below_step (by repeat (first | (with_reducible first | exact HB.out | apply below_alloc | apply pw_below_drewN | apply below_drew1) | exact HB.out)) hb); clear HB BJ BX B4; have HB := n_HB; have BJ := n_BJ; have BX := n_BX; have B4 := n_B4; clear n_HB n_BJ n_BX n_B4; clear hb; have hx0 : w5.cell? ⟨gx, 0, none⟩ = some (.int .i64 3) := (blk_cell BX.out 0).trans rfl; have hx1 : w5.cell? ⟨gx, 1, none⟩ = some (.int .i64 (i : Int)) := (blk_cell BX.out 1).trans rfl)
    | ((with_reducible refine gate_dst (N := 12) rfl ?_); go_loud (refine wpList_makeMapF rfl 52 rfl ?_); intro w6 gm hg hbm hb; have BM := Aside0.mk hbm; have GEM := Aside0.mk ((by rw [hg]; exact (below_size (by repeat (first | (with_reducible first | exact HB.out | apply below_alloc | apply pw_below_drewN | apply below_drew1) | exact HB.out)))) : w.heap.size ≤ gm); have NBJM := Aside0.mk ((by rw [hg]; exact Nat.ne_of_lt (blk_lt (by (with_reducible repeat (first | refine blk_drewN ?_ _ | refine blk_drew ?_ | refine blk_alloc ?_ _)); exact BJ.out))) : gj ≠ gm); have NBXM := Aside0.mk ((by rw [hg]; exact Nat.ne_of_lt (blk_lt (by (with_reducible repeat (first | refine blk_drewN ?_ _ | refine blk_drew ?_ | refine blk_alloc ?_ _)); exact BX.out))) : gx ≠ gm); have NB4M := Aside0.mk ((by rw [hg]; exact Nat.ne_of_lt (blk_lt (by (with_reducible repeat (first | refine blk_drewN ?_ _ | refine blk_drew ?_ | refine blk_alloc ?_ _)); exact B4.out))) : g4 ≠ gm); have n_BJ := Aside0.mk (blk_below (by (with_reducible repeat (first | refine blk_drewN ?_ _ | refine blk_drew ?_ | refine blk_alloc ?_ _)); exact BJ.out) hb); have n_BX := Aside0.mk (blk_below (by (with_reducible repeat (first | refine blk_drewN ?_ _ | refine blk_drew ?_ | refine blk_alloc ?_ _)); exact BX.out) hb); have n_B4 := Aside0.mk (blk_below (by (with_reducible repeat (first | refine blk_drewN ?_ _ | refine blk_drew ?_ | refine blk_alloc ?_ _)); exact B4.out) hb); have n_HB := Aside0.mk (below_step (by repeat (first | (with_reducible first | exact HB.out | apply below_alloc | apply pw_below_drewN | apply below_drew1) | exact HB.out)) hb); clear HB BJ BX B4; have HB := n_HB; have BJ := n_BJ; have BX := n_BX; have B4 := n_B4; clear n_HB n_BJ n_BX n_B4; clear hg hbm hb; have hx0 : w6.cell? ⟨gx, 0, none⟩ = some (.int .i64 3) := (blk_cell BX.out 0).trans rfl; have hx1 : w6.cell? ⟨gx, 1, none⟩ = some (.int .i64 (i : Int)) := (blk_cell BX.out 1).trans rfl)
    | ((with_reducible refine gate_ (.insert 52 (.tmp 12) (.const (.int .i64 1)) (.func 18)) rfl ?_); go_loud (refine wpList_insertF rfl rfl 52 (.tmp 12) (.const (.int .i64 1)) (.func 18) rfl gm rfl (.int .i64 1) (.func (.func 18) #[] #[]) rfl rfl 3 50 Try.underlying52 (.int .i64) Try.underlying3 rfl #[] 0 BM.out rfl ?_); intro w7 hs st; have n_BJ := Aside0.mk (Step.blk st (by (with_reducible repeat (first | refine blk_drewN ?_ _ | refine blk_drew ?_ | refine blk_alloc ?_ _)); exact BJ.out) (NBJM.out)); have n_BX := Aside0.mk (Step.blk st (by (with_reducible repeat (first | refine blk_drewN ?_ _ | refine blk_drew ?_ | refine blk_alloc ?_ _)); exact BX.out) (NBXM.out)); have n_B4 := Aside0.mk (Step.blk st (by (with_reducible repeat (first | refine blk_drewN ?_ _ | refine blk_drew ?_ | refine blk_alloc ?_ _)); exact B4.out) (NB4M.out)); have n_HB := Aside0.mk (Step.fresh st (by repeat (first | (with_reducible first | exact HB.out | apply below_alloc | apply pw_below_drewN | apply below_drew1) | exact HB.out)) GEM.out); clear HB BJ BX B4; have HB := n_HB; have BJ := n_BJ; have BX := n_BX; have B4 := n_B4; clear n_HB n_BJ n_BX n_B4; clear BM; have BM := Aside0.mk hs; clear hs st; have hx0 : w7.cell? ⟨gx, 0, none⟩ = some (.int .i64 3) := (blk_cell BX.out 0).trans rfl; have hx1 : w7.cell? ⟨gx, 1, none⟩ = some (.int .i64 (i : Int)) := (blk_cell BX.out 1).trans rfl)
    | ((with_reducible refine gate_ (.insert 52 (.tmp 12) (.const (.int .i64 2)) (.func 19)) rfl ?_); go_loud (refine wpList_insertF rfl rfl 52 (.tmp 12) (.const (.int .i64 2)) (.func 19) rfl gm rfl (.int .i64 2) (.func (.func 19) #[] #[]) rfl rfl 3 50 Try.underlying52 (.int .i64) Try.underlying3 rfl #[{ key := .int .i64 1, val := .func (.func 18) #[] #[], born := 0 }] 1 BM.out rfl ?_); intro w7 hs st; have n_BJ := Aside0.mk (Step.blk st (by (with_reducible repeat (first | refine blk_drewN ?_ _ | refine blk_drew ?_ | refine blk_alloc ?_ _)); exact BJ.out) (NBJM.out)); have n_BX := Aside0.mk (Step.blk st (by (with_reducible repeat (first | refine blk_drewN ?_ _ | refine blk_drew ?_ | refine blk_alloc ?_ _)); exact BX.out) (NBXM.out)); have n_B4 := Aside0.mk (Step.blk st (by (with_reducible repeat (first | refine blk_drewN ?_ _ | refine blk_drew ?_ | refine blk_alloc ?_ _)); exact B4.out) (NB4M.out)); have n_HB := Aside0.mk (Step.fresh st (by repeat (first | (with_reducible first | exact HB.out | apply below_alloc | apply pw_below_drewN | apply below_drew1) | exact HB.out)) GEM.out); clear HB BJ BX B4; have HB := n_HB; have BJ := n_BJ; have BX := n_BX; have B4 := n_B4; clear n_HB n_BJ n_BX n_B4; clear BM; have BM := Aside0.mk hs; clear hs st; have hx0 : w7.cell? ⟨gx, 0, none⟩ = some (.int .i64 3) := (blk_cell BX.out 0).trans rfl; have hx1 : w7.cell? ⟨gx, 1, none⟩ = some (.int .i64 (i : Int)) := (blk_cell BX.out 1).trans rfl)
    | ((with_reducible refine gate_ (.insert 52 (.tmp 12) (.const (.int .i64 3)) (.func 20)) rfl ?_); go_loud (refine wpList_insertF rfl rfl 52 (.tmp 12) (.const (.int .i64 3)) (.func 20) rfl gm rfl (.int .i64 3) (.func (.func 20) #[] #[]) rfl rfl 3 50 Try.underlying52 (.int .i64) Try.underlying3 rfl #[{ key := .int .i64 1, val := .func (.func 18) #[] #[], born := 0 }, { key := .int .i64 2, val := .func (.func 19) #[] #[], born := 1 }] 2 BM.out rfl ?_); intro w7 hs st; have n_BJ := Aside0.mk (Step.blk st (by (with_reducible repeat (first | refine blk_drewN ?_ _ | refine blk_drew ?_ | refine blk_alloc ?_ _)); exact BJ.out) (NBJM.out)); have n_BX := Aside0.mk (Step.blk st (by (with_reducible repeat (first | refine blk_drewN ?_ _ | refine blk_drew ?_ | refine blk_alloc ?_ _)); exact BX.out) (NBXM.out)); have n_B4 := Aside0.mk (Step.blk st (by (with_reducible repeat (first | refine blk_drewN ?_ _ | refine blk_drew ?_ | refine blk_alloc ?_ _)); exact B4.out) (NB4M.out)); have n_HB := Aside0.mk (Step.fresh st (by repeat (first | (with_reducible first | exact HB.out | apply below_alloc | apply pw_below_drewN | apply below_drew1) | exact HB.out)) GEM.out); clear HB BJ BX B4; have HB := n_HB; have BJ := n_BJ; have BX := n_BX; have B4 := n_B4; clear n_HB n_BJ n_BX n_B4; clear BM; have BM := Aside0.mk hs; clear hs st; have hx0 : w7.cell? ⟨gx, 0, none⟩ = some (.int .i64 3) := (blk_cell BX.out 0).trans rfl; have hx1 : w7.cell? ⟨gx, 1, none⟩ = some (.int .i64 (i : Int)) := (blk_cell BX.out 1).trans rfl)
    | ((with_reducible refine gate_dst (N := 17) rfl ?_); go_loud (refine wpList_load_mid rfl 25 (.tmp 16) rfl gj (i * 3) rfl [.int .i64 p.1, .int .i64 p.2.1, .slice A p.2.2.length c] _ (jrange BJ.out (by simpa using H0.out) (by simpa using H1.out) (by simpa using H2.out)) Try.underlying25 rfl size25 ?_))
    | ((with_reducible refine gate_dst (N := 7) rfl ?_); refine box_event ?hg (N := 7) ?hd (cs := #[.int .i64 0, .int .i64 0, .slice none 0 0]) (t := 53) ?hr ?_; (case hd => rfl); (case hg => rfl); (case hr => first | (go_simp; done) | (go_simp; rfl)); intro g7 hg w8 hbox hb; have B7 := Aside0.mk hbox; have GEB7 := Aside0.mk ((by rw [hg]; exact (below_size (by repeat (first | (with_reducible first | exact HB.out | apply below_alloc | apply pw_below_drewN | apply below_drew1) | exact HB.out)))) : w.heap.size ≤ g7); have NBJB7 := Aside0.mk ((by rw [hg]; exact Nat.ne_of_lt (blk_lt (by (with_reducible repeat (first | refine blk_drewN ?_ _ | refine blk_drew ?_ | refine blk_alloc ?_ _)); exact BJ.out))) : gj ≠ g7); have NBXB7 := Aside0.mk ((by rw [hg]; exact Nat.ne_of_lt (blk_lt (by (with_reducible repeat (first | refine blk_drewN ?_ _ | refine blk_drew ?_ | refine blk_alloc ?_ _)); exact BX.out))) : gx ≠ g7); have NB4B7 := Aside0.mk ((by rw [hg]; exact Nat.ne_of_lt (blk_lt (by (with_reducible repeat (first | refine blk_drewN ?_ _ | refine blk_drew ?_ | refine blk_alloc ?_ _)); exact B4.out))) : g4 ≠ g7); have NBMB7 := Aside0.mk ((by rw [hg]; exact Nat.ne_of_lt (blk_lt (by (with_reducible repeat (first | refine blk_drewN ?_ _ | refine blk_drew ?_ | refine blk_alloc ?_ _)); exact BM.out))) : gm ≠ g7); have n_BJ := Aside0.mk (blk_below (by (with_reducible repeat (first | refine blk_drewN ?_ _ | refine blk_drew ?_ | refine blk_alloc ?_ _)); exact BJ.out) hb); have n_BX := Aside0.mk (blk_below (by (with_reducible repeat (first | refine blk_drewN ?_ _ | refine blk_drew ?_ | refine blk_alloc ?_ _)); exact BX.out) hb); have n_B4 := Aside0.mk (blk_below (by (with_reducible repeat (first | refine blk_drewN ?_ _ | refine blk_drew ?_ | refine blk_alloc ?_ _)); exact B4.out) hb); have n_BM := Aside0.mk (blk_below (by (with_reducible repeat (first | refine blk_drewN ?_ _ | refine blk_drew ?_ | refine blk_alloc ?_ _)); exact BM.out) hb); have n_HB := Aside0.mk (below_step (by repeat (first | (with_reducible first | exact HB.out | apply below_alloc | apply pw_below_drewN | apply below_drew1) | exact HB.out)) hb); clear HB BJ BX B4 BM; have HB := n_HB; have BJ := n_BJ; have BX := n_BX; have B4 := n_B4; have BM := n_BM; clear n_HB n_BJ n_BX n_B4 n_BM; clear hbox hg hb; have hx0 : w8.cell? ⟨gx, 0, none⟩ = some (.int .i64 3) := (blk_cell BX.out 0).trans rfl; have hx1 : w8.cell? ⟨gx, 1, none⟩ = some (.int .i64 (i : Int)) := (blk_cell BX.out 1).trans rfl)
    | ((with_reducible refine gate_ (.store 53 (.tmp 7) (.tmp 17)) rfl ?_); go_loud (refine wpList_storeR rfl rfl 53 (.tmp 7) (.tmp 17) rfl g7 (0) rfl (.agg #[.int .i64 p.1, .int .i64 p.2.1, .slice A p.2.2.length c]) rfl [.int .i64 p.1, .int .i64 p.2.1, .slice A p.2.2.length c] rfl #[.int .i64 0, .int .i64 0, .slice none 0 0] 53 B7.out size53 (by simp) (by simp [Value.oneCell']) #[.int .i64 p.1, .int .i64 p.2.1, .slice A p.2.2.length c] rfl ?_); intro w9 hs st; have n_BJ := Aside0.mk (Step.blk st (by (with_reducible repeat (first | refine blk_drewN ?_ _ | refine blk_drew ?_ | refine blk_alloc ?_ _)); exact BJ.out) (NBJB7.out)); have n_BX := Aside0.mk (Step.blk st (by (with_reducible repeat (first | refine blk_drewN ?_ _ | refine blk_drew ?_ | refine blk_alloc ?_ _)); exact BX.out) (NBXB7.out)); have n_B4 := Aside0.mk (Step.blk st (by (with_reducible repeat (first | refine blk_drewN ?_ _ | refine blk_drew ?_ | refine blk_alloc ?_ _)); exact B4.out) (NB4B7.out)); have n_BM := Aside0.mk (Step.blk st (by (with_reducible repeat (first | refine blk_drewN ?_ _ | refine blk_drew ?_ | refine blk_alloc ?_ _)); exact BM.out) (NBMB7.out)); have n_HB := Aside0.mk (Step.fresh st (by repeat (first | (with_reducible first | exact HB.out | apply below_alloc | apply pw_below_drewN | apply below_drew1) | exact HB.out)) GEB7.out); clear HB BJ BX B4 BM; have HB := n_HB; have BJ := n_BJ; have BX := n_BX; have B4 := n_B4; have BM := n_BM; clear n_HB n_BJ n_BX n_B4 n_BM; clear B7; have B7 := Aside0.mk hs; clear hs st; have hx0 : w9.cell? ⟨gx, 0, none⟩ = some (.int .i64 3) := (blk_cell BX.out 0).trans rfl; have hx1 : w9.cell? ⟨gx, 1, none⟩ = some (.int .i64 (i : Int)) := (blk_cell BX.out 1).trans rfl)
    | ((with_reducible refine gate_dst (N := 21) rfl ?_); go_loud (refine wpList_lookupF rfl 52 (.tmp 18) (.tmp 20) rfl gm rfl (.int .i64 3) (.func (.func 20) #[] #[]) rfl 3 50 Try.underlying52 (.int .i64) Try.underlying3 rfl #[{ key := .int .i64 1, val := .func (.func 18) #[] #[], born := 0 }, { key := .int .i64 2, val := .func (.func 19) #[] #[], born := 1 }, { key := .int .i64 3, val := .func (.func 20) #[] #[], born := 2 }] 3 BM.out 2 rfl ?_))
    | ((with_reducible refine gate_dst (N := 22) rfl ?_); go_loud (refine wpList_load_row rfl 32 (.tmp 3) rfl gx rfl 32 #[.int .i64 3, .int .i64 (i : Int), .int .i64 a2, .int .i64 a3, .int .i64 a4, .int .i64 a5, .int .i64 a6] (0, 0) _ BX.out Try.underlying32 rfl size32 ?_))
    | (go_at_call 20; go_loud (refine (does3.calls (⟨3, (i : Int), a2, a3, a4, a5, a6⟩ : S32) p A c g7 ok none w _ B7.out HC.out (by repeat (first | (with_reducible first | exact HB.out | apply below_alloc | apply pw_below_drewN | apply below_drew1) | exact HB.out)) GEB7.out HLE.out HL.out HR.out).mono ?_); intro e w10 hd; obtain rfl := hd.1; have LJ := Aside0.mk (blk_lt BJ.out); have L4 := Aside0.mk (blk_lt B4.out); have n_BJ := Aside0.mk (Step.blk hd.2.1 (by (with_reducible repeat (first | refine blk_drewN ?_ _ | refine blk_drew ?_ | refine blk_alloc ?_ _)); exact BJ.out) (NBJB7.out)); have n_BX := Aside0.mk (Step.blk hd.2.1 (by (with_reducible repeat (first | refine blk_drewN ?_ _ | refine blk_drew ?_ | refine blk_alloc ?_ _)); exact BX.out) (NBXB7.out)); have n_B4 := Aside0.mk (Step.blk hd.2.1 (by (with_reducible repeat (first | refine blk_drewN ?_ _ | refine blk_drew ?_ | refine blk_alloc ?_ _)); exact B4.out) (NB4B7.out)); have n_HB := Aside0.mk (Step.fresh hd.2.1 (by repeat (first | (with_reducible first | exact HB.out | apply below_alloc | apply pw_below_drewN | apply below_drew1) | exact HB.out)) GEB7.out); clear HB BJ BX B4; have HB := n_HB; have BJ := n_BJ; have BX := n_BX; have B4 := n_B4; clear n_HB n_BJ n_BX n_B4; obtain ⟨A', c', h1_, h2_, h3_⟩ := hd.2.2; clear B7; skip; clear LJ L4 h1_ h2_ h3_ hd; have hx0 : w10.cell? ⟨gx, 0, none⟩ = some (.int .i64 3) := (blk_cell BX.out 0).trans rfl; have hx1 : w10.cell? ⟨gx, 1, none⟩ = some (.int .i64 (i : Int)) := (blk_cell BX.out 1).trans rfl)
    | ((with_reducible refine gate_ (.store 27 (.tmp 4) (.tmp 25)) rfl ?_); go_loud (refine wpList_storeR rfl rfl 27 (.tmp 4) (.tmp 25) rfl g4 (0) rfl (.agg #[.int .i64 0, .int .i64 0, .slice none 0 0, .int .i64 0, .int .i64 0, .slice none 0 0, .int .i64 0, .int .i64 0, .slice none 0 0, .int .i64 0, .int .i64 0, .slice none 0 0]) rfl [.int .i64 0, .int .i64 0, .slice none 0 0, .int .i64 0, .int .i64 0, .slice none 0 0, .int .i64 0, .int .i64 0, .slice none 0 0, .int .i64 0, .int .i64 0, .slice none 0 0] rfl #[.int .i64 0, .int .i64 0, .slice none 0 0, .int .i64 0, .int .i64 0, .slice none 0 0, .int .i64 0, .int .i64 0, .slice none 0 0, .int .i64 0, .int .i64 0, .slice none 0 0] 27 B4.out size27 (by simp) (by simp [Value.oneCell']) #[.int .i64 0, .int .i64 0, .slice none 0 0, .int .i64 0, .int .i64 0, .slice none 0 0, .int .i64 0, .int .i64 0, .slice none 0 0, .int .i64 0, .int .i64 0, .slice none 0 0] rfl ?_); intro w12 hs st; have n_BJ := Aside0.mk (Step.blk st (by (with_reducible repeat (first | refine blk_drewN ?_ _ | refine blk_drew ?_ | refine blk_alloc ?_ _)); exact BJ.out) (NBJB4.out)); have n_BX := Aside0.mk (Step.blk st (by (with_reducible repeat (first | refine blk_drewN ?_ _ | refine blk_drew ?_ | refine blk_alloc ?_ _)); exact BX.out) (NBXB4.out)); have n_HB := Aside0.mk (Step.fresh st (by repeat (first | (with_reducible first | exact HB.out | apply below_alloc | apply pw_below_drewN | apply below_drew1) | exact HB.out)) GEB4.out); clear HB BJ BX; have HB := n_HB; have BJ := n_BJ; have BX := n_BX; clear n_HB n_BJ n_BX; clear B4; have B4 := Aside0.mk hs; clear hs st; have hx0 : w12.cell? ⟨gx, 0, none⟩ = some (.int .i64 3) := (blk_cell BX.out 0).trans rfl; have hx1 : w12.cell? ⟨gx, 1, none⟩ = some (.int .i64 (i : Int)) := (blk_cell BX.out 1).trans rfl))
  (try simp only [Exit.inBlock, Exit.then])
  refine bodyPost_ret (results_row_tmp rfl _ _ g4 27 #[.int .i64 0, .int .i64 0, .slice none 0 0, .int .i64 0, .int .i64 0, .slice none 0 0, .int .i64 0, .int .i64 0, .slice none 0 0, .int .i64 0, .int .i64 0, .slice none 0 0] (0, 0) _ (.int .i64 5) rfl rfl B4.out Try.underlying27 rfl size27) rfl ?_
  exact ⟨rfl, by repeat (first | (with_reducible first | exact HB.out | apply below_alloc | apply pw_below_drewN | apply below_drew1) | exact HB.out)⟩
set_option maxHeartbeats 8000000 in
set_option maxRecDepth 100000 in
theorem journal_Apply.do3 (J : List Log) (cs : List Value) (i : Nat) (a2 a3 a4 a5 a6 : Int) (ok : Nat → Prop) (q : Log) (w : World) (hJ : JVF w ok J cs) (hi : i < 4) (hM : journal_May.f 3 (i : Int) a2 a3 a4 a5 a6 = some true) (hl : (lg J i).2.2.length ≤ 100000) (hr : step3 (lg J i) (⟨3, (i : Int), a2, a3, a4, a5, a6⟩ : S32) = some q) :
    Calls Try.prog 7 #[.agg cs.toArray, .agg #[.int .i64 3, .int .i64 (i : Int), .int .i64 a2, .int .i64 a3, .int .i64 a4, .int .i64 a5, .int .i64 a6]] w fun e w' => ∃ cs', e = .returned (.tuple #[.agg (List.toArray cs'), .int .i64 0]) ∧ JVF w' (fun k => (ok k ∧ k < w.heap.size) ∨ w.heap.size ≤ k) (J.set i q) cs' ∧ Below w.heap.size w w' := by
  have HB := Aside0.mk (Below.refl w.heap.size w)
  have HM := Aside0.mk hM
  have HJ := Aside0.mk hJ
  have HI := Aside0.mk hi
  have HCL := Aside0.mk hJ.now.len.2
  have q0 : (0 : Int) ≤ (i : Int) := by omega
  have q1 : (i : Int) < 4 := by omega
  obtain ⟨A, c, h0, h1, h2, hle, hC⟩ := hJ.at_ i hi
  obtain ⟨p, hp⟩ : ∃ p, p = lg J i := ⟨_, rfl⟩
  rw [← hp] at hr hl h0 h1 h2 hle hC
  have HC := Aside0.mk hC
  have HR := Aside0.mk hr
  have HL := Aside0.mk hl
  have HLE := Aside0.mk hle
  have H0 := Aside0.mk h0
  have H1 := Aside0.mk h1
  have H2 := Aside0.mk h2
  clear hM hJ hi h0 h1 h2 hle hC hr hl hp
  have hu25 := Try.underlying25
  have hu32 := Try.underlying32
  have hu53 := Try.underlying53
  go_enter Try.func7, Try.ntmps7
  go_wp2_with (first
    | ((with_reducible refine gate_dst (N := 2) rfl ?_); refine box_event ?hg (N := 2) ?hd (cs := cs.toArray) (t := 27) ?hr ?_; (case hd => rfl); (case hg => rfl); (case hr => first | (go_simp; done) | (go_simp; rfl)); intro gj hg w1 hbox hb; have BJ := Aside0.mk hbox; have GEBJ := Aside0.mk ((by rw [hg]; exact (below_size (by repeat (first | (with_reducible first | exact HB.out | apply below_alloc | apply pw_below_drewN | apply below_drew1) | exact HB.out)))) : w.heap.size ≤ gj); have n_HB := Aside0.mk (below_step (by repeat (first | (with_reducible first | exact HB.out | apply below_alloc | apply pw_below_drewN | apply below_drew1) | exact HB.out)) hb); clear HB ; have HB := n_HB; clear n_HB ; clear hbox hg hb)
    | ((with_reducible refine gate_dst (N := 3) rfl ?_); refine box_event ?hg (N := 3) ?hd (cs := #[.int .i64 3, .int .i64 (i : Int), .int .i64 a2, .int .i64 a3, .int .i64 a4, .int .i64 a5, .int .i64 a6]) (t := 32) ?hr ?_; (case hd => rfl); (case hg => rfl); (case hr => first | (go_simp; done) | (go_simp; rfl)); intro gx hg w2 hbox hb; have BX := Aside0.mk hbox; have GEBX := Aside0.mk ((by rw [hg]; exact (below_size (by repeat (first | (with_reducible first | exact HB.out | apply below_alloc | apply pw_below_drewN | apply below_drew1) | exact HB.out)))) : w.heap.size ≤ gx); have NBJBX := Aside0.mk ((by rw [hg]; exact Nat.ne_of_lt (blk_lt (by (with_reducible repeat (first | refine blk_drewN ?_ _ | refine blk_drew ?_ | refine blk_alloc ?_ _)); exact BJ.out))) : gj ≠ gx); have n_BJ := Aside0.mk (blk_below (by (with_reducible repeat (first | refine blk_drewN ?_ _ | refine blk_drew ?_ | refine blk_alloc ?_ _)); exact BJ.out) hb); have n_HB := Aside0.mk (below_step (by repeat (first | (with_reducible first | exact HB.out | apply below_alloc | apply pw_below_drewN | apply below_drew1) | exact HB.out)) hb); clear HB BJ; have HB := n_HB; have BJ := n_BJ; clear n_HB n_BJ; clear hbox hg hb; have hx0 : w2.cell? ⟨gx, 0, none⟩ = some (.int .i64 3) := (blk_cell BX.out 0).trans rfl; have hx1 : w2.cell? ⟨gx, 1, none⟩ = some (.int .i64 (i : Int)) := (blk_cell BX.out 1).trans rfl)
    | ((with_reducible refine gate_dst (N := 4) rfl ?_); refine box_event ?hg (N := 4) ?hd (cs := #[.int .i64 0, .int .i64 0, .slice none 0 0, .int .i64 0, .int .i64 0, .slice none 0 0, .int .i64 0, .int .i64 0, .slice none 0 0, .int .i64 0, .int .i64 0, .slice none 0 0]) (t := 27) ?hr ?_; (case hd => rfl); (case hg => rfl); (case hr => first | (go_simp; done) | (go_simp; rfl)); intro g4 hg w3 hbox hb; have B4 := Aside0.mk hbox; have GEB4 := Aside0.mk ((by rw [hg]; exact (below_size (by repeat (first | (with_reducible first | exact HB.out | apply below_alloc | apply pw_below_drewN | apply below_drew1) | exact HB.out)))) : w.heap.size ≤ g4); have NBJB4 := Aside0.mk ((by rw [hg]; exact Nat.ne_of_lt (blk_lt (by (with_reducible repeat (first | refine blk_drewN ?_ _ | refine blk_drew ?_ | refine blk_alloc ?_ _)); exact BJ.out))) : gj ≠ g4); have NBXB4 := Aside0.mk ((by rw [hg]; exact Nat.ne_of_lt (blk_lt (by (with_reducible repeat (first | refine blk_drewN ?_ _ | refine blk_drew ?_ | refine blk_alloc ?_ _)); exact BX.out))) : gx ≠ g4); have n_BJ := Aside0.mk (blk_below (by (with_reducible repeat (first | refine blk_drewN ?_ _ | refine blk_drew ?_ | refine blk_alloc ?_ _)); exact BJ.out) hb); have n_BX := Aside0.mk (blk_below (by (with_reducible repeat (first | refine blk_drewN ?_ _ | refine blk_drew ?_ | refine blk_alloc ?_ _)); exact BX.out) hb); have n_HB := Aside0.mk (below_step (by repeat (first | (with_reducible first | exact HB.out | apply below_alloc | apply pw_below_drewN | apply below_drew1) | exact HB.out)) hb); clear HB BJ BX; have HB := n_HB; have BJ := n_BJ; have BX := n_BX; clear n_HB n_BJ n_BX; clear hbox hg hb; have hx0 : w3.cell? ⟨gx, 0, none⟩ = some (.int .i64 3) := (blk_cell BX.out 0).trans rfl; have hx1 : w3.cell? ⟨gx, 1, none⟩ = some (.int .i64 (i : Int)) := (blk_cell BX.out 1).trans rfl)
    | ((with_reducible refine gate_dst (N := 8) rfl ?_); go_loud (refine wpList_load_row rfl 32 (.tmp 3) rfl gx rfl 32 #[.int .i64 3, .int .i64 (i : Int), .int .i64 a2, .int .i64 a3, .int .i64 a4, .int .i64 a5, .int .i64 a6] (0, 0) _ BX.out Try.underlying32 rfl size32 ?_))
    | ((with_reducible refine gate_callee (f := 17) rfl ?_); refine goesL_ (some 9) rfl rfl Try.func17 (by kernel_rfl) rfl #[.agg #[.int .i64 3, .int .i64 (i : Int), .int .i64 a2, .int .i64 a3, .int .i64 a4, .int .i64 a5, .int .i64 a6]] rfl (by (try simp only [List.map_toArray, List.map_cons, List.map_nil]); first | done | rfl) ?_; go_loud (refine (journal_May.calls 3 (i : Int) a2 a3 a4 a5 a6 true _ HM.out).mono ?_); rintro e w5 ⟨rfl, hb⟩; refine ⟨_, rfl, ?_⟩; have n_BJ := Aside0.mk (blk_below (by (with_reducible repeat (first | refine blk_drewN ?_ _ | refine blk_drew ?_ | refine blk_alloc ?_ _)); exact BJ.out) hb); have n_BX := Aside0.mk (blk_below (by (with_reducible repeat (first | refine blk_drewN ?_ _ | refine blk_drew ?_ | refine blk_alloc ?_ _)); exact BX.out) hb); have n_B4 := Aside0.mk (blk_below (by (with_reducible repeat (first | refine blk_drewN ?_ _ | refine blk_drew ?_ | refine blk_alloc ?_ _)); exact B4.out) hb); have n_HB := Aside0.mk (below_step (by repeat (first | (with_reducible first | exact HB.out | apply below_alloc | apply pw_below_drewN | apply below_drew1) | exact HB.out)) hb); clear HB BJ BX B4; have HB := n_HB; have BJ := n_BJ; have BX := n_BX; have B4 := n_B4; clear n_HB n_BJ n_BX n_B4; clear hb; have hx0 : w5.cell? ⟨gx, 0, none⟩ = some (.int .i64 3) := (blk_cell BX.out 0).trans rfl; have hx1 : w5.cell? ⟨gx, 1, none⟩ = some (.int .i64 (i : Int)) := (blk_cell BX.out 1).trans rfl)
    | ((with_reducible refine gate_dst (N := 12) rfl ?_); go_loud (refine wpList_makeMapF rfl 52 rfl ?_); intro w6 gm hg hbm hb; have BM := Aside0.mk hbm; have GEM := Aside0.mk ((by rw [hg]; exact (below_size (by repeat (first | (with_reducible first | exact HB.out | apply below_alloc | apply pw_below_drewN | apply below_drew1) | exact HB.out)))) : w.heap.size ≤ gm); have NBJM := Aside0.mk ((by rw [hg]; exact Nat.ne_of_lt (blk_lt (by (with_reducible repeat (first | refine blk_drewN ?_ _ | refine blk_drew ?_ | refine blk_alloc ?_ _)); exact BJ.out))) : gj ≠ gm); have NBXM := Aside0.mk ((by rw [hg]; exact Nat.ne_of_lt (blk_lt (by (with_reducible repeat (first | refine blk_drewN ?_ _ | refine blk_drew ?_ | refine blk_alloc ?_ _)); exact BX.out))) : gx ≠ gm); have NB4M := Aside0.mk ((by rw [hg]; exact Nat.ne_of_lt (blk_lt (by (with_reducible repeat (first | refine blk_drewN ?_ _ | refine blk_drew ?_ | refine blk_alloc ?_ _)); exact B4.out))) : g4 ≠ gm); have n_BJ := Aside0.mk (blk_below (by (with_reducible repeat (first | refine blk_drewN ?_ _ | refine blk_drew ?_ | refine blk_alloc ?_ _)); exact BJ.out) hb); have n_BX := Aside0.mk (blk_below (by (with_reducible repeat (first | refine blk_drewN ?_ _ | refine blk_drew ?_ | refine blk_alloc ?_ _)); exact BX.out) hb); have n_B4 := Aside0.mk (blk_below (by (with_reducible repeat (first | refine blk_drewN ?_ _ | refine blk_drew ?_ | refine blk_alloc ?_ _)); exact B4.out) hb); have n_HB := Aside0.mk (below_step (by repeat (first | (with_reducible first | exact HB.out | apply below_alloc | apply pw_below_drewN | apply below_drew1) | exact HB.out)) hb); clear HB BJ BX B4; have HB := n_HB; have BJ := n_BJ; have BX := n_BX; have B4 := n_B4; clear n_HB n_BJ n_BX n_B4; clear hg hbm hb; have hx0 : w6.cell? ⟨gx, 0, none⟩ = some (.int .i64 3) := (blk_cell BX.out 0).trans rfl; have hx1 : w6.cell? ⟨gx, 1, none⟩ = some (.int .i64 (i : Int)) := (blk_cell BX.out 1).trans rfl)
    | ((with_reducible refine gate_ (.insert 52 (.tmp 12) (.const (.int .i64 1)) (.func 18)) rfl ?_); go_loud (refine wpList_insertF rfl rfl 52 (.tmp 12) (.const (.int .i64 1)) (.func 18) rfl gm rfl (.int .i64 1) (.func (.func 18) #[] #[]) rfl rfl 3 50 Try.underlying52 (.int .i64) Try.underlying3 rfl #[] 0 BM.out rfl ?_); intro w7 hs st; have n_BJ := Aside0.mk (Step.blk st (by (with_reducible repeat (first | refine blk_drewN ?_ _ | refine blk_drew ?_ | refine blk_alloc ?_ _)); exact BJ.out) (NBJM.out)); have n_BX := Aside0.mk (Step.blk st (by (with_reducible repeat (first | refine blk_drewN ?_ _ | refine blk_drew ?_ | refine blk_alloc ?_ _)); exact BX.out) (NBXM.out)); have n_B4 := Aside0.mk (Step.blk st (by (with_reducible repeat (first | refine blk_drewN ?_ _ | refine blk_drew ?_ | refine blk_alloc ?_ _)); exact B4.out) (NB4M.out)); have n_HB := Aside0.mk (Step.fresh st (by repeat (first | (with_reducible first | exact HB.out | apply below_alloc | apply pw_below_drewN | apply below_drew1) | exact HB.out)) GEM.out); clear HB BJ BX B4; have HB := n_HB; have BJ := n_BJ; have BX := n_BX; have B4 := n_B4; clear n_HB n_BJ n_BX n_B4; clear BM; have BM := Aside0.mk hs; clear hs st; have hx0 : w7.cell? ⟨gx, 0, none⟩ = some (.int .i64 3) := (blk_cell BX.out 0).trans rfl; have hx1 : w7.cell? ⟨gx, 1, none⟩ = some (.int .i64 (i : Int)) := (blk_cell BX.out 1).trans rfl)
    | ((with_reducible refine gate_ (.insert 52 (.tmp 12) (.const (.int .i64 2)) (.func 19)) rfl ?_); go_loud (refine wpList_insertF rfl rfl 52 (.tmp 12) (.const (.int .i64 2)) (.func 19) rfl gm rfl (.int .i64 2) (.func (.func 19) #[] #[]) rfl rfl 3 50 Try.underlying52 (.int .i64) Try.underlying3 rfl #[{ key := .int .i64 1, val := .func (.func 18) #[] #[], born := 0 }] 1 BM.out rfl ?_); intro w7 hs st; have n_BJ := Aside0.mk (Step.blk st (by (with_reducible repeat (first | refine blk_drewN ?_ _ | refine blk_drew ?_ | refine blk_alloc ?_ _)); exact BJ.out) (NBJM.out)); have n_BX := Aside0.mk (Step.blk st (by (with_reducible repeat (first | refine blk_drewN ?_ _ | refine blk_drew ?_ | refine blk_alloc ?_ _)); exact BX.out) (NBXM.out)); have n_B4 := Aside0.mk (Step.blk st (by (with_reducible repeat (first | refine blk_drewN ?_ _ | refine blk_drew ?_ | refine blk_alloc ?_ _)); exact B4.out) (NB4M.out)); have n_HB := Aside0.mk (Step.fresh st (by repeat (first | (with_reducible first | exact HB.out | apply below_alloc | apply pw_below_drewN | apply below_drew1) | exact HB.out)) GEM.out); clear HB BJ BX B4; have HB := n_HB; have BJ := n_BJ; have BX := n_BX; have B4 := n_B4; clear n_HB n_BJ n_BX n_B4; clear BM; have BM := Aside0.mk hs; clear hs st; have hx0 : w7.cell? ⟨gx, 0, none⟩ = some (.int .i64 3) := (blk_cell BX.out 0).trans rfl; have hx1 : w7.cell? ⟨gx, 1, none⟩ = some (.int .i64 (i : Int)) := (blk_cell BX.out 1).trans rfl)
    | ((with_reducible refine gate_ (.insert 52 (.tmp 12) (.const (.int .i64 3)) (.func 20)) rfl ?_); go_loud (refine wpList_insertF rfl rfl 52 (.tmp 12) (.const (.int .i64 3)) (.func 20) rfl gm rfl (.int .i64 3) (.func (.func 20) #[] #[]) rfl rfl 3 50 Try.underlying52 (.int .i64) Try.underlying3 rfl #[{ key := .int .i64 1, val := .func (.func 18) #[] #[], born := 0 }, { key := .int .i64 2, val := .func (.func 19) #[] #[], born := 1 }] 2 BM.out rfl ?_); intro w7 hs st; have n_BJ := Aside0.mk (Step.blk st (by (with_reducible repeat (first | refine blk_drewN ?_ _ | refine blk_drew ?_ | refine blk_alloc ?_ _)); exact BJ.out) (NBJM.out)); have n_BX := Aside0.mk (Step.blk st (by (with_reducible repeat (first | refine blk_drewN ?_ _ | refine blk_drew ?_ | refine blk_alloc ?_ _)); exact BX.out) (NBXM.out)); have n_B4 := Aside0.mk (Step.blk st (by (with_reducible repeat (first | refine blk_drewN ?_ _ | refine blk_drew ?_ | refine blk_alloc ?_ _)); exact B4.out) (NB4M.out)); have n_HB := Aside0.mk (Step.fresh st (by repeat (first | (with_reducible first | exact HB.out | apply below_alloc | apply pw_below_drewN | apply below_drew1) | exact HB.out)) GEM.out); clear HB BJ BX B4; have HB := n_HB; have BJ := n_BJ; have BX := n_BX; have B4 := n_B4; clear n_HB n_BJ n_BX n_B4; clear BM; have BM := Aside0.mk hs; clear hs st; have hx0 : w7.cell? ⟨gx, 0, none⟩ = some (.int .i64 3) := (blk_cell BX.out 0).trans rfl; have hx1 : w7.cell? ⟨gx, 1, none⟩ = some (.int .i64 (i : Int)) := (blk_cell BX.out 1).trans rfl)
    | ((with_reducible refine gate_dst (N := 17) rfl ?_); go_loud (refine wpList_load_mid rfl 25 (.tmp 16) rfl gj (i * 3) rfl [.int .i64 p.1, .int .i64 p.2.1, .slice A p.2.2.length c] _ (jrange BJ.out (by simpa using H0.out) (by simpa using H1.out) (by simpa using H2.out)) Try.underlying25 rfl size25 ?_))
    | ((with_reducible refine gate_dst (N := 7) rfl ?_); refine box_event ?hg (N := 7) ?hd (cs := #[.int .i64 0, .int .i64 0, .slice none 0 0]) (t := 53) ?hr ?_; (case hd => rfl); (case hg => rfl); (case hr => first | (go_simp; done) | (go_simp; rfl)); intro g7 hg w8 hbox hb; have B7 := Aside0.mk hbox; have GEB7 := Aside0.mk ((by rw [hg]; exact (below_size (by repeat (first | (with_reducible first | exact HB.out | apply below_alloc | apply pw_below_drewN | apply below_drew1) | exact HB.out)))) : w.heap.size ≤ g7); have NBJB7 := Aside0.mk ((by rw [hg]; exact Nat.ne_of_lt (blk_lt (by (with_reducible repeat (first | refine blk_drewN ?_ _ | refine blk_drew ?_ | refine blk_alloc ?_ _)); exact BJ.out))) : gj ≠ g7); have NBXB7 := Aside0.mk ((by rw [hg]; exact Nat.ne_of_lt (blk_lt (by (with_reducible repeat (first | refine blk_drewN ?_ _ | refine blk_drew ?_ | refine blk_alloc ?_ _)); exact BX.out))) : gx ≠ g7); have NB4B7 := Aside0.mk ((by rw [hg]; exact Nat.ne_of_lt (blk_lt (by (with_reducible repeat (first | refine blk_drewN ?_ _ | refine blk_drew ?_ | refine blk_alloc ?_ _)); exact B4.out))) : g4 ≠ g7); have NBMB7 := Aside0.mk ((by rw [hg]; exact Nat.ne_of_lt (blk_lt (by (with_reducible repeat (first | refine blk_drewN ?_ _ | refine blk_drew ?_ | refine blk_alloc ?_ _)); exact BM.out))) : gm ≠ g7); have n_BJ := Aside0.mk (blk_below (by (with_reducible repeat (first | refine blk_drewN ?_ _ | refine blk_drew ?_ | refine blk_alloc ?_ _)); exact BJ.out) hb); have n_BX := Aside0.mk (blk_below (by (with_reducible repeat (first | refine blk_drewN ?_ _ | refine blk_drew ?_ | refine blk_alloc ?_ _)); exact BX.out) hb); have n_B4 := Aside0.mk (blk_below (by (with_reducible repeat (first | refine blk_drewN ?_ _ | refine blk_drew ?_ | refine blk_alloc ?_ _)); exact B4.out) hb); have n_BM := Aside0.mk (blk_below (by (with_reducible repeat (first | refine blk_drewN ?_ _ | refine blk_drew ?_ | refine blk_alloc ?_ _)); exact BM.out) hb); have n_HB := Aside0.mk (below_step (by repeat (first | (with_reducible first | exact HB.out | apply below_alloc | apply pw_below_drewN | apply below_drew1) | exact HB.out)) hb); clear HB BJ BX B4 BM; have HB := n_HB; have BJ := n_BJ; have BX := n_BX; have B4 := n_B4; have BM := n_BM; clear n_HB n_BJ n_BX n_B4 n_BM; clear hbox hg hb; have hx0 : w8.cell? ⟨gx, 0, none⟩ = some (.int .i64 3) := (blk_cell BX.out 0).trans rfl; have hx1 : w8.cell? ⟨gx, 1, none⟩ = some (.int .i64 (i : Int)) := (blk_cell BX.out 1).trans rfl)
    | ((with_reducible refine gate_ (.store 53 (.tmp 7) (.tmp 17)) rfl ?_); go_loud (refine wpList_storeR rfl rfl 53 (.tmp 7) (.tmp 17) rfl g7 (0) rfl (.agg #[.int .i64 p.1, .int .i64 p.2.1, .slice A p.2.2.length c]) rfl [.int .i64 p.1, .int .i64 p.2.1, .slice A p.2.2.length c] rfl #[.int .i64 0, .int .i64 0, .slice none 0 0] 53 B7.out size53 (by simp) (by simp [Value.oneCell']) #[.int .i64 p.1, .int .i64 p.2.1, .slice A p.2.2.length c] rfl ?_); intro w9 hs st; have n_BJ := Aside0.mk (Step.blk st (by (with_reducible repeat (first | refine blk_drewN ?_ _ | refine blk_drew ?_ | refine blk_alloc ?_ _)); exact BJ.out) (NBJB7.out)); have n_BX := Aside0.mk (Step.blk st (by (with_reducible repeat (first | refine blk_drewN ?_ _ | refine blk_drew ?_ | refine blk_alloc ?_ _)); exact BX.out) (NBXB7.out)); have n_B4 := Aside0.mk (Step.blk st (by (with_reducible repeat (first | refine blk_drewN ?_ _ | refine blk_drew ?_ | refine blk_alloc ?_ _)); exact B4.out) (NB4B7.out)); have n_BM := Aside0.mk (Step.blk st (by (with_reducible repeat (first | refine blk_drewN ?_ _ | refine blk_drew ?_ | refine blk_alloc ?_ _)); exact BM.out) (NBMB7.out)); have n_HB := Aside0.mk (Step.fresh st (by repeat (first | (with_reducible first | exact HB.out | apply below_alloc | apply pw_below_drewN | apply below_drew1) | exact HB.out)) GEB7.out); clear HB BJ BX B4 BM; have HB := n_HB; have BJ := n_BJ; have BX := n_BX; have B4 := n_B4; have BM := n_BM; clear n_HB n_BJ n_BX n_B4 n_BM; clear B7; have B7 := Aside0.mk hs; clear hs st; have hx0 : w9.cell? ⟨gx, 0, none⟩ = some (.int .i64 3) := (blk_cell BX.out 0).trans rfl; have hx1 : w9.cell? ⟨gx, 1, none⟩ = some (.int .i64 (i : Int)) := (blk_cell BX.out 1).trans rfl)
    | ((with_reducible refine gate_dst (N := 21) rfl ?_); go_loud (refine wpList_lookupF rfl 52 (.tmp 18) (.tmp 20) rfl gm rfl (.int .i64 3) (.func (.func 20) #[] #[]) rfl 3 50 Try.underlying52 (.int .i64) Try.underlying3 rfl #[{ key := .int .i64 1, val := .func (.func 18) #[] #[], born := 0 }, { key := .int .i64 2, val := .func (.func 19) #[] #[], born := 1 }, { key := .int .i64 3, val := .func (.func 20) #[] #[], born := 2 }] 3 BM.out 2 rfl ?_))
    | ((with_reducible refine gate_dst (N := 22) rfl ?_); go_loud (refine wpList_load_row rfl 32 (.tmp 3) rfl gx rfl 32 #[.int .i64 3, .int .i64 (i : Int), .int .i64 a2, .int .i64 a3, .int .i64 a4, .int .i64 a5, .int .i64 a6] (0, 0) _ BX.out Try.underlying32 rfl size32 ?_))
    | (go_at_call 20; go_loud (refine (does3.calls (⟨3, (i : Int), a2, a3, a4, a5, a6⟩ : S32) p A c g7 ok (some q) w _ B7.out HC.out (by repeat (first | (with_reducible first | exact HB.out | apply below_alloc | apply pw_below_drewN | apply below_drew1) | exact HB.out)) GEB7.out HLE.out HL.out HR.out).mono ?_); intro e w10 hd; obtain rfl := hd.1; have LJ := Aside0.mk (blk_lt BJ.out); have L4 := Aside0.mk (blk_lt B4.out); have n_BJ := Aside0.mk (Step.blk hd.2.1 (by (with_reducible repeat (first | refine blk_drewN ?_ _ | refine blk_drew ?_ | refine blk_alloc ?_ _)); exact BJ.out) (NBJB7.out)); have n_BX := Aside0.mk (Step.blk hd.2.1 (by (with_reducible repeat (first | refine blk_drewN ?_ _ | refine blk_drew ?_ | refine blk_alloc ?_ _)); exact BX.out) (NBXB7.out)); have n_B4 := Aside0.mk (Step.blk hd.2.1 (by (with_reducible repeat (first | refine blk_drewN ?_ _ | refine blk_drew ?_ | refine blk_alloc ?_ _)); exact B4.out) (NB4B7.out)); have n_HB := Aside0.mk (Step.fresh hd.2.1 (by repeat (first | (with_reducible first | exact HB.out | apply below_alloc | apply pw_below_drewN | apply below_drew1) | exact HB.out)) GEB7.out); clear HB BJ BX B4; have HB := n_HB; have BJ := n_BJ; have BX := n_BX; have B4 := n_B4; clear n_HB n_BJ n_BX n_B4; obtain ⟨A', c', h1_, h2_, h3_⟩ := hd.2.2; clear B7; have B7 : Aside0 (w10.heap[g7]? = some (.cells #[.int .i64 q.1, .int .i64 q.2.1, .slice A' q.2.2.length c'] 53 (0, 0))) := Aside0.mk h1_; have HLE2 : Aside0 (q.2.2.length ≤ c') := Aside0.mk h2_; have HF : Aside0 (Kd.F k32 w10 (fun k => ((ok k ∧ k < w.heap.size) ∨ w.heap.size ≤ k) ∧ k ≠ gj ∧ k ≠ g4) A' q.2.2.length q.2.2) := Aside0.mk (Kd.F_mono h3_ (fun k hk => by have h_2 := LJ.out; have h_3 := L4.out; have h_4 := GEBJ.out; have h_5 := GEB4.out; exact ⟨hk.1.imp id (fun h_ => by omega), by rcases hk.1 with h_ | h_ <;> omega, by rcases hk.1 with h_ | h_ <;> omega⟩)); clear LJ L4 h1_ h2_ h3_ hd; have hx0 : w10.cell? ⟨gx, 0, none⟩ = some (.int .i64 3) := (blk_cell BX.out 0).trans rfl; have hx1 : w10.cell? ⟨gx, 1, none⟩ = some (.int .i64 (i : Int)) := (blk_cell BX.out 1).trans rfl)
    | ((with_reducible refine gate_dst (N := 28) rfl ?_); go_loud (refine wpList_load_row rfl 53 (.tmp 7) rfl g7 rfl 53 #[.int .i64 q.1, .int .i64 q.2.1, .slice A' q.2.2.length c'] (0, 0) _ B7.out Try.underlying53 rfl size53 ?_))
    | ((with_reducible refine gate_ (.store 25 (.tmp 29) (.tmp 28)) rfl ?_); go_loud (refine wpList_storeR rfl rfl 25 (.tmp 29) (.tmp 28) rfl gj (i * 3) rfl (.agg #[.int .i64 q.1, .int .i64 q.2.1, .slice A' q.2.2.length c']) rfl [.int .i64 q.1, .int .i64 q.2.1, .slice A' q.2.2.length c'] rfl cs.toArray 27 BJ.out size25 (by have h_ := HCL.out; have hi_ := HI.out; simp [h_]; omega) (by simp [Value.oneCell']) (setCs cs i [.int .i64 q.1, .int .i64 q.2.1, .slice A' q.2.2.length c']).toArray (by simp [setCs]) ?_); intro w11 hs st; have HF2 := Aside0.mk (Kd.F_keep HF.out st.1 (fun k hk => hk.2.1)); have n_BX := Aside0.mk (Step.blk st (by (with_reducible repeat (first | refine blk_drewN ?_ _ | refine blk_drew ?_ | refine blk_alloc ?_ _)); exact BX.out) (NBJBX.out.symm)); have n_B4 := Aside0.mk (Step.blk st (by (with_reducible repeat (first | refine blk_drewN ?_ _ | refine blk_drew ?_ | refine blk_alloc ?_ _)); exact B4.out) (NBJB4.out.symm)); have n_HB := Aside0.mk (Step.fresh st (by repeat (first | (with_reducible first | exact HB.out | apply below_alloc | apply pw_below_drewN | apply below_drew1) | exact HB.out)) GEBJ.out); clear HB BX B4; have HB := n_HB; have BX := n_BX; have B4 := n_B4; clear n_HB n_BX n_B4; clear BJ; have BJ := Aside0.mk hs; clear hs st; have hx0 : w11.cell? ⟨gx, 0, none⟩ = some (.int .i64 3) := (blk_cell BX.out 0).trans rfl; have hx1 : w11.cell? ⟨gx, 1, none⟩ = some (.int .i64 (i : Int)) := (blk_cell BX.out 1).trans rfl)
    | ((with_reducible refine gate_dst (N := 30) rfl ?_); have HJ2 := Aside0.mk (JV.set (HJ.out.now.below HB.out) HI.out HLE2.out (Kd.F_now HF2.out)); have hl12 := Aside0.mk (show (setCs cs i [.int .i64 q.1, .int .i64 q.2.1, .slice A' q.2.2.length c']).length = 12 from HJ2.out.len.2); (with_reducible refine gate_dst (N := 30) rfl ?_); go_loud (refine wpList_load_row rfl 27 (.tmp 2) rfl gj rfl 27 (setCs cs i [.int .i64 q.1, .int .i64 q.2.1, .slice A' q.2.2.length c']).toArray (0, 0) _ BJ.out Try.underlying27 rfl (by rw [size27, List.size_toArray, hl12.out]) ?_))
    | ((with_reducible refine gate_ (.store 27 (.tmp 4) (.tmp 30)) rfl ?_); go_loud (refine wpList_storeR rfl rfl 27 (.tmp 4) (.tmp 30) rfl g4 (0) rfl (.agg (setCs cs i [.int .i64 q.1, .int .i64 q.2.1, .slice A' q.2.2.length c']).toArray) rfl (setCs cs i [.int .i64 q.1, .int .i64 q.2.1, .slice A' q.2.2.length c']) rfl #[.int .i64 0, .int .i64 0, .slice none 0 0, .int .i64 0, .int .i64 0, .slice none 0 0, .int .i64 0, .int .i64 0, .slice none 0 0, .int .i64 0, .int .i64 0, .slice none 0 0] 27 B4.out (by rw [size27, hl12.out]) (by rw [hl12.out]; decide) (Kd.K_one _ HJ2.out) (setCs cs i [.int .i64 q.1, .int .i64 q.2.1, .slice A' q.2.2.length c']).toArray (by rw [hl12.out]; simp) ?_); intro w12 hs st; have HF3 := Aside0.mk (Kd.F_keep HF2.out st.1 (fun k hk => hk.2.2)); have n_BJ := Aside0.mk (Step.blk st (by (with_reducible repeat (first | refine blk_drewN ?_ _ | refine blk_drew ?_ | refine blk_alloc ?_ _)); exact BJ.out) (NBJB4.out)); have n_BX := Aside0.mk (Step.blk st (by (with_reducible repeat (first | refine blk_drewN ?_ _ | refine blk_drew ?_ | refine blk_alloc ?_ _)); exact BX.out) (NBXB4.out)); have n_HB := Aside0.mk (Step.fresh st (by repeat (first | (with_reducible first | exact HB.out | apply below_alloc | apply pw_below_drewN | apply below_drew1) | exact HB.out)) GEB4.out); clear HB BJ BX; have HB := n_HB; have BJ := n_BJ; have BX := n_BX; clear n_HB n_BJ n_BX; clear B4; have B4 := Aside0.mk hs; clear hs st; have hx0 : w12.cell? ⟨gx, 0, none⟩ = some (.int .i64 3) := (blk_cell BX.out 0).trans rfl; have hx1 : w12.cell? ⟨gx, 1, none⟩ = some (.int .i64 (i : Int)) := (blk_cell BX.out 1).trans rfl))
  (try simp only [Exit.inBlock, Exit.then])
  refine bodyPost_ret (results_row_tmp rfl _ _ g4 27 (setCs cs i [.int .i64 q.1, .int .i64 q.2.1, .slice A' q.2.2.length c']).toArray (0, 0) _ (.int .i64 0) rfl rfl B4.out Try.underlying27 rfl (by rw [size27, List.size_toArray, hl12.out])) rfl ?_
  exact ⟨_, rfl, JVF.set ((HJ.out.below HB.out).mono (fun k hk => .inl hk)) HI.out HLE2.out (Kd.F_mono HF3.out (fun k hk => hk.1)), by repeat (first | (with_reducible first | exact HB.out | apply below_alloc | apply pw_below_drewN | apply below_drew1) | exact HB.out)⟩
/-- What an entry makes of a log. -/
def applyL (p : Log) (x : S32) : Option Log := if x.f0 = 1 then step1 p x else if x.f0 = 2 then step2 p x else step3 p x
def mayE (x : S32) : Bool := mayB x.f0 x.f1 x.f2 x.f3 x.f4 x.f5 x.f6
/-- What an entry makes of a journal, and the error. -/
def applyJ (J : List Log) (x : S32) : List Log × Int := if mayE x = true then (match applyL (lg J x.f1.toNat) x with
  | none => (J0, 5)
  | some q => (J.set x.f1.toNat q, 0)) else (J0, 1)
theorem mayE_parts {x : S32} (h : mayE x = true) : (x.f0 = 1 ∨ x.f0 = 2 ∨ x.f0 = 3) ∧ 0 ≤ x.f1 ∧ x.f1 ≤ 3 := by
  unfold mayE mayB at h
  rw [Bool.and_eq_true, Bool.and_eq_true] at h
  refine ⟨?_, of_decide_eq_true h.1.2⟩
  by_cases k1 : x.f0 = 1
  · exact .inl k1
  · by_cases k2 : x.f0 = 2
    · exact .inr (.inl k2)
    · by_cases k3 : x.f0 = 3
      · exact .inr (.inr k3)
      · rw [if_neg k1, if_neg k3, if_neg k2] at h
        exact absurd h.1.1 (by simp)
theorem journal_Apply.calls (J J' : List Log) (cs : List Value) (x : S32) (er : Int) (ok : Nat → Prop) (w : World) (hJ : JVF w ok J cs) (hl : ∀ i, i < 4 → (lg J i).2.2.length ≤ 100000) (h : applyJ J x = (J', er)) :
    Calls Try.prog 7 #[.agg cs.toArray, .agg (ecells x)] w fun e w' => ∃ cs', e = .returned (.tuple #[.agg (List.toArray cs'), .int .i64 er]) ∧ JVF w' (fun k => (ok k ∧ k < w.heap.size) ∨ w.heap.size ≤ k) J' cs' ∧ Below w.heap.size w w' := by
  unfold applyJ at h
  by_cases hm : mayE x = true
  · rw [if_pos hm] at h
    obtain ⟨hk, h0, h1⟩ := mayE_parts hm
    obtain ⟨a0, a1, a2, a3, a4, a5, a6⟩ := x
    simp only at hk h0 h1 h
    obtain ⟨i, rfl⟩ := Int.eq_ofNat_of_zero_le h0
    have hi : i < 4 := by omega
    simp only [Int.toNat_natCast] at h
    have hM : journal_May.f a0 (i : Int) a2 a3 a4 a5 a6 = some true := congrArg some hm
    cases hs : applyL (lg J i) ⟨a0, (i : Int), a2, a3, a4, a5, a6⟩ with
    | none =>
      rw [hs] at h
      obtain ⟨rfl, rfl⟩ := Prod.mk.inj h
      unfold applyL at hs
      simp only at hs
      rcases hk with rfl | rfl | rfl
      · exact (journal_Apply.no1 J cs i a2 a3 a4 a5 a6 ok w hJ hi hM (hl i hi) hs).mono (fun e w' h => ⟨cs0, h.1, JVF.zero _ _, h.2⟩)
      · exact (journal_Apply.no2 J cs i a2 a3 a4 a5 a6 ok w hJ hi hM (hl i hi) hs).mono (fun e w' h => ⟨cs0, h.1, JVF.zero _ _, h.2⟩)
      · exact (journal_Apply.no3 J cs i a2 a3 a4 a5 a6 ok w hJ hi hM (hl i hi) hs).mono (fun e w' h => ⟨cs0, h.1, JVF.zero _ _, h.2⟩)
    | some q =>
      rw [hs] at h
      obtain ⟨rfl, rfl⟩ := Prod.mk.inj h
      unfold applyL at hs
      simp only at hs
      rcases hk with rfl | rfl | rfl
      · exact journal_Apply.do1 J cs i a2 a3 a4 a5 a6 ok q w hJ hi hM (hl i hi) hs
      · exact journal_Apply.do2 J cs i a2 a3 a4 a5 a6 ok q w hJ hi hM (hl i hi) hs
      · exact journal_Apply.do3 J cs i a2 a3 a4 a5 a6 ok q w hJ hi hM (hl i hi) hs
  · rw [if_neg hm] at h
    obtain ⟨rfl, rfl⟩ := Prod.mk.inj h
    exact (journal_Apply.not_ J cs _ _ _ _ _ _ _ w hJ.now (congrArg some (Bool.eq_false_iff.mpr hm))).mono (fun e w' h => ⟨cs0, h.1, JVF.zero _ _, h.2⟩)

end Go.Proofs.Ytdcomcdbknniiaa.Q
