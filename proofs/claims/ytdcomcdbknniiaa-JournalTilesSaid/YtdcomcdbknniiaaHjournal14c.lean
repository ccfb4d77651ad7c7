/- Journals by hand (chapter 14), part 3: the plain laws (the live segments tile; a journal's entries make it), and statement JournalTiles. -/
import Derived.Laws.Rows
import Derived.Laws.CopyOwn
import Derived.Deep.MidRow
import Derived.Deep.RegionHeld3
import Derived.Lib.SliceRun
import Derived.Deep.RegionLaw
import Derived.Deep.WholeRow
import Derived.Test.YtdcomcdbknniiaaHstep
import Derived.Test.YtdcomcdbknniiaaHmapint
import Derived.Test.YtdcomcdbknniiaaHopen
import Derived.Test.YtdcomcdbknniiaaHjournal14
import Derived.Test.YtdcomcdbknniiaaHjournal14b
import Derived.Test.YtdcomcdbknniiaaQx0
import Derived.Test.YtdcomcdbknniiaaQx1
import Derived.Test.YtdcomcdbknniiaaQx2
namespace Go.Proofs.Ytdcomcdbknniiaa.Q
open Go.RowKit Go.Proofs.YtdcomcdbknniiaaW.PrintWords Go.Proofs.YtdcomcdbknniiaaW.PrintLast Go.Proofs.YtdcomcdbknniiaaW.PrintMore
attribute [local go_sem] max2_int min2_int max_two min_two max_three min_three max_four min_four   -- for this text's walks alone
set_option linter.unusedVariables false
set_option linter.unusedSimpArgs false

-- SAYS Journals by hand (chapter 14), part 3: the plain laws (the live segments tile; a journal's entries make it), and statement JournalTiles.
-- FUNCS winnower/winnowerref14.Few
-- NEEDS journal_log_end.calls journal_part.calls journal_in.f journal_May.calls
-- IMPORT Derived.Laws.Rows
-- IMPORT Derived.Laws.CopyOwn
-- IMPORT Derived.Deep.MidRow
-- IMPORT Derived.Deep.RegionHeld3
-- IMPORT Derived.Lib.SliceRun
-- IMPORT Derived.Deep.RegionLaw
-- IMPORT Derived.Deep.WholeRow
-- IMPORT Derived.Test.YtdcomcdbknniiaaHstep
-- IMPORT Derived.Test.YtdcomcdbknniiaaHmapint
-- IMPORT Derived.Test.YtdcomcdbknniiaaHopen
-- IMPORT Derived.Test.YtdcomcdbknniiaaHjournal14
-- IMPORT Derived.Test.YtdcomcdbknniiaaHjournal14b
open Go.Proofs.Ytdcomcdbknniiaa.Hstep Go.Proofs.Ytdcomcdbknniiaa.Hmapint
/-! ### Plain laws over journals: the live segments tile; what a journal's entries make is the journal -/
theorem endL_nil (a b : Int) : endL (a, b, []) = b := rfl
theorem lastL_nil (a b : Int) : lastL (a, b, []) = a := rfl
theorem lastL_app (a b : Int) (l : List S32) (x : S32) : lastL (a, b, l ++ [x]) = x.f2 := by
  unfold lastL rd_T32
  simp only [List.length_append, List.length_cons, List.length_nil]
  rw [if_neg (by omega), List.getD_eq_getElem?_getD, List.getElem?_append_right (by omega)]
  simp
theorem endL_cons (a b a' : Int) (y : S32) (s : List S32) : endL (a, b, y :: s) = endL (a', y.f4, s) := by
  rcases List.eq_nil_or_concat s with h | ⟨s', z, h⟩
  · subst h
    exact endL_app a b [] y
  · subst h
    rw [List.concat_eq_append, show y :: (s' ++ [z]) = (y :: s') ++ [z] from rfl, endL_app, endL_app]
theorem lastL_cons (a b b' : Int) (y : S32) (s : List S32) : lastL (a, b, y :: s) = lastL (y.f2, b', s) := by
  rcases List.eq_nil_or_concat s with h | ⟨s', z, h⟩
  · subst h
    exact lastL_app a b [] y
  · subst h
    rw [List.concat_eq_append, show y :: (s' ++ [z]) = (y :: s') ++ [z] from rfl, lastL_app, lastL_app]
/-- A partition's live segments follow one another; what is gone could have been told. -/
def tilesP (i : Nat) (p : Log) : Prop := (∀ n x, p.2.2[n]? = some x → mayE x = true ∧ x.f0 = 1 ∧ x.f1 = (i : Int) ∧ x.f3 = endL (p.1, p.2.1, p.2.2.take n) ∧ x.f2 = IntKind.i64.wrap (lastL (p.1, p.2.1, p.2.2.take n) + 1)) ∧
  (p.1 = 0 → p.2.1 = 0) ∧ (p.1 ≠ 0 → mayE ⟨3, (i : Int), p.1, 0, p.2.1, 0, 0⟩ = true)
def goodJ (J : List Log) : Prop := J.length = 4 ∧ ∀ i, i < 4 → tilesP i (lg J i)
theorem good0 : goodJ J0 := ⟨rfl, fun i hi => by
  rw [lg_J0 i hi]
  exact ⟨fun n x h => by simp at h, fun _ => rfl, fun h => absurd rfl h⟩⟩
theorem mayE_id {x : S32} (h : mayE x = true) : 1 ≤ x.f2 ∧ x.f2 ≤ 1073741824 := by
  unfold mayE mayB at h
  rw [Bool.and_eq_true] at h
  exact of_decide_eq_true h.2
theorem mayE_end {x : S32} (h : mayE x = true) (h0 : x.f0 = 1) : 0 ≤ x.f4 ∧ x.f4 ≤ 1099511627776 := by
  unfold mayE mayB at h
  rw [if_pos h0, Bool.and_eq_true, Bool.and_eq_true, Bool.and_eq_true, Bool.and_eq_true, Bool.and_eq_true] at h
  have h1 : inB x.f3 0 x.f4 = true := h.1.1.1.1.1
  have h2 := of_decide_eq_true h1
  exact ⟨by omega, of_decide_eq_true h.1.1.1.1.2⟩
theorem mayE_base (i : Nat) (hi : i < 4) (a b : Int) (ha : 1 ≤ a ∧ a ≤ 1073741824) (hb : 0 ≤ b ∧ b ≤ 1099511627776) : mayE ⟨3, (i : Int), a, 0, b, 0, 0⟩ = true := by
  unfold mayE mayB inB
  simp
  omega
theorem mayE_base_end {x : S32} (h : mayE x = true) (h0 : x.f0 = 3) : 0 ≤ x.f4 ∧ x.f4 ≤ 1099511627776 := by
  unfold mayE mayB at h
  rw [if_neg (by omega), if_pos h0, Bool.and_eq_true, Bool.and_eq_true, Bool.and_eq_true] at h
  exact of_decide_eq_true h.1.1.1
theorem good_apply {J J' : List Log} {x : S32} (hJ : goodJ J) (h : applyJ J x = (J', 0)) : goodJ J' := by
  obtain ⟨q, hm, hq, rfl⟩ := applyJ_ok h
  obtain ⟨hk, h0, h1⟩ := mayE_parts hm
  obtain ⟨i, hi⟩ := Int.eq_ofNat_of_zero_le h0
  have hi4 : i < 4 := by omega
  rw [hi, Int.toNat_natCast] at hq ⊢
  refine ⟨by rw [List.length_set]; exact hJ.1, fun k hk4 => ?_⟩
  rw [lg_set (by rw [hJ.1]; exact hi4)]
  by_cases hki : k = i
  · subst hki
    rw [if_pos rfl]
    have hT := hJ.2 k hk4
    clear h
    generalize lg J k = p at hq hT
    obtain ⟨a, b, l⟩ := p
    obtain ⟨ht, hz, hb⟩ := hT
    (try simp only at ht hz hb)
    unfold applyL at hq
    rcases hk with hk | hk | hk
    · rw [if_pos hk] at hq
      unfold step1 at hq
      split at hq
      · rename_i hs
        injection hq with hq
        subst hq
        refine ⟨fun n y hy => ?_, hz, hb⟩
        (try simp only at hy ⊢)
        by_cases hn : n < l.length
        · rw [List.getElem?_append_left hn] at hy
          rw [List.take_append_of_le_length (Nat.le_of_lt hn)]
          exact ht n y hy
        · have hn2 : n = l.length := by
            have := (List.getElem?_eq_some_iff.1 hy).1
            simp at this
            omega
          subst hn2
          rw [List.getElem?_append_right (Nat.le_refl _), Nat.sub_self] at hy
          obtain rfl : x = y := Option.some.inj hy
          rw [List.take_append_of_le_length (Nat.le_refl _), List.take_length]
          exact ⟨hm, hk, hi, hs.2, hs.1⟩
      · exact absurd hq (by simp)
    · rw [if_neg (by omega), if_pos hk] at hq
      unfold step2 at hq
      cases l with
      | nil => exact absurd hq (by simp)
      | cons y t =>
        simp only at hq
        split at hq
        · rename_i hs
          injection hq with hq
          subst hq
          obtain ⟨m0, k0, _, _, _⟩ := ht 0 y rfl
          refine ⟨fun n z hz2 => ?_, fun h => ?_, fun _ => mayE_base k hk4 _ _ (mayE_id hm) (mayE_end m0 k0)⟩
          · (try simp only at hz2 ⊢)
            obtain ⟨r1, r2, r3, r4, r5⟩ := ht (n + 1) z hz2
            rw [List.take_succ_cons] at r4 r5
            rw [endL_cons a b x.f2] at r4
            rw [lastL_cons a b y.f4, hs] at r5
            exact ⟨r1, r2, r3, r4, r5⟩
          · (try simp only at h)
            have := mayE_id hm
            omega
        · exact absurd hq (by simp)
    · rw [if_neg (by omega), if_neg (by omega)] at hq
      unfold step3 at hq
      split at hq
      · rename_i hs
        injection hq with hq
        subst hq
        have hl : l = [] := List.length_eq_zero_iff.1 hs.1
        subst hl
        refine ⟨fun n z hz2 => by simp at hz2, fun h => ?_, fun _ => mayE_base k hk4 _ _ (mayE_id hm) (mayE_base_end hm hk)⟩
        have := mayE_id hm
        (try simp only at h)
        omega
      · exact absurd hq (by simp)
  · rw [if_neg hki]
    exact hJ.2 k hk4
theorem set_lg {K : List Log} {i : Nat} (hi : i < K.length) {p : Log} (h : lg K i = p) : K.set i p = K := by
  subst h
  apply List.ext_getElem?
  intro j
  by_cases hj : j = i
  · subst hj
    rw [List.getElem?_set_self hi]
    unfold lg
    rw [List.getD_eq_getElem?_getD, List.getElem?_eq_getElem hi]
    rfl
  · rw [List.getElem?_set_ne (fun e => hj e.symm)]
theorem made_commits (i : Nat) (hi : i < 4) (a b : Int) (rest : List S32) : ∀ (s pre : List S32) (K : List Log), K.length = 4 → lg K i = (a, b, pre) →
    (∀ n x, s[n]? = some x → mayE x = true ∧ x.f0 = 1 ∧ x.f1 = (i : Int) ∧ x.f3 = endL (a, b, pre ++ s.take n) ∧ x.f2 = IntKind.i64.wrap (lastL (a, b, pre ++ s.take n) + 1)) →
    madeJ K (s ++ rest) = madeJ (K.set i (a, b, pre ++ s)) rest
  | [], pre, K, hK, hl, _ => by rw [List.append_nil, List.nil_append, set_lg (by omega) hl]
  | x :: s, pre, K, hK, hl, h => by
    obtain ⟨m, k0, k1, k3, k2⟩ := h 0 x rfl
    rw [List.take_zero, List.append_nil] at k3 k2
    have ha : applyJ K x = (K.set i (a, b, pre ++ [x]), 0) := by
      unfold applyJ
      rw [if_pos m, k1, Int.toNat_natCast, hl]
      unfold applyL
      rw [if_pos k0]
      unfold step1
      rw [if_pos ⟨k2, k3⟩]
    rw [List.cons_append, madeJ, ha]
    simp only [if_pos]
    rw [made_commits i hi a b rest s (pre ++ [x]) (K.set i (a, b, pre ++ [x])) (by rw [List.length_set]; exact hK) (by rw [lg_set (by omega), if_pos rfl]) (fun n y hy => by
      have := h (n + 1) y hy
      rw [List.take_succ_cons] at this
      rw [List.append_assoc]
      exact this), List.set_set, List.append_assoc]
    rfl
theorem made_part (i : Nat) (hi : i < 4) (p : Log) (rest : List S32) (K : List Log) (hK : K.length = 4) (hl : lg K i = (0, 0, [])) (h : tilesP i p) : madeJ K (entP i p ++ rest) = madeJ (K.set i p) rest := by
  obtain ⟨a, b, l⟩ := p
  obtain ⟨ht, hz, hb⟩ := h
  (try simp only at ht hz hb)
  unfold entP
  simp only
  by_cases h0 : a = 0
  · have hb0 := hz h0
    subst h0 hb0
    rw [if_pos rfl, List.nil_append]
    exact made_commits i hi 0 0 rest l [] K hK hl ht
  · rw [if_neg h0]
    have hm := hb h0
    have ha : applyJ K ⟨3, (i : Int), a, 0, b, 0, 0⟩ = (K.set i (a, b, []), 0) := by
      unfold applyJ
      rw [if_pos hm]
      simp only [Int.toNat_natCast, hl]
      rfl
    rw [List.append_assoc, List.cons_append, List.nil_append, madeJ, ha]
    simp only [if_pos]
    rw [made_commits i hi a b rest l [] (K.set i (a, b, [])) (by rw [List.length_set]; exact hK) (by rw [lg_set (by omega), if_pos rfl]) ht, List.set_set]
    rfl
theorem made_ents {J : List Log} (hJ : goodJ J) : madeJ J0 (entsTo J 4) = (J, true) := by
  obtain ⟨hl, ht⟩ := hJ
  match J, hl, ht with
  | [p0, p1, p2, p3], _, ht =>
    have e : entsTo [p0, p1, p2, p3] 4 = entP 0 p0 ++ (entP 1 p1 ++ (entP 2 p2 ++ (entP 3 p3 ++ []))) := by
      simp [entsTo, lg]
    rw [e, made_part 0 (by decide) p0 _ J0 rfl rfl (ht 0 (by decide)), made_part 1 (by decide) p1 _ _ rfl rfl (ht 1 (by decide)), made_part 2 (by decide) p2 _ _ rfl rfl (ht 2 (by decide)), made_part 3 (by decide) p3 _ _ rfl rfl (ht 3 (by decide))]
    rfl
theorem entsTo_few {J : List Log} {N : Nat} (h : fewN N J) : ∀ n, n ≤ 4 → (entsTo J n).length ≤ n * (N + 1)
  | 0, _ => by simp [entsTo]
  | n + 1, hn => by
    have h1 := entsTo_few h n (by omega)
    have h2 := h n (by omega)
    rw [entsTo, List.length_append, Nat.add_mul, Nat.one_mul]
    have : (entP n (lg J n)).length ≤ N + 1 := by
      unfold entP
      rw [List.length_append]
      split <;> simp <;> omega
    omega
/-- What the law's walk through a partition meets. -/
theorem tiles_at {i : Nat} {p : Log} (h : tilesP i p) {n : Nat} (hn : n < p.2.2.length) : (rd_T32 p.2.2 (n : Int)).f3 = endL (p.1, p.2.1, p.2.2.take n) ∧ (rd_T32 p.2.2 (n : Int)).f2 = IntKind.i64.wrap (lastL (p.1, p.2.1, p.2.2.take n) + 1) ∧ (rd_T32 p.2.2 (n : Int)).f1 = (i : Int) ∧ (rd_T32 p.2.2 (n : Int)).f0 = 1 ∧
    (rd_T32 p.2.2 (n : Int)).f4 = endL (p.1, p.2.1, p.2.2.take (n + 1)) ∧ (rd_T32 p.2.2 (n : Int)).f2 = lastL (p.1, p.2.1, p.2.2.take (n + 1)) := by
  have hg : p.2.2[n]? = some (rd_T32 p.2.2 (n : Int)) := by
    unfold rd_T32
    rw [Int.toNat_natCast, List.getD_eq_getElem?_getD, List.getElem?_eq_getElem hn]
    rfl
  obtain ⟨_, k0, k1, k3, k2⟩ := h.1 n _ hg
  have ht : p.2.2.take (n + 1) = p.2.2.take n ++ [rd_T32 p.2.2 (n : Int)] := by
    rw [List.getElem?_eq_getElem hn] at hg
    rw [List.take_succ_eq_append_getElem hn, Option.some.inj hg]
  rw [ht, endL_app, lastL_app]
  exact ⟨k3, k2, k1, k0, rfl, rfl⟩
def Hold_ (p : Prop) : Prop := p
theorem hold_ {p : Prop} (h : Hold_ p) : p := h
set_option maxHeartbeats 8000000 in
set_option maxRecDepth 100000 in
theorem winnowerlaw14_JournalTiles.many (l : List S32) (A : Option Addr) (c : Nat) (w : World) (hr : Kd.C k32 w A l.length l) (hl : 60 < l.length) :
    Calls Try.prog 3 #[.slice A l.length c] w fun e w' => e = .returned (.bool true) ∧ Below w.heap.size w w' := by
  have HB := Aside0.mk (Below.refl w.heap.size w)
  have HR := Aside0.mk hr
  have hu25 := Try.underlying25
  have hu32 := Try.underlying32
  have hu27 := Try.underlying27
  have r1 : decide ((60 : Int) < (l.length : Int)) = true := decide_eq_true (by omega)
  have r2 : decide (60 < l.length) = true := decide_eq_true hl
  clear hr hl
  go_enter Try.func3, Try.ntmps3
  go_wp2_with (first | ((with_reducible refine gate_callee (f := 6) rfl ?_); refine goesL_ (some 15) rfl rfl Try.func6 (by kernel_rfl) rfl #[] rfl (by (try simp only [List.map_toArray, List.map_cons, List.map_nil]); first | done | rfl) ?_; go_loud (refine (winnowerlaw14_awake.calls _).mono ?_); rintro e w1 ⟨rfl, hb⟩; refine ⟨_, rfl, ?_⟩; have mm0_ := Aside0.mk (below_step HB.out hb); clear HB hb; have HB := mm0_; clear mm0_))
  go_ret
  exact ⟨rfl, HB.out⟩
set_option maxHeartbeats 8000000 in
set_option maxRecDepth 100000 in
theorem winnowerlaw14_JournalTiles.few_ (l : List S32) (A : Option Addr) (c : Nat) (w : World) (hr : Kd.C k32 w A l.length l) (hl : l.length ≤ 60) :
    Calls Try.prog 3 #[.slice A l.length c] w fun e w' => e = .returned (.bool true) ∧ Below w.heap.size w w' := by
  have HB := Aside0.mk (Below.refl w.heap.size w)
  have HR := Aside0.mk hr
  have hu25 := Try.underlying25
  have hu32 := Try.underlying32
  have hu27 := Try.underlying27
  have HL := Aside0.mk hl
  have r1 : decide ((60 : Int) < (l.length : Int)) = false := decide_eq_false (by omega)
  have r2 : decide (60 < l.length) = false := decide_eq_false (by omega)
  clear hr hl
  go_enter Try.func3, Try.ntmps3
  go_wp2_with (first | ((with_reducible refine gate_callee (f := 6) rfl ?_); refine goesL_ (some 15) rfl rfl Try.func6 (by kernel_rfl) rfl #[] rfl (by (try simp only [List.map_toArray, List.map_cons, List.map_nil]); first | done | rfl) ?_; go_loud (refine (winnowerlaw14_awake.calls _).mono ?_); rintro e w1 ⟨rfl, hb⟩; refine ⟨_, rfl, ?_⟩; have mm0_ := Aside0.mk (below_step HB.out hb); clear HB hb; have HB := mm0_; clear mm0_) | ((with_reducible refine gate_dst (N := 4) rfl ?_); refine box_event ?hg (N := 4) ?hd (cs := #[.int .i64 0, .int .i64 0, .slice none 0 0, .int .i64 0, .int .i64 0, .slice none 0 0, .int .i64 0, .int .i64 0, .slice none 0 0, .int .i64 0, .int .i64 0, .slice none 0 0]) (t := 27) ?hr ?_; (case hd => rfl); (case hg => rfl); (case hr => first | (go_simp; done) | (go_simp; rfl)); intro g4 hg w2 hbox hb; have B4 := Aside0.mk hbox; have GE4 := Aside0.mk ((by rw [hg]; exact (below_size (by repeat (first | (with_reducible first | exact HB.out | apply below_alloc | apply pw_below_drewN | apply below_drew1) | exact HB.out)))) : w.heap.size ≤ g4); have mm0_ := Aside0.mk (below_step (by repeat (first | (with_reducible first | exact HB.out | apply below_alloc | apply pw_below_drewN | apply below_drew1) | exact HB.out)) hb); clear HB; have HB := mm0_; clear mm0_ hb hbox hg) | ((with_reducible refine gate_ (.store 27 (.tmp 4) (.tmp 24)) rfl ?_); go_loud (refine wpList_storeR rfl rfl 27 (.tmp 4) (.tmp 24) rfl g4 0 rfl (.agg #[.int .i64 0, .int .i64 0, .slice none 0 0, .int .i64 0, .int .i64 0, .slice none 0 0, .int .i64 0, .int .i64 0, .slice none 0 0, .int .i64 0, .int .i64 0, .slice none 0 0]) rfl [.int .i64 0, .int .i64 0, .slice none 0 0, .int .i64 0, .int .i64 0, .slice none 0 0, .int .i64 0, .int .i64 0, .slice none 0 0, .int .i64 0, .int .i64 0, .slice none 0 0] rfl #[.int .i64 0, .int .i64 0, .slice none 0 0, .int .i64 0, .int .i64 0, .slice none 0 0, .int .i64 0, .int .i64 0, .slice none 0 0, .int .i64 0, .int .i64 0, .slice none 0 0] 27 B4.out size27 (by simp) (by simp [Value.oneCell']) #[.int .i64 0, .int .i64 0, .slice none 0 0, .int .i64 0, .int .i64 0, .slice none 0 0, .int .i64 0, .int .i64 0, .slice none 0 0, .int .i64 0, .int .i64 0, .slice none 0 0] rfl ?_); intro w3 hs st; have mm0_ := Aside0.mk (st.fresh HB.out GE4.out); clear HB B4; have HB := mm0_; have B4 := Aside0.mk hs; clear mm0_ hs st))
  clear r1 r2
  go_loopg [5] l.length (fun m v5 wr => ∃ (k : Nat) (J : List Log) (cs : List Value), v5 = .int .i64 (k : Int) ∧ Aside0 (k + m = l.length) ∧ Aside0 (JVF wr (fun k_ => k_ ≠ g4) J cs) ∧ Aside0 (fewN k J) ∧ Aside0 (goodJ J) ∧ Aside0 (Below w.heap.size w wr) ∧ Aside0 (wr.heap[g4]? = some (.cells cs.toArray 27 (0, 0))))
  case atStart => exact ⟨0, J0, cs0, rfl, ⟨by omega⟩, ⟨JVF.zero _ _⟩, ⟨few0 0⟩, ⟨good0⟩, ⟨HB.out⟩, ⟨B4.out⟩⟩
  case round =>
    clear HB B4
    obtain ⟨k, J, cs, rfl, HK, HJ, HF, HG, HB, B4⟩ := hrel
    obtain ⟨a0, b0, A0, n0, c0, a1, b1, A1, n1, c1, a2, b2, A2, n2, c2, a3, b3, A3, n3, c3, hcs⟩ := JV.open_ HJ.out.now
    subst hcs
    cases gk with
    | zero =>
      have hk : k = l.length := by have := HK.out; omega
      have r1 : decide ((k : Int) < (l.length : Int)) = false := decide_eq_false (by omega)
      have r2 : decide (k < l.length) = false := decide_eq_false (by omega)
      clear hk
      have HM := Aside0.mk (made_ents HG.out)
      have HLE := Aside0.mk (show (entsTo J 4).length ≤ 1000 by have h_ := entsTo_few HF.out 4 (by decide); have := HL.out; have := HK.out; omega)
      have HF3 := Aside0.mk (show fewN 1000 J from fun i hi => by have := HF.out i hi; have := HL.out; have := HK.out; omega)
      have HJV := Aside0.mk HJ.out.now
      go_wp2_with (first
        | ((with_reducible refine gate_dst (N := 110) rfl ?_); go_loud (refine wpList_load_row rfl 27 (.tmp 4) rfl g4 rfl 27 #[.int .i64 a0, .int .i64 b0, .slice A0 n0 c0, .int .i64 a1, .int .i64 b1, .slice A1 n1 c1, .int .i64 a2, .int .i64 b2, .slice A2 n2 c2, .int .i64 a3, .int .i64 b3, .slice A3 n3 c3] (0, 0) _ B4.out hu27 rfl size27 ?_))
        | ((with_reducible refine gate_callee (f := 11) rfl ?_); refine goesL_ (some 111) rfl rfl Try.func11 (by kernel_rfl) rfl #[.agg #[.int .i64 a0, .int .i64 b0, .slice A0 n0 c0, .int .i64 a1, .int .i64 b1, .slice A1 n1 c1, .int .i64 a2, .int .i64 b2, .slice A2 n2 c2, .int .i64 a3, .int .i64 b3, .slice A3 n3 c3]] rfl (by (try simp only [List.map_toArray, List.map_cons, List.map_nil]); first | done | rfl) ?_; go_loud (refine (journal_Entries.calls J [.int .i64 a0, .int .i64 b0, .slice A0 n0 c0, .int .i64 a1, .int .i64 b1, .slice A1 n1 c1, .int .i64 a2, .int .i64 b2, .slice A2 n2 c2, .int .i64 a3, .int .i64 b3, .slice A3 n3 c3] _ HJV.out HF3.out).mono ?_); rintro e w5 ⟨v5, rfl, hr5, hb⟩; refine ⟨_, rfl, ?_⟩; have mm0_ := Aside0.mk (below_step HB.out hb); have mm1_ := Aside0.mk (blk_below B4.out hb); have mm2_ := Aside0.mk (HJV.out.below hb); obtain ⟨A5, c5, e5⟩ := Kd.R_slice hr5; subst e5; have HC5 := Aside0.mk (Kd.R_reads' hr5).2.2; clear hr5; clear HB B4 HJV hb; have HB := mm0_; have B4 := mm1_; have HJV := mm2_; clear mm0_ mm1_ mm2_)
        | ((with_reducible refine gate_callee (f := 10) rfl ?_); refine goesL_ (some 112) rfl rfl Try.func10 (by kernel_rfl) rfl #[.slice A5 (entsTo J 4).length c5] rfl (by (try simp only [List.map_toArray, List.map_cons, List.map_nil]); first | done | rfl) ?_; go_loud (refine (winnowerlaw14_Made.calls (entsTo J 4) A5 c5 J true _ HC5.out HLE.out HM.out).mono ?_); rintro e w6 ⟨cs6, rfl, hj6, hb⟩; refine ⟨_, rfl, ?_⟩; have mm0_ := Aside0.mk (below_step HB.out hb); have mm1_ := Aside0.mk (blk_below B4.out hb); have mm2_ := Aside0.mk (HJV.out.below hb); obtain ⟨a0_, b0_, A0_, n0_, c0_, a1_, b1_, A1_, n1_, c1_, a2_, b2_, A2_, n2_, c2_, a3_, b3_, A3_, n3_, c3_, hcs6⟩ := JV.open_ hj6; subst hcs6; have HJ6 := Aside0.mk hj6; clear hj6; clear HB B4 HJV hb; have HB := mm0_; have B4 := mm1_; have HJV := mm2_; clear mm0_ mm1_ mm2_)
        | ((with_reducible refine gate_dst (N := 13) rfl ?_); refine box_event ?hg (N := 13) ?hd (cs := #[.int .i64 0, .int .i64 0, .slice none 0 0, .int .i64 0, .int .i64 0, .slice none 0 0, .int .i64 0, .int .i64 0, .slice none 0 0, .int .i64 0, .int .i64 0, .slice none 0 0]) (t := 27) ?hr ?_; (case hd => rfl); (case hg => rfl); (case hr => first | (go_simp; done) | (go_simp; rfl)); intro g13 hg w7 hbox hb; have B13 := Aside0.mk hbox; have GE13 := Aside0.mk (show w.heap.size ≤ g13 by (rw [hg]; exact HB.out.size)); have N413 := Aside0.mk (show g4 ≠ g13 by (rw [hg]; exact Nat.ne_of_lt (blk_lt B4.out))); have G6N : Aside0 (w6.heap.size ≤ g13) := Aside0.mk (by rw [hg]; exact Nat.le_refl _); have mm0_ := Aside0.mk (below_step HB.out hb); have mm1_ := Aside0.mk (blk_below B4.out hb); have mm2_ := Aside0.mk ((JVF.of_JV HJV.out).below hb); have mm3_ := Aside0.mk ((JVF.of_JV HJ6.out).below hb); clear HB B4 HJV HJ6; have HB := mm0_; have B4 := mm1_; have HJV := mm2_; have HJ6 := mm3_; clear mm0_ mm1_ mm2_ mm3_ hb hbox hg)
        | ((with_reducible refine gate_ (.store 27 (.tmp 13) (.tmp 113)) rfl ?_); go_loud (refine wpList_storeR rfl rfl 27 (.tmp 13) (.tmp 113) rfl g13 0 rfl (.agg #[.int .i64 a0_, .int .i64 b0_, .slice A0_ n0_ c0_, .int .i64 a1_, .int .i64 b1_, .slice A1_ n1_ c1_, .int .i64 a2_, .int .i64 b2_, .slice A2_ n2_ c2_, .int .i64 a3_, .int .i64 b3_, .slice A3_ n3_ c3_]) rfl [.int .i64 a0_, .int .i64 b0_, .slice A0_ n0_ c0_, .int .i64 a1_, .int .i64 b1_, .slice A1_ n1_ c1_, .int .i64 a2_, .int .i64 b2_, .slice A2_ n2_ c2_, .int .i64 a3_, .int .i64 b3_, .slice A3_ n3_ c3_] rfl #[.int .i64 0, .int .i64 0, .slice none 0 0, .int .i64 0, .int .i64 0, .slice none 0 0, .int .i64 0, .int .i64 0, .slice none 0 0, .int .i64 0, .int .i64 0, .slice none 0 0] 27 B13.out size27 (by simp) (by simp [Value.oneCell']) #[.int .i64 a0_, .int .i64 b0_, .slice A0_ n0_ c0_, .int .i64 a1_, .int .i64 b1_, .slice A1_ n1_ c1_, .int .i64 a2_, .int .i64 b2_, .slice A2_ n2_ c2_, .int .i64 a3_, .int .i64 b3_, .slice A3_ n3_ c3_] rfl ?_); intro w8 hs st; have mm0_ := Aside0.mk (st.fresh HB.out GE13.out); have mm1_ := Aside0.mk (st.blk B4.out N413.out); have mm2_ := Aside0.mk (HJV.out.keep st (fun k_ hk_ => Nat.ne_of_lt (Nat.lt_of_lt_of_le hk_.2 G6N.out))); have mm3_ := Aside0.mk (HJ6.out.keep st (fun k_ hk_ => Nat.ne_of_lt (Nat.lt_of_lt_of_le hk_.2 G6N.out))); clear HB B4 B13 HJV HJ6; have HB := mm0_; have B4 := mm1_; have HJV := mm2_; have HJ6 := mm3_; have B13 := Aside0.mk hs; clear mm0_ mm1_ mm2_ mm3_ hs st; have ha0 : w8.cell? ⟨g4, 0, none⟩ = some (.int .i64 a0) := (blk_cell B4.out 0).trans rfl; have ha1 : w8.cell? ⟨g4, 1, none⟩ = some (.int .i64 b0) := (blk_cell B4.out 1).trans rfl; have ha2 : w8.cell? ⟨g4, 2, none⟩ = some (.slice A0 n0 c0) := (blk_cell B4.out 2).trans rfl; have ha3 : w8.cell? ⟨g4, 3, none⟩ = some (.int .i64 a1) := (blk_cell B4.out 3).trans rfl; have ha4 : w8.cell? ⟨g4, 4, none⟩ = some (.int .i64 b1) := (blk_cell B4.out 4).trans rfl; have ha5 : w8.cell? ⟨g4, 5, none⟩ = some (.slice A1 n1 c1) := (blk_cell B4.out 5).trans rfl; have ha6 : w8.cell? ⟨g4, 6, none⟩ = some (.int .i64 a2) := (blk_cell B4.out 6).trans rfl; have ha7 : w8.cell? ⟨g4, 7, none⟩ = some (.int .i64 b2) := (blk_cell B4.out 7).trans rfl; have ha8 : w8.cell? ⟨g4, 8, none⟩ = some (.slice A2 n2 c2) := (blk_cell B4.out 8).trans rfl; have ha9 : w8.cell? ⟨g4, 9, none⟩ = some (.int .i64 a3) := (blk_cell B4.out 9).trans rfl; have ha10 : w8.cell? ⟨g4, 10, none⟩ = some (.int .i64 b3) := (blk_cell B4.out 10).trans rfl; have ha11 : w8.cell? ⟨g4, 11, none⟩ = some (.slice A3 n3 c3) := (blk_cell B4.out 11).trans rfl; have hb0 : w8.cell? ⟨g13, 0, none⟩ = some (.int .i64 a0_) := (blk_cell B13.out 0).trans rfl; have hb1 : w8.cell? ⟨g13, 1, none⟩ = some (.int .i64 b0_) := (blk_cell B13.out 1).trans rfl; have hb2 : w8.cell? ⟨g13, 2, none⟩ = some (.slice A0_ n0_ c0_) := (blk_cell B13.out 2).trans rfl; have hb3 : w8.cell? ⟨g13, 3, none⟩ = some (.int .i64 a1_) := (blk_cell B13.out 3).trans rfl; have hb4 : w8.cell? ⟨g13, 4, none⟩ = some (.int .i64 b1_) := (blk_cell B13.out 4).trans rfl; have hb5 : w8.cell? ⟨g13, 5, none⟩ = some (.slice A1_ n1_ c1_) := (blk_cell B13.out 5).trans rfl; have hb6 : w8.cell? ⟨g13, 6, none⟩ = some (.int .i64 a2_) := (blk_cell B13.out 6).trans rfl; have hb7 : w8.cell? ⟨g13, 7, none⟩ = some (.int .i64 b2_) := (blk_cell B13.out 7).trans rfl; have hb8 : w8.cell? ⟨g13, 8, none⟩ = some (.slice A2_ n2_ c2_) := (blk_cell B13.out 8).trans rfl; have hb9 : w8.cell? ⟨g13, 9, none⟩ = some (.int .i64 a3_) := (blk_cell B13.out 9).trans rfl; have hb10 : w8.cell? ⟨g13, 10, none⟩ = some (.int .i64 b3_) := (blk_cell B13.out 10).trans rfl; have hb11 : w8.cell? ⟨g13, 11, none⟩ = some (.slice A3_ n3_ c3_) := (blk_cell B13.out 11).trans rfl)
        | (go_at_call 12; go_loud (refine (winnowerref14_Same.calls J [.int .i64 a0_, .int .i64 b0_, .slice A0_ n0_ c0_, .int .i64 a1_, .int .i64 b1_, .slice A1_ n1_ c1_, .int .i64 a2_, .int .i64 b2_, .slice A2_ n2_ c2_, .int .i64 a3_, .int .i64 b3_, .slice A3_ n3_ c3_] [.int .i64 a0, .int .i64 b0, .slice A0 n0 c0, .int .i64 a1, .int .i64 b1, .slice A1 n1 c1, .int .i64 a2, .int .i64 b2, .slice A2 n2 c2, .int .i64 a3, .int .i64 b3, .slice A3 n3 c3] _ HJ6.out.now HJV.out.now).mono ?_); rintro e w9 ⟨rfl, hb⟩; have mm0_ := Aside0.mk (below_step HB.out hb); clear HB; have HB := mm0_; clear mm0_ hb))
      go_ret
      exact ⟨rfl, HB.out⟩
    | succ m =>
      have hk : k < l.length := by have := HK.out; omega
      have hkI : (k : Int) < (l.length : Int) := by omega
      have r1 : decide ((k : Int) < (l.length : Int)) = true := decide_eq_true hkI
      have r2 : decide (k < l.length) = true := decide_eq_true hk
      have r3 : (0 : Int) ≤ (k : Int) := by omega
      obtain ⟨ad, e1, x0, x1, x2, x3, x4, x5, x6⟩ := at_T32 (Kd.C_below HR.out HB.out) (k : Int) r3 hkI
      cases e1
      rw [Int.toNat_natCast] at x0 x1 x2 x3 x4 x5 x6
      generalize rd_T32 l (k : Int) = x at x0 x1 x2 x3 x4 x5 x6
      obtain ⟨J2, er, ha⟩ : ∃ J2 er, applyJ J x = (J2, er) := ⟨_, _, rfl⟩
      have HA := Aside0.mk ha
      have HF2 := Aside0.mk (show fewN (k + 1) J2 by have := applyJ_few x HJ.out.now.len.1 HF.out; rw [ha] at this; exact this)
      clear ha
      go_wp2_with fail
      have HSS : Aside0 (∀ W0 : World, Below wr.heap.size wr W0 → (W0.cell? ⟨g4, 0, none⟩ = some (.int .i64 a0) ∧ W0.cell? ⟨g4, 1, none⟩ = some (.int .i64 b0) ∧ W0.cell? ⟨g4, 2, none⟩ = some (.slice A0 n0 c0) ∧ W0.cell? ⟨g4, 3, none⟩ = some (.int .i64 a1) ∧ W0.cell? ⟨g4, 4, none⟩ = some (.int .i64 b1) ∧ W0.cell? ⟨g4, 5, none⟩ = some (.slice A1 n1 c1) ∧ W0.cell? ⟨g4, 6, none⟩ = some (.int .i64 a2) ∧ W0.cell? ⟨g4, 7, none⟩ = some (.int .i64 b2) ∧ W0.cell? ⟨g4, 8, none⟩ = some (.slice A2 n2 c2) ∧ W0.cell? ⟨g4, 9, none⟩ = some (.int .i64 a3) ∧ W0.cell? ⟨g4, 10, none⟩ = some (.int .i64 b3) ∧ W0.cell? ⟨g4, 11, none⟩ = some (.slice A3 n3 c3) ∧ W0.cell? (ad.add (k * 7)) = some (.int .i64 x.f0) ∧ W0.cell? ⟨(ad.add (k * 7)).block, (ad.add (k * 7)).off + 1, none⟩ = some (.int .i64 x.f1) ∧ W0.cell? ⟨(ad.add (k * 7)).block, (ad.add (k * 7)).off + 2, none⟩ = some (.int .i64 x.f2) ∧ W0.cell? ⟨(ad.add (k * 7)).block, (ad.add (k * 7)).off + 3, none⟩ = some (.int .i64 x.f3) ∧ W0.cell? ⟨(ad.add (k * 7)).block, (ad.add (k * 7)).off + 4, none⟩ = some (.int .i64 x.f4) ∧ W0.cell? ⟨(ad.add (k * 7)).block, (ad.add (k * 7)).off + 5, none⟩ = some (.int .i64 x.f5) ∧ W0.cell? ⟨(ad.add (k * 7)).block, (ad.add (k * 7)).off + 6, none⟩ = some (.int .i64 x.f6) ∧ Below wr.heap.size wr W0)) := Aside0.mk (fun W0 hbq => ⟨(blk_cell (blk_below B4.out hbq) 0).trans rfl, (blk_cell (blk_below B4.out hbq) 1).trans rfl, (blk_cell (blk_below B4.out hbq) 2).trans rfl, (blk_cell (blk_below B4.out hbq) 3).trans rfl, (blk_cell (blk_below B4.out hbq) 4).trans rfl, (blk_cell (blk_below B4.out hbq) 5).trans rfl, (blk_cell (blk_below B4.out hbq) 6).trans rfl, (blk_cell (blk_below B4.out hbq) 7).trans rfl, (blk_cell (blk_below B4.out hbq) 8).trans rfl, (blk_cell (blk_below B4.out hbq) 9).trans rfl, (blk_cell (blk_below B4.out hbq) 10).trans rfl, (blk_cell (blk_below B4.out hbq) 11).trans rfl, pw_cell_below hbq x0, pw_cell_below hbq x1, pw_cell_below hbq x2, pw_cell_below hbq x3, pw_cell_below hbq x4, pw_cell_below hbq x5, pw_cell_below hbq x6, hbq⟩)
      go_region_held3 (fun W0 : World => W0.cell? ⟨g4, 0, none⟩ = some (.int .i64 a0) ∧ W0.cell? ⟨g4, 1, none⟩ = some (.int .i64 b0) ∧ W0.cell? ⟨g4, 2, none⟩ = some (.slice A0 n0 c0) ∧ W0.cell? ⟨g4, 3, none⟩ = some (.int .i64 a1) ∧ W0.cell? ⟨g4, 4, none⟩ = some (.int .i64 b1) ∧ W0.cell? ⟨g4, 5, none⟩ = some (.slice A1 n1 c1) ∧ W0.cell? ⟨g4, 6, none⟩ = some (.int .i64 a2) ∧ W0.cell? ⟨g4, 7, none⟩ = some (.int .i64 b2) ∧ W0.cell? ⟨g4, 8, none⟩ = some (.slice A2 n2 c2) ∧ W0.cell? ⟨g4, 9, none⟩ = some (.int .i64 a3) ∧ W0.cell? ⟨g4, 10, none⟩ = some (.int .i64 b3) ∧ W0.cell? ⟨g4, 11, none⟩ = some (.slice A3 n3 c3) ∧ W0.cell? (ad.add (k * 7)) = some (.int .i64 x.f0) ∧ W0.cell? ⟨(ad.add (k * 7)).block, (ad.add (k * 7)).off + 1, none⟩ = some (.int .i64 x.f1) ∧ W0.cell? ⟨(ad.add (k * 7)).block, (ad.add (k * 7)).off + 2, none⟩ = some (.int .i64 x.f2) ∧ W0.cell? ⟨(ad.add (k * 7)).block, (ad.add (k * 7)).off + 3, none⟩ = some (.int .i64 x.f3) ∧ W0.cell? ⟨(ad.add (k * 7)).block, (ad.add (k * 7)).off + 4, none⟩ = some (.int .i64 x.f4) ∧ W0.cell? ⟨(ad.add (k * 7)).block, (ad.add (k * 7)).off + 5, none⟩ = some (.int .i64 x.f5) ∧ W0.cell? ⟨(ad.add (k * 7)).block, (ad.add (k * 7)).off + 6, none⟩ = some (.int .i64 x.f6) ∧ Below wr.heap.size wr W0) (exact HSS.out _ (by repeat (first | (with_reducible exact HB5.out)  | (with_reducible exact Below.refl _ _) | (with_reducible apply below_alloc) | (with_reducible apply pw_below_drewN) | (with_reducible apply below_drew1) | (with_reducible refine below_set ?_ (by first | exact HB5.out.size | exact Nat.le_refl _))))) (first
        | (go_at_call 7; refine (journal_Apply.calls J J2 [.int .i64 a0, .int .i64 b0, .slice A0 n0 c0, .int .i64 a1, .int .i64 b1, .slice A1 n1 c1, .int .i64 a2, .int .i64 b2, .slice A2 n2 c2, .int .i64 a3, .int .i64 b3, .slice A3 n3 c3] x er (fun k_ => k_ ≠ g4 ∧ k_ < wr.heap.size) _ ?hj ?hl HA.out).mono ?_; (case hj => exact HJ.out.below (by go_split_ands; assumption)); (case hl => exact (fun i hi => by have := HF.out i hi; have := HL.out; omega)); rintro e w5 ⟨cs5, rfl, hj5, hb5⟩; have HB5 := Aside0.mk (show Below wr.heap.size wr w5 from below_step (by go_split_ands; assumption) hb5); (try (have B6_ := Aside0.mk (blk_below (o := .cells #[.int .i64 0, .int .i64 0, .slice none 0 0, .int .i64 0, .int .i64 0, .slice none 0 0, .int .i64 0, .int .i64 0, .slice none 0 0, .int .i64 0, .int .i64 0, .slice none 0 0] 27 (0, 0)) (g := wr.heap.size) (by first | exact heap_alloc_last _ _ | exact heap_alloc_last wr.drew _) hb5); have hq0 : w5.cell? ⟨wr.heap.size, 0, none⟩ = some (.int .i64 0) := (blk_cell B6_.out 0).trans rfl; have fq0 := blk_frozen B6_.out 0; have hq1 : w5.cell? ⟨wr.heap.size, 1, none⟩ = some (.int .i64 0) := (blk_cell B6_.out 1).trans rfl; have fq1 := blk_frozen B6_.out 1; have hq2 : w5.cell? ⟨wr.heap.size, 2, none⟩ = some (.slice none 0 0) := (blk_cell B6_.out 2).trans rfl; have fq2 := blk_frozen B6_.out 2; have hq3 : w5.cell? ⟨wr.heap.size, 3, none⟩ = some (.int .i64 0) := (blk_cell B6_.out 3).trans rfl; have fq3 := blk_frozen B6_.out 3; have hq4 : w5.cell? ⟨wr.heap.size, 4, none⟩ = some (.int .i64 0) := (blk_cell B6_.out 4).trans rfl; have fq4 := blk_frozen B6_.out 4; have hq5 : w5.cell? ⟨wr.heap.size, 5, none⟩ = some (.slice none 0 0) := (blk_cell B6_.out 5).trans rfl; have fq5 := blk_frozen B6_.out 5; have hq6 : w5.cell? ⟨wr.heap.size, 6, none⟩ = some (.int .i64 0) := (blk_cell B6_.out 6).trans rfl; have fq6 := blk_frozen B6_.out 6; have hq7 : w5.cell? ⟨wr.heap.size, 7, none⟩ = some (.int .i64 0) := (blk_cell B6_.out 7).trans rfl; have fq7 := blk_frozen B6_.out 7; have hq8 : w5.cell? ⟨wr.heap.size, 8, none⟩ = some (.slice none 0 0) := (blk_cell B6_.out 8).trans rfl; have fq8 := blk_frozen B6_.out 8; have hq9 : w5.cell? ⟨wr.heap.size, 9, none⟩ = some (.int .i64 0) := (blk_cell B6_.out 9).trans rfl; have fq9 := blk_frozen B6_.out 9; have hq10 : w5.cell? ⟨wr.heap.size, 10, none⟩ = some (.int .i64 0) := (blk_cell B6_.out 10).trans rfl; have fq10 := blk_frozen B6_.out 10; have hq11 : w5.cell? ⟨wr.heap.size, 11, none⟩ = some (.slice none 0 0) := (blk_cell B6_.out 11).trans rfl; have fq11 := blk_frozen B6_.out 11)); obtain ⟨a0_, b0_, A0_, n0_, c0_, a1_, b1_, A1_, n1_, c1_, a2_, b2_, A2_, n2_, c2_, a3_, b3_, A3_, n3_, c3_, hcs5⟩ := JV.open_ hj5.now; subst hcs5; have HJ5 := Aside0.mk hj5; clear hj5))
      · obtain ⟨W6, hW6, b6, st0⟩ : ∃ W, W = w5.alloc (.cells #[.int .i64 a0_, .int .i64 b0_, .slice A0_ n0_ c0_, .int .i64 a1_, .int .i64 b1_, .slice A1_ n1_ c1_, .int .i64 a2_, .int .i64 b2_, .slice A2_ n2_ c2_, .int .i64 a3_, .int .i64 b3_, .slice A3_ n3_ c3_] 27) ∧ W.heap[w5.heap.size]? = some (.cells #[.int .i64 a0_, .int .i64 b0_, .slice A0_ n0_ c0_, .int .i64 a1_, .int .i64 b1_, .slice A1_ n1_ c1_, .int .i64 a2_, .int .i64 b2_, .slice A2_ n2_ c2_, .int .i64 a3_, .int .i64 b3_, .slice A3_ n3_ c3_] 27 (0, 0)) ∧ Step w5.heap.size w5 W := ⟨_, rfl, heap_alloc_last w5 _, Step.of_below (below_alloc (Below.refl w5.heap.size w5) _)⟩
        have B6 := Aside0.mk b6
        have ST := Aside0.mk (show Step w5.heap.size w5 W6 from st0)
        have HBW := Aside0.mk (show Below wr.heap.size wr W6 from ST.out.fresh HB5.out HB5.out.size)
        have HJ6 : Aside0 (JVF W6 (fun k_ => k_ ≠ g4) J2 [.int .i64 a0_, .int .i64 b0_, .slice A0_ n0_ c0_, .int .i64 a1_, .int .i64 b1_, .slice A1_ n1_ c1_, .int .i64 a2_, .int .i64 b2_, .slice A2_ n2_ c2_, .int .i64 a3_, .int .i64 b3_, .slice A3_ n3_ c3_]) := Aside0.mk ((HJ5.out.bound.keep ST.out (fun k_ hk_ => Nat.ne_of_lt hk_.2)).mono (fun k_ hk_ => by have h4_ := blk_lt B4.out; rcases hk_.1 with h_ | h_; exact h_.1.1; have h7_ : wr.heap.size ≤ k_ := Nat.le_trans (by first | exact Nat.le_refl _ | simp) h_; omega))
        have NG : Aside0 (g4 ≠ w5.heap.size) := Aside0.mk (by have h_ := blk_lt B4.out; have h5_ := HB5.out.size; omega)
        rw [← hW6]
        clear hW6 b6 st0
        generalize w5.heap.size = g6 at B6 NG ⊢
        clear ST HJ5 HB5 x0 x1 x2 x3 x4 x5 x6 r1 r2 r3 hkI HSS
        have B46 := Aside0.mk (blk_below B4.out HBW.out)
        have HBB := Aside0.mk (below_step HB.out HBW.out)
        have HJO := Aside0.mk ((HJ.out.below HBW.out).mono (fun k_ hk_ => hk_.1))
        clear HB B4 HBW
        by_cases he : er = 0
        · subst he
          have HG2 := Aside0.mk (good_apply HG.out HA.out)
          go_wp2_with (first | ((with_reducible refine gate_dst (N := 42) rfl ?_); go_loud (refine wpList_load_row rfl 27 (.tmp 6) rfl g6 rfl 27 #[.int .i64 a0_, .int .i64 b0_, .slice A0_ n0_ c0_, .int .i64 a1_, .int .i64 b1_, .slice A1_ n1_ c1_, .int .i64 a2_, .int .i64 b2_, .slice A2_ n2_ c2_, .int .i64 a3_, .int .i64 b3_, .slice A3_ n3_ c3_] (0, 0) _ B6.out hu27 rfl size27 ?_)) | ((with_reducible refine gate_ (.store 27 (.tmp 4) (.tmp 42)) rfl ?_); go_loud (refine wpList_storeR rfl rfl 27 (.tmp 4) (.tmp 42) rfl g4 0 rfl (.agg #[.int .i64 a0_, .int .i64 b0_, .slice A0_ n0_ c0_, .int .i64 a1_, .int .i64 b1_, .slice A1_ n1_ c1_, .int .i64 a2_, .int .i64 b2_, .slice A2_ n2_ c2_, .int .i64 a3_, .int .i64 b3_, .slice A3_ n3_ c3_]) rfl [.int .i64 a0_, .int .i64 b0_, .slice A0_ n0_ c0_, .int .i64 a1_, .int .i64 b1_, .slice A1_ n1_ c1_, .int .i64 a2_, .int .i64 b2_, .slice A2_ n2_ c2_, .int .i64 a3_, .int .i64 b3_, .slice A3_ n3_ c3_] rfl #[.int .i64 a0, .int .i64 b0, .slice A0 n0 c0, .int .i64 a1, .int .i64 b1, .slice A1 n1 c1, .int .i64 a2, .int .i64 b2, .slice A2 n2 c2, .int .i64 a3, .int .i64 b3, .slice A3 n3 c3] 27 B46.out size27 (by simp) (by simp [Value.oneCell']) #[.int .i64 a0_, .int .i64 b0_, .slice A0_ n0_ c0_, .int .i64 a1_, .int .i64 b1_, .slice A1_ n1_ c1_, .int .i64 a2_, .int .i64 b2_, .slice A2_ n2_ c2_, .int .i64 a3_, .int .i64 b3_, .slice A3_ n3_ c3_] rfl ?_); intro w8 hs st; have B48 := Aside0.mk hs; have HB8 := Aside0.mk (st.fresh HBB.out GE4.out); have HJ8 := Aside0.mk (HJ6.out.keep st (fun k_ hk_ => hk_)); clear hs st; refine hold_ ?_))
          unfold Hold_
          clear HJO HBB B46 B6 HJ6
          have HJW := Aside0.mk HJ8.out.now
          go_wp2_with fail
          go_loopg [8] 4 (fun m2 v8 wr2 => ∃ ip : Nat, v8 = .int .i64 (ip : Int) ∧ Aside0 (ip + m2 = 4) ∧ Aside0 (Below w8.heap.size w8 wr2))
          case atStart => exact ⟨0, rfl, ⟨rfl⟩, ⟨Below.refl _ _⟩⟩
          case round =>
            obtain ⟨ip, rfl, HK2, HW2⟩ := hrel
            cases gk with
            | zero =>
              have hi : ip = 4 := by have := HK2.out; omega
              subst hi
              go_wp2
              go_roundg m
              case measure => omega
              case rel => exact ⟨k + 1, J2, [.int .i64 a0_, .int .i64 b0_, .slice A0_ n0_ c0_, .int .i64 a1_, .int .i64 b1_, .slice A1_ n1_ c1_, .int .i64 a2_, .int .i64 b2_, .slice A2_ n2_ c2_, .int .i64 a3_, .int .i64 b3_, .slice A3_ n3_ c3_], by rw [show ((k + 1 : Nat) : Int) = (k : Int) + 1 from by omega, wrapI (by omega) (by have := HL.out; omega)], ⟨by have := HK.out; omega⟩, ⟨(HJ8.out.below HW2.out).mono (fun k_ hk_ => hk_.1)⟩, ⟨HF2.out⟩, ⟨HG2.out⟩, ⟨below_step HB8.out HW2.out⟩, ⟨blk_below B48.out HW2.out⟩⟩
            | succ m2 =>
              have hi : ip < 4 := by have := HK2.out; omega
              have q0 : (0 : Int) ≤ (ip : Int) := by omega
              have q1 : (ip : Int) < 4 := by omega
              have q3 : (ip : Int) ≤ 3 := by omega
              obtain ⟨Ap, cp, f0_, f1_, f2_, hle3, hC3⟩ := HJW.out.at_ ip hi
              have ht := (HG2.out).2 ip hi
              have hr8 : ∀ e : Int, endL (lg J2 ip) = e → (if 0 ≤ (ip : Int) ∧ (ip : Int) ≤ 3 then endL (lg J2 (ip : Int).toNat) else 0) = e := fun e he => by rw [if_pos ⟨q0, q3⟩, Int.toNat_natCast, he]
              have hr9 : ∀ e : Int, lastL (lg J2 ip) = e → (if 0 ≤ (ip : Int) ∧ (ip : Int) ≤ 3 then lastL (lg J2 (ip : Int).toNat) else 0) = e := fun e he => by rw [if_pos ⟨q0, q3⟩, Int.toNat_natCast, he]
              obtain ⟨p, hp⟩ : ∃ p, p = lg J2 ip := ⟨_, rfl⟩
              rw [← hp] at f0_ f1_ f2_ hle3 hC3 ht hr8 hr9
              have HT := Aside0.mk ht
              have HR8 := Aside0.mk hr8
              have HR9 := Aside0.mk hr9
              have HA2 := Aside0.mk f2_
              have HC3 := Aside0.mk hC3
              have B42 := Aside0.mk (blk_below B48.out HW2.out)
              have y0 := jcell B42.out (ip * 3 + 0) (by simpa using f0_)
              have y1 := jcell B42.out (ip * 3 + 1) (by simpa using f1_)
              rw [Nat.add_zero] at y0
              clear f0_ f1_ f2_ hle3 hC3 ht hr8 hr9 hp q3
              go_wp2_with fail
              clear y0 y1
              go_loopg [9, 10, 11] p.2.2.length (fun m3 v9 v10 v11 wr3 => ∃ (n : Nat) (e9 e10 : Int), v11 = .int .i64 (n : Int) ∧ v9 = .int .i64 e9 ∧ v10 = .int .i64 e10 ∧ Aside0 (e9 = endL (p.1, p.2.1, p.2.2.take n)) ∧ Aside0 (e10 = lastL (p.1, p.2.1, p.2.2.take n)) ∧ Aside0 (n + m3 = p.2.2.length) ∧ Aside0 (Below w8.heap.size w8 wr3))
              case atStart => exact ⟨0, _, _, rfl, rfl, rfl, ⟨rfl⟩, ⟨rfl⟩, ⟨by omega⟩, ⟨HW2.out⟩⟩
              case round =>
                clear HW2 B42
                obtain ⟨n, e9, e10, rfl, rfl, rfl, HQ9, HQ10, HK3, HW3⟩ := hrel
                have B43 := Aside0.mk (blk_below B48.out HW3.out)
                have HJ3 := Aside0.mk (HJW.out.below HW3.out)
                have y2 := jcell B43.out (ip * 3 + 2) (by simpa using HA2.out)
                cases gk with
                | zero =>
                  have hn : n = p.2.2.length := by have := HK3.out; omega
                  have s1 : decide ((n : Int) < (p.2.2.length : Int)) = false := decide_eq_false (by omega)
                  have s2 : decide (n < p.2.2.length) = false := decide_eq_false (by omega)
                  have HE9 := Aside0.mk (HR8.out e9 (by rw [HQ9.out, hn, List.take_length]))
                  have HE10 := Aside0.mk (HR9.out e10 (by rw [HQ10.out, hn, List.take_length]))
                  have t9 : (e9 != e9) = false := bne_eq_false_iff_eq.mpr rfl
                  have t10 : (e10 != e10) = false := bne_eq_false_iff_eq.mpr rfl
                  clear hn
                  go_wp2_with (first | ((with_reducible refine gate_dst (N := 97) rfl ?_); go_loud (refine wpList_load_row rfl 27 (.tmp 4) rfl g4 rfl 27 #[.int .i64 a0_, .int .i64 b0_, .slice A0_ n0_ c0_, .int .i64 a1_, .int .i64 b1_, .slice A1_ n1_ c1_, .int .i64 a2_, .int .i64 b2_, .slice A2_ n2_ c2_, .int .i64 a3_, .int .i64 b3_, .slice A3_ n3_ c3_] (0, 0) _ B43.out hu27 rfl size27 ?_)) | ((with_reducible refine gate_callee (f := 8) rfl ?_); refine goesL_ (some 99) rfl rfl Try.func8 (by kernel_rfl) rfl #[.agg #[.int .i64 a0_, .int .i64 b0_, .slice A0_ n0_ c0_, .int .i64 a1_, .int .i64 b1_, .slice A1_ n1_ c1_, .int .i64 a2_, .int .i64 b2_, .slice A2_ n2_ c2_, .int .i64 a3_, .int .i64 b3_, .slice A3_ n3_ c3_], .int .i64 (ip : Int)] rfl (by (try simp only [List.map_toArray, List.map_cons, List.map_nil]); first | done | rfl) ?_; go_loud (refine (journal_End.calls J2 [.int .i64 a0_, .int .i64 b0_, .slice A0_ n0_ c0_, .int .i64 a1_, .int .i64 b1_, .slice A1_ n1_ c1_, .int .i64 a2_, .int .i64 b2_, .slice A2_ n2_ c2_, .int .i64 a3_, .int .i64 b3_, .slice A3_ n3_ c3_] (ip : Int) e9 _ HJ3.out HE9.out).mono ?_); rintro e w20 ⟨rfl, hb⟩; refine ⟨_, rfl, ?_⟩; have mm0_ := Aside0.mk (below_step HW3.out hb); have mm1_ := Aside0.mk (blk_below B43.out hb); have mm2_ := Aside0.mk (HJ3.out.below hb); clear HW3 B43 HJ3 hb; have HW3 := mm0_; have B43 := mm1_; have HJ3 := mm2_; clear mm0_ mm1_ mm2_; have hh0 : w20.cell? ⟨g4, 0, none⟩ = some (.int .i64 a0_) := (blk_cell B43.out 0).trans rfl; have hh1 : w20.cell? ⟨g4, 1, none⟩ = some (.int .i64 b0_) := (blk_cell B43.out 1).trans rfl; have hh2 : w20.cell? ⟨g4, 2, none⟩ = some (.slice A0_ n0_ c0_) := (blk_cell B43.out 2).trans rfl; have hh3 : w20.cell? ⟨g4, 3, none⟩ = some (.int .i64 a1_) := (blk_cell B43.out 3).trans rfl; have hh4 : w20.cell? ⟨g4, 4, none⟩ = some (.int .i64 b1_) := (blk_cell B43.out 4).trans rfl; have hh5 : w20.cell? ⟨g4, 5, none⟩ = some (.slice A1_ n1_ c1_) := (blk_cell B43.out 5).trans rfl; have hh6 : w20.cell? ⟨g4, 6, none⟩ = some (.int .i64 a2_) := (blk_cell B43.out 6).trans rfl; have hh7 : w20.cell? ⟨g4, 7, none⟩ = some (.int .i64 b2_) := (blk_cell B43.out 7).trans rfl; have hh8 : w20.cell? ⟨g4, 8, none⟩ = some (.slice A2_ n2_ c2_) := (blk_cell B43.out 8).trans rfl; have hh9 : w20.cell? ⟨g4, 9, none⟩ = some (.int .i64 a3_) := (blk_cell B43.out 9).trans rfl; have hh10 : w20.cell? ⟨g4, 10, none⟩ = some (.int .i64 b3_) := (blk_cell B43.out 10).trans rfl; have hh11 : w20.cell? ⟨g4, 11, none⟩ = some (.slice A3_ n3_ c3_) := (blk_cell B43.out 11).trans rfl) | (go_at_call 9; go_loud (refine (journal_Last.calls J2 [.int .i64 a0_, .int .i64 b0_, .slice A0_ n0_ c0_, .int .i64 a1_, .int .i64 b1_, .slice A1_ n1_ c1_, .int .i64 a2_, .int .i64 b2_, .slice A2_ n2_ c2_, .int .i64 a3_, .int .i64 b3_, .slice A3_ n3_ c3_] (ip : Int) e10 _ HJ3.out HE10.out).mono ?_); rintro e w21 ⟨rfl, hb⟩; have mm0_ := Aside0.mk (below_step HW3.out hb); have mm1_ := Aside0.mk (blk_below B43.out hb); have mm2_ := Aside0.mk (HJ3.out.below hb); clear HW3 B43 HJ3 hb; have HW3 := mm0_; have B43 := mm1_; have HJ3 := mm2_; clear mm0_ mm1_ mm2_))
                  go_roundg m2
                  case measure => omega
                  case rel => exact ⟨ip + 1, by rw [show ((ip + 1 : Nat) : Int) = (ip : Int) + 1 from by omega], ⟨by have := HK2.out; omega⟩, ⟨HW3.out⟩⟩
                | succ m3 =>
                  have hn : n < p.2.2.length := by have := HK3.out; omega
                  have hnI : (n : Int) < (p.2.2.length : Int) := by omega
                  have s1 : decide ((n : Int) < (p.2.2.length : Int)) = true := decide_eq_true hnI
                  have s2 : decide (n < p.2.2.length) = true := decide_eq_true hn
                  have s3 : (0 : Int) ≤ (n : Int) := by omega
                  obtain ⟨ad3, e3, z0, z1, z2, z3, z4, z5, z6⟩ := at_T32 (Kd.C_below HC3.out HW3.out) (n : Int) s3 hnI
                  cases e3
                  rw [Int.toNat_natCast] at z0 z1 z2 z3 z4 z5 z6
                  obtain ⟨k3, k2, k1, k0, k4, k5⟩ := tiles_at HT.out hn
                  rw [← HQ9.out] at k3
                  rw [← HQ10.out] at k2
                  generalize rd_T32 p.2.2 (n : Int) = z at z0 z1 z2 z3 z4 z5 z6 k3 k2 k1 k0 k4 k5
                  have t3 : (z.f3 != e9) = false := bne_eq_false_iff_eq.mpr k3
                  have t2 : (z.f2 != IntKind.i64.wrap (e10 + 1)) = false := bne_eq_false_iff_eq.mpr k2
                  have t2w : (z.f2 != wrap64 (e10 + 1)) = false := bne_eq_false_iff_eq.mpr (k2.trans (i64_w _))
                  have t1 : (z.f1 != (ip : Int)) = false := bne_eq_false_iff_eq.mpr k1
                  have t0 : (z.f0 != 1) = false := bne_eq_false_iff_eq.mpr k0
                  have K4 := Aside0.mk k4
                  have K2 := Aside0.mk (k2.trans (i64_w _))
                  have K5 := Aside0.mk k5
                  clear k0 k1 k2 k3 k4 k5
                  go_wp2_with (first | ((with_reducible refine gate_dst (N := 12) rfl ?_); refine box_event ?hg (N := 12) ?hd (cs := #[.int .i64 0, .int .i64 0, .int .i64 0, .int .i64 0, .int .i64 0, .int .i64 0, .int .i64 0]) (t := 32) ?hr ?_; (case hd => rfl); (case hg => rfl); (case hr => first | (go_simp; done) | (go_simp; rfl)); intro g12 hg w22 hbox hb; have B12 := Aside0.mk hbox; have G12 := Aside0.mk (show w8.heap.size ≤ g12 by (rw [hg]; exact HW3.out.size)); have mm0_ := Aside0.mk (below_step HW3.out hb); clear HW3; have HW3 := mm0_; clear mm0_ hb hbox hg) | ((with_reducible refine gate_ (.store 32 (.tmp 12) (.tmp 70)) rfl ?_); go_loud (refine wpList_storeR rfl rfl 32 (.tmp 12) (.tmp 70) rfl g12 0 rfl (.agg (ecells z)) rfl (ecells z).toList rfl #[.int .i64 0, .int .i64 0, .int .i64 0, .int .i64 0, .int .i64 0, .int .i64 0, .int .i64 0] 32 B12.out size32 (by simp) (by simp [Value.oneCell']) (ecells z) rfl ?_); intro w23 hs st; have mm0_ := Aside0.mk (st.fresh HW3.out G12.out); have B12_ := Aside0.mk hs; clear HW3 B12 hs st; have HW3 := mm0_; clear mm0_; have hz0 : w23.cell? ⟨g12, 0, none⟩ = some (.int .i64 z.f0) := (blk_cell B12_.out 0).trans rfl; have hz1 : w23.cell? ⟨g12, 1, none⟩ = some (.int .i64 z.f1) := (blk_cell B12_.out 1).trans rfl; have hz2 : w23.cell? ⟨g12, 2, none⟩ = some (.int .i64 z.f2) := (blk_cell B12_.out 2).trans rfl; have hz3 : w23.cell? ⟨g12, 3, none⟩ = some (.int .i64 z.f3) := (blk_cell B12_.out 3).trans rfl; have hz4 : w23.cell? ⟨g12, 4, none⟩ = some (.int .i64 z.f4) := (blk_cell B12_.out 4).trans rfl; have hz5 : w23.cell? ⟨g12, 5, none⟩ = some (.int .i64 z.f5) := (blk_cell B12_.out 5).trans rfl; have hz6 : w23.cell? ⟨g12, 6, none⟩ = some (.int .i64 z.f6) := (blk_cell B12_.out 6).trans rfl))
                  go_roundg m3
                  case measure => omega
                  case rel => exact ⟨n + 1, _, _, by rw [show ((n + 1 : Nat) : Int) = (n : Int) + 1 from by omega, wrapI (by omega) (by have := HC3.out.2.1; omega)], rfl, rfl, ⟨K4.out⟩, ⟨by first | exact K5.out | exact K2.out.symm.trans K5.out⟩, ⟨by have := HK3.out; omega⟩, ⟨HW3.out⟩⟩
        · have he1 : (er == 0) = false := beq_eq_false_iff_ne.mpr he
          clear he B6 HJ6
          have HJW := Aside0.mk HJO.out.now
          go_wp2_with fail
          go_loopg [8] 4 (fun m2 v8 wr2 => ∃ ip : Nat, v8 = .int .i64 (ip : Int) ∧ Aside0 (ip + m2 = 4) ∧ Aside0 (Below W6.heap.size W6 wr2))
          case atStart => exact ⟨0, rfl, ⟨rfl⟩, ⟨Below.refl _ _⟩⟩
          case round =>
            obtain ⟨ip, rfl, HK2, HW2⟩ := hrel
            cases gk with
            | zero =>
              have hi : ip = 4 := by have := HK2.out; omega
              subst hi
              go_wp2
              go_roundg m
              case measure => omega
              case rel => exact ⟨k + 1, J, [.int .i64 a0, .int .i64 b0, .slice A0 n0 c0, .int .i64 a1, .int .i64 b1, .slice A1 n1 c1, .int .i64 a2, .int .i64 b2, .slice A2 n2 c2, .int .i64 a3, .int .i64 b3, .slice A3 n3 c3], by rw [show ((k + 1 : Nat) : Int) = (k : Int) + 1 from by omega, wrapI (by omega) (by have := HL.out; omega)], ⟨by have := HK.out; omega⟩, ⟨(HJO.out.below HW2.out).mono (fun k_ hk_ => hk_.1)⟩, ⟨(fun i hi => Nat.le_succ_of_le (HF.out i hi))⟩, ⟨HG.out⟩, ⟨below_step HBB.out HW2.out⟩, ⟨blk_below B46.out HW2.out⟩⟩
            | succ m2 =>
              have hi : ip < 4 := by have := HK2.out; omega
              have q0 : (0 : Int) ≤ (ip : Int) := by omega
              have q1 : (ip : Int) < 4 := by omega
              have q3 : (ip : Int) ≤ 3 := by omega
              obtain ⟨Ap, cp, f0_, f1_, f2_, hle3, hC3⟩ := HJW.out.at_ ip hi
              have ht := (HG.out).2 ip hi
              have hr8 : ∀ e : Int, endL (lg J ip) = e → (if 0 ≤ (ip : Int) ∧ (ip : Int) ≤ 3 then endL (lg J (ip : Int).toNat) else 0) = e := fun e he => by rw [if_pos ⟨q0, q3⟩, Int.toNat_natCast, he]
              have hr9 : ∀ e : Int, lastL (lg J ip) = e → (if 0 ≤ (ip : Int) ∧ (ip : Int) ≤ 3 then lastL (lg J (ip : Int).toNat) else 0) = e := fun e he => by rw [if_pos ⟨q0, q3⟩, Int.toNat_natCast, he]
              obtain ⟨p, hp⟩ : ∃ p, p = lg J ip := ⟨_, rfl⟩
              rw [← hp] at f0_ f1_ f2_ hle3 hC3 ht hr8 hr9
              have HT := Aside0.mk ht
              have HR8 := Aside0.mk hr8
              have HR9 := Aside0.mk hr9
              have HA2 := Aside0.mk f2_
              have HC3 := Aside0.mk hC3
              have B42 := Aside0.mk (blk_below B46.out HW2.out)
              have y0 := jcell B42.out (ip * 3 + 0) (by simpa using f0_)
              have y1 := jcell B42.out (ip * 3 + 1) (by simpa using f1_)
              rw [Nat.add_zero] at y0
              clear f0_ f1_ f2_ hle3 hC3 ht hr8 hr9 hp q3
              go_wp2_with fail
              clear y0 y1
              go_loopg [9, 10, 11] p.2.2.length (fun m3 v9 v10 v11 wr3 => ∃ (n : Nat) (e9 e10 : Int), v11 = .int .i64 (n : Int) ∧ v9 = .int .i64 e9 ∧ v10 = .int .i64 e10 ∧ Aside0 (e9 = endL (p.1, p.2.1, p.2.2.take n)) ∧ Aside0 (e10 = lastL (p.1, p.2.1, p.2.2.take n)) ∧ Aside0 (n + m3 = p.2.2.length) ∧ Aside0 (Below W6.heap.size W6 wr3))
              case atStart => exact ⟨0, _, _, rfl, rfl, rfl, ⟨rfl⟩, ⟨rfl⟩, ⟨by omega⟩, ⟨HW2.out⟩⟩
              case round =>
                clear HW2 B42
                obtain ⟨n, e9, e10, rfl, rfl, rfl, HQ9, HQ10, HK3, HW3⟩ := hrel
                have B43 := Aside0.mk (blk_below B46.out HW3.out)
                have HJ3 := Aside0.mk (HJW.out.below HW3.out)
                have y2 := jcell B43.out (ip * 3 + 2) (by simpa using HA2.out)
                cases gk with
                | zero =>
                  have hn : n = p.2.2.length := by have := HK3.out; omega
                  have s1 : decide ((n : Int) < (p.2.2.length : Int)) = false := decide_eq_false (by omega)
                  have s2 : decide (n < p.2.2.length) = false := decide_eq_false (by omega)
                  have HE9 := Aside0.mk (HR8.out e9 (by rw [HQ9.out, hn, List.take_length]))
                  have HE10 := Aside0.mk (HR9.out e10 (by rw [HQ10.out, hn, List.take_length]))
                  have t9 : (e9 != e9) = false := bne_eq_false_iff_eq.mpr rfl
                  have t10 : (e10 != e10) = false := bne_eq_false_iff_eq.mpr rfl
                  clear hn
                  go_wp2_with (first | ((with_reducible refine gate_dst (N := 97) rfl ?_); go_loud (refine wpList_load_row rfl 27 (.tmp 4) rfl g4 rfl 27 #[.int .i64 a0, .int .i64 b0, .slice A0 n0 c0, .int .i64 a1, .int .i64 b1, .slice A1 n1 c1, .int .i64 a2, .int .i64 b2, .slice A2 n2 c2, .int .i64 a3, .int .i64 b3, .slice A3 n3 c3] (0, 0) _ B43.out hu27 rfl size27 ?_)) | ((with_reducible refine gate_callee (f := 8) rfl ?_); refine goesL_ (some 99) rfl rfl Try.func8 (by kernel_rfl) rfl #[.agg #[.int .i64 a0, .int .i64 b0, .slice A0 n0 c0, .int .i64 a1, .int .i64 b1, .slice A1 n1 c1, .int .i64 a2, .int .i64 b2, .slice A2 n2 c2, .int .i64 a3, .int .i64 b3, .slice A3 n3 c3], .int .i64 (ip : Int)] rfl (by (try simp only [List.map_toArray, List.map_cons, List.map_nil]); first | done | rfl) ?_; go_loud (refine (journal_End.calls J [.int .i64 a0, .int .i64 b0, .slice A0 n0 c0, .int .i64 a1, .int .i64 b1, .slice A1 n1 c1, .int .i64 a2, .int .i64 b2, .slice A2 n2 c2, .int .i64 a3, .int .i64 b3, .slice A3 n3 c3] (ip : Int) e9 _ HJ3.out HE9.out).mono ?_); rintro e w20 ⟨rfl, hb⟩; refine ⟨_, rfl, ?_⟩; have mm0_ := Aside0.mk (below_step HW3.out hb); have mm1_ := Aside0.mk (blk_below B43.out hb); have mm2_ := Aside0.mk (HJ3.out.below hb); clear HW3 B43 HJ3 hb; have HW3 := mm0_; have B43 := mm1_; have HJ3 := mm2_; clear mm0_ mm1_ mm2_; have hh0 : w20.cell? ⟨g4, 0, none⟩ = some (.int .i64 a0) := (blk_cell B43.out 0).trans rfl; have hh1 : w20.cell? ⟨g4, 1, none⟩ = some (.int .i64 b0) := (blk_cell B43.out 1).trans rfl; have hh2 : w20.cell? ⟨g4, 2, none⟩ = some (.slice A0 n0 c0) := (blk_cell B43.out 2).trans rfl; have hh3 : w20.cell? ⟨g4, 3, none⟩ = some (.int .i64 a1) := (blk_cell B43.out 3).trans rfl; have hh4 : w20.cell? ⟨g4, 4, none⟩ = some (.int .i64 b1) := (blk_cell B43.out 4).trans rfl; have hh5 : w20.cell? ⟨g4, 5, none⟩ = some (.slice A1 n1 c1) := (blk_cell B43.out 5).trans rfl; have hh6 : w20.cell? ⟨g4, 6, none⟩ = some (.int .i64 a2) := (blk_cell B43.out 6).trans rfl; have hh7 : w20.cell? ⟨g4, 7, none⟩ = some (.int .i64 b2) := (blk_cell B43.out 7).trans rfl; have hh8 : w20.cell? ⟨g4, 8, none⟩ = some (.slice A2 n2 c2) := (blk_cell B43.out 8).trans rfl; have hh9 : w20.cell? ⟨g4, 9, none⟩ = some (.int .i64 a3) := (blk_cell B43.out 9).trans rfl; have hh10 : w20.cell? ⟨g4, 10, none⟩ = some (.int .i64 b3) := (blk_cell B43.out 10).trans rfl; have hh11 : w20.cell? ⟨g4, 11, none⟩ = some (.slice A3 n3 c3) := (blk_cell B43.out 11).trans rfl) | (go_at_call 9; go_loud (refine (journal_Last.calls J [.int .i64 a0, .int .i64 b0, .slice A0 n0 c0, .int .i64 a1, .int .i64 b1, .slice A1 n1 c1, .int .i64 a2, .int .i64 b2, .slice A2 n2 c2, .int .i64 a3, .int .i64 b3, .slice A3 n3 c3] (ip : Int) e10 _ HJ3.out HE10.out).mono ?_); rintro e w21 ⟨rfl, hb⟩; have mm0_ := Aside0.mk (below_step HW3.out hb); have mm1_ := Aside0.mk (blk_below B43.out hb); have mm2_ := Aside0.mk (HJ3.out.below hb); clear HW3 B43 HJ3 hb; have HW3 := mm0_; have B43 := mm1_; have HJ3 := mm2_; clear mm0_ mm1_ mm2_))
                  go_roundg m2
                  case measure => omega
                  case rel => exact ⟨ip + 1, by rw [show ((ip + 1 : Nat) : Int) = (ip : Int) + 1 from by omega], ⟨by have := HK2.out; omega⟩, ⟨HW3.out⟩⟩
                | succ m3 =>
                  have hn : n < p.2.2.length := by have := HK3.out; omega
                  have hnI : (n : Int) < (p.2.2.length : Int) := by omega
                  have s1 : decide ((n : Int) < (p.2.2.length : Int)) = true := decide_eq_true hnI
                  have s2 : decide (n < p.2.2.length) = true := decide_eq_true hn
                  have s3 : (0 : Int) ≤ (n : Int) := by omega
                  obtain ⟨ad3, e3, z0, z1, z2, z3, z4, z5, z6⟩ := at_T32 (Kd.C_below HC3.out HW3.out) (n : Int) s3 hnI
                  cases e3
                  rw [Int.toNat_natCast] at z0 z1 z2 z3 z4 z5 z6
                  obtain ⟨k3, k2, k1, k0, k4, k5⟩ := tiles_at HT.out hn
                  rw [← HQ9.out] at k3
                  rw [← HQ10.out] at k2
                  generalize rd_T32 p.2.2 (n : Int) = z at z0 z1 z2 z3 z4 z5 z6 k3 k2 k1 k0 k4 k5
                  have t3 : (z.f3 != e9) = false := bne_eq_false_iff_eq.mpr k3
                  have t2 : (z.f2 != IntKind.i64.wrap (e10 + 1)) = false := bne_eq_false_iff_eq.mpr k2
                  have t2w : (z.f2 != wrap64 (e10 + 1)) = false := bne_eq_false_iff_eq.mpr (k2.trans (i64_w _))
                  have t1 : (z.f1 != (ip : Int)) = false := bne_eq_false_iff_eq.mpr k1
                  have t0 : (z.f0 != 1) = false := bne_eq_false_iff_eq.mpr k0
                  have K4 := Aside0.mk k4
                  have K2 := Aside0.mk (k2.trans (i64_w _))
                  have K5 := Aside0.mk k5
                  clear k0 k1 k2 k3 k4 k5
                  go_wp2_with (first | ((with_reducible refine gate_dst (N := 12) rfl ?_); refine box_event ?hg (N := 12) ?hd (cs := #[.int .i64 0, .int .i64 0, .int .i64 0, .int .i64 0, .int .i64 0, .int .i64 0, .int .i64 0]) (t := 32) ?hr ?_; (case hd => rfl); (case hg => rfl); (case hr => first | (go_simp; done) | (go_simp; rfl)); intro g12 hg w22 hbox hb; have B12 := Aside0.mk hbox; have G12 := Aside0.mk (show W6.heap.size ≤ g12 by (rw [hg]; exact HW3.out.size)); have mm0_ := Aside0.mk (below_step HW3.out hb); clear HW3; have HW3 := mm0_; clear mm0_ hb hbox hg) | ((with_reducible refine gate_ (.store 32 (.tmp 12) (.tmp 70)) rfl ?_); go_loud (refine wpList_storeR rfl rfl 32 (.tmp 12) (.tmp 70) rfl g12 0 rfl (.agg (ecells z)) rfl (ecells z).toList rfl #[.int .i64 0, .int .i64 0, .int .i64 0, .int .i64 0, .int .i64 0, .int .i64 0, .int .i64 0] 32 B12.out size32 (by simp) (by simp [Value.oneCell']) (ecells z) rfl ?_); intro w23 hs st; have mm0_ := Aside0.mk (st.fresh HW3.out G12.out); have B12_ := Aside0.mk hs; clear HW3 B12 hs st; have HW3 := mm0_; clear mm0_; have hz0 : w23.cell? ⟨g12, 0, none⟩ = some (.int .i64 z.f0) := (blk_cell B12_.out 0).trans rfl; have hz1 : w23.cell? ⟨g12, 1, none⟩ = some (.int .i64 z.f1) := (blk_cell B12_.out 1).trans rfl; have hz2 : w23.cell? ⟨g12, 2, none⟩ = some (.int .i64 z.f2) := (blk_cell B12_.out 2).trans rfl; have hz3 : w23.cell? ⟨g12, 3, none⟩ = some (.int .i64 z.f3) := (blk_cell B12_.out 3).trans rfl; have hz4 : w23.cell? ⟨g12, 4, none⟩ = some (.int .i64 z.f4) := (blk_cell B12_.out 4).trans rfl; have hz5 : w23.cell? ⟨g12, 5, none⟩ = some (.int .i64 z.f5) := (blk_cell B12_.out 5).trans rfl; have hz6 : w23.cell? ⟨g12, 6, none⟩ = some (.int .i64 z.f6) := (blk_cell B12_.out 6).trans rfl))
                  go_roundg m3
                  case measure => omega
                  case rel => exact ⟨n + 1, _, _, by rw [show ((n + 1 : Nat) : Int) = (n : Int) + 1 from by omega, wrapI (by omega) (by have := HC3.out.2.1; omega)], rfl, rfl, ⟨K4.out⟩, ⟨by first | exact K5.out | exact K2.out.symm.trans K5.out⟩, ⟨by have := HK3.out; omega⟩, ⟨HW3.out⟩⟩
      · obtain ⟨W6, hW6, b6, st0⟩ := nest12 w5 wr.heap.size 27 (.int .i64 0) (.int .i64 0) (.slice none 0 0) (.int .i64 0) (.int .i64 0) (.slice none 0 0) (.int .i64 0) (.int .i64 0) (.slice none 0 0) (.int .i64 0) (.int .i64 0) (.slice none 0 0) (.int .i64 a0_) (.int .i64 b0_) (.slice A0_ n0_ c0_) (.int .i64 a1_) (.int .i64 b1_) (.slice A1_ n1_ c1_) (.int .i64 a2_) (.int .i64 b2_) (.slice A2_ n2_ c2_) (.int .i64 a3_) (.int .i64 b3_) (.slice A3_ n3_ c3_) B6_.out
        have B6 := Aside0.mk b6
        have ST := Aside0.mk (show Step wr.heap.size w5 W6 from st0)
        have HBW := Aside0.mk (show Below wr.heap.size wr W6 from ST.out.fresh HB5.out (Nat.le_refl _))
        have HJ6 : Aside0 (JVF W6 (fun k_ => k_ ≠ g4) J2 [.int .i64 a0_, .int .i64 b0_, .slice A0_ n0_ c0_, .int .i64 a1_, .int .i64 b1_, .slice A1_ n1_ c1_, .int .i64 a2_, .int .i64 b2_, .slice A2_ n2_ c2_, .int .i64 a3_, .int .i64 b3_, .slice A3_ n3_ c3_]) := Aside0.mk ((HJ5.out.keep ST.out (fun k_ hk_ => by rcases hk_ with h_ | h_; exact Nat.ne_of_lt h_.1.2; exact Nat.ne_of_gt (Nat.lt_of_lt_of_le (show wr.heap.size < _ by simp) h_))).mono (fun k_ hk_ => by have h4_ := blk_lt B4.out; rcases hk_ with h_ | h_; exact h_.1.1; have h7_ : wr.heap.size ≤ k_ := Nat.le_trans (by first | exact Nat.le_refl _ | simp) h_; omega))
        have NG : Aside0 (g4 ≠ wr.heap.size) := Aside0.mk (by have h_ := blk_lt B4.out; have h5_ := HB5.out.size; omega)
        rw [← hW6]
        clear hW6 b6 st0
        generalize wr.heap.size = g6 at B6 NG ⊢
        clear ST HJ5 HB5 x0 x1 x2 x3 x4 x5 x6 r1 r2 r3 hkI HSS B6_ hq0 fq0 hq1 fq1 hq2 fq2 hq3 fq3 hq4 fq4 hq5 fq5 hq6 fq6 hq7 fq7 hq8 fq8 hq9 fq9 hq10 fq10 hq11 fq11
        have B46 := Aside0.mk (blk_below B4.out HBW.out)
        have HBB := Aside0.mk (below_step HB.out HBW.out)
        have HJO := Aside0.mk ((HJ.out.below HBW.out).mono (fun k_ hk_ => hk_.1))
        clear HB B4 HBW
        by_cases he : er = 0
        · subst he
          have HG2 := Aside0.mk (good_apply HG.out HA.out)
          go_wp2_with (first | ((with_reducible refine gate_dst (N := 42) rfl ?_); go_loud (refine wpList_load_row rfl 27 (.tmp 6) rfl g6 rfl 27 #[.int .i64 a0_, .int .i64 b0_, .slice A0_ n0_ c0_, .int .i64 a1_, .int .i64 b1_, .slice A1_ n1_ c1_, .int .i64 a2_, .int .i64 b2_, .slice A2_ n2_ c2_, .int .i64 a3_, .int .i64 b3_, .slice A3_ n3_ c3_] (0, 0) _ B6.out hu27 rfl size27 ?_)) | ((with_reducible refine gate_ (.store 27 (.tmp 4) (.tmp 42)) rfl ?_); go_loud (refine wpList_storeR rfl rfl 27 (.tmp 4) (.tmp 42) rfl g4 0 rfl (.agg #[.int .i64 a0_, .int .i64 b0_, .slice A0_ n0_ c0_, .int .i64 a1_, .int .i64 b1_, .slice A1_ n1_ c1_, .int .i64 a2_, .int .i64 b2_, .slice A2_ n2_ c2_, .int .i64 a3_, .int .i64 b3_, .slice A3_ n3_ c3_]) rfl [.int .i64 a0_, .int .i64 b0_, .slice A0_ n0_ c0_, .int .i64 a1_, .int .i64 b1_, .slice A1_ n1_ c1_, .int .i64 a2_, .int .i64 b2_, .slice A2_ n2_ c2_, .int .i64 a3_, .int .i64 b3_, .slice A3_ n3_ c3_] rfl #[.int .i64 a0, .int .i64 b0, .slice A0 n0 c0, .int .i64 a1, .int .i64 b1, .slice A1 n1 c1, .int .i64 a2, .int .i64 b2, .slice A2 n2 c2, .int .i64 a3, .int .i64 b3, .slice A3 n3 c3] 27 B46.out size27 (by simp) (by simp [Value.oneCell']) #[.int .i64 a0_, .int .i64 b0_, .slice A0_ n0_ c0_, .int .i64 a1_, .int .i64 b1_, .slice A1_ n1_ c1_, .int .i64 a2_, .int .i64 b2_, .slice A2_ n2_ c2_, .int .i64 a3_, .int .i64 b3_, .slice A3_ n3_ c3_] rfl ?_); intro w8 hs st; have B48 := Aside0.mk hs; have HB8 := Aside0.mk (st.fresh HBB.out GE4.out); have HJ8 := Aside0.mk (HJ6.out.keep st (fun k_ hk_ => hk_)); clear hs st; refine hold_ ?_))
          unfold Hold_
          clear HJO HBB B46 B6 HJ6
          have HJW := Aside0.mk HJ8.out.now
          go_wp2_with fail
          go_loopg [8] 4 (fun m2 v8 wr2 => ∃ ip : Nat, v8 = .int .i64 (ip : Int) ∧ Aside0 (ip + m2 = 4) ∧ Aside0 (Below w8.heap.size w8 wr2))
          case atStart => exact ⟨0, rfl, ⟨rfl⟩, ⟨Below.refl _ _⟩⟩
          case round =>
            obtain ⟨ip, rfl, HK2, HW2⟩ := hrel
            cases gk with
            | zero =>
              have hi : ip = 4 := by have := HK2.out; omega
              subst hi
              go_wp2
              go_roundg m
              case measure => omega
              case rel => exact ⟨k + 1, J2, [.int .i64 a0_, .int .i64 b0_, .slice A0_ n0_ c0_, .int .i64 a1_, .int .i64 b1_, .slice A1_ n1_ c1_, .int .i64 a2_, .int .i64 b2_, .slice A2_ n2_ c2_, .int .i64 a3_, .int .i64 b3_, .slice A3_ n3_ c3_], by rw [show ((k + 1 : Nat) : Int) = (k : Int) + 1 from by omega, wrapI (by omega) (by have := HL.out; omega)], ⟨by have := HK.out; omega⟩, ⟨(HJ8.out.below HW2.out).mono (fun k_ hk_ => hk_.1)⟩, ⟨HF2.out⟩, ⟨HG2.out⟩, ⟨below_step HB8.out HW2.out⟩, ⟨blk_below B48.out HW2.out⟩⟩
            | succ m2 =>
              have hi : ip < 4 := by have := HK2.out; omega
              have q0 : (0 : Int) ≤ (ip : Int) := by omega
              have q1 : (ip : Int) < 4 := by omega
              have q3 : (ip : Int) ≤ 3 := by omega
              obtain ⟨Ap, cp, f0_, f1_, f2_, hle3, hC3⟩ := HJW.out.at_ ip hi
              have ht := (HG2.out).2 ip hi
              have hr8 : ∀ e : Int, endL (lg J2 ip) = e → (if 0 ≤ (ip : Int) ∧ (ip : Int) ≤ 3 then endL (lg J2 (ip : Int).toNat) else 0) = e := fun e he => by rw [if_pos ⟨q0, q3⟩, Int.toNat_natCast, he]
              have hr9 : ∀ e : Int, lastL (lg J2 ip) = e → (if 0 ≤ (ip : Int) ∧ (ip : Int) ≤ 3 then lastL (lg J2 (ip : Int).toNat) else 0) = e := fun e he => by rw [if_pos ⟨q0, q3⟩, Int.toNat_natCast, he]
              obtain ⟨p, hp⟩ : ∃ p, p = lg J2 ip := ⟨_, rfl⟩
              rw [← hp] at f0_ f1_ f2_ hle3 hC3 ht hr8 hr9
              have HT := Aside0.mk ht
              have HR8 := Aside0.mk hr8
              have HR9 := Aside0.mk hr9
              have HA2 := Aside0.mk f2_
              have HC3 := Aside0.mk hC3
              have B42 := Aside0.mk (blk_below B48.out HW2.out)
              have y0 := jcell B42.out (ip * 3 + 0) (by simpa using f0_)
              have y1 := jcell B42.out (ip * 3 + 1) (by simpa using f1_)
              rw [Nat.add_zero] at y0
              clear f0_ f1_ f2_ hle3 hC3 ht hr8 hr9 hp q3
              go_wp2_with fail
              clear y0 y1
              go_loopg [9, 10, 11] p.2.2.length (fun m3 v9 v10 v11 wr3 => ∃ (n : Nat) (e9 e10 : Int), v11 = .int .i64 (n : Int) ∧ v9 = .int .i64 e9 ∧ v10 = .int .i64 e10 ∧ Aside0 (e9 = endL (p.1, p.2.1, p.2.2.take n)) ∧ Aside0 (e10 = lastL (p.1, p.2.1, p.2.2.take n)) ∧ Aside0 (n + m3 = p.2.2.length) ∧ Aside0 (Below w8.heap.size w8 wr3))
              case atStart => exact ⟨0, _, _, rfl, rfl, rfl, ⟨rfl⟩, ⟨rfl⟩, ⟨by omega⟩, ⟨HW2.out⟩⟩
              case round =>
                clear HW2 B42
                obtain ⟨n, e9, e10, rfl, rfl, rfl, HQ9, HQ10, HK3, HW3⟩ := hrel
                have B43 := Aside0.mk (blk_below B48.out HW3.out)
                have HJ3 := Aside0.mk (HJW.out.below HW3.out)
                have y2 := jcell B43.out (ip * 3 + 2) (by simpa using HA2.out)
                cases gk with
                | zero =>
                  have hn : n = p.2.2.length := by have := HK3.out; omega
                  have s1 : decide ((n : Int) < (p.2.2.length : Int)) = false := decide_eq_false (by omega)
                  have s2 : decide (n < p.2.2.length) = false := decide_eq_false (by omega)
                  have HE9 := Aside0.mk (HR8.out e9 (by rw [HQ9.out, hn, List.take_length]))
                  have HE10 := Aside0.mk (HR9.out e10 (by rw [HQ10.out, hn, List.take_length]))
                  have t9 : (e9 != e9) = false := bne_eq_false_iff_eq.mpr rfl
                  have t10 : (e10 != e10) = false := bne_eq_false_iff_eq.mpr rfl
                  clear hn
                  go_wp2_with (first | ((with_reducible refine gate_dst (N := 97) rfl ?_); go_loud (refine wpList_load_row rfl 27 (.tmp 4) rfl g4 rfl 27 #[.int .i64 a0_, .int .i64 b0_, .slice A0_ n0_ c0_, .int .i64 a1_, .int .i64 b1_, .slice A1_ n1_ c1_, .int .i64 a2_, .int .i64 b2_, .slice A2_ n2_ c2_, .int .i64 a3_, .int .i64 b3_, .slice A3_ n3_ c3_] (0, 0) _ B43.out hu27 rfl size27 ?_)) | ((with_reducible refine gate_callee (f := 8) rfl ?_); refine goesL_ (some 99) rfl rfl Try.func8 (by kernel_rfl) rfl #[.agg #[.int .i64 a0_, .int .i64 b0_, .slice A0_ n0_ c0_, .int .i64 a1_, .int .i64 b1_, .slice A1_ n1_ c1_, .int .i64 a2_, .int .i64 b2_, .slice A2_ n2_ c2_, .int .i64 a3_, .int .i64 b3_, .slice A3_ n3_ c3_], .int .i64 (ip : Int)] rfl (by (try simp only [List.map_toArray, List.map_cons, List.map_nil]); first | done | rfl) ?_; go_loud (refine (journal_End.calls J2 [.int .i64 a0_, .int .i64 b0_, .slice A0_ n0_ c0_, .int .i64 a1_, .int .i64 b1_, .slice A1_ n1_ c1_, .int .i64 a2_, .int .i64 b2_, .slice A2_ n2_ c2_, .int .i64 a3_, .int .i64 b3_, .slice A3_ n3_ c3_] (ip : Int) e9 _ HJ3.out HE9.out).mono ?_); rintro e w20 ⟨rfl, hb⟩; refine ⟨_, rfl, ?_⟩; have mm0_ := Aside0.mk (below_step HW3.out hb); have mm1_ := Aside0.mk (blk_below B43.out hb); have mm2_ := Aside0.mk (HJ3.out.below hb); clear HW3 B43 HJ3 hb; have HW3 := mm0_; have B43 := mm1_; have HJ3 := mm2_; clear mm0_ mm1_ mm2_; have hh0 : w20.cell? ⟨g4, 0, none⟩ = some (.int .i64 a0_) := (blk_cell B43.out 0).trans rfl; have hh1 : w20.cell? ⟨g4, 1, none⟩ = some (.int .i64 b0_) := (blk_cell B43.out 1).trans rfl; have hh2 : w20.cell? ⟨g4, 2, none⟩ = some (.slice A0_ n0_ c0_) := (blk_cell B43.out 2).trans rfl; have hh3 : w20.cell? ⟨g4, 3, none⟩ = some (.int .i64 a1_) := (blk_cell B43.out 3).trans rfl; have hh4 : w20.cell? ⟨g4, 4, none⟩ = some (.int .i64 b1_) := (blk_cell B43.out 4).trans rfl; have hh5 : w20.cell? ⟨g4, 5, none⟩ = some (.slice A1_ n1_ c1_) := (blk_cell B43.out 5).trans rfl; have hh6 : w20.cell? ⟨g4, 6, none⟩ = some (.int .i64 a2_) := (blk_cell B43.out 6).trans rfl; have hh7 : w20.cell? ⟨g4, 7, none⟩ = some (.int .i64 b2_) := (blk_cell B43.out 7).trans rfl; have hh8 : w20.cell? ⟨g4, 8, none⟩ = some (.slice A2_ n2_ c2_) := (blk_cell B43.out 8).trans rfl; have hh9 : w20.cell? ⟨g4, 9, none⟩ = some (.int .i64 a3_) := (blk_cell B43.out 9).trans rfl; have hh10 : w20.cell? ⟨g4, 10, none⟩ = some (.int .i64 b3_) := (blk_cell B43.out 10).trans rfl; have hh11 : w20.cell? ⟨g4, 11, none⟩ = some (.slice A3_ n3_ c3_) := (blk_cell B43.out 11).trans rfl) | (go_at_call 9; go_loud (refine (journal_Last.calls J2 [.int .i64 a0_, .int .i64 b0_, .slice A0_ n0_ c0_, .int .i64 a1_, .int .i64 b1_, .slice A1_ n1_ c1_, .int .i64 a2_, .int .i64 b2_, .slice A2_ n2_ c2_, .int .i64 a3_, .int .i64 b3_, .slice A3_ n3_ c3_] (ip : Int) e10 _ HJ3.out HE10.out).mono ?_); rintro e w21 ⟨rfl, hb⟩; have mm0_ := Aside0.mk (below_step HW3.out hb); have mm1_ := Aside0.mk (blk_below B43.out hb); have mm2_ := Aside0.mk (HJ3.out.below hb); clear HW3 B43 HJ3 hb; have HW3 := mm0_; have B43 := mm1_; have HJ3 := mm2_; clear mm0_ mm1_ mm2_))
                  go_roundg m2
                  case measure => omega
                  case rel => exact ⟨ip + 1, by rw [show ((ip + 1 : Nat) : Int) = (ip : Int) + 1 from by omega], ⟨by have := HK2.out; omega⟩, ⟨HW3.out⟩⟩
                | succ m3 =>
                  have hn : n < p.2.2.length := by have := HK3.out; omega
                  have hnI : (n : Int) < (p.2.2.length : Int) := by omega
                  have s1 : decide ((n : Int) < (p.2.2.length : Int)) = true := decide_eq_true hnI
                  have s2 : decide (n < p.2.2.length) = true := decide_eq_true hn
                  have s3 : (0 : Int) ≤ (n : Int) := by omega
                  obtain ⟨ad3, e3, z0, z1, z2, z3, z4, z5, z6⟩ := at_T32 (Kd.C_below HC3.out HW3.out) (n : Int) s3 hnI
                  cases e3
                  rw [Int.toNat_natCast] at z0 z1 z2 z3 z4 z5 z6
                  obtain ⟨k3, k2, k1, k0, k4, k5⟩ := tiles_at HT.out hn
                  rw [← HQ9.out] at k3
                  rw [← HQ10.out] at k2
                  generalize rd_T32 p.2.2 (n : Int) = z at z0 z1 z2 z3 z4 z5 z6 k3 k2 k1 k0 k4 k5
                  have t3 : (z.f3 != e9) = false := bne_eq_false_iff_eq.mpr k3
                  have t2 : (z.f2 != IntKind.i64.wrap (e10 + 1)) = false := bne_eq_false_iff_eq.mpr k2
                  have t2w : (z.f2 != wrap64 (e10 + 1)) = false := bne_eq_false_iff_eq.mpr (k2.trans (i64_w _))
                  have t1 : (z.f1 != (ip : Int)) = false := bne_eq_false_iff_eq.mpr k1
                  have t0 : (z.f0 != 1) = false := bne_eq_false_iff_eq.mpr k0
                  have K4 := Aside0.mk k4
                  have K2 := Aside0.mk (k2.trans (i64_w _))
                  have K5 := Aside0.mk k5
                  clear k0 k1 k2 k3 k4 k5
                  go_wp2_with (first | ((with_reducible refine gate_dst (N := 12) rfl ?_); refine box_event ?hg (N := 12) ?hd (cs := #[.int .i64 0, .int .i64 0, .int .i64 0, .int .i64 0, .int .i64 0, .int .i64 0, .int .i64 0]) (t := 32) ?hr ?_; (case hd => rfl); (case hg => rfl); (case hr => first | (go_simp; done) | (go_simp; rfl)); intro g12 hg w22 hbox hb; have B12 := Aside0.mk hbox; have G12 := Aside0.mk (show w8.heap.size ≤ g12 by (rw [hg]; exact HW3.out.size)); have mm0_ := Aside0.mk (below_step HW3.out hb); clear HW3; have HW3 := mm0_; clear mm0_ hb hbox hg) | ((with_reducible refine gate_ (.store 32 (.tmp 12) (.tmp 70)) rfl ?_); go_loud (refine wpList_storeR rfl rfl 32 (.tmp 12) (.tmp 70) rfl g12 0 rfl (.agg (ecells z)) rfl (ecells z).toList rfl #[.int .i64 0, .int .i64 0, .int .i64 0, .int .i64 0, .int .i64 0, .int .i64 0, .int .i64 0] 32 B12.out size32 (by simp) (by simp [Value.oneCell']) (ecells z) rfl ?_); intro w23 hs st; have mm0_ := Aside0.mk (st.fresh HW3.out G12.out); have B12_ := Aside0.mk hs; clear HW3 B12 hs st; have HW3 := mm0_; clear mm0_; have hz0 : w23.cell? ⟨g12, 0, none⟩ = some (.int .i64 z.f0) := (blk_cell B12_.out 0).trans rfl; have hz1 : w23.cell? ⟨g12, 1, none⟩ = some (.int .i64 z.f1) := (blk_cell B12_.out 1).trans rfl; have hz2 : w23.cell? ⟨g12, 2, none⟩ = some (.int .i64 z.f2) := (blk_cell B12_.out 2).trans rfl; have hz3 : w23.cell? ⟨g12, 3, none⟩ = some (.int .i64 z.f3) := (blk_cell B12_.out 3).trans rfl; have hz4 : w23.cell? ⟨g12, 4, none⟩ = some (.int .i64 z.f4) := (blk_cell B12_.out 4).trans rfl; have hz5 : w23.cell? ⟨g12, 5, none⟩ = some (.int .i64 z.f5) := (blk_cell B12_.out 5).trans rfl; have hz6 : w23.cell? ⟨g12, 6, none⟩ = some (.int .i64 z.f6) := (blk_cell B12_.out 6).trans rfl))
                  go_roundg m3
                  case measure => omega
                  case rel => exact ⟨n + 1, _, _, by rw [show ((n + 1 : Nat) : Int) = (n : Int) + 1 from by omega, wrapI (by omega) (by have := HC3.out.2.1; omega)], rfl, rfl, ⟨K4.out⟩, ⟨by first | exact K5.out | exact K2.out.symm.trans K5.out⟩, ⟨by have := HK3.out; omega⟩, ⟨HW3.out⟩⟩
        · have he1 : (er == 0) = false := beq_eq_false_iff_ne.mpr he
          clear he B6 HJ6
          have HJW := Aside0.mk HJO.out.now
          go_wp2_with fail
          go_loopg [8] 4 (fun m2 v8 wr2 => ∃ ip : Nat, v8 = .int .i64 (ip : Int) ∧ Aside0 (ip + m2 = 4) ∧ Aside0 (Below W6.heap.size W6 wr2))
          case atStart => exact ⟨0, rfl, ⟨rfl⟩, ⟨Below.refl _ _⟩⟩
          case round =>
            obtain ⟨ip, rfl, HK2, HW2⟩ := hrel
            cases gk with
            | zero =>
              have hi : ip = 4 := by have := HK2.out; omega
              subst hi
              go_wp2
              go_roundg m
              case measure => omega
              case rel => exact ⟨k + 1, J, [.int .i64 a0, .int .i64 b0, .slice A0 n0 c0, .int .i64 a1, .int .i64 b1, .slice A1 n1 c1, .int .i64 a2, .int .i64 b2, .slice A2 n2 c2, .int .i64 a3, .int .i64 b3, .slice A3 n3 c3], by rw [show ((k + 1 : Nat) : Int) = (k : Int) + 1 from by omega, wrapI (by omega) (by have := HL.out; omega)], ⟨by have := HK.out; omega⟩, ⟨(HJO.out.below HW2.out).mono (fun k_ hk_ => hk_.1)⟩, ⟨(fun i hi => Nat.le_succ_of_le (HF.out i hi))⟩, ⟨HG.out⟩, ⟨below_step HBB.out HW2.out⟩, ⟨blk_below B46.out HW2.out⟩⟩
            | succ m2 =>
              have hi : ip < 4 := by have := HK2.out; omega
              have q0 : (0 : Int) ≤ (ip : Int) := by omega
              have q1 : (ip : Int) < 4 := by omega
              have q3 : (ip : Int) ≤ 3 := by omega
              obtain ⟨Ap, cp, f0_, f1_, f2_, hle3, hC3⟩ := HJW.out.at_ ip hi
              have ht := (HG.out).2 ip hi
              have hr8 : ∀ e : Int, endL (lg J ip) = e → (if 0 ≤ (ip : Int) ∧ (ip : Int) ≤ 3 then endL (lg J (ip : Int).toNat) else 0) = e := fun e he => by rw [if_pos ⟨q0, q3⟩, Int.toNat_natCast, he]
              have hr9 : ∀ e : Int, lastL (lg J ip) = e → (if 0 ≤ (ip : Int) ∧ (ip : Int) ≤ 3 then lastL (lg J (ip : Int).toNat) else 0) = e := fun e he => by rw [if_pos ⟨q0, q3⟩, Int.toNat_natCast, he]
              obtain ⟨p, hp⟩ : ∃ p, p = lg J ip := ⟨_, rfl⟩
              rw [← hp] at f0_ f1_ f2_ hle3 hC3 ht hr8 hr9
              have HT := Aside0.mk ht
              have HR8 := Aside0.mk hr8
              have HR9 := Aside0.mk hr9
              have HA2 := Aside0.mk f2_
              have HC3 := Aside0.mk hC3
              have B42 := Aside0.mk (blk_below B46.out HW2.out)
              have y0 := jcell B42.out (ip * 3 + 0) (by simpa using f0_)
              have y1 := jcell B42.out (ip * 3 + 1) (by simpa using f1_)
              rw [Nat.add_zero] at y0
              clear f0_ f1_ f2_ hle3 hC3 ht hr8 hr9 hp q3
              go_wp2_with fail
              clear y0 y1
              go_loopg [9, 10, 11] p.2.2.length (fun m3 v9 v10 v11 wr3 => ∃ (n : Nat) (e9 e10 : Int), v11 = .int .i64 (n : Int) ∧ v9 = .int .i64 e9 ∧ v10 = .int .i64 e10 ∧ Aside0 (e9 = endL (p.1, p.2.1, p.2.2.take n)) ∧ Aside0 (e10 = lastL (p.1, p.2.1, p.2.2.take n)) ∧ Aside0 (n + m3 = p.2.2.length) ∧ Aside0 (Below W6.heap.size W6 wr3))
              case atStart => exact ⟨0, _, _, rfl, rfl, rfl, ⟨rfl⟩, ⟨rfl⟩, ⟨by omega⟩, ⟨HW2.out⟩⟩
              case round =>
                clear HW2 B42
                obtain ⟨n, e9, e10, rfl, rfl, rfl, HQ9, HQ10, HK3, HW3⟩ := hrel
                have B43 := Aside0.mk (blk_below B46.out HW3.out)
                have HJ3 := Aside0.mk (HJW.out.below HW3.out)
                have y2 := jcell B43.out (ip * 3 + 2) (by simpa using HA2.out)
                cases gk with
                | zero =>
                  have hn : n = p.2.2.length := by have := HK3.out; omega
                  have s1 : decide ((n : Int) < (p.2.2.length : Int)) = false := decide_eq_false (by omega)
                  have s2 : decide (n < p.2.2.length) = false := decide_eq_false (by omega)
                  have HE9 := Aside0.mk (HR8.out e9 (by rw [HQ9.out, hn, List.take_length]))
                  have HE10 := Aside0.mk (HR9.out e10 (by rw [HQ10.out, hn, List.take_length]))
                  have t9 : (e9 != e9) = false := bne_eq_false_iff_eq.mpr rfl
                  have t10 : (e10 != e10) = false := bne_eq_false_iff_eq.mpr rfl
                  clear hn
                  go_wp2_with (first | ((with_reducible refine gate_dst (N := 97) rfl ?_); go_loud (refine wpList_load_row rfl 27 (.tmp 4) rfl g4 rfl 27 #[.int .i64 a0, .int .i64 b0, .slice A0 n0 c0, .int .i64 a1, .int .i64 b1, .slice A1 n1 c1, .int .i64 a2, .int .i64 b2, .slice A2 n2 c2, .int .i64 a3, .int .i64 b3, .slice A3 n3 c3] (0, 0) _ B43.out hu27 rfl size27 ?_)) | ((with_reducible refine gate_callee (f := 8) rfl ?_); refine goesL_ (some 99) rfl rfl Try.func8 (by kernel_rfl) rfl #[.agg #[.int .i64 a0, .int .i64 b0, .slice A0 n0 c0, .int .i64 a1, .int .i64 b1, .slice A1 n1 c1, .int .i64 a2, .int .i64 b2, .slice A2 n2 c2, .int .i64 a3, .int .i64 b3, .slice A3 n3 c3], .int .i64 (ip : Int)] rfl (by (try simp only [List.map_toArray, List.map_cons, List.map_nil]); first | done | rfl) ?_; go_loud (refine (journal_End.calls J [.int .i64 a0, .int .i64 b0, .slice A0 n0 c0, .int .i64 a1, .int .i64 b1, .slice A1 n1 c1, .int .i64 a2, .int .i64 b2, .slice A2 n2 c2, .int .i64 a3, .int .i64 b3, .slice A3 n3 c3] (ip : Int) e9 _ HJ3.out HE9.out).mono ?_); rintro e w20 ⟨rfl, hb⟩; refine ⟨_, rfl, ?_⟩; have mm0_ := Aside0.mk (below_step HW3.out hb); have mm1_ := Aside0.mk (blk_below B43.out hb); have mm2_ := Aside0.mk (HJ3.out.below hb); clear HW3 B43 HJ3 hb; have HW3 := mm0_; have B43 := mm1_; have HJ3 := mm2_; clear mm0_ mm1_ mm2_; have hh0 : w20.cell? ⟨g4, 0, none⟩ = some (.int .i64 a0) := (blk_cell B43.out 0).trans rfl; have hh1 : w20.cell? ⟨g4, 1, none⟩ = some (.int .i64 b0) := (blk_cell B43.out 1).trans rfl; have hh2 : w20.cell? ⟨g4, 2, none⟩ = some (.slice A0 n0 c0) := (blk_cell B43.out 2).trans rfl; have hh3 : w20.cell? ⟨g4, 3, none⟩ = some (.int .i64 a1) := (blk_cell B43.out 3).trans rfl; have hh4 : w20.cell? ⟨g4, 4, none⟩ = some (.int .i64 b1) := (blk_cell B43.out 4).trans rfl; have hh5 : w20.cell? ⟨g4, 5, none⟩ = some (.slice A1 n1 c1) := (blk_cell B43.out 5).trans rfl; have hh6 : w20.cell? ⟨g4, 6, none⟩ = some (.int .i64 a2) := (blk_cell B43.out 6).trans rfl; have hh7 : w20.cell? ⟨g4, 7, none⟩ = some (.int .i64 b2) := (blk_cell B43.out 7).trans rfl; have hh8 : w20.cell? ⟨g4, 8, none⟩ = some (.slice A2 n2 c2) := (blk_cell B43.out 8).trans rfl; have hh9 : w20.cell? ⟨g4, 9, none⟩ = some (.int .i64 a3) := (blk_cell B43.out 9).trans rfl; have hh10 : w20.cell? ⟨g4, 10, none⟩ = some (.int .i64 b3) := (blk_cell B43.out 10).trans rfl; have hh11 : w20.cell? ⟨g4, 11, none⟩ = some (.slice A3 n3 c3) := (blk_cell B43.out 11).trans rfl) | (go_at_call 9; go_loud (refine (journal_Last.calls J [.int .i64 a0, .int .i64 b0, .slice A0 n0 c0, .int .i64 a1, .int .i64 b1, .slice A1 n1 c1, .int .i64 a2, .int .i64 b2, .slice A2 n2 c2, .int .i64 a3, .int .i64 b3, .slice A3 n3 c3] (ip : Int) e10 _ HJ3.out HE10.out).mono ?_); rintro e w21 ⟨rfl, hb⟩; have mm0_ := Aside0.mk (below_step HW3.out hb); have mm1_ := Aside0.mk (blk_below B43.out hb); have mm2_ := Aside0.mk (HJ3.out.below hb); clear HW3 B43 HJ3 hb; have HW3 := mm0_; have B43 := mm1_; have HJ3 := mm2_; clear mm0_ mm1_ mm2_))
                  go_roundg m2
                  case measure => omega
                  case rel => exact ⟨ip + 1, by rw [show ((ip + 1 : Nat) : Int) = (ip : Int) + 1 from by omega], ⟨by have := HK2.out; omega⟩, ⟨HW3.out⟩⟩
                | succ m3 =>
                  have hn : n < p.2.2.length := by have := HK3.out; omega
                  have hnI : (n : Int) < (p.2.2.length : Int) := by omega
                  have s1 : decide ((n : Int) < (p.2.2.length : Int)) = true := decide_eq_true hnI
                  have s2 : decide (n < p.2.2.length) = true := decide_eq_true hn
                  have s3 : (0 : Int) ≤ (n : Int) := by omega
                  obtain ⟨ad3, e3, z0, z1, z2, z3, z4, z5, z6⟩ := at_T32 (Kd.C_below HC3.out HW3.out) (n : Int) s3 hnI
                  cases e3
                  rw [Int.toNat_natCast] at z0 z1 z2 z3 z4 z5 z6
                  obtain ⟨k3, k2, k1, k0, k4, k5⟩ := tiles_at HT.out hn
                  rw [← HQ9.out] at k3
                  rw [← HQ10.out] at k2
                  generalize rd_T32 p.2.2 (n : Int) = z at z0 z1 z2 z3 z4 z5 z6 k3 k2 k1 k0 k4 k5
                  have t3 : (z.f3 != e9) = false := bne_eq_false_iff_eq.mpr k3
                  have t2 : (z.f2 != IntKind.i64.wrap (e10 + 1)) = false := bne_eq_false_iff_eq.mpr k2
                  have t2w : (z.f2 != wrap64 (e10 + 1)) = false := bne_eq_false_iff_eq.mpr (k2.trans (i64_w _))
                  have t1 : (z.f1 != (ip : Int)) = false := bne_eq_false_iff_eq.mpr k1
                  have t0 : (z.f0 != 1) = false := bne_eq_false_iff_eq.mpr k0
                  have K4 := Aside0.mk k4
                  have K2 := Aside0.mk (k2.trans (i64_w _))
                  have K5 := Aside0.mk k5
                  clear k0 k1 k2 k3 k4 k5
                  go_wp2_with (first | ((with_reducible refine gate_dst (N := 12) rfl ?_); refine box_event ?hg (N := 12) ?hd (cs := #[.int .i64 0, .int .i64 0, .int .i64 0, .int .i64 0, .int .i64 0, .int .i64 0, .int .i64 0]) (t := 32) ?hr ?_; (case hd => rfl); (case hg => rfl); (case hr => first | (go_simp; done) | (go_simp; rfl)); intro g12 hg w22 hbox hb; have B12 := Aside0.mk hbox; have G12 := Aside0.mk (show W6.heap.size ≤ g12 by (rw [hg]; exact HW3.out.size)); have mm0_ := Aside0.mk (below_step HW3.out hb); clear HW3; have HW3 := mm0_; clear mm0_ hb hbox hg) | ((with_reducible refine gate_ (.store 32 (.tmp 12) (.tmp 70)) rfl ?_); go_loud (refine wpList_storeR rfl rfl 32 (.tmp 12) (.tmp 70) rfl g12 0 rfl (.agg (ecells z)) rfl (ecells z).toList rfl #[.int .i64 0, .int .i64 0, .int .i64 0, .int .i64 0, .int .i64 0, .int .i64 0, .int .i64 0] 32 B12.out size32 (by simp) (by simp [Value.oneCell']) (ecells z) rfl ?_); intro w23 hs st; have mm0_ := Aside0.mk (st.fresh HW3.out G12.out); have B12_ := Aside0.mk hs; clear HW3 B12 hs st; have HW3 := mm0_; clear mm0_; have hz0 : w23.cell? ⟨g12, 0, none⟩ = some (.int .i64 z.f0) := (blk_cell B12_.out 0).trans rfl; have hz1 : w23.cell? ⟨g12, 1, none⟩ = some (.int .i64 z.f1) := (blk_cell B12_.out 1).trans rfl; have hz2 : w23.cell? ⟨g12, 2, none⟩ = some (.int .i64 z.f2) := (blk_cell B12_.out 2).trans rfl; have hz3 : w23.cell? ⟨g12, 3, none⟩ = some (.int .i64 z.f3) := (blk_cell B12_.out 3).trans rfl; have hz4 : w23.cell? ⟨g12, 4, none⟩ = some (.int .i64 z.f4) := (blk_cell B12_.out 4).trans rfl; have hz5 : w23.cell? ⟨g12, 5, none⟩ = some (.int .i64 z.f5) := (blk_cell B12_.out 5).trans rfl; have hz6 : w23.cell? ⟨g12, 6, none⟩ = some (.int .i64 z.f6) := (blk_cell B12_.out 6).trans rfl))
                  go_roundg m3
                  case measure => omega
                  case rel => exact ⟨n + 1, _, _, by rw [show ((n + 1 : Nat) : Int) = (n : Int) + 1 from by omega, wrapI (by omega) (by have := HC3.out.2.1; omega)], rfl, rfl, ⟨K4.out⟩, ⟨by first | exact K5.out | exact K2.out.symm.trans K5.out⟩, ⟨by have := HK3.out; omega⟩, ⟨HW3.out⟩⟩
theorem JournalTiles.call_ (l : List S32) (A : Option Addr) (c : Nat) (w : World) (hr : Kd.C k32 w A l.length l) :
    Calls Try.prog 3 #[.slice A l.length c] w fun e w' => e = .returned (.bool true) ∧ Below w.heap.size w w' := by
  by_cases h : l.length ≤ 60
  · exact winnowerlaw14_JournalTiles.few_ l A c w hr h
  · exact winnowerlaw14_JournalTiles.many l A c w hr (by omega)

end Go.Proofs.Ytdcomcdbknniiaa.Q
