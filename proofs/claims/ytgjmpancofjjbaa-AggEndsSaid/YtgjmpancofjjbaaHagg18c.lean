/- Chapter 18, part 3: statement AggEnds. -/
import Derived.Laws.Rows
import Derived.Deep.MidRow
import Derived.Deep.WholeRow
import Derived.Deep.RegionHeld3
import Derived.Deep.RegionLaw
import Derived.Test.YtgjmpancofjjbaaHstep
import Derived.Test.YtgjmpancofjjbaaHmapint
import Derived.Test.YtgjmpancofjjbaaHnum
import Derived.Test.YtgjmpancofjjbaaHval
import Derived.Test.YtgjmpancofjjbaaHvalord
import Derived.Test.YtgjmpancofjjbaaHagg18
import Derived.Test.YtgjmpancofjjbaaHagg18p
import Derived.Test.YtgjmpancofjjbaaQx0
import Derived.Test.YtgjmpancofjjbaaQx4
import Derived.Test.YtgjmpancofjjbaaQx5
namespace Go.Proofs.Ytgjmpancofjjbaa.Q
open Go.RowKit Go.Proofs.YtgjmpancofjjbaaW.PrintWords Go.Proofs.YtgjmpancofjjbaaW.PrintLast Go.Proofs.YtgjmpancofjjbaaW.PrintMore
attribute [local go_sem] max2_int min2_int max_two min_two max_three min_three max_four min_four   -- for this text's walks alone
set_option linter.unusedVariables false
set_option linter.unusedSimpArgs false

-- SAYS Chapter 18, part 3: statement AggEnds.
-- FUNCS winnower/winnowerlaw18.few
-- NEEDS winnowerlaw18_few.calls winnowerlaw18_n.calls
-- IMPORT Derived.Laws.Rows
-- IMPORT Derived.Deep.MidRow
-- IMPORT Derived.Deep.WholeRow
-- IMPORT Derived.Deep.RegionHeld3
-- IMPORT Derived.Deep.RegionLaw
-- IMPORT Derived.Test.YtgjmpancofjjbaaHstep
-- IMPORT Derived.Test.YtgjmpancofjjbaaHmapint
-- IMPORT Derived.Test.YtgjmpancofjjbaaHnum
-- IMPORT Derived.Test.YtgjmpancofjjbaaHval
-- IMPORT Derived.Test.YtgjmpancofjjbaaHvalord
-- IMPORT Derived.Test.YtgjmpancofjjbaaHagg18
-- IMPORT Derived.Test.YtgjmpancofjjbaaHagg18p
open Go.Proofs.Ytgjmpancofjjbaa.Hstep Go.Proofs.Ytgjmpancofjjbaa.Hmapint Go.Proofs.Ytgjmpancofjjbaa.Hnum Go.Proofs.Ytgjmpancofjjbaa.Hval
attribute [local go_sem high] eqV_
set_option maxHeartbeats 8000000
set_option maxRecDepth 100000
theorem own_ne2 {fn gn : Int} (h1 : fn ≠ 2) (h2 : gn ≠ 2) (l : List S26) : ownS fn l = ownS gn l := by
  unfold ownS own1
  rw [decide_eq_true h1, decide_eq_true h2]
theorem own_kind {fn : Int} {l : List S26} {x : S26} (h : x ∈ ownS fn l) : x ∈ l ∧ mv x = true ∧ x.f0 ≠ 0 := by
  unfold ownS at h
  rw [List.mem_filter] at h
  obtain ⟨h1, h2⟩ := h
  unfold own1 at h2
  rw [Bool.and_eq_true, Bool.and_eq_true, decide_eq_true_eq] at h2
  exact ⟨h1, h2.1, h2.2.1⟩
theorem addV_grow (l : List S26) (v : S26) : l.length ≤ (addV l v).length := by
  unfold addV
  split
  · rw [List.length_append]; omega
  · omega
theorem foldV_len : ∀ (l acc : List S26), (l.foldl addV acc).length ≤ acc.length + l.length
  | [], acc => by simp
  | x :: t, acc => by
    have h1 := foldV_len t (addV acc x)
    have h2 := addV_len acc x
    rw [List.foldl_cons]
    simp only [List.length_cons]
    omega
theorem foldV_grow : ∀ (l acc : List S26), acc.length ≤ (l.foldl addV acc).length
  | [], acc => by simp
  | x :: t, acc => by
    have h1 := foldV_grow t (addV acc x)
    have h2 := addV_grow acc x
    rw [List.foldl_cons]
    omega
theorem addV_nil (x : S26) : addV [] x = [x] := rfl
theorem foldV_one (x : S26) (t : List S26) : 1 ≤ ((x :: t).foldl addV []).length := by
  rw [List.foldl_cons, addV_nil]
  exact foldV_grow t [x]
theorem addV_mem {l : List S26} {v : S26} (h : v ∈ l) : addV l v = l := by
  unfold addV
  cases hf : findV v l 0 with
  | none => exact absurd h (findV_none.1 hf)
  | some j => rfl
theorem mem_addV (l : List S26) (v : S26) : v ∈ addV l v := by
  unfold addV
  cases hf : findV v l 0 with
  | none => rw [if_pos (by rfl)]; exact List.mem_append_right _ (List.mem_cons_self ..)
  | some j =>
    rw [if_neg (by simp)]
    obtain ⟨_, h⟩ := findV_some hf
    exact List.mem_of_getElem? h
theorem sub_addV {l : List S26} {u : S26} (v : S26) (h : u ∈ l) : u ∈ addV l v := by
  unfold addV
  split
  · exact List.mem_append_left _ h
  · exact h
theorem three_two (p : S26 → Bool) (a b : S26) : (([a, b, a].filter p).foldl addV []).length ≤ 2 := by
  cases hp : p a with
  | false =>
    have := foldV_len ([a, b, a].filter p) []
    have hl : ([a, b, a].filter p).length ≤ 1 := by
      simp only [List.filter_cons, hp, List.filter_nil, Bool.false_eq_true, if_false]
      split <;> simp
    simp only [List.length_nil] at this
    omega
  | true =>
    cases hq : p b with
    | false =>
      have := foldV_len ([a, b, a].filter p) []
      have hl : ([a, b, a].filter p).length ≤ 2 := by
        simp [List.filter_cons, hp, hq]
      simp only [List.length_nil] at this
      omega
    | true =>
      have e : [a, b, a].filter p = [a, b, a] := by simp [List.filter_cons, hp, hq]
      rw [e, List.foldl_cons, List.foldl_cons, List.foldl_cons, List.foldl_nil, addV_nil]
      rw [addV_mem (sub_addV b (List.mem_cons_self ..))]
      exact addV_len [a] b
theorem pick_mem (fn : Int) : ∀ (t : List S26) (b : S26), t.foldl (pick fn) b = b ∨ t.foldl (pick fn) b ∈ t
  | [], b => .inl rfl
  | x :: t, b => by
    rw [List.foldl_cons]
    have hp : pick fn b x = x ∨ pick fn b x = b := by unfold pick; split <;> simp
    rcases pick_mem fn t (pick fn b x) with h | h
    · rw [h]
      rcases hp with hp | hp
      · rw [hp]; exact .inr (List.mem_cons_self ..)
      · rw [hp]; exact .inl rfl
    · exact .inr (List.mem_cons_of_mem _ h)
theorem best_mem (fn : Int) {l : List S26} (h : l ≠ []) : bestS fn l ∈ l := by
  cases l with
  | nil => exact absurd rfl h
  | cons x t =>
    rcases pick_mem fn t x with h | h
    · show t.foldl (pick fn) x ∈ _
      rw [h]; exact List.mem_cons_self ..
    · exact List.mem_cons_of_mem _ h
theorem told_1 {l : List S26} (hl : l.length ≤ 1000) : toldS 1 l = (num26 (ownS 1 l).length, 0) := by rw [toldS_own (by decide) (by decide) hl, if_pos rfl]
theorem told_2 {l : List S26} (hl : l.length ≤ 1000) : toldS 2 l = if (ownS 2 l).length = 0 then (z26, 0) else if inR (tsum ((ownS 2 l).map (·.f1))) then (num26 (tsum ((ownS 2 l).map (·.f1))), 0) else (z26, 10) := by rw [toldS_own (by decide) (by decide) hl, if_neg (by decide), if_pos rfl]
theorem told_3 {l : List S26} (hl : l.length ≤ 1000) : toldS 3 l = (bestS 3 (ownS 1 l), 0) := by rw [toldS_own (by decide) (by decide) hl, if_neg (by decide), if_neg (by decide), if_pos rfl, own_ne2 (gn := 1) (by decide) (by decide)]
theorem told_4 {l : List S26} (hl : l.length ≤ 1000) : toldS 4 l = (bestS 4 (ownS 1 l), 0) := by rw [toldS_own (by decide) (by decide) hl, if_neg (by decide), if_neg (by decide), if_neg (by decide), if_pos rfl, own_ne2 (gn := 1) (by decide) (by decide)]
theorem told_5 {l : List S26} (hl : l.length ≤ 1000) : toldS 5 l = (num26 ((ownS 1 l).foldl addV []).length, 0) := by rw [toldS_own (by decide) (by decide) hl, if_neg (by decide), if_neg (by decide), if_neg (by decide), if_neg (by decide), own_ne2 (gn := 1) (by decide) (by decide)]
theorem told_three (a b : S26) : ∃ d : Nat, toldS 5 [a, b, a] = (num26 d, 0) ∧ d ≤ 2 := by
  refine ⟨_, told_5 (by simp), ?_⟩
  exact three_two (own1 1) a b
theorem own2_app (l : List S26) (n : Int) : ownS 2 (l ++ [num26 n]) = ownS 2 l ++ [num26 n] := by
  unfold ownS
  rw [List.filter_append]
  congr 1
  have : own1 2 (num26 n) = true := by
    unfold own1 mv_ num26 V.may
    simp
  rw [List.filter_cons, if_pos this, List.filter_nil]
/-- One more number is one more of the sum. -/
theorem sum_more {l : List S26} (hl : l.length ≤ 999) (n : Int) {a b : S26} {y : Int} (ha : toldS 2 l = (a, 0)) (hb : toldS 2 (l ++ [num26 n]) = (b, y)) (hy : y = 0) : b.f0 = 1 ∧ b.f1 = a.f1 + n ∧ inR b.f1 := by
  subst hy
  rw [told_2 (by omega)] at ha
  rw [told_2 (by rw [List.length_append]; simp only [List.length_cons, List.length_nil]; omega), own2_app, if_neg (by simp), List.map_append, tsum_app] at hb
  have e : tsum (List.map (·.f1) [num26 n]) = n := by show n + 0 = n; omega
  rw [e] at hb
  have hs : a.f1 = tsum ((ownS 2 l).map (·.f1)) := by
    by_cases h0 : (ownS 2 l).length = 0
    · rw [if_pos h0] at ha
      obtain ⟨rfl, _⟩ := Prod.mk.inj ha
      rw [List.eq_nil_of_length_eq_zero h0]
      rfl
    · rw [if_neg h0] at ha
      by_cases hr : inR (tsum ((ownS 2 l).map (·.f1)))
      · rw [if_pos hr] at ha
        obtain ⟨rfl, _⟩ := Prod.mk.inj ha
        rfl
      · rw [if_neg hr] at ha
        exact absurd (Prod.mk.inj ha).2 (by decide)
  by_cases hr : inR (tsum ((ownS 2 l).map (·.f1)) + n)
  · rw [if_pos hr] at hb
    obtain ⟨rfl, _⟩ := Prod.mk.inj hb
    exact ⟨rfl, by rw [hs]; rfl, hr⟩
  · rw [if_neg hr] at hb
    exact absurd (Prod.mk.inj hb).2 (by decide)
def has (lo : S26) (l : List S26) : Bool := l.any fun x => eqb x lo
theorem has_take {lo : S26} {l : List S26} {k : Nat} (hk : k < l.length) : has lo (l.take (k + 1)) = (has lo (l.take k) || eqb (rd_T26 l (k : Int)) lo) := by
  unfold has
  rw [rd26_at hk, List.take_succ_eq_append_getElem hk, List.any_append]
  simp
theorem has_mem {lo : S26} {l : List S26} (h : lo ∈ l) : has lo l = true := by
  unfold has
  rw [List.any_eq_true]
  exact ⟨lo, h, eqb_iff.2 rfl⟩
theorem row3 {W : World} {k : Nat} (a b d : S26) (h : W.heap[k]? = some (.cells #[.int .i64 a.f0, .int .i64 a.f1, .string a.f2, .bool a.f3, .int .i64 b.f0, .int .i64 b.f1, .string b.f2, .bool b.f3, .int .i64 d.f0, .int .i64 d.f1, .string d.f2, .bool d.f3] 26 (0, 0))) : Kd.C k26 W (some ⟨k, 0, none⟩) [a, b, d].length [a, b, d] := by
  refine C_rows26 h (by simp) ?_
  intro j p hp i u hu
  have hj : j < 3 := (List.getElem?_eq_some_iff.1 hp).1
  have hi : i < 4 := (List.getElem?_eq_some_iff.1 hu).1
  obtain rfl | rfl | rfl : j = 0 ∨ j = 1 ∨ j = 2 := by omega
  all_goals
    obtain rfl := Option.some.inj hp
    rw [← hu]
    obtain rfl | rfl | rfl | rfl : i = 0 ∨ i = 1 ∨ i = 2 ∨ i = 3 := by omega
    all_goals rfl
theorem okI_app {l : List S26} (h : okI l) {x : S26} (hx : -9223372036854775808 ≤ x.f1 ∧ x.f1 ≤ 9223372036854775807) : okI (l ++ [x]) := by
  intro y hy
  rw [List.mem_append, List.mem_singleton] at hy
  rcases hy with hy | rfl
  · exact h y hy
  · exact hx
theorem winnowerlaw18_AggEnds.no_ (l : List S26) (A : Option Addr) (c : Nat) (more : Int) (w : World) (hr : Kd.C k26 w A l.length l) (hc : l.length ≤ c) (ho : okI l) (hmo : -9223372036854775808 ≤ more ∧ more ≤ 9223372036854775807) (hf : fewS l = false) :
    Calls Try.prog 4 #[.slice A l.length c, .int .i64 more] w fun e w' => e = .returned (.bool true) ∧ Below w.heap.size w w' := by
  have HB := Aside0.mk (Below.refl w.heap.size w)
  have HR := Aside0.mk hr
  have HC := Aside0.mk hc
  have HO := Aside0.mk ho
  have hu26 := Try.underlying26
  clear hr hc ho
  have HMO := Aside0.mk hmo
  clear hmo
  have HF := Aside0.mk (show winnowerlaw18_few.f (l.length + 1) l = some false by rw [few_tell, hf])
  clear hf
  go_enter Try.func4, Try.ntmps4
  go_wp2_with (first
    | ((with_reducible refine gate_callee (f := 7) rfl ?_); refine goesL_ (some 23) rfl rfl Try.func7 (by kernel_rfl) rfl #[] rfl (by (try simp only [List.map_toArray, List.map_cons, List.map_nil]); first | done | rfl) ?_; go_loud (refine (winnowerlaw18_awake.calls _).mono ?_); rintro e w1 ⟨rfl, hb⟩; refine ⟨_, rfl, ?_⟩; have b_HB := Aside0.mk (below_step HB.out hb); clear HB hb; have HB := b_HB; clear b_HB)
    | ((with_reducible refine gate_callee (f := 8) rfl ?_); refine goesL_ (some 25) rfl rfl Try.func8 (by kernel_rfl) rfl #[.slice A l.length c] rfl (by (try simp only [List.map_toArray, List.map_cons, List.map_nil]); first | done | rfl) ?_; go_loud (refine (winnowerlaw18_few.calls (l.length + 1) A c l false _ (Kd.C_below HR.out HB.out) HC.out HF.out).mono ?_); rintro e w2 ⟨rfl, hd⟩; refine ⟨_, rfl, ?_⟩; have hb := hd.below; clear hd; have b_HB := Aside0.mk (below_step HB.out hb); clear HB hb; have HB := b_HB; clear b_HB))
  go_ret
  exact ⟨rfl, HB.out⟩
theorem winnowerlaw18_AggEnds.some_ (l : List S26) (A : Option Addr) (c : Nat) (more : Int) (w : World) (hr : Kd.C k26 w A l.length l) (hc : l.length ≤ c) (ho : okI l) (hmo : -9223372036854775808 ≤ more ∧ more ≤ 9223372036854775807) (hf : fewS l = true) (C D : Int) (lo hi : S26) (h1 : toldS 1 l = (⟨1, C, ⟨#[]⟩, false⟩, 0)) (h5 : toldS 5 l = (⟨1, D, ⟨#[]⟩, false⟩, 0)) (h3 : toldS 3 l = (lo, 0)) (h4 : toldS 4 l = (hi, 0)) (hlo : -9223372036854775808 ≤ lo.f1 ∧ lo.f1 ≤ 9223372036854775807) (hhi : -9223372036854775808 ≤ hi.f1 ∧ hi.f1 ≤ 9223372036854775807) (hC : 1 ≤ C) (hD : 1 ≤ D) (hlk : lo.f0 ≠ 0) (hmem : lo ∈ l) (hDC : D ≤ C) (d : Int) (hd : toldS 5 [lo, hi, lo] = (⟨1, d, ⟨#[]⟩, false⟩, 0)) (hd2 : d ≤ 2) (a b : S26) (x y : Int) (ha : toldS 2 l = (a, x)) (hb : toldS 2 (l ++ [⟨1, more, ⟨#[]⟩, false⟩]) = (b, y)) (hxy : x ≠ 0 ∨ y ≠ 0 ∨ (x = 0 ∧ y = 0 ∧ b.f0 = 1 ∧ b.f1 = wrap64 (a.f1 + more))) :
    Calls Try.prog 4 #[.slice A l.length c, .int .i64 more] w fun e w' => e = .returned (.bool true) ∧ Below w.heap.size w w' := by
  have HB := Aside0.mk (Below.refl w.heap.size w)
  have HR := Aside0.mk hr
  have HC := Aside0.mk hc
  have HO := Aside0.mk ho
  have hu26 := Try.underlying26
  clear hr hc ho
  have HMO := Aside0.mk hmo
  clear hmo
  have HF := Aside0.mk (show winnowerlaw18_few.f (l.length + 1) l = some true by rw [few_tell, hf])
  have HL := Aside0.mk (show l.length ≤ 1000 by have := (few_len hf).1; omega)
  have HT1 := Aside0.mk h1
  have HT5 := Aside0.mk h5
  have HT3 := Aside0.mk h3
  have HT4 := Aside0.mk h4
  have HTD := Aside0.mk hd
  have HTA := Aside0.mk ha
  have HTB := Aside0.mk hb
  have HXY := Aside0.mk hxy
  have HO3 := Aside0.mk (show okI [lo, hi, lo] by
    intro z hz
    simp only [List.mem_cons, List.not_mem_nil, or_false] at hz
    rcases hz with rfl | rfl | rfl
    · exact hlo
    · exact hhi
    · exact hlo)
  have HLM := Aside0.mk (show (l ++ [(⟨1, more, ⟨#[]⟩, false⟩ : S26)]).length ≤ 1000 by rw [List.length_append]; have := (few_len hf).1; simp only [List.length_cons, List.length_nil]; omega)
  have HOM := Aside0.mk (show okI (l ++ [(⟨1, more, ⟨#[]⟩, false⟩ : S26)]) from okI_app HO.out HMO.out)
  have q2 : decide (2 < d) = false := decide_eq_false (by omega)
  have q1 : decide (C < D) = false := decide_eq_false (by omega)
  have HME := Aside0.mk (has_mem hmem)
  have k1 : (C == 0) = false := beq_eq_false_iff_ne.mpr (by omega)
  have k2 : (D == 0) = false := beq_eq_false_iff_ne.mpr (by omega)
  have k3 : (lo.f0 == 0) = false := beq_eq_false_iff_ne.mpr hlk
  have k1n : ¬ C = 0 := by omega
  have k2n : ¬ D = 0 := by omega
  have k3n : ¬ lo.f0 = 0 := hlk
  clear hlk hmem hC hD
  clear hf h1 h5 h3 h4 hlo hhi hDC hd hd2 ha hb hxy
  go_enter Try.func4, Try.ntmps4
  go_wp2_with (first
    | ((with_reducible refine gate_callee (f := 7) rfl ?_); refine goesL_ (some 23) rfl rfl Try.func7 (by kernel_rfl) rfl #[] rfl (by (try simp only [List.map_toArray, List.map_cons, List.map_nil]); first | done | rfl) ?_; go_loud (refine (winnowerlaw18_awake.calls _).mono ?_); rintro e w1 ⟨rfl, hb⟩; refine ⟨_, rfl, ?_⟩; have b_HB := Aside0.mk (below_step HB.out hb); clear HB hb; have HB := b_HB; clear b_HB)
    | ((with_reducible refine gate_callee (f := 8) rfl ?_); refine goesL_ (some 25) rfl rfl Try.func8 (by kernel_rfl) rfl #[.slice A l.length c] rfl (by (try simp only [List.map_toArray, List.map_cons, List.map_nil]); first | done | rfl) ?_; go_loud (refine (winnowerlaw18_few.calls (l.length + 1) A c l true _ (Kd.C_below HR.out HB.out) HC.out HF.out).mono ?_); rintro e w2 ⟨rfl, hd⟩; refine ⟨_, rfl, ?_⟩; have hb := hd.below; clear hd; have b_HB := Aside0.mk (below_step HB.out hb); clear HB hb; have HB := b_HB; clear b_HB)
    | ((with_reducible refine gate_callee (f := 9) rfl ?_); refine goesL_ (some 35) rfl rfl Try.func9 (by kernel_rfl) rfl #[.int .i64 1, .slice A l.length c] rfl (by (try simp only [List.map_toArray, List.map_cons, List.map_nil]); first | done | rfl) ?_; go_loud (refine (winnowerlaw18_told.calls 1 l A c _ 0 _ (Kd.C_below HR.out HB.out) HL.out HO.out HT1.out).mono ?_); rintro e w3 ⟨rfl, hb⟩; refine ⟨_, rfl, ?_⟩; have b_HB := Aside0.mk (below_step HB.out hb); clear HB hb; have HB := b_HB; clear b_HB)
    | ((with_reducible refine gate_dst (N := 7) rfl ?_); refine box_event ?hg (N := 7) ?hd (cs := #[.int .i64 0, .int .i64 0, .string ⟨#[]⟩, .bool false]) (t := 26) ?hr ?_; (case hd => rfl); (case hg => rfl); (case hr => first | (go_simp; done) | (go_simp; rfl)); intro g7 hg w4 hbox hb; have B7 := Aside0.mk hbox; have GEB7 := Aside0.mk ((by rw [hg]; exact (below_size HB.out)) : w.heap.size ≤ g7); have b_HB := Aside0.mk (below_step HB.out hb); clear HB; have HB := b_HB; clear b_HB; clear hbox hg hb)
    | ((with_reducible refine gate_ (.store 26 (.tmp 7) (.tmp 36)) rfl ?_); go_loud (refine wpList_storeR rfl rfl 26 (.tmp 7) (.tmp 36) rfl g7 (0) rfl (.agg #[.int .i64 1, .int .i64 C, .string ⟨#[]⟩, .bool false]) rfl [.int .i64 1, .int .i64 C, .string ⟨#[]⟩, .bool false] rfl #[.int .i64 0, .int .i64 0, .string ⟨#[]⟩, .bool false] 26 B7.out size26 (by simp) (by simp [Value.oneCell']) #[.int .i64 1, .int .i64 C, .string ⟨#[]⟩, .bool false] rfl ?_); intro w5 hs st; have b_HB := Aside0.mk (Step.fresh st HB.out GEB7.out); clear HB; have HB := b_HB; clear b_HB; clear B7; have B7 := Aside0.mk hs; clear hs st)
    | ((with_reducible refine gate_callee (f := 9) rfl ?_); refine goesL_ (some 40) rfl rfl Try.func9 (by kernel_rfl) rfl #[.int .i64 5, .slice A l.length c] rfl (by (try simp only [List.map_toArray, List.map_cons, List.map_nil]); first | done | rfl) ?_; go_loud (refine (winnowerlaw18_told.calls 5 l A c _ 0 _ (Kd.C_below HR.out HB.out) HL.out HO.out HT5.out).mono ?_); rintro e w6 ⟨rfl, hb⟩; refine ⟨_, rfl, ?_⟩; have b_B7 := Aside0.mk (blk_below B7.out hb); have b_HB := Aside0.mk (below_step HB.out hb); clear HB B7; have HB := b_HB; have B7 := b_B7; clear b_HB b_B7; clear hb)
    | ((with_reducible refine gate_dst (N := 9) rfl ?_); refine box_event ?hg (N := 9) ?hd (cs := #[.int .i64 0, .int .i64 0, .string ⟨#[]⟩, .bool false]) (t := 26) ?hr ?_; (case hd => rfl); (case hg => rfl); (case hr => first | (go_simp; done) | (go_simp; rfl)); intro g9 hg w7 hbox hb; have B9 := Aside0.mk hbox; have GEB9 := Aside0.mk ((by rw [hg]; exact (below_size HB.out)) : w.heap.size ≤ g9); have NB7B9 := Aside0.mk ((by rw [hg]; exact Nat.ne_of_lt (blk_lt B7.out)) : g7 ≠ g9); have b_B7 := Aside0.mk (blk_below B7.out hb); have b_HB := Aside0.mk (below_step HB.out hb); clear HB B7; have HB := b_HB; have B7 := b_B7; clear b_HB b_B7; clear hbox hg hb)
    | ((with_reducible refine gate_ (.store 26 (.tmp 9) (.tmp 41)) rfl ?_); go_loud (refine wpList_storeR rfl rfl 26 (.tmp 9) (.tmp 41) rfl g9 (0) rfl (.agg #[.int .i64 1, .int .i64 D, .string ⟨#[]⟩, .bool false]) rfl [.int .i64 1, .int .i64 D, .string ⟨#[]⟩, .bool false] rfl #[.int .i64 0, .int .i64 0, .string ⟨#[]⟩, .bool false] 26 B9.out size26 (by simp) (by simp [Value.oneCell']) #[.int .i64 1, .int .i64 D, .string ⟨#[]⟩, .bool false] rfl ?_); intro w8 hs st; have b_B7 := Aside0.mk (Step.blk st B7.out (NB7B9.out)); have b_HB := Aside0.mk (Step.fresh st HB.out GEB9.out); clear HB B7; have HB := b_HB; have B7 := b_B7; clear b_HB b_B7; clear B9; have B9 := Aside0.mk hs; clear hs st)
    | ((with_reducible refine gate_callee (f := 9) rfl ?_); refine goesL_ (some 45) rfl rfl Try.func9 (by kernel_rfl) rfl #[.int .i64 3, .slice A l.length c] rfl (by (try simp only [List.map_toArray, List.map_cons, List.map_nil]); first | done | rfl) ?_; go_loud (refine (winnowerlaw18_told.calls 3 l A c lo 0 _ (Kd.C_below HR.out HB.out) HL.out HO.out HT3.out).mono ?_); rintro e w9 ⟨rfl, hb⟩; refine ⟨_, rfl, ?_⟩; have b_B7 := Aside0.mk (blk_below B7.out hb); have b_B9 := Aside0.mk (blk_below B9.out hb); have b_HB := Aside0.mk (below_step HB.out hb); clear HB B7 B9; have HB := b_HB; have B7 := b_B7; have B9 := b_B9; clear b_HB b_B7 b_B9; clear hb)
    | ((with_reducible refine gate_dst (N := 11) rfl ?_); refine box_event ?hg (N := 11) ?hd (cs := #[.int .i64 0, .int .i64 0, .string ⟨#[]⟩, .bool false]) (t := 26) ?hr ?_; (case hd => rfl); (case hg => rfl); (case hr => first | (go_simp; done) | (go_simp; rfl)); intro g11 hg w10 hbox hb; have B11 := Aside0.mk hbox; have GEB11 := Aside0.mk ((by rw [hg]; exact (below_size HB.out)) : w.heap.size ≤ g11); have NB7B11 := Aside0.mk ((by rw [hg]; exact Nat.ne_of_lt (blk_lt B7.out)) : g7 ≠ g11); have NB9B11 := Aside0.mk ((by rw [hg]; exact Nat.ne_of_lt (blk_lt B9.out)) : g9 ≠ g11); have b_B7 := Aside0.mk (blk_below B7.out hb); have b_B9 := Aside0.mk (blk_below B9.out hb); have b_HB := Aside0.mk (below_step HB.out hb); clear HB B7 B9; have HB := b_HB; have B7 := b_B7; have B9 := b_B9; clear b_HB b_B7 b_B9; clear hbox hg hb)
    | ((with_reducible refine gate_ (.store 26 (.tmp 11) (.tmp 46)) rfl ?_); go_loud (refine wpList_storeR rfl rfl 26 (.tmp 11) (.tmp 46) rfl g11 (0) rfl (.agg (vc lo)) rfl (vc lo).toList rfl #[.int .i64 0, .int .i64 0, .string ⟨#[]⟩, .bool false] 26 B11.out size26 (by simp) (by simp [Value.oneCell']) (vc lo) rfl ?_); intro w11 hs st; have b_B7 := Aside0.mk (Step.blk st B7.out (NB7B11.out)); have b_B9 := Aside0.mk (Step.blk st B9.out (NB9B11.out)); have b_HB := Aside0.mk (Step.fresh st HB.out GEB11.out); clear HB B7 B9; have HB := b_HB; have B7 := b_B7; have B9 := b_B9; clear b_HB b_B7 b_B9; clear B11; have B11 := Aside0.mk hs; clear hs st)
    | ((with_reducible refine gate_callee (f := 9) rfl ?_); refine goesL_ (some 50) rfl rfl Try.func9 (by kernel_rfl) rfl #[.int .i64 4, .slice A l.length c] rfl (by (try simp only [List.map_toArray, List.map_cons, List.map_nil]); first | done | rfl) ?_; go_loud (refine (winnowerlaw18_told.calls 4 l A c hi 0 _ (Kd.C_below HR.out HB.out) HL.out HO.out HT4.out).mono ?_); rintro e w12 ⟨rfl, hb⟩; refine ⟨_, rfl, ?_⟩; have b_B7 := Aside0.mk (blk_below B7.out hb); have b_B9 := Aside0.mk (blk_below B9.out hb); have b_B11 := Aside0.mk (blk_below B11.out hb); have b_HB := Aside0.mk (below_step HB.out hb); clear HB B7 B9 B11; have HB := b_HB; have B7 := b_B7; have B9 := b_B9; have B11 := b_B11; clear b_HB b_B7 b_B9 b_B11; clear hb)
    | ((with_reducible refine gate_dst (N := 13) rfl ?_); refine box_event ?hg (N := 13) ?hd (cs := #[.int .i64 0, .int .i64 0, .string ⟨#[]⟩, .bool false]) (t := 26) ?hr ?_; (case hd => rfl); (case hg => rfl); (case hr => first | (go_simp; done) | (go_simp; rfl)); intro g13 hg w13 hbox hb; have B13 := Aside0.mk hbox; have GEB13 := Aside0.mk ((by rw [hg]; exact (below_size HB.out)) : w.heap.size ≤ g13); have NB7B13 := Aside0.mk ((by rw [hg]; exact Nat.ne_of_lt (blk_lt B7.out)) : g7 ≠ g13); have NB9B13 := Aside0.mk ((by rw [hg]; exact Nat.ne_of_lt (blk_lt B9.out)) : g9 ≠ g13); have NB11B13 := Aside0.mk ((by rw [hg]; exact Nat.ne_of_lt (blk_lt B11.out)) : g11 ≠ g13); have b_B7 := Aside0.mk (blk_below B7.out hb); have b_B9 := Aside0.mk (blk_below B9.out hb); have b_B11 := Aside0.mk (blk_below B11.out hb); have b_HB := Aside0.mk (below_step HB.out hb); clear HB B7 B9 B11; have HB := b_HB; have B7 := b_B7; have B9 := b_B9; have B11 := b_B11; clear b_HB b_B7 b_B9 b_B11; clear hbox hg hb)
    | ((with_reducible refine gate_ (.store 26 (.tmp 13) (.tmp 51)) rfl ?_); go_loud (refine wpList_storeR rfl rfl 26 (.tmp 13) (.tmp 51) rfl g13 (0) rfl (.agg (vc hi)) rfl (vc hi).toList rfl #[.int .i64 0, .int .i64 0, .string ⟨#[]⟩, .bool false] 26 B13.out size26 (by simp) (by simp [Value.oneCell']) (vc hi) rfl ?_); intro w14 hs st; have b_B7 := Aside0.mk (Step.blk st B7.out (NB7B13.out)); have b_B9 := Aside0.mk (Step.blk st B9.out (NB9B13.out)); have b_B11 := Aside0.mk (Step.blk st B11.out (NB11B13.out)); have b_HB := Aside0.mk (Step.fresh st HB.out GEB13.out); clear HB B7 B9 B11; have HB := b_HB; have B7 := b_B7; have B9 := b_B9; have B11 := b_B11; clear b_HB b_B7 b_B9 b_B11; clear B13; have B13 := Aside0.mk hs; clear hs st; have hc0 : w14.cell? ⟨g7, 0, none⟩ = some (.int .i64 1) := (blk_cell B7.out 0).trans rfl; have hc1 : w14.cell? ⟨g7, 1, none⟩ = some (.int .i64 C) := (blk_cell B7.out 1).trans rfl; have hc2 : w14.cell? ⟨g7, 2, none⟩ = some (.string ⟨#[]⟩) := (blk_cell B7.out 2).trans rfl; have hc3 : w14.cell? ⟨g7, 3, none⟩ = some (.bool false) := (blk_cell B7.out 3).trans rfl; have hd0 : w14.cell? ⟨g9, 0, none⟩ = some (.int .i64 1) := (blk_cell B9.out 0).trans rfl; have hd1 : w14.cell? ⟨g9, 1, none⟩ = some (.int .i64 D) := (blk_cell B9.out 1).trans rfl; have hd2 : w14.cell? ⟨g9, 2, none⟩ = some (.string ⟨#[]⟩) := (blk_cell B9.out 2).trans rfl; have hd3 : w14.cell? ⟨g9, 3, none⟩ = some (.bool false) := (blk_cell B9.out 3).trans rfl; have hl0 : w14.cell? ⟨g11, 0, none⟩ = some (.int .i64 lo.f0) := (blk_cell B11.out 0).trans rfl; have hl1 : w14.cell? ⟨g11, 1, none⟩ = some (.int .i64 lo.f1) := (blk_cell B11.out 1).trans rfl; have hl2 : w14.cell? ⟨g11, 2, none⟩ = some (.string lo.f2) := (blk_cell B11.out 2).trans rfl; have hl3 : w14.cell? ⟨g11, 3, none⟩ = some (.bool lo.f3) := (blk_cell B11.out 3).trans rfl))
  clear hc0 hc1 hc2 hc3 hd0 hd1 hd2 hd3 hl0 hl1 hl2 hl3
  go_loopg [15, 16] l.length (fun m_ v15 v16 wr => ∃ (k : Nat), v16 = .int .i64 (k : Int) ∧ v15 = .bool (has lo (l.take k)) ∧ Aside0 (k + m_ = l.length) ∧ Aside0 (Below w.heap.size w wr) ∧ Aside0 (wr.heap[g11]? = some (.cells (vc lo) 26 (0, 0))) ∧ Aside0 (wr.heap[g13]? = some (.cells (vc hi) 26 (0, 0))))
  case atStart => exact ⟨0, rfl, rfl, ⟨by omega⟩, ⟨HB.out⟩, ⟨B11.out⟩, ⟨B13.out⟩⟩
  case round =>
    clear HB B7 B9 B11 B13
    obtain ⟨k, rfl, rfl, HK, HB, B11, B13⟩ := hrel
    cases gk with
    | zero =>
      have hk : k = l.length := by have := HK.out; omega
      have r1 : decide ((k : Int) < (l.length : Int)) = false := decide_eq_false (by omega)
      have r2 : decide (k < l.length) = false := decide_eq_false (by omega)
      have HIN : has lo (l.take k) = true := by rw [hk, List.take_length]; exact HME.out
      rw [HIN]
      clear HIN
      clear hk
      rcases HXY.out with h | h | ⟨h, h', hb0, hb1⟩
      · have z1 : (x == 0) = false := beq_eq_false_iff_ne.mpr h
        have z2 : (x != 0) = true := bne_iff_ne.mpr h
        clear h
        go_wp2_with (first
        | ((with_reducible refine gate_dst (N := 111) rfl ?_); go_loud (refine wpList_load_row rfl 26 (.tmp 11) rfl g11 rfl 26 (vc lo) (0, 0) _ B11.out Try.underlying26 rfl size26 ?_))
        | ((with_reducible refine gate_dst (N := 112) rfl ?_); go_loud (refine wpList_load_row rfl 26 (.tmp 13) rfl g13 rfl 26 (vc hi) (0, 0) _ B13.out Try.underlying26 rfl size26 ?_))
        | ((with_reducible refine gate_dst (N := 113) rfl ?_); go_loud (refine wpList_load_row rfl 26 (.tmp 11) rfl g11 rfl 26 (vc lo) (0, 0) _ B11.out Try.underlying26 rfl size26 ?_))
        | ((with_reducible refine gate_callee (f := 9) rfl ?_); refine goesL_ (some 115) rfl rfl Try.func9 (by kernel_rfl) rfl #[.int .i64 5, .slice (some ⟨wr.heap.size, 0, none⟩) 3 3] rfl (by (try simp only [List.map_toArray, List.map_cons, List.map_nil]); first | done | rfl) ?_; go_loud (refine (winnowerlaw18_told.calls 5 [lo, hi, lo] (some ⟨wr.heap.size, 0, none⟩) 3 _ _ _ (row3 lo hi lo (heap_alloc_last _ _)) (by simp) HO3.out HTD.out).mono ?_); rintro e w15 ⟨rfl, hb⟩; refine ⟨_, rfl, ?_⟩; have b_HB := Aside0.mk (below_step (below_alloc HB.out _) hb); clear HB hb; have HB := b_HB; clear b_HB)
        | ((with_reducible refine gate_dst (N := 17) rfl ?_); refine box_event ?hg (N := 17) ?hd (cs := #[.int .i64 0, .int .i64 0, .string ⟨#[]⟩, .bool false]) (t := 26) ?hr ?_; (case hd => rfl); (case hg => rfl); (case hr => first | (go_simp; done) | (go_simp; rfl)); intro g17 hg w16 hbox hb; have B17 := Aside0.mk hbox; have GEB17 := Aside0.mk ((by rw [hg]; exact (below_size HB.out)) : w.heap.size ≤ g17); have b_HB := Aside0.mk (below_step HB.out hb); clear HB; have HB := b_HB; clear b_HB; clear hbox hg hb)
        | ((with_reducible refine gate_ (.store 26 (.tmp 17) (.tmp 116)) rfl ?_); go_loud (refine wpList_storeR rfl rfl 26 (.tmp 17) (.tmp 116) rfl g17 (0) rfl (.agg #[.int .i64 1, .int .i64 d, .string ⟨#[]⟩, .bool false]) rfl [.int .i64 1, .int .i64 d, .string ⟨#[]⟩, .bool false] rfl #[.int .i64 0, .int .i64 0, .string ⟨#[]⟩, .bool false] 26 B17.out size26 (by simp) (by simp [Value.oneCell']) #[.int .i64 1, .int .i64 d, .string ⟨#[]⟩, .bool false] rfl ?_); intro w17 hs st; have b_HB := Aside0.mk (Step.fresh st HB.out GEB17.out); clear HB; have HB := b_HB; clear b_HB; clear B17; have B17 := Aside0.mk hs; clear hs st; have hf0 : w17.cell? ⟨g17, 0, none⟩ = some (.int .i64 1) := (blk_cell B17.out 0).trans rfl; have hf1 : w17.cell? ⟨g17, 1, none⟩ = some (.int .i64 d) := (blk_cell B17.out 1).trans rfl; have hf2 : w17.cell? ⟨g17, 2, none⟩ = some (.string ⟨#[]⟩) := (blk_cell B17.out 2).trans rfl; have hf3 : w17.cell? ⟨g17, 3, none⟩ = some (.bool false) := (blk_cell B17.out 3).trans rfl)
        | ((with_reducible refine gate_callee (f := 9) rfl ?_); refine goesL_ (some 127) rfl rfl Try.func9 (by kernel_rfl) rfl #[.int .i64 2, .slice A l.length c] rfl (by (try simp only [List.map_toArray, List.map_cons, List.map_nil]); first | done | rfl) ?_; go_loud (refine (winnowerlaw18_told.calls 2 l A c a _ _ (Kd.C_below HR.out HB.out) HL.out HO.out HTA.out).mono ?_); rintro e w18 ⟨rfl, hb⟩; refine ⟨_, rfl, ?_⟩; have b_HB := Aside0.mk (below_step HB.out hb); clear HB hb; have HB := b_HB; clear b_HB; clear hf0 hf1 hf2 hf3)
        | ((with_reducible refine gate_dst (N := 19) rfl ?_); refine box_event ?hg (N := 19) ?hd (cs := #[.int .i64 0, .int .i64 0, .string ⟨#[]⟩, .bool false]) (t := 26) ?hr ?_; (case hd => rfl); (case hg => rfl); (case hr => first | (go_simp; done) | (go_simp; rfl)); intro g19 hg w19 hbox hb; have B19 := Aside0.mk hbox; have GEB19 := Aside0.mk ((by rw [hg]; exact (below_size HB.out)) : w.heap.size ≤ g19); have b_HB := Aside0.mk (below_step HB.out hb); clear HB; have HB := b_HB; clear b_HB; clear hbox hg hb)
        | ((with_reducible refine gate_ (.store 26 (.tmp 19) (.tmp 128)) rfl ?_); go_loud (refine wpList_storeR rfl rfl 26 (.tmp 19) (.tmp 128) rfl g19 (0) rfl (.agg (vc a)) rfl (vc a).toList rfl #[.int .i64 0, .int .i64 0, .string ⟨#[]⟩, .bool false] 26 B19.out size26 (by simp) (by simp [Value.oneCell']) (vc a) rfl ?_); intro w20 hs st; have b_HB := Aside0.mk (Step.fresh st HB.out GEB19.out); clear HB; have HB := b_HB; clear b_HB; clear B19; have B19 := Aside0.mk hs; clear hs st)
        | ((with_reducible refine gate_builtin (b := .append) (xs := #[.const (.slice none 0 0), .tmp 131]) rfl ?_); at_builtin; go_loud (refine Kd.R_append_rows k26 (w0 := w20) w20.heap.size rfl (.const (.slice none 0 0)) (.tmp 131) 22 26 (.agg #[(.int .i64 0), (.int .i64 0), (.string ⟨#[]⟩), (.bool false)]) 40 rfl Try.underlying22 info26 rfl (by decide) (by omega) (.slice none 0 0) ([] : List S26) l A l.length c (fun _ => True) (fun _ => False) rfl rfl ?aO ?aR (fun _ _ h => h) (fun _ h => h.elim) ?aF ?aB ?aS ?aL ?_); (case aR => exact (Kd.C_below HR.out HB.out)); (case aB => exact Below.refl _ _); (case aF => exact (fun _ _ => trivial)); (case aO => exact Kd.R_nil _ _ _ _ _); (case aS => exact Nat.le_refl _); (case aL => have := HL.out; simp only [List.length_nil]; omega); intro v132 w21 ho hb hg hat; rw [List.nil_append] at ho; have HA := Aside0.mk hb; have HOA := Aside0.mk ho; clear ho hb hg hat)
        | ((with_reducible refine gate_callee (f := 11) rfl ?_); refine goesL_ (some 134) rfl rfl Try.func11 (by kernel_rfl) rfl #[.int .i64 more] rfl (by (try simp only [List.map_toArray, List.map_cons, List.map_nil]); first | done | rfl) ?_; go_loud (refine (winnowerlaw18_n.calls more 1 more ⟨#[]⟩ false _ rfl).mono ?_); rintro e w22 ⟨rfl, hb⟩; refine ⟨_, rfl, ?_⟩; have HOA_ := Aside0.mk (Kd.R_below HOA.out hb); have HA_ := Aside0.mk (below_step HA.out hb); clear HA HOA hb; have HA := HA_; have HOA := HOA_; clear HA_ HOA_)
        | ((with_reducible refine gate_builtin (b := .append) (xs := #[.tmp 132, .tmp 135]) rfl ?_); at_builtin; go_loud (refine Kd.R_append k26 (w0 := w20) w20.heap.size rfl (.tmp 132) (.tmp 135) 22 26 (.agg #[(.int .i64 0), (.int .i64 0), (.string ⟨#[]⟩), (.bool false)]) 40 rfl Try.underlying22 info26 rfl (by decide) (by omega) v132 l (⟨1, more, ⟨#[]⟩, false⟩ : S26) [.int .i64 1, .int .i64 more, .string ⟨#[]⟩, .bool false] (fun _ => True) (fun _ => False) rfl rfl ?aP (fun _ hk => hk.elim) ?aF ?aO ?aB ?aS ?aL ?_); (case aP => exact k26_mkM _ _ _ _); (case aB => exact HA.out); (case aF => exact (fun _ _ => trivial)); (case aO => exact HOA.out); (case aS => exact HA.out.size); (case aL => have := HL.out; omega); intro v136 w23 ho hb hg hat; have HA_ := Aside0.mk hb; have HOB := Aside0.mk ho; clear HA HOA ho hb hg hat; have HA := HA_; clear HA_; obtain ⟨Ap, cp, ep⟩ := Kd.R_slice HOB.out; subst ep)
        | ((with_reducible refine gate_callee (f := 9) rfl ?_); refine goesL_ (some 137) rfl rfl Try.func9 (by kernel_rfl) rfl #[.int .i64 2, .slice Ap (l ++ [(⟨1, more, ⟨#[]⟩, false⟩ : S26)]).length cp] rfl (by (try simp only [List.map_toArray, List.map_cons, List.map_nil]); first | done | rfl) ?_; go_loud (refine (winnowerlaw18_told.calls 2 (l ++ [(⟨1, more, ⟨#[]⟩, false⟩ : S26)]) Ap cp b _ _ (Kd.R_reads' HOB.out).2.2 HLM.out HOM.out HTB.out).mono ?_); rintro e w24 ⟨rfl, hb⟩; refine ⟨_, rfl, ?_⟩; have b_B19 := Aside0.mk (blk_below (blk_below B19.out HA.out) hb); have b_HB := Aside0.mk (below_step (below_step HB.out HA.out) hb); clear HB B19 HA HOB hb; have HB := b_HB; have B19 := b_B19; clear b_HB b_B19)
        | ((with_reducible refine gate_dst (N := 21) rfl ?_); refine box_event ?hg (N := 21) ?hd (cs := #[.int .i64 0, .int .i64 0, .string ⟨#[]⟩, .bool false]) (t := 26) ?hr ?_; (case hd => rfl); (case hg => rfl); (case hr => first | (go_simp; done) | (go_simp; rfl)); intro g21 hg w25 hbox hb; have B21 := Aside0.mk hbox; have GEB21 := Aside0.mk ((by rw [hg]; exact (below_size HB.out)) : w.heap.size ≤ g21); have NB19B21 := Aside0.mk ((by rw [hg]; exact Nat.ne_of_lt (blk_lt B19.out)) : g19 ≠ g21); have b_B19 := Aside0.mk (blk_below B19.out hb); have b_HB := Aside0.mk (below_step HB.out hb); clear HB B19; have HB := b_HB; have B19 := b_B19; clear b_HB b_B19; clear hbox hg hb)
        | ((with_reducible refine gate_ (.store 26 (.tmp 21) (.tmp 138)) rfl ?_); go_loud (refine wpList_storeR rfl rfl 26 (.tmp 21) (.tmp 138) rfl g21 (0) rfl (.agg (vc b)) rfl (vc b).toList rfl #[.int .i64 0, .int .i64 0, .string ⟨#[]⟩, .bool false] 26 B21.out size26 (by simp) (by simp [Value.oneCell']) (vc b) rfl ?_); intro w26 hs st; have b_B19 := Aside0.mk (Step.blk st B19.out (NB19B21.out)); have b_HB := Aside0.mk (Step.fresh st HB.out GEB21.out); clear HB B19; have HB := b_HB; have B19 := b_B19; clear b_HB b_B19; clear B21; have B21 := Aside0.mk hs; clear hs st; have hp0 : w26.cell? ⟨g19, 0, none⟩ = some (.int .i64 a.f0) := (blk_cell B19.out 0).trans rfl; have hp1 : w26.cell? ⟨g19, 1, none⟩ = some (.int .i64 a.f1) := (blk_cell B19.out 1).trans rfl; have hp2 : w26.cell? ⟨g19, 2, none⟩ = some (.string a.f2) := (blk_cell B19.out 2).trans rfl; have hp3 : w26.cell? ⟨g19, 3, none⟩ = some (.bool a.f3) := (blk_cell B19.out 3).trans rfl; have hq0 : w26.cell? ⟨g21, 0, none⟩ = some (.int .i64 b.f0) := (blk_cell B21.out 0).trans rfl; have hq1 : w26.cell? ⟨g21, 1, none⟩ = some (.int .i64 b.f1) := (blk_cell B21.out 1).trans rfl; have hq2 : w26.cell? ⟨g21, 2, none⟩ = some (.string b.f2) := (blk_cell B21.out 2).trans rfl; have hq3 : w26.cell? ⟨g21, 3, none⟩ = some (.bool b.f3) := (blk_cell B21.out 3).trans rfl))
        go_ret
        exact ⟨rfl, HB.out⟩
      · by_cases hx0 : x = 0
        · subst hx0
          have z1 : (y == 0) = false := beq_eq_false_iff_ne.mpr h
          have z2 : (y != 0) = true := bne_iff_ne.mpr h
          clear h
          go_wp2_with (first
          | ((with_reducible refine gate_dst (N := 111) rfl ?_); go_loud (refine wpList_load_row rfl 26 (.tmp 11) rfl g11 rfl 26 (vc lo) (0, 0) _ B11.out Try.underlying26 rfl size26 ?_))
          | ((with_reducible refine gate_dst (N := 112) rfl ?_); go_loud (refine wpList_load_row rfl 26 (.tmp 13) rfl g13 rfl 26 (vc hi) (0, 0) _ B13.out Try.underlying26 rfl size26 ?_))
          | ((with_reducible refine gate_dst (N := 113) rfl ?_); go_loud (refine wpList_load_row rfl 26 (.tmp 11) rfl g11 rfl 26 (vc lo) (0, 0) _ B11.out Try.underlying26 rfl size26 ?_))
          | ((with_reducible refine gate_callee (f := 9) rfl ?_); refine goesL_ (some 115) rfl rfl Try.func9 (by kernel_rfl) rfl #[.int .i64 5, .slice (some ⟨wr.heap.size, 0, none⟩) 3 3] rfl (by (try simp only [List.map_toArray, List.map_cons, List.map_nil]); first | done | rfl) ?_; go_loud (refine (winnowerlaw18_told.calls 5 [lo, hi, lo] (some ⟨wr.heap.size, 0, none⟩) 3 _ _ _ (row3 lo hi lo (heap_alloc_last _ _)) (by simp) HO3.out HTD.out).mono ?_); rintro e w15 ⟨rfl, hb⟩; refine ⟨_, rfl, ?_⟩; have b_HB := Aside0.mk (below_step (below_alloc HB.out _) hb); clear HB hb; have HB := b_HB; clear b_HB)
          | ((with_reducible refine gate_dst (N := 17) rfl ?_); refine box_event ?hg (N := 17) ?hd (cs := #[.int .i64 0, .int .i64 0, .string ⟨#[]⟩, .bool false]) (t := 26) ?hr ?_; (case hd => rfl); (case hg => rfl); (case hr => first | (go_simp; done) | (go_simp; rfl)); intro g17 hg w16 hbox hb; have B17 := Aside0.mk hbox; have GEB17 := Aside0.mk ((by rw [hg]; exact (below_size HB.out)) : w.heap.size ≤ g17); have b_HB := Aside0.mk (below_step HB.out hb); clear HB; have HB := b_HB; clear b_HB; clear hbox hg hb)
          | ((with_reducible refine gate_ (.store 26 (.tmp 17) (.tmp 116)) rfl ?_); go_loud (refine wpList_storeR rfl rfl 26 (.tmp 17) (.tmp 116) rfl g17 (0) rfl (.agg #[.int .i64 1, .int .i64 d, .string ⟨#[]⟩, .bool false]) rfl [.int .i64 1, .int .i64 d, .string ⟨#[]⟩, .bool false] rfl #[.int .i64 0, .int .i64 0, .string ⟨#[]⟩, .bool false] 26 B17.out size26 (by simp) (by simp [Value.oneCell']) #[.int .i64 1, .int .i64 d, .string ⟨#[]⟩, .bool false] rfl ?_); intro w17 hs st; have b_HB := Aside0.mk (Step.fresh st HB.out GEB17.out); clear HB; have HB := b_HB; clear b_HB; clear B17; have B17 := Aside0.mk hs; clear hs st; have hf0 : w17.cell? ⟨g17, 0, none⟩ = some (.int .i64 1) := (blk_cell B17.out 0).trans rfl; have hf1 : w17.cell? ⟨g17, 1, none⟩ = some (.int .i64 d) := (blk_cell B17.out 1).trans rfl; have hf2 : w17.cell? ⟨g17, 2, none⟩ = some (.string ⟨#[]⟩) := (blk_cell B17.out 2).trans rfl; have hf3 : w17.cell? ⟨g17, 3, none⟩ = some (.bool false) := (blk_cell B17.out 3).trans rfl)
          | ((with_reducible refine gate_callee (f := 9) rfl ?_); refine goesL_ (some 127) rfl rfl Try.func9 (by kernel_rfl) rfl #[.int .i64 2, .slice A l.length c] rfl (by (try simp only [List.map_toArray, List.map_cons, List.map_nil]); first | done | rfl) ?_; go_loud (refine (winnowerlaw18_told.calls 2 l A c a _ _ (Kd.C_below HR.out HB.out) HL.out HO.out HTA.out).mono ?_); rintro e w18 ⟨rfl, hb⟩; refine ⟨_, rfl, ?_⟩; have b_HB := Aside0.mk (below_step HB.out hb); clear HB hb; have HB := b_HB; clear b_HB; clear hf0 hf1 hf2 hf3)
          | ((with_reducible refine gate_dst (N := 19) rfl ?_); refine box_event ?hg (N := 19) ?hd (cs := #[.int .i64 0, .int .i64 0, .string ⟨#[]⟩, .bool false]) (t := 26) ?hr ?_; (case hd => rfl); (case hg => rfl); (case hr => first | (go_simp; done) | (go_simp; rfl)); intro g19 hg w19 hbox hb; have B19 := Aside0.mk hbox; have GEB19 := Aside0.mk ((by rw [hg]; exact (below_size HB.out)) : w.heap.size ≤ g19); have b_HB := Aside0.mk (below_step HB.out hb); clear HB; have HB := b_HB; clear b_HB; clear hbox hg hb)
          | ((with_reducible refine gate_ (.store 26 (.tmp 19) (.tmp 128)) rfl ?_); go_loud (refine wpList_storeR rfl rfl 26 (.tmp 19) (.tmp 128) rfl g19 (0) rfl (.agg (vc a)) rfl (vc a).toList rfl #[.int .i64 0, .int .i64 0, .string ⟨#[]⟩, .bool false] 26 B19.out size26 (by simp) (by simp [Value.oneCell']) (vc a) rfl ?_); intro w20 hs st; have b_HB := Aside0.mk (Step.fresh st HB.out GEB19.out); clear HB; have HB := b_HB; clear b_HB; clear B19; have B19 := Aside0.mk hs; clear hs st)
          | ((with_reducible refine gate_builtin (b := .append) (xs := #[.const (.slice none 0 0), .tmp 131]) rfl ?_); at_builtin; go_loud (refine Kd.R_append_rows k26 (w0 := w20) w20.heap.size rfl (.const (.slice none 0 0)) (.tmp 131) 22 26 (.agg #[(.int .i64 0), (.int .i64 0), (.string ⟨#[]⟩), (.bool false)]) 40 rfl Try.underlying22 info26 rfl (by decide) (by omega) (.slice none 0 0) ([] : List S26) l A l.length c (fun _ => True) (fun _ => False) rfl rfl ?aO ?aR (fun _ _ h => h) (fun _ h => h.elim) ?aF ?aB ?aS ?aL ?_); (case aR => exact (Kd.C_below HR.out HB.out)); (case aB => exact Below.refl _ _); (case aF => exact (fun _ _ => trivial)); (case aO => exact Kd.R_nil _ _ _ _ _); (case aS => exact Nat.le_refl _); (case aL => have := HL.out; simp only [List.length_nil]; omega); intro v132 w21 ho hb hg hat; rw [List.nil_append] at ho; have HA := Aside0.mk hb; have HOA := Aside0.mk ho; clear ho hb hg hat)
          | ((with_reducible refine gate_callee (f := 11) rfl ?_); refine goesL_ (some 134) rfl rfl Try.func11 (by kernel_rfl) rfl #[.int .i64 more] rfl (by (try simp only [List.map_toArray, List.map_cons, List.map_nil]); first | done | rfl) ?_; go_loud (refine (winnowerlaw18_n.calls more 1 more ⟨#[]⟩ false _ rfl).mono ?_); rintro e w22 ⟨rfl, hb⟩; refine ⟨_, rfl, ?_⟩; have HOA_ := Aside0.mk (Kd.R_below HOA.out hb); have HA_ := Aside0.mk (below_step HA.out hb); clear HA HOA hb; have HA := HA_; have HOA := HOA_; clear HA_ HOA_)
          | ((with_reducible refine gate_builtin (b := .append) (xs := #[.tmp 132, .tmp 135]) rfl ?_); at_builtin; go_loud (refine Kd.R_append k26 (w0 := w20) w20.heap.size rfl (.tmp 132) (.tmp 135) 22 26 (.agg #[(.int .i64 0), (.int .i64 0), (.string ⟨#[]⟩), (.bool false)]) 40 rfl Try.underlying22 info26 rfl (by decide) (by omega) v132 l (⟨1, more, ⟨#[]⟩, false⟩ : S26) [.int .i64 1, .int .i64 more, .string ⟨#[]⟩, .bool false] (fun _ => True) (fun _ => False) rfl rfl ?aP (fun _ hk => hk.elim) ?aF ?aO ?aB ?aS ?aL ?_); (case aP => exact k26_mkM _ _ _ _); (case aB => exact HA.out); (case aF => exact (fun _ _ => trivial)); (case aO => exact HOA.out); (case aS => exact HA.out.size); (case aL => have := HL.out; omega); intro v136 w23 ho hb hg hat; have HA_ := Aside0.mk hb; have HOB := Aside0.mk ho; clear HA HOA ho hb hg hat; have HA := HA_; clear HA_; obtain ⟨Ap, cp, ep⟩ := Kd.R_slice HOB.out; subst ep)
          | ((with_reducible refine gate_callee (f := 9) rfl ?_); refine goesL_ (some 137) rfl rfl Try.func9 (by kernel_rfl) rfl #[.int .i64 2, .slice Ap (l ++ [(⟨1, more, ⟨#[]⟩, false⟩ : S26)]).length cp] rfl (by (try simp only [List.map_toArray, List.map_cons, List.map_nil]); first | done | rfl) ?_; go_loud (refine (winnowerlaw18_told.calls 2 (l ++ [(⟨1, more, ⟨#[]⟩, false⟩ : S26)]) Ap cp b _ _ (Kd.R_reads' HOB.out).2.2 HLM.out HOM.out HTB.out).mono ?_); rintro e w24 ⟨rfl, hb⟩; refine ⟨_, rfl, ?_⟩; have b_B19 := Aside0.mk (blk_below (blk_below B19.out HA.out) hb); have b_HB := Aside0.mk (below_step (below_step HB.out HA.out) hb); clear HB B19 HA HOB hb; have HB := b_HB; have B19 := b_B19; clear b_HB b_B19)
          | ((with_reducible refine gate_dst (N := 21) rfl ?_); refine box_event ?hg (N := 21) ?hd (cs := #[.int .i64 0, .int .i64 0, .string ⟨#[]⟩, .bool false]) (t := 26) ?hr ?_; (case hd => rfl); (case hg => rfl); (case hr => first | (go_simp; done) | (go_simp; rfl)); intro g21 hg w25 hbox hb; have B21 := Aside0.mk hbox; have GEB21 := Aside0.mk ((by rw [hg]; exact (below_size HB.out)) : w.heap.size ≤ g21); have NB19B21 := Aside0.mk ((by rw [hg]; exact Nat.ne_of_lt (blk_lt B19.out)) : g19 ≠ g21); have b_B19 := Aside0.mk (blk_below B19.out hb); have b_HB := Aside0.mk (below_step HB.out hb); clear HB B19; have HB := b_HB; have B19 := b_B19; clear b_HB b_B19; clear hbox hg hb)
          | ((with_reducible refine gate_ (.store 26 (.tmp 21) (.tmp 138)) rfl ?_); go_loud (refine wpList_storeR rfl rfl 26 (.tmp 21) (.tmp 138) rfl g21 (0) rfl (.agg (vc b)) rfl (vc b).toList rfl #[.int .i64 0, .int .i64 0, .string ⟨#[]⟩, .bool false] 26 B21.out size26 (by simp) (by simp [Value.oneCell']) (vc b) rfl ?_); intro w26 hs st; have b_B19 := Aside0.mk (Step.blk st B19.out (NB19B21.out)); have b_HB := Aside0.mk (Step.fresh st HB.out GEB21.out); clear HB B19; have HB := b_HB; have B19 := b_B19; clear b_HB b_B19; clear B21; have B21 := Aside0.mk hs; clear hs st; have hp0 : w26.cell? ⟨g19, 0, none⟩ = some (.int .i64 a.f0) := (blk_cell B19.out 0).trans rfl; have hp1 : w26.cell? ⟨g19, 1, none⟩ = some (.int .i64 a.f1) := (blk_cell B19.out 1).trans rfl; have hp2 : w26.cell? ⟨g19, 2, none⟩ = some (.string a.f2) := (blk_cell B19.out 2).trans rfl; have hp3 : w26.cell? ⟨g19, 3, none⟩ = some (.bool a.f3) := (blk_cell B19.out 3).trans rfl; have hq0 : w26.cell? ⟨g21, 0, none⟩ = some (.int .i64 b.f0) := (blk_cell B21.out 0).trans rfl; have hq1 : w26.cell? ⟨g21, 1, none⟩ = some (.int .i64 b.f1) := (blk_cell B21.out 1).trans rfl; have hq2 : w26.cell? ⟨g21, 2, none⟩ = some (.string b.f2) := (blk_cell B21.out 2).trans rfl; have hq3 : w26.cell? ⟨g21, 3, none⟩ = some (.bool b.f3) := (blk_cell B21.out 3).trans rfl))
          go_ret
          exact ⟨rfl, HB.out⟩
        · have z1 : (x == 0) = false := beq_eq_false_iff_ne.mpr hx0
          have z2 : (x != 0) = true := bne_iff_ne.mpr hx0
          clear h hx0
          go_wp2_with (first
          | ((with_reducible refine gate_dst (N := 111) rfl ?_); go_loud (refine wpList_load_row rfl 26 (.tmp 11) rfl g11 rfl 26 (vc lo) (0, 0) _ B11.out Try.underlying26 rfl size26 ?_))
          | ((with_reducible refine gate_dst (N := 112) rfl ?_); go_loud (refine wpList_load_row rfl 26 (.tmp 13) rfl g13 rfl 26 (vc hi) (0, 0) _ B13.out Try.underlying26 rfl size26 ?_))
          | ((with_reducible refine gate_dst (N := 113) rfl ?_); go_loud (refine wpList_load_row rfl 26 (.tmp 11) rfl g11 rfl 26 (vc lo) (0, 0) _ B11.out Try.underlying26 rfl size26 ?_))
          | ((with_reducible refine gate_callee (f := 9) rfl ?_); refine goesL_ (some 115) rfl rfl Try.func9 (by kernel_rfl) rfl #[.int .i64 5, .slice (some ⟨wr.heap.size, 0, none⟩) 3 3] rfl (by (try simp only [List.map_toArray, List.map_cons, List.map_nil]); first | done | rfl) ?_; go_loud (refine (winnowerlaw18_told.calls 5 [lo, hi, lo] (some ⟨wr.heap.size, 0, none⟩) 3 _ _ _ (row3 lo hi lo (heap_alloc_last _ _)) (by simp) HO3.out HTD.out).mono ?_); rintro e w15 ⟨rfl, hb⟩; refine ⟨_, rfl, ?_⟩; have b_HB := Aside0.mk (below_step (below_alloc HB.out _) hb); clear HB hb; have HB := b_HB; clear b_HB)
          | ((with_reducible refine gate_dst (N := 17) rfl ?_); refine box_event ?hg (N := 17) ?hd (cs := #[.int .i64 0, .int .i64 0, .string ⟨#[]⟩, .bool false]) (t := 26) ?hr ?_; (case hd => rfl); (case hg => rfl); (case hr => first | (go_simp; done) | (go_simp; rfl)); intro g17 hg w16 hbox hb; have B17 := Aside0.mk hbox; have GEB17 := Aside0.mk ((by rw [hg]; exact (below_size HB.out)) : w.heap.size ≤ g17); have b_HB := Aside0.mk (below_step HB.out hb); clear HB; have HB := b_HB; clear b_HB; clear hbox hg hb)
          | ((with_reducible refine gate_ (.store 26 (.tmp 17) (.tmp 116)) rfl ?_); go_loud (refine wpList_storeR rfl rfl 26 (.tmp 17) (.tmp 116) rfl g17 (0) rfl (.agg #[.int .i64 1, .int .i64 d, .string ⟨#[]⟩, .bool false]) rfl [.int .i64 1, .int .i64 d, .string ⟨#[]⟩, .bool false] rfl #[.int .i64 0, .int .i64 0, .string ⟨#[]⟩, .bool false] 26 B17.out size26 (by simp) (by simp [Value.oneCell']) #[.int .i64 1, .int .i64 d, .string ⟨#[]⟩, .bool false] rfl ?_); intro w17 hs st; have b_HB := Aside0.mk (Step.fresh st HB.out GEB17.out); clear HB; have HB := b_HB; clear b_HB; clear B17; have B17 := Aside0.mk hs; clear hs st; have hf0 : w17.cell? ⟨g17, 0, none⟩ = some (.int .i64 1) := (blk_cell B17.out 0).trans rfl; have hf1 : w17.cell? ⟨g17, 1, none⟩ = some (.int .i64 d) := (blk_cell B17.out 1).trans rfl; have hf2 : w17.cell? ⟨g17, 2, none⟩ = some (.string ⟨#[]⟩) := (blk_cell B17.out 2).trans rfl; have hf3 : w17.cell? ⟨g17, 3, none⟩ = some (.bool false) := (blk_cell B17.out 3).trans rfl)
          | ((with_reducible refine gate_callee (f := 9) rfl ?_); refine goesL_ (some 127) rfl rfl Try.func9 (by kernel_rfl) rfl #[.int .i64 2, .slice A l.length c] rfl (by (try simp only [List.map_toArray, List.map_cons, List.map_nil]); first | done | rfl) ?_; go_loud (refine (winnowerlaw18_told.calls 2 l A c a _ _ (Kd.C_below HR.out HB.out) HL.out HO.out HTA.out).mono ?_); rintro e w18 ⟨rfl, hb⟩; refine ⟨_, rfl, ?_⟩; have b_HB := Aside0.mk (below_step HB.out hb); clear HB hb; have HB := b_HB; clear b_HB; clear hf0 hf1 hf2 hf3)
          | ((with_reducible refine gate_dst (N := 19) rfl ?_); refine box_event ?hg (N := 19) ?hd (cs := #[.int .i64 0, .int .i64 0, .string ⟨#[]⟩, .bool false]) (t := 26) ?hr ?_; (case hd => rfl); (case hg => rfl); (case hr => first | (go_simp; done) | (go_simp; rfl)); intro g19 hg w19 hbox hb; have B19 := Aside0.mk hbox; have GEB19 := Aside0.mk ((by rw [hg]; exact (below_size HB.out)) : w.heap.size ≤ g19); have b_HB := Aside0.mk (below_step HB.out hb); clear HB; have HB := b_HB; clear b_HB; clear hbox hg hb)
          | ((with_reducible refine gate_ (.store 26 (.tmp 19) (.tmp 128)) rfl ?_); go_loud (refine wpList_storeR rfl rfl 26 (.tmp 19) (.tmp 128) rfl g19 (0) rfl (.agg (vc a)) rfl (vc a).toList rfl #[.int .i64 0, .int .i64 0, .string ⟨#[]⟩, .bool false] 26 B19.out size26 (by simp) (by simp [Value.oneCell']) (vc a) rfl ?_); intro w20 hs st; have b_HB := Aside0.mk (Step.fresh st HB.out GEB19.out); clear HB; have HB := b_HB; clear b_HB; clear B19; have B19 := Aside0.mk hs; clear hs st)
          | ((with_reducible refine gate_builtin (b := .append) (xs := #[.const (.slice none 0 0), .tmp 131]) rfl ?_); at_builtin; go_loud (refine Kd.R_append_rows k26 (w0 := w20) w20.heap.size rfl (.const (.slice none 0 0)) (.tmp 131) 22 26 (.agg #[(.int .i64 0), (.int .i64 0), (.string ⟨#[]⟩), (.bool false)]) 40 rfl Try.underlying22 info26 rfl (by decide) (by omega) (.slice none 0 0) ([] : List S26) l A l.length c (fun _ => True) (fun _ => False) rfl rfl ?aO ?aR (fun _ _ h => h) (fun _ h => h.elim) ?aF ?aB ?aS ?aL ?_); (case aR => exact (Kd.C_below HR.out HB.out)); (case aB => exact Below.refl _ _); (case aF => exact (fun _ _ => trivial)); (case aO => exact Kd.R_nil _ _ _ _ _); (case aS => exact Nat.le_refl _); (case aL => have := HL.out; simp only [List.length_nil]; omega); intro v132 w21 ho hb hg hat; rw [List.nil_append] at ho; have HA := Aside0.mk hb; have HOA := Aside0.mk ho; clear ho hb hg hat)
          | ((with_reducible refine gate_callee (f := 11) rfl ?_); refine goesL_ (some 134) rfl rfl Try.func11 (by kernel_rfl) rfl #[.int .i64 more] rfl (by (try simp only [List.map_toArray, List.map_cons, List.map_nil]); first | done | rfl) ?_; go_loud (refine (winnowerlaw18_n.calls more 1 more ⟨#[]⟩ false _ rfl).mono ?_); rintro e w22 ⟨rfl, hb⟩; refine ⟨_, rfl, ?_⟩; have HOA_ := Aside0.mk (Kd.R_below HOA.out hb); have HA_ := Aside0.mk (below_step HA.out hb); clear HA HOA hb; have HA := HA_; have HOA := HOA_; clear HA_ HOA_)
          | ((with_reducible refine gate_builtin (b := .append) (xs := #[.tmp 132, .tmp 135]) rfl ?_); at_builtin; go_loud (refine Kd.R_append k26 (w0 := w20) w20.heap.size rfl (.tmp 132) (.tmp 135) 22 26 (.agg #[(.int .i64 0), (.int .i64 0), (.string ⟨#[]⟩), (.bool false)]) 40 rfl Try.underlying22 info26 rfl (by decide) (by omega) v132 l (⟨1, more, ⟨#[]⟩, false⟩ : S26) [.int .i64 1, .int .i64 more, .string ⟨#[]⟩, .bool false] (fun _ => True) (fun _ => False) rfl rfl ?aP (fun _ hk => hk.elim) ?aF ?aO ?aB ?aS ?aL ?_); (case aP => exact k26_mkM _ _ _ _); (case aB => exact HA.out); (case aF => exact (fun _ _ => trivial)); (case aO => exact HOA.out); (case aS => exact HA.out.size); (case aL => have := HL.out; omega); intro v136 w23 ho hb hg hat; have HA_ := Aside0.mk hb; have HOB := Aside0.mk ho; clear HA HOA ho hb hg hat; have HA := HA_; clear HA_; obtain ⟨Ap, cp, ep⟩ := Kd.R_slice HOB.out; subst ep)
          | ((with_reducible refine gate_callee (f := 9) rfl ?_); refine goesL_ (some 137) rfl rfl Try.func9 (by kernel_rfl) rfl #[.int .i64 2, .slice Ap (l ++ [(⟨1, more, ⟨#[]⟩, false⟩ : S26)]).length cp] rfl (by (try simp only [List.map_toArray, List.map_cons, List.map_nil]); first | done | rfl) ?_; go_loud (refine (winnowerlaw18_told.calls 2 (l ++ [(⟨1, more, ⟨#[]⟩, false⟩ : S26)]) Ap cp b _ _ (Kd.R_reads' HOB.out).2.2 HLM.out HOM.out HTB.out).mono ?_); rintro e w24 ⟨rfl, hb⟩; refine ⟨_, rfl, ?_⟩; have b_B19 := Aside0.mk (blk_below (blk_below B19.out HA.out) hb); have b_HB := Aside0.mk (below_step (below_step HB.out HA.out) hb); clear HB B19 HA HOB hb; have HB := b_HB; have B19 := b_B19; clear b_HB b_B19)
          | ((with_reducible refine gate_dst (N := 21) rfl ?_); refine box_event ?hg (N := 21) ?hd (cs := #[.int .i64 0, .int .i64 0, .string ⟨#[]⟩, .bool false]) (t := 26) ?hr ?_; (case hd => rfl); (case hg => rfl); (case hr => first | (go_simp; done) | (go_simp; rfl)); intro g21 hg w25 hbox hb; have B21 := Aside0.mk hbox; have GEB21 := Aside0.mk ((by rw [hg]; exact (below_size HB.out)) : w.heap.size ≤ g21); have NB19B21 := Aside0.mk ((by rw [hg]; exact Nat.ne_of_lt (blk_lt B19.out)) : g19 ≠ g21); have b_B19 := Aside0.mk (blk_below B19.out hb); have b_HB := Aside0.mk (below_step HB.out hb); clear HB B19; have HB := b_HB; have B19 := b_B19; clear b_HB b_B19; clear hbox hg hb)
          | ((with_reducible refine gate_ (.store 26 (.tmp 21) (.tmp 138)) rfl ?_); go_loud (refine wpList_storeR rfl rfl 26 (.tmp 21) (.tmp 138) rfl g21 (0) rfl (.agg (vc b)) rfl (vc b).toList rfl #[.int .i64 0, .int .i64 0, .string ⟨#[]⟩, .bool false] 26 B21.out size26 (by simp) (by simp [Value.oneCell']) (vc b) rfl ?_); intro w26 hs st; have b_B19 := Aside0.mk (Step.blk st B19.out (NB19B21.out)); have b_HB := Aside0.mk (Step.fresh st HB.out GEB21.out); clear HB B19; have HB := b_HB; have B19 := b_B19; clear b_HB b_B19; clear B21; have B21 := Aside0.mk hs; clear hs st; have hp0 : w26.cell? ⟨g19, 0, none⟩ = some (.int .i64 a.f0) := (blk_cell B19.out 0).trans rfl; have hp1 : w26.cell? ⟨g19, 1, none⟩ = some (.int .i64 a.f1) := (blk_cell B19.out 1).trans rfl; have hp2 : w26.cell? ⟨g19, 2, none⟩ = some (.string a.f2) := (blk_cell B19.out 2).trans rfl; have hp3 : w26.cell? ⟨g19, 3, none⟩ = some (.bool a.f3) := (blk_cell B19.out 3).trans rfl; have hq0 : w26.cell? ⟨g21, 0, none⟩ = some (.int .i64 b.f0) := (blk_cell B21.out 0).trans rfl; have hq1 : w26.cell? ⟨g21, 1, none⟩ = some (.int .i64 b.f1) := (blk_cell B21.out 1).trans rfl; have hq2 : w26.cell? ⟨g21, 2, none⟩ = some (.string b.f2) := (blk_cell B21.out 2).trans rfl; have hq3 : w26.cell? ⟨g21, 3, none⟩ = some (.bool b.f3) := (blk_cell B21.out 3).trans rfl))
          go_ret
          exact ⟨rfl, HB.out⟩
      · subst h h'
        have z1 : (b.f0 == 1) = true := beq_iff_eq.mpr hb0
        have z2 : (b.f1 == wrap64 (a.f1 + more)) = true := beq_iff_eq.mpr hb1
        have z3 : (b.f1 == IntKind.i64.wrap (a.f1 + more)) = true := beq_iff_eq.mpr (hb1.trans (i64_w _).symm)
        clear hb0 hb1
        go_wp2_with (first
        | ((with_reducible refine gate_dst (N := 111) rfl ?_); go_loud (refine wpList_load_row rfl 26 (.tmp 11) rfl g11 rfl 26 (vc lo) (0, 0) _ B11.out Try.underlying26 rfl size26 ?_))
        | ((with_reducible refine gate_dst (N := 112) rfl ?_); go_loud (refine wpList_load_row rfl 26 (.tmp 13) rfl g13 rfl 26 (vc hi) (0, 0) _ B13.out Try.underlying26 rfl size26 ?_))
        | ((with_reducible refine gate_dst (N := 113) rfl ?_); go_loud (refine wpList_load_row rfl 26 (.tmp 11) rfl g11 rfl 26 (vc lo) (0, 0) _ B11.out Try.underlying26 rfl size26 ?_))
        | ((with_reducible refine gate_callee (f := 9) rfl ?_); refine goesL_ (some 115) rfl rfl Try.func9 (by kernel_rfl) rfl #[.int .i64 5, .slice (some ⟨wr.heap.size, 0, none⟩) 3 3] rfl (by (try simp only [List.map_toArray, List.map_cons, List.map_nil]); first | done | rfl) ?_; go_loud (refine (winnowerlaw18_told.calls 5 [lo, hi, lo] (some ⟨wr.heap.size, 0, none⟩) 3 _ _ _ (row3 lo hi lo (heap_alloc_last _ _)) (by simp) HO3.out HTD.out).mono ?_); rintro e w15 ⟨rfl, hb⟩; refine ⟨_, rfl, ?_⟩; have b_HB := Aside0.mk (below_step (below_alloc HB.out _) hb); clear HB hb; have HB := b_HB; clear b_HB)
        | ((with_reducible refine gate_dst (N := 17) rfl ?_); refine box_event ?hg (N := 17) ?hd (cs := #[.int .i64 0, .int .i64 0, .string ⟨#[]⟩, .bool false]) (t := 26) ?hr ?_; (case hd => rfl); (case hg => rfl); (case hr => first | (go_simp; done) | (go_simp; rfl)); intro g17 hg w16 hbox hb; have B17 := Aside0.mk hbox; have GEB17 := Aside0.mk ((by rw [hg]; exact (below_size HB.out)) : w.heap.size ≤ g17); have b_HB := Aside0.mk (below_step HB.out hb); clear HB; have HB := b_HB; clear b_HB; clear hbox hg hb)
        | ((with_reducible refine gate_ (.store 26 (.tmp 17) (.tmp 116)) rfl ?_); go_loud (refine wpList_storeR rfl rfl 26 (.tmp 17) (.tmp 116) rfl g17 (0) rfl (.agg #[.int .i64 1, .int .i64 d, .string ⟨#[]⟩, .bool false]) rfl [.int .i64 1, .int .i64 d, .string ⟨#[]⟩, .bool false] rfl #[.int .i64 0, .int .i64 0, .string ⟨#[]⟩, .bool false] 26 B17.out size26 (by simp) (by simp [Value.oneCell']) #[.int .i64 1, .int .i64 d, .string ⟨#[]⟩, .bool false] rfl ?_); intro w17 hs st; have b_HB := Aside0.mk (Step.fresh st HB.out GEB17.out); clear HB; have HB := b_HB; clear b_HB; clear B17; have B17 := Aside0.mk hs; clear hs st; have hf0 : w17.cell? ⟨g17, 0, none⟩ = some (.int .i64 1) := (blk_cell B17.out 0).trans rfl; have hf1 : w17.cell? ⟨g17, 1, none⟩ = some (.int .i64 d) := (blk_cell B17.out 1).trans rfl; have hf2 : w17.cell? ⟨g17, 2, none⟩ = some (.string ⟨#[]⟩) := (blk_cell B17.out 2).trans rfl; have hf3 : w17.cell? ⟨g17, 3, none⟩ = some (.bool false) := (blk_cell B17.out 3).trans rfl)
        | ((with_reducible refine gate_callee (f := 9) rfl ?_); refine goesL_ (some 127) rfl rfl Try.func9 (by kernel_rfl) rfl #[.int .i64 2, .slice A l.length c] rfl (by (try simp only [List.map_toArray, List.map_cons, List.map_nil]); first | done | rfl) ?_; go_loud (refine (winnowerlaw18_told.calls 2 l A c a _ _ (Kd.C_below HR.out HB.out) HL.out HO.out HTA.out).mono ?_); rintro e w18 ⟨rfl, hb⟩; refine ⟨_, rfl, ?_⟩; have b_HB := Aside0.mk (below_step HB.out hb); clear HB hb; have HB := b_HB; clear b_HB; clear hf0 hf1 hf2 hf3)
        | ((with_reducible refine gate_dst (N := 19) rfl ?_); refine box_event ?hg (N := 19) ?hd (cs := #[.int .i64 0, .int .i64 0, .string ⟨#[]⟩, .bool false]) (t := 26) ?hr ?_; (case hd => rfl); (case hg => rfl); (case hr => first | (go_simp; done) | (go_simp; rfl)); intro g19 hg w19 hbox hb; have B19 := Aside0.mk hbox; have GEB19 := Aside0.mk ((by rw [hg]; exact (below_size HB.out)) : w.heap.size ≤ g19); have b_HB := Aside0.mk (below_step HB.out hb); clear HB; have HB := b_HB; clear b_HB; clear hbox hg hb)
        | ((with_reducible refine gate_ (.store 26 (.tmp 19) (.tmp 128)) rfl ?_); go_loud (refine wpList_storeR rfl rfl 26 (.tmp 19) (.tmp 128) rfl g19 (0) rfl (.agg (vc a)) rfl (vc a).toList rfl #[.int .i64 0, .int .i64 0, .string ⟨#[]⟩, .bool false] 26 B19.out size26 (by simp) (by simp [Value.oneCell']) (vc a) rfl ?_); intro w20 hs st; have b_HB := Aside0.mk (Step.fresh st HB.out GEB19.out); clear HB; have HB := b_HB; clear b_HB; clear B19; have B19 := Aside0.mk hs; clear hs st)
        | ((with_reducible refine gate_builtin (b := .append) (xs := #[.const (.slice none 0 0), .tmp 131]) rfl ?_); at_builtin; go_loud (refine Kd.R_append_rows k26 (w0 := w20) w20.heap.size rfl (.const (.slice none 0 0)) (.tmp 131) 22 26 (.agg #[(.int .i64 0), (.int .i64 0), (.string ⟨#[]⟩), (.bool false)]) 40 rfl Try.underlying22 info26 rfl (by decide) (by omega) (.slice none 0 0) ([] : List S26) l A l.length c (fun _ => True) (fun _ => False) rfl rfl ?aO ?aR (fun _ _ h => h) (fun _ h => h.elim) ?aF ?aB ?aS ?aL ?_); (case aR => exact (Kd.C_below HR.out HB.out)); (case aB => exact Below.refl _ _); (case aF => exact (fun _ _ => trivial)); (case aO => exact Kd.R_nil _ _ _ _ _); (case aS => exact Nat.le_refl _); (case aL => have := HL.out; simp only [List.length_nil]; omega); intro v132 w21 ho hb hg hat; rw [List.nil_append] at ho; have HA := Aside0.mk hb; have HOA := Aside0.mk ho; clear ho hb hg hat)
        | ((with_reducible refine gate_callee (f := 11) rfl ?_); refine goesL_ (some 134) rfl rfl Try.func11 (by kernel_rfl) rfl #[.int .i64 more] rfl (by (try simp only [List.map_toArray, List.map_cons, List.map_nil]); first | done | rfl) ?_; go_loud (refine (winnowerlaw18_n.calls more 1 more ⟨#[]⟩ false _ rfl).mono ?_); rintro e w22 ⟨rfl, hb⟩; refine ⟨_, rfl, ?_⟩; have HOA_ := Aside0.mk (Kd.R_below HOA.out hb); have HA_ := Aside0.mk (below_step HA.out hb); clear HA HOA hb; have HA := HA_; have HOA := HOA_; clear HA_ HOA_)
        | ((with_reducible refine gate_builtin (b := .append) (xs := #[.tmp 132, .tmp 135]) rfl ?_); at_builtin; go_loud (refine Kd.R_append k26 (w0 := w20) w20.heap.size rfl (.tmp 132) (.tmp 135) 22 26 (.agg #[(.int .i64 0), (.int .i64 0), (.string ⟨#[]⟩), (.bool false)]) 40 rfl Try.underlying22 info26 rfl (by decide) (by omega) v132 l (⟨1, more, ⟨#[]⟩, false⟩ : S26) [.int .i64 1, .int .i64 more, .string ⟨#[]⟩, .bool false] (fun _ => True) (fun _ => False) rfl rfl ?aP (fun _ hk => hk.elim) ?aF ?aO ?aB ?aS ?aL ?_); (case aP => exact k26_mkM _ _ _ _); (case aB => exact HA.out); (case aF => exact (fun _ _ => trivial)); (case aO => exact HOA.out); (case aS => exact HA.out.size); (case aL => have := HL.out; omega); intro v136 w23 ho hb hg hat; have HA_ := Aside0.mk hb; have HOB := Aside0.mk ho; clear HA HOA ho hb hg hat; have HA := HA_; clear HA_; obtain ⟨Ap, cp, ep⟩ := Kd.R_slice HOB.out; subst ep)
        | ((with_reducible refine gate_callee (f := 9) rfl ?_); refine goesL_ (some 137) rfl rfl Try.func9 (by kernel_rfl) rfl #[.int .i64 2, .slice Ap (l ++ [(⟨1, more, ⟨#[]⟩, false⟩ : S26)]).length cp] rfl (by (try simp only [List.map_toArray, List.map_cons, List.map_nil]); first | done | rfl) ?_; go_loud (refine (winnowerlaw18_told.calls 2 (l ++ [(⟨1, more, ⟨#[]⟩, false⟩ : S26)]) Ap cp b _ _ (Kd.R_reads' HOB.out).2.2 HLM.out HOM.out HTB.out).mono ?_); rintro e w24 ⟨rfl, hb⟩; refine ⟨_, rfl, ?_⟩; have b_B19 := Aside0.mk (blk_below (blk_below B19.out HA.out) hb); have b_HB := Aside0.mk (below_step (below_step HB.out HA.out) hb); clear HB B19 HA HOB hb; have HB := b_HB; have B19 := b_B19; clear b_HB b_B19)
        | ((with_reducible refine gate_dst (N := 21) rfl ?_); refine box_event ?hg (N := 21) ?hd (cs := #[.int .i64 0, .int .i64 0, .string ⟨#[]⟩, .bool false]) (t := 26) ?hr ?_; (case hd => rfl); (case hg => rfl); (case hr => first | (go_simp; done) | (go_simp; rfl)); intro g21 hg w25 hbox hb; have B21 := Aside0.mk hbox; have GEB21 := Aside0.mk ((by rw [hg]; exact (below_size HB.out)) : w.heap.size ≤ g21); have NB19B21 := Aside0.mk ((by rw [hg]; exact Nat.ne_of_lt (blk_lt B19.out)) : g19 ≠ g21); have b_B19 := Aside0.mk (blk_below B19.out hb); have b_HB := Aside0.mk (below_step HB.out hb); clear HB B19; have HB := b_HB; have B19 := b_B19; clear b_HB b_B19; clear hbox hg hb)
        | ((with_reducible refine gate_ (.store 26 (.tmp 21) (.tmp 138)) rfl ?_); go_loud (refine wpList_storeR rfl rfl 26 (.tmp 21) (.tmp 138) rfl g21 (0) rfl (.agg (vc b)) rfl (vc b).toList rfl #[.int .i64 0, .int .i64 0, .string ⟨#[]⟩, .bool false] 26 B21.out size26 (by simp) (by simp [Value.oneCell']) (vc b) rfl ?_); intro w26 hs st; have b_B19 := Aside0.mk (Step.blk st B19.out (NB19B21.out)); have b_HB := Aside0.mk (Step.fresh st HB.out GEB21.out); clear HB B19; have HB := b_HB; have B19 := b_B19; clear b_HB b_B19; clear B21; have B21 := Aside0.mk hs; clear hs st; have hp0 : w26.cell? ⟨g19, 0, none⟩ = some (.int .i64 a.f0) := (blk_cell B19.out 0).trans rfl; have hp1 : w26.cell? ⟨g19, 1, none⟩ = some (.int .i64 a.f1) := (blk_cell B19.out 1).trans rfl; have hp2 : w26.cell? ⟨g19, 2, none⟩ = some (.string a.f2) := (blk_cell B19.out 2).trans rfl; have hp3 : w26.cell? ⟨g19, 3, none⟩ = some (.bool a.f3) := (blk_cell B19.out 3).trans rfl; have hq0 : w26.cell? ⟨g21, 0, none⟩ = some (.int .i64 b.f0) := (blk_cell B21.out 0).trans rfl; have hq1 : w26.cell? ⟨g21, 1, none⟩ = some (.int .i64 b.f1) := (blk_cell B21.out 1).trans rfl; have hq2 : w26.cell? ⟨g21, 2, none⟩ = some (.string b.f2) := (blk_cell B21.out 2).trans rfl; have hq3 : w26.cell? ⟨g21, 3, none⟩ = some (.bool b.f3) := (blk_cell B21.out 3).trans rfl))
        go_ret
        exact ⟨rfl, HB.out⟩
    | succ m_ =>
      have hk : k < l.length := by have := HK.out; omega
      have hkI : (k : Int) < (l.length : Int) := by omega
      have r1 : decide ((k : Int) < (l.length : Int)) = true := decide_eq_true hkI
      have r2 : decide (k < l.length) = true := decide_eq_true hk
      have HHT := Aside0.mk (has_take (lo := lo) hk)
      cases hin : has lo (l.take k) with
      | true =>
        clear hk
        go_wp2
        go_quiet (fail)
        go_wp2
        go_roundg m_
        case measure => omega
        case rel => exact ⟨k + 1, by rw [show ((k + 1 : Nat) : Int) = (k : Int) + 1 from by omega, wrapI (by omega) (by have := HL.out; omega)], by rw [HHT.out, hin]; rfl, ⟨by have := HK.out; omega⟩, ⟨pw_below_drewN HB.out nq⟩, ⟨blk_drewN B11.out nq⟩, ⟨blk_drewN B13.out nq⟩⟩
      | false =>
        have r3 : (0 : Int) ≤ (k : Int) := by omega
        obtain ⟨ad, e1, x0, x1, x2, x3⟩ := at_T26 (Kd.C_below HR.out HB.out) (k : Int) r3 hkI
        cases e1
        rw [Int.toNat_natCast] at x0 x1 x2 x3
        generalize rd_T26 l (k : Int) = z at x0 x1 x2 x3 HHT
        have hl0 : wr.cell? ⟨g11, 0, none⟩ = some (.int .i64 lo.f0) := (blk_cell B11.out 0).trans rfl
        have hl1 : wr.cell? ⟨g11, 1, none⟩ = some (.int .i64 lo.f1) := (blk_cell B11.out 1).trans rfl
        have hl2 : wr.cell? ⟨g11, 2, none⟩ = some (.string lo.f2) := (blk_cell B11.out 2).trans rfl
        have hl3 : wr.cell? ⟨g11, 3, none⟩ = some (.bool lo.f3) := (blk_cell B11.out 3).trans rfl
        clear hk
        go_wp2
        go_quiet (fail)
        go_wp2
        go_roundg m_
        case measure => omega
        case rel => exact ⟨k + 1, by rw [show ((k + 1 : Nat) : Int) = (k : Int) + 1 from by omega, wrapI (by omega) (by have := HL.out; omega)], by (rw [HHT.out, hin]; first | rfl | (unfold eqb; simp)), ⟨by have := HK.out; omega⟩, ⟨pw_below_drewN HB.out nq⟩, ⟨blk_drewN B11.out nq⟩, ⟨blk_drewN B13.out nq⟩⟩
theorem winnowerlaw18_AggEnds.none_ (l : List S26) (A : Option Addr) (c : Nat) (more : Int) (w : World) (hr : Kd.C k26 w A l.length l) (hc : l.length ≤ c) (ho : okI l) (hmo : -9223372036854775808 ≤ more ∧ more ≤ 9223372036854775807) (hf : fewS l = true) (C D : Int) (lo hi : S26) (h1 : toldS 1 l = (⟨1, C, ⟨#[]⟩, false⟩, 0)) (h5 : toldS 5 l = (⟨1, D, ⟨#[]⟩, false⟩, 0)) (h3 : toldS 3 l = (lo, 0)) (h4 : toldS 4 l = (hi, 0)) (hlo : -9223372036854775808 ≤ lo.f1 ∧ lo.f1 ≤ 9223372036854775807) (hhi : -9223372036854775808 ≤ hi.f1 ∧ hi.f1 ≤ 9223372036854775807) (hC : C = 0) (hD : D = 0) (hlk : lo.f0 = 0) (hDC : D ≤ C) (d : Int) (hd : toldS 5 [lo, hi, lo] = (⟨1, d, ⟨#[]⟩, false⟩, 0)) (hd2 : d ≤ 2) (a b : S26) (x y : Int) (ha : toldS 2 l = (a, x)) (hb : toldS 2 (l ++ [⟨1, more, ⟨#[]⟩, false⟩]) = (b, y)) (hxy : x ≠ 0 ∨ y ≠ 0 ∨ (x = 0 ∧ y = 0 ∧ b.f0 = 1 ∧ b.f1 = wrap64 (a.f1 + more))) :
    Calls Try.prog 4 #[.slice A l.length c, .int .i64 more] w fun e w' => e = .returned (.bool true) ∧ Below w.heap.size w w' := by
  have HB := Aside0.mk (Below.refl w.heap.size w)
  have HR := Aside0.mk hr
  have HC := Aside0.mk hc
  have HO := Aside0.mk ho
  have hu26 := Try.underlying26
  clear hr hc ho
  have HMO := Aside0.mk hmo
  clear hmo
  have HF := Aside0.mk (show winnowerlaw18_few.f (l.length + 1) l = some true by rw [few_tell, hf])
  have HL := Aside0.mk (show l.length ≤ 1000 by have := (few_len hf).1; omega)
  have HT1 := Aside0.mk h1
  have HT5 := Aside0.mk h5
  have HT3 := Aside0.mk h3
  have HT4 := Aside0.mk h4
  have HTD := Aside0.mk hd
  have HTA := Aside0.mk ha
  have HTB := Aside0.mk hb
  have HXY := Aside0.mk hxy
  have HO3 := Aside0.mk (show okI [lo, hi, lo] by
    intro z hz
    simp only [List.mem_cons, List.not_mem_nil, or_false] at hz
    rcases hz with rfl | rfl | rfl
    · exact hlo
    · exact hhi
    · exact hlo)
  have HLM := Aside0.mk (show (l ++ [(⟨1, more, ⟨#[]⟩, false⟩ : S26)]).length ≤ 1000 by rw [List.length_append]; have := (few_len hf).1; simp only [List.length_cons, List.length_nil]; omega)
  have HOM := Aside0.mk (show okI (l ++ [(⟨1, more, ⟨#[]⟩, false⟩ : S26)]) from okI_app HO.out HMO.out)
  have q2 : decide (2 < d) = false := decide_eq_false (by omega)
  have q1 : decide (C < D) = false := decide_eq_false (by omega)
  subst hC hD
  have k3 : (lo.f0 == 0) = true := beq_iff_eq.mpr hlk
  have k4 : decide (lo.f0 = 0) = true := decide_eq_true hlk
  clear hlk
  clear hf h1 h5 h3 h4 hlo hhi hDC hd hd2 ha hb hxy
  go_enter Try.func4, Try.ntmps4
  go_wp2_with (first
    | ((with_reducible refine gate_callee (f := 7) rfl ?_); refine goesL_ (some 23) rfl rfl Try.func7 (by kernel_rfl) rfl #[] rfl (by (try simp only [List.map_toArray, List.map_cons, List.map_nil]); first | done | rfl) ?_; go_loud (refine (winnowerlaw18_awake.calls _).mono ?_); rintro e w1 ⟨rfl, hb⟩; refine ⟨_, rfl, ?_⟩; have b_HB := Aside0.mk (below_step HB.out hb); clear HB hb; have HB := b_HB; clear b_HB)
    | ((with_reducible refine gate_callee (f := 8) rfl ?_); refine goesL_ (some 25) rfl rfl Try.func8 (by kernel_rfl) rfl #[.slice A l.length c] rfl (by (try simp only [List.map_toArray, List.map_cons, List.map_nil]); first | done | rfl) ?_; go_loud (refine (winnowerlaw18_few.calls (l.length + 1) A c l true _ (Kd.C_below HR.out HB.out) HC.out HF.out).mono ?_); rintro e w2 ⟨rfl, hd⟩; refine ⟨_, rfl, ?_⟩; have hb := hd.below; clear hd; have b_HB := Aside0.mk (below_step HB.out hb); clear HB hb; have HB := b_HB; clear b_HB)
    | ((with_reducible refine gate_callee (f := 9) rfl ?_); refine goesL_ (some 35) rfl rfl Try.func9 (by kernel_rfl) rfl #[.int .i64 1, .slice A l.length c] rfl (by (try simp only [List.map_toArray, List.map_cons, List.map_nil]); first | done | rfl) ?_; go_loud (refine (winnowerlaw18_told.calls 1 l A c _ 0 _ (Kd.C_below HR.out HB.out) HL.out HO.out HT1.out).mono ?_); rintro e w3 ⟨rfl, hb⟩; refine ⟨_, rfl, ?_⟩; have b_HB := Aside0.mk (below_step HB.out hb); clear HB hb; have HB := b_HB; clear b_HB)
    | ((with_reducible refine gate_dst (N := 7) rfl ?_); refine box_event ?hg (N := 7) ?hd (cs := #[.int .i64 0, .int .i64 0, .string ⟨#[]⟩, .bool false]) (t := 26) ?hr ?_; (case hd => rfl); (case hg => rfl); (case hr => first | (go_simp; done) | (go_simp; rfl)); intro g7 hg w4 hbox hb; have B7 := Aside0.mk hbox; have GEB7 := Aside0.mk ((by rw [hg]; exact (below_size HB.out)) : w.heap.size ≤ g7); have b_HB := Aside0.mk (below_step HB.out hb); clear HB; have HB := b_HB; clear b_HB; clear hbox hg hb)
    | ((with_reducible refine gate_ (.store 26 (.tmp 7) (.tmp 36)) rfl ?_); go_loud (refine wpList_storeR rfl rfl 26 (.tmp 7) (.tmp 36) rfl g7 (0) rfl (.agg #[.int .i64 1, .int .i64 0, .string ⟨#[]⟩, .bool false]) rfl [.int .i64 1, .int .i64 0, .string ⟨#[]⟩, .bool false] rfl #[.int .i64 0, .int .i64 0, .string ⟨#[]⟩, .bool false] 26 B7.out size26 (by simp) (by simp [Value.oneCell']) #[.int .i64 1, .int .i64 0, .string ⟨#[]⟩, .bool false] rfl ?_); intro w5 hs st; have b_HB := Aside0.mk (Step.fresh st HB.out GEB7.out); clear HB; have HB := b_HB; clear b_HB; clear B7; have B7 := Aside0.mk hs; clear hs st)
    | ((with_reducible refine gate_callee (f := 9) rfl ?_); refine goesL_ (some 40) rfl rfl Try.func9 (by kernel_rfl) rfl #[.int .i64 5, .slice A l.length c] rfl (by (try simp only [List.map_toArray, List.map_cons, List.map_nil]); first | done | rfl) ?_; go_loud (refine (winnowerlaw18_told.calls 5 l A c _ 0 _ (Kd.C_below HR.out HB.out) HL.out HO.out HT5.out).mono ?_); rintro e w6 ⟨rfl, hb⟩; refine ⟨_, rfl, ?_⟩; have b_B7 := Aside0.mk (blk_below B7.out hb); have b_HB := Aside0.mk (below_step HB.out hb); clear HB B7; have HB := b_HB; have B7 := b_B7; clear b_HB b_B7; clear hb)
    | ((with_reducible refine gate_dst (N := 9) rfl ?_); refine box_event ?hg (N := 9) ?hd (cs := #[.int .i64 0, .int .i64 0, .string ⟨#[]⟩, .bool false]) (t := 26) ?hr ?_; (case hd => rfl); (case hg => rfl); (case hr => first | (go_simp; done) | (go_simp; rfl)); intro g9 hg w7 hbox hb; have B9 := Aside0.mk hbox; have GEB9 := Aside0.mk ((by rw [hg]; exact (below_size HB.out)) : w.heap.size ≤ g9); have NB7B9 := Aside0.mk ((by rw [hg]; exact Nat.ne_of_lt (blk_lt B7.out)) : g7 ≠ g9); have b_B7 := Aside0.mk (blk_below B7.out hb); have b_HB := Aside0.mk (below_step HB.out hb); clear HB B7; have HB := b_HB; have B7 := b_B7; clear b_HB b_B7; clear hbox hg hb)
    | ((with_reducible refine gate_ (.store 26 (.tmp 9) (.tmp 41)) rfl ?_); go_loud (refine wpList_storeR rfl rfl 26 (.tmp 9) (.tmp 41) rfl g9 (0) rfl (.agg #[.int .i64 1, .int .i64 0, .string ⟨#[]⟩, .bool false]) rfl [.int .i64 1, .int .i64 0, .string ⟨#[]⟩, .bool false] rfl #[.int .i64 0, .int .i64 0, .string ⟨#[]⟩, .bool false] 26 B9.out size26 (by simp) (by simp [Value.oneCell']) #[.int .i64 1, .int .i64 0, .string ⟨#[]⟩, .bool false] rfl ?_); intro w8 hs st; have b_B7 := Aside0.mk (Step.blk st B7.out (NB7B9.out)); have b_HB := Aside0.mk (Step.fresh st HB.out GEB9.out); clear HB B7; have HB := b_HB; have B7 := b_B7; clear b_HB b_B7; clear B9; have B9 := Aside0.mk hs; clear hs st)
    | ((with_reducible refine gate_callee (f := 9) rfl ?_); refine goesL_ (some 45) rfl rfl Try.func9 (by kernel_rfl) rfl #[.int .i64 3, .slice A l.length c] rfl (by (try simp only [List.map_toArray, List.map_cons, List.map_nil]); first | done | rfl) ?_; go_loud (refine (winnowerlaw18_told.calls 3 l A c lo 0 _ (Kd.C_below HR.out HB.out) HL.out HO.out HT3.out).mono ?_); rintro e w9 ⟨rfl, hb⟩; refine ⟨_, rfl, ?_⟩; have b_B7 := Aside0.mk (blk_below B7.out hb); have b_B9 := Aside0.mk (blk_below B9.out hb); have b_HB := Aside0.mk (below_step HB.out hb); clear HB B7 B9; have HB := b_HB; have B7 := b_B7; have B9 := b_B9; clear b_HB b_B7 b_B9; clear hb)
    | ((with_reducible refine gate_dst (N := 11) rfl ?_); refine box_event ?hg (N := 11) ?hd (cs := #[.int .i64 0, .int .i64 0, .string ⟨#[]⟩, .bool false]) (t := 26) ?hr ?_; (case hd => rfl); (case hg => rfl); (case hr => first | (go_simp; done) | (go_simp; rfl)); intro g11 hg w10 hbox hb; have B11 := Aside0.mk hbox; have GEB11 := Aside0.mk ((by rw [hg]; exact (below_size HB.out)) : w.heap.size ≤ g11); have NB7B11 := Aside0.mk ((by rw [hg]; exact Nat.ne_of_lt (blk_lt B7.out)) : g7 ≠ g11); have NB9B11 := Aside0.mk ((by rw [hg]; exact Nat.ne_of_lt (blk_lt B9.out)) : g9 ≠ g11); have b_B7 := Aside0.mk (blk_below B7.out hb); have b_B9 := Aside0.mk (blk_below B9.out hb); have b_HB := Aside0.mk (below_step HB.out hb); clear HB B7 B9; have HB := b_HB; have B7 := b_B7; have B9 := b_B9; clear b_HB b_B7 b_B9; clear hbox hg hb)
    | ((with_reducible refine gate_ (.store 26 (.tmp 11) (.tmp 46)) rfl ?_); go_loud (refine wpList_storeR rfl rfl 26 (.tmp 11) (.tmp 46) rfl g11 (0) rfl (.agg (vc lo)) rfl (vc lo).toList rfl #[.int .i64 0, .int .i64 0, .string ⟨#[]⟩, .bool false] 26 B11.out size26 (by simp) (by simp [Value.oneCell']) (vc lo) rfl ?_); intro w11 hs st; have b_B7 := Aside0.mk (Step.blk st B7.out (NB7B11.out)); have b_B9 := Aside0.mk (Step.blk st B9.out (NB9B11.out)); have b_HB := Aside0.mk (Step.fresh st HB.out GEB11.out); clear HB B7 B9; have HB := b_HB; have B7 := b_B7; have B9 := b_B9; clear b_HB b_B7 b_B9; clear B11; have B11 := Aside0.mk hs; clear hs st)
    | ((with_reducible refine gate_callee (f := 9) rfl ?_); refine goesL_ (some 50) rfl rfl Try.func9 (by kernel_rfl) rfl #[.int .i64 4, .slice A l.length c] rfl (by (try simp only [List.map_toArray, List.map_cons, List.map_nil]); first | done | rfl) ?_; go_loud (refine (winnowerlaw18_told.calls 4 l A c hi 0 _ (Kd.C_below HR.out HB.out) HL.out HO.out HT4.out).mono ?_); rintro e w12 ⟨rfl, hb⟩; refine ⟨_, rfl, ?_⟩; have b_B7 := Aside0.mk (blk_below B7.out hb); have b_B9 := Aside0.mk (blk_below B9.out hb); have b_B11 := Aside0.mk (blk_below B11.out hb); have b_HB := Aside0.mk (below_step HB.out hb); clear HB B7 B9 B11; have HB := b_HB; have B7 := b_B7; have B9 := b_B9; have B11 := b_B11; clear b_HB b_B7 b_B9 b_B11; clear hb)
    | ((with_reducible refine gate_dst (N := 13) rfl ?_); refine box_event ?hg (N := 13) ?hd (cs := #[.int .i64 0, .int .i64 0, .string ⟨#[]⟩, .bool false]) (t := 26) ?hr ?_; (case hd => rfl); (case hg => rfl); (case hr => first | (go_simp; done) | (go_simp; rfl)); intro g13 hg w13 hbox hb; have B13 := Aside0.mk hbox; have GEB13 := Aside0.mk ((by rw [hg]; exact (below_size HB.out)) : w.heap.size ≤ g13); have NB7B13 := Aside0.mk ((by rw [hg]; exact Nat.ne_of_lt (blk_lt B7.out)) : g7 ≠ g13); have NB9B13 := Aside0.mk ((by rw [hg]; exact Nat.ne_of_lt (blk_lt B9.out)) : g9 ≠ g13); have NB11B13 := Aside0.mk ((by rw [hg]; exact Nat.ne_of_lt (blk_lt B11.out)) : g11 ≠ g13); have b_B7 := Aside0.mk (blk_below B7.out hb); have b_B9 := Aside0.mk (blk_below B9.out hb); have b_B11 := Aside0.mk (blk_below B11.out hb); have b_HB := Aside0.mk (below_step HB.out hb); clear HB B7 B9 B11; have HB := b_HB; have B7 := b_B7; have B9 := b_B9; have B11 := b_B11; clear b_HB b_B7 b_B9 b_B11; clear hbox hg hb)
    | ((with_reducible refine gate_ (.store 26 (.tmp 13) (.tmp 51)) rfl ?_); go_loud (refine wpList_storeR rfl rfl 26 (.tmp 13) (.tmp 51) rfl g13 (0) rfl (.agg (vc hi)) rfl (vc hi).toList rfl #[.int .i64 0, .int .i64 0, .string ⟨#[]⟩, .bool false] 26 B13.out size26 (by simp) (by simp [Value.oneCell']) (vc hi) rfl ?_); intro w14 hs st; have b_B7 := Aside0.mk (Step.blk st B7.out (NB7B13.out)); have b_B9 := Aside0.mk (Step.blk st B9.out (NB9B13.out)); have b_B11 := Aside0.mk (Step.blk st B11.out (NB11B13.out)); have b_HB := Aside0.mk (Step.fresh st HB.out GEB13.out); clear HB B7 B9 B11; have HB := b_HB; have B7 := b_B7; have B9 := b_B9; have B11 := b_B11; clear b_HB b_B7 b_B9 b_B11; clear B13; have B13 := Aside0.mk hs; clear hs st; have hc0 : w14.cell? ⟨g7, 0, none⟩ = some (.int .i64 1) := (blk_cell B7.out 0).trans rfl; have hc1 : w14.cell? ⟨g7, 1, none⟩ = some (.int .i64 0) := (blk_cell B7.out 1).trans rfl; have hc2 : w14.cell? ⟨g7, 2, none⟩ = some (.string ⟨#[]⟩) := (blk_cell B7.out 2).trans rfl; have hc3 : w14.cell? ⟨g7, 3, none⟩ = some (.bool false) := (blk_cell B7.out 3).trans rfl; have hd0 : w14.cell? ⟨g9, 0, none⟩ = some (.int .i64 1) := (blk_cell B9.out 0).trans rfl; have hd1 : w14.cell? ⟨g9, 1, none⟩ = some (.int .i64 0) := (blk_cell B9.out 1).trans rfl; have hd2 : w14.cell? ⟨g9, 2, none⟩ = some (.string ⟨#[]⟩) := (blk_cell B9.out 2).trans rfl; have hd3 : w14.cell? ⟨g9, 3, none⟩ = some (.bool false) := (blk_cell B9.out 3).trans rfl; have hl0 : w14.cell? ⟨g11, 0, none⟩ = some (.int .i64 lo.f0) := (blk_cell B11.out 0).trans rfl; have hl1 : w14.cell? ⟨g11, 1, none⟩ = some (.int .i64 lo.f1) := (blk_cell B11.out 1).trans rfl; have hl2 : w14.cell? ⟨g11, 2, none⟩ = some (.string lo.f2) := (blk_cell B11.out 2).trans rfl; have hl3 : w14.cell? ⟨g11, 3, none⟩ = some (.bool lo.f3) := (blk_cell B11.out 3).trans rfl))
  clear hc0 hc1 hc2 hc3 hd0 hd1 hd2 hd3 hl0 hl1 hl2 hl3
  go_loopg [15, 16] l.length (fun m_ v15 v16 wr => ∃ (k : Nat), v16 = .int .i64 (k : Int) ∧ v15 = .bool true ∧ Aside0 (k + m_ = l.length) ∧ Aside0 (Below w.heap.size w wr) ∧ Aside0 (wr.heap[g11]? = some (.cells (vc lo) 26 (0, 0))) ∧ Aside0 (wr.heap[g13]? = some (.cells (vc hi) 26 (0, 0))))
  case atStart => exact ⟨0, rfl, rfl, ⟨by omega⟩, ⟨HB.out⟩, ⟨B11.out⟩, ⟨B13.out⟩⟩
  case round =>
    clear HB B7 B9 B11 B13
    obtain ⟨k, rfl, rfl, HK, HB, B11, B13⟩ := hrel
    cases gk with
    | zero =>
      have hk : k = l.length := by have := HK.out; omega
      have r1 : decide ((k : Int) < (l.length : Int)) = false := decide_eq_false (by omega)
      have r2 : decide (k < l.length) = false := decide_eq_false (by omega)
      clear hk
      rcases HXY.out with h | h | ⟨h, h', hb0, hb1⟩
      · have z1 : (x == 0) = false := beq_eq_false_iff_ne.mpr h
        have z2 : (x != 0) = true := bne_iff_ne.mpr h
        clear h
        go_wp2_with (first
        | ((with_reducible refine gate_dst (N := 111) rfl ?_); go_loud (refine wpList_load_row rfl 26 (.tmp 11) rfl g11 rfl 26 (vc lo) (0, 0) _ B11.out Try.underlying26 rfl size26 ?_))
        | ((with_reducible refine gate_dst (N := 112) rfl ?_); go_loud (refine wpList_load_row rfl 26 (.tmp 13) rfl g13 rfl 26 (vc hi) (0, 0) _ B13.out Try.underlying26 rfl size26 ?_))
        | ((with_reducible refine gate_dst (N := 113) rfl ?_); go_loud (refine wpList_load_row rfl 26 (.tmp 11) rfl g11 rfl 26 (vc lo) (0, 0) _ B11.out Try.underlying26 rfl size26 ?_))
        | ((with_reducible refine gate_callee (f := 9) rfl ?_); refine goesL_ (some 115) rfl rfl Try.func9 (by kernel_rfl) rfl #[.int .i64 5, .slice (some ⟨wr.heap.size, 0, none⟩) 3 3] rfl (by (try simp only [List.map_toArray, List.map_cons, List.map_nil]); first | done | rfl) ?_; go_loud (refine (winnowerlaw18_told.calls 5 [lo, hi, lo] (some ⟨wr.heap.size, 0, none⟩) 3 _ _ _ (row3 lo hi lo (heap_alloc_last _ _)) (by simp) HO3.out HTD.out).mono ?_); rintro e w15 ⟨rfl, hb⟩; refine ⟨_, rfl, ?_⟩; have b_HB := Aside0.mk (below_step (below_alloc HB.out _) hb); clear HB hb; have HB := b_HB; clear b_HB)
        | ((with_reducible refine gate_dst (N := 17) rfl ?_); refine box_event ?hg (N := 17) ?hd (cs := #[.int .i64 0, .int .i64 0, .string ⟨#[]⟩, .bool false]) (t := 26) ?hr ?_; (case hd => rfl); (case hg => rfl); (case hr => first | (go_simp; done) | (go_simp; rfl)); intro g17 hg w16 hbox hb; have B17 := Aside0.mk hbox; have GEB17 := Aside0.mk ((by rw [hg]; exact (below_size HB.out)) : w.heap.size ≤ g17); have b_HB := Aside0.mk (below_step HB.out hb); clear HB; have HB := b_HB; clear b_HB; clear hbox hg hb)
        | ((with_reducible refine gate_ (.store 26 (.tmp 17) (.tmp 116)) rfl ?_); go_loud (refine wpList_storeR rfl rfl 26 (.tmp 17) (.tmp 116) rfl g17 (0) rfl (.agg #[.int .i64 1, .int .i64 d, .string ⟨#[]⟩, .bool false]) rfl [.int .i64 1, .int .i64 d, .string ⟨#[]⟩, .bool false] rfl #[.int .i64 0, .int .i64 0, .string ⟨#[]⟩, .bool false] 26 B17.out size26 (by simp) (by simp [Value.oneCell']) #[.int .i64 1, .int .i64 d, .string ⟨#[]⟩, .bool false] rfl ?_); intro w17 hs st; have b_HB := Aside0.mk (Step.fresh st HB.out GEB17.out); clear HB; have HB := b_HB; clear b_HB; clear B17; have B17 := Aside0.mk hs; clear hs st; have hf0 : w17.cell? ⟨g17, 0, none⟩ = some (.int .i64 1) := (blk_cell B17.out 0).trans rfl; have hf1 : w17.cell? ⟨g17, 1, none⟩ = some (.int .i64 d) := (blk_cell B17.out 1).trans rfl; have hf2 : w17.cell? ⟨g17, 2, none⟩ = some (.string ⟨#[]⟩) := (blk_cell B17.out 2).trans rfl; have hf3 : w17.cell? ⟨g17, 3, none⟩ = some (.bool false) := (blk_cell B17.out 3).trans rfl)
        | ((with_reducible refine gate_callee (f := 9) rfl ?_); refine goesL_ (some 127) rfl rfl Try.func9 (by kernel_rfl) rfl #[.int .i64 2, .slice A l.length c] rfl (by (try simp only [List.map_toArray, List.map_cons, List.map_nil]); first | done | rfl) ?_; go_loud (refine (winnowerlaw18_told.calls 2 l A c a _ _ (Kd.C_below HR.out HB.out) HL.out HO.out HTA.out).mono ?_); rintro e w18 ⟨rfl, hb⟩; refine ⟨_, rfl, ?_⟩; have b_HB := Aside0.mk (below_step HB.out hb); clear HB hb; have HB := b_HB; clear b_HB; clear hf0 hf1 hf2 hf3)
        | ((with_reducible refine gate_dst (N := 19) rfl ?_); refine box_event ?hg (N := 19) ?hd (cs := #[.int .i64 0, .int .i64 0, .string ⟨#[]⟩, .bool false]) (t := 26) ?hr ?_; (case hd => rfl); (case hg => rfl); (case hr => first | (go_simp; done) | (go_simp; rfl)); intro g19 hg w19 hbox hb; have B19 := Aside0.mk hbox; have GEB19 := Aside0.mk ((by rw [hg]; exact (below_size HB.out)) : w.heap.size ≤ g19); have b_HB := Aside0.mk (below_step HB.out hb); clear HB; have HB := b_HB; clear b_HB; clear hbox hg hb)
        | ((with_reducible refine gate_ (.store 26 (.tmp 19) (.tmp 128)) rfl ?_); go_loud (refine wpList_storeR rfl rfl 26 (.tmp 19) (.tmp 128) rfl g19 (0) rfl (.agg (vc a)) rfl (vc a).toList rfl #[.int .i64 0, .int .i64 0, .string ⟨#[]⟩, .bool false] 26 B19.out size26 (by simp) (by simp [Value.oneCell']) (vc a) rfl ?_); intro w20 hs st; have b_HB := Aside0.mk (Step.fresh st HB.out GEB19.out); clear HB; have HB := b_HB; clear b_HB; clear B19; have B19 := Aside0.mk hs; clear hs st)
        | ((with_reducible refine gate_builtin (b := .append) (xs := #[.const (.slice none 0 0), .tmp 131]) rfl ?_); at_builtin; go_loud (refine Kd.R_append_rows k26 (w0 := w20) w20.heap.size rfl (.const (.slice none 0 0)) (.tmp 131) 22 26 (.agg #[(.int .i64 0), (.int .i64 0), (.string ⟨#[]⟩), (.bool false)]) 40 rfl Try.underlying22 info26 rfl (by decide) (by omega) (.slice none 0 0) ([] : List S26) l A l.length c (fun _ => True) (fun _ => False) rfl rfl ?aO ?aR (fun _ _ h => h) (fun _ h => h.elim) ?aF ?aB ?aS ?aL ?_); (case aR => exact (Kd.C_below HR.out HB.out)); (case aB => exact Below.refl _ _); (case aF => exact (fun _ _ => trivial)); (case aO => exact Kd.R_nil _ _ _ _ _); (case aS => exact Nat.le_refl _); (case aL => have := HL.out; simp only [List.length_nil]; omega); intro v132 w21 ho hb hg hat; rw [List.nil_append] at ho; have HA := Aside0.mk hb; have HOA := Aside0.mk ho; clear ho hb hg hat)
        | ((with_reducible refine gate_callee (f := 11) rfl ?_); refine goesL_ (some 134) rfl rfl Try.func11 (by kernel_rfl) rfl #[.int .i64 more] rfl (by (try simp only [List.map_toArray, List.map_cons, List.map_nil]); first | done | rfl) ?_; go_loud (refine (winnowerlaw18_n.calls more 1 more ⟨#[]⟩ false _ rfl).mono ?_); rintro e w22 ⟨rfl, hb⟩; refine ⟨_, rfl, ?_⟩; have HOA_ := Aside0.mk (Kd.R_below HOA.out hb); have HA_ := Aside0.mk (below_step HA.out hb); clear HA HOA hb; have HA := HA_; have HOA := HOA_; clear HA_ HOA_)
        | ((with_reducible refine gate_builtin (b := .append) (xs := #[.tmp 132, .tmp 135]) rfl ?_); at_builtin; go_loud (refine Kd.R_append k26 (w0 := w20) w20.heap.size rfl (.tmp 132) (.tmp 135) 22 26 (.agg #[(.int .i64 0), (.int .i64 0), (.string ⟨#[]⟩), (.bool false)]) 40 rfl Try.underlying22 info26 rfl (by decide) (by omega) v132 l (⟨1, more, ⟨#[]⟩, false⟩ : S26) [.int .i64 1, .int .i64 more, .string ⟨#[]⟩, .bool false] (fun _ => True) (fun _ => False) rfl rfl ?aP (fun _ hk => hk.elim) ?aF ?aO ?aB ?aS ?aL ?_); (case aP => exact k26_mkM _ _ _ _); (case aB => exact HA.out); (case aF => exact (fun _ _ => trivial)); (case aO => exact HOA.out); (case aS => exact HA.out.size); (case aL => have := HL.out; omega); intro v136 w23 ho hb hg hat; have HA_ := Aside0.mk hb; have HOB := Aside0.mk ho; clear HA HOA ho hb hg hat; have HA := HA_; clear HA_; obtain ⟨Ap, cp, ep⟩ := Kd.R_slice HOB.out; subst ep)
        | ((with_reducible refine gate_callee (f := 9) rfl ?_); refine goesL_ (some 137) rfl rfl Try.func9 (by kernel_rfl) rfl #[.int .i64 2, .slice Ap (l ++ [(⟨1, more, ⟨#[]⟩, false⟩ : S26)]).length cp] rfl (by (try simp only [List.map_toArray, List.map_cons, List.map_nil]); first | done | rfl) ?_; go_loud (refine (winnowerlaw18_told.calls 2 (l ++ [(⟨1, more, ⟨#[]⟩, false⟩ : S26)]) Ap cp b _ _ (Kd.R_reads' HOB.out).2.2 HLM.out HOM.out HTB.out).mono ?_); rintro e w24 ⟨rfl, hb⟩; refine ⟨_, rfl, ?_⟩; have b_B19 := Aside0.mk (blk_below (blk_below B19.out HA.out) hb); have b_HB := Aside0.mk (below_step (below_step HB.out HA.out) hb); clear HB B19 HA HOB hb; have HB := b_HB; have B19 := b_B19; clear b_HB b_B19)
        | ((with_reducible refine gate_dst (N := 21) rfl ?_); refine box_event ?hg (N := 21) ?hd (cs := #[.int .i64 0, .int .i64 0, .string ⟨#[]⟩, .bool false]) (t := 26) ?hr ?_; (case hd => rfl); (case hg => rfl); (case hr => first | (go_simp; done) | (go_simp; rfl)); intro g21 hg w25 hbox hb; have B21 := Aside0.mk hbox; have GEB21 := Aside0.mk ((by rw [hg]; exact (below_size HB.out)) : w.heap.size ≤ g21); have NB19B21 := Aside0.mk ((by rw [hg]; exact Nat.ne_of_lt (blk_lt B19.out)) : g19 ≠ g21); have b_B19 := Aside0.mk (blk_below B19.out hb); have b_HB := Aside0.mk (below_step HB.out hb); clear HB B19; have HB := b_HB; have B19 := b_B19; clear b_HB b_B19; clear hbox hg hb)
        | ((with_reducible refine gate_ (.store 26 (.tmp 21) (.tmp 138)) rfl ?_); go_loud (refine wpList_storeR rfl rfl 26 (.tmp 21) (.tmp 138) rfl g21 (0) rfl (.agg (vc b)) rfl (vc b).toList rfl #[.int .i64 0, .int .i64 0, .string ⟨#[]⟩, .bool false] 26 B21.out size26 (by simp) (by simp [Value.oneCell']) (vc b) rfl ?_); intro w26 hs st; have b_B19 := Aside0.mk (Step.blk st B19.out (NB19B21.out)); have b_HB := Aside0.mk (Step.fresh st HB.out GEB21.out); clear HB B19; have HB := b_HB; have B19 := b_B19; clear b_HB b_B19; clear B21; have B21 := Aside0.mk hs; clear hs st; have hp0 : w26.cell? ⟨g19, 0, none⟩ = some (.int .i64 a.f0) := (blk_cell B19.out 0).trans rfl; have hp1 : w26.cell? ⟨g19, 1, none⟩ = some (.int .i64 a.f1) := (blk_cell B19.out 1).trans rfl; have hp2 : w26.cell? ⟨g19, 2, none⟩ = some (.string a.f2) := (blk_cell B19.out 2).trans rfl; have hp3 : w26.cell? ⟨g19, 3, none⟩ = some (.bool a.f3) := (blk_cell B19.out 3).trans rfl; have hq0 : w26.cell? ⟨g21, 0, none⟩ = some (.int .i64 b.f0) := (blk_cell B21.out 0).trans rfl; have hq1 : w26.cell? ⟨g21, 1, none⟩ = some (.int .i64 b.f1) := (blk_cell B21.out 1).trans rfl; have hq2 : w26.cell? ⟨g21, 2, none⟩ = some (.string b.f2) := (blk_cell B21.out 2).trans rfl; have hq3 : w26.cell? ⟨g21, 3, none⟩ = some (.bool b.f3) := (blk_cell B21.out 3).trans rfl))
        go_ret
        exact ⟨rfl, HB.out⟩
      · by_cases hx0 : x = 0
        · subst hx0
          have z1 : (y == 0) = false := beq_eq_false_iff_ne.mpr h
          have z2 : (y != 0) = true := bne_iff_ne.mpr h
          clear h
          go_wp2_with (first
          | ((with_reducible refine gate_dst (N := 111) rfl ?_); go_loud (refine wpList_load_row rfl 26 (.tmp 11) rfl g11 rfl 26 (vc lo) (0, 0) _ B11.out Try.underlying26 rfl size26 ?_))
          | ((with_reducible refine gate_dst (N := 112) rfl ?_); go_loud (refine wpList_load_row rfl 26 (.tmp 13) rfl g13 rfl 26 (vc hi) (0, 0) _ B13.out Try.underlying26 rfl size26 ?_))
          | ((with_reducible refine gate_dst (N := 113) rfl ?_); go_loud (refine wpList_load_row rfl 26 (.tmp 11) rfl g11 rfl 26 (vc lo) (0, 0) _ B11.out Try.underlying26 rfl size26 ?_))
          | ((with_reducible refine gate_callee (f := 9) rfl ?_); refine goesL_ (some 115) rfl rfl Try.func9 (by kernel_rfl) rfl #[.int .i64 5, .slice (some ⟨wr.heap.size, 0, none⟩) 3 3] rfl (by (try simp only [List.map_toArray, List.map_cons, List.map_nil]); first | done | rfl) ?_; go_loud (refine (winnowerlaw18_told.calls 5 [lo, hi, lo] (some ⟨wr.heap.size, 0, none⟩) 3 _ _ _ (row3 lo hi lo (heap_alloc_last _ _)) (by simp) HO3.out HTD.out).mono ?_); rintro e w15 ⟨rfl, hb⟩; refine ⟨_, rfl, ?_⟩; have b_HB := Aside0.mk (below_step (below_alloc HB.out _) hb); clear HB hb; have HB := b_HB; clear b_HB)
          | ((with_reducible refine gate_dst (N := 17) rfl ?_); refine box_event ?hg (N := 17) ?hd (cs := #[.int .i64 0, .int .i64 0, .string ⟨#[]⟩, .bool false]) (t := 26) ?hr ?_; (case hd => rfl); (case hg => rfl); (case hr => first | (go_simp; done) | (go_simp; rfl)); intro g17 hg w16 hbox hb; have B17 := Aside0.mk hbox; have GEB17 := Aside0.mk ((by rw [hg]; exact (below_size HB.out)) : w.heap.size ≤ g17); have b_HB := Aside0.mk (below_step HB.out hb); clear HB; have HB := b_HB; clear b_HB; clear hbox hg hb)
          | ((with_reducible refine gate_ (.store 26 (.tmp 17) (.tmp 116)) rfl ?_); go_loud (refine wpList_storeR rfl rfl 26 (.tmp 17) (.tmp 116) rfl g17 (0) rfl (.agg #[.int .i64 1, .int .i64 d, .string ⟨#[]⟩, .bool false]) rfl [.int .i64 1, .int .i64 d, .string ⟨#[]⟩, .bool false] rfl #[.int .i64 0, .int .i64 0, .string ⟨#[]⟩, .bool false] 26 B17.out size26 (by simp) (by simp [Value.oneCell']) #[.int .i64 1, .int .i64 d, .string ⟨#[]⟩, .bool false] rfl ?_); intro w17 hs st; have b_HB := Aside0.mk (Step.fresh st HB.out GEB17.out); clear HB; have HB := b_HB; clear b_HB; clear B17; have B17 := Aside0.mk hs; clear hs st; have hf0 : w17.cell? ⟨g17, 0, none⟩ = some (.int .i64 1) := (blk_cell B17.out 0).trans rfl; have hf1 : w17.cell? ⟨g17, 1, none⟩ = some (.int .i64 d) := (blk_cell B17.out 1).trans rfl; have hf2 : w17.cell? ⟨g17, 2, none⟩ = some (.string ⟨#[]⟩) := (blk_cell B17.out 2).trans rfl; have hf3 : w17.cell? ⟨g17, 3, none⟩ = some (.bool false) := (blk_cell B17.out 3).trans rfl)
          | ((with_reducible refine gate_callee (f := 9) rfl ?_); refine goesL_ (some 127) rfl rfl Try.func9 (by kernel_rfl) rfl #[.int .i64 2, .slice A l.length c] rfl (by (try simp only [List.map_toArray, List.map_cons, List.map_nil]); first | done | rfl) ?_; go_loud (refine (winnowerlaw18_told.calls 2 l A c a _ _ (Kd.C_below HR.out HB.out) HL.out HO.out HTA.out).mono ?_); rintro e w18 ⟨rfl, hb⟩; refine ⟨_, rfl, ?_⟩; have b_HB := Aside0.mk (below_step HB.out hb); clear HB hb; have HB := b_HB; clear b_HB; clear hf0 hf1 hf2 hf3)
          | ((with_reducible refine gate_dst (N := 19) rfl ?_); refine box_event ?hg (N := 19) ?hd (cs := #[.int .i64 0, .int .i64 0, .string ⟨#[]⟩, .bool false]) (t := 26) ?hr ?_; (case hd => rfl); (case hg => rfl); (case hr => first | (go_simp; done) | (go_simp; rfl)); intro g19 hg w19 hbox hb; have B19 := Aside0.mk hbox; have GEB19 := Aside0.mk ((by rw [hg]; exact (below_size HB.out)) : w.heap.size ≤ g19); have b_HB := Aside0.mk (below_step HB.out hb); clear HB; have HB := b_HB; clear b_HB; clear hbox hg hb)
          | ((with_reducible refine gate_ (.store 26 (.tmp 19) (.tmp 128)) rfl ?_); go_loud (refine wpList_storeR rfl rfl 26 (.tmp 19) (.tmp 128) rfl g19 (0) rfl (.agg (vc a)) rfl (vc a).toList rfl #[.int .i64 0, .int .i64 0, .string ⟨#[]⟩, .bool false] 26 B19.out size26 (by simp) (by simp [Value.oneCell']) (vc a) rfl ?_); intro w20 hs st; have b_HB := Aside0.mk (Step.fresh st HB.out GEB19.out); clear HB; have HB := b_HB; clear b_HB; clear B19; have B19 := Aside0.mk hs; clear hs st)
          | ((with_reducible refine gate_builtin (b := .append) (xs := #[.const (.slice none 0 0), .tmp 131]) rfl ?_); at_builtin; go_loud (refine Kd.R_append_rows k26 (w0 := w20) w20.heap.size rfl (.const (.slice none 0 0)) (.tmp 131) 22 26 (.agg #[(.int .i64 0), (.int .i64 0), (.string ⟨#[]⟩), (.bool false)]) 40 rfl Try.underlying22 info26 rfl (by decide) (by omega) (.slice none 0 0) ([] : List S26) l A l.length c (fun _ => True) (fun _ => False) rfl rfl ?aO ?aR (fun _ _ h => h) (fun _ h => h.elim) ?aF ?aB ?aS ?aL ?_); (case aR => exact (Kd.C_below HR.out HB.out)); (case aB => exact Below.refl _ _); (case aF => exact (fun _ _ => trivial)); (case aO => exact Kd.R_nil _ _ _ _ _); (case aS => exact Nat.le_refl _); (case aL => have := HL.out; simp only [List.length_nil]; omega); intro v132 w21 ho hb hg hat; rw [List.nil_append] at ho; have HA := Aside0.mk hb; have HOA := Aside0.mk ho; clear ho hb hg hat)
          | ((with_reducible refine gate_callee (f := 11) rfl ?_); refine goesL_ (some 134) rfl rfl Try.func11 (by kernel_rfl) rfl #[.int .i64 more] rfl (by (try simp only [List.map_toArray, List.map_cons, List.map_nil]); first | done | rfl) ?_; go_loud (refine (winnowerlaw18_n.calls more 1 more ⟨#[]⟩ false _ rfl).mono ?_); rintro e w22 ⟨rfl, hb⟩; refine ⟨_, rfl, ?_⟩; have HOA_ := Aside0.mk (Kd.R_below HOA.out hb); have HA_ := Aside0.mk (below_step HA.out hb); clear HA HOA hb; have HA := HA_; have HOA := HOA_; clear HA_ HOA_)
          | ((with_reducible refine gate_builtin (b := .append) (xs := #[.tmp 132, .tmp 135]) rfl ?_); at_builtin; go_loud (refine Kd.R_append k26 (w0 := w20) w20.heap.size rfl (.tmp 132) (.tmp 135) 22 26 (.agg #[(.int .i64 0), (.int .i64 0), (.string ⟨#[]⟩), (.bool false)]) 40 rfl Try.underlying22 info26 rfl (by decide) (by omega) v132 l (⟨1, more, ⟨#[]⟩, false⟩ : S26) [.int .i64 1, .int .i64 more, .string ⟨#[]⟩, .bool false] (fun _ => True) (fun _ => False) rfl rfl ?aP (fun _ hk => hk.elim) ?aF ?aO ?aB ?aS ?aL ?_); (case aP => exact k26_mkM _ _ _ _); (case aB => exact HA.out); (case aF => exact (fun _ _ => trivial)); (case aO => exact HOA.out); (case aS => exact HA.out.size); (case aL => have := HL.out; omega); intro v136 w23 ho hb hg hat; have HA_ := Aside0.mk hb; have HOB := Aside0.mk ho; clear HA HOA ho hb hg hat; have HA := HA_; clear HA_; obtain ⟨Ap, cp, ep⟩ := Kd.R_slice HOB.out; subst ep)
          | ((with_reducible refine gate_callee (f := 9) rfl ?_); refine goesL_ (some 137) rfl rfl Try.func9 (by kernel_rfl) rfl #[.int .i64 2, .slice Ap (l ++ [(⟨1, more, ⟨#[]⟩, false⟩ : S26)]).length cp] rfl (by (try simp only [List.map_toArray, List.map_cons, List.map_nil]); first | done | rfl) ?_; go_loud (refine (winnowerlaw18_told.calls 2 (l ++ [(⟨1, more, ⟨#[]⟩, false⟩ : S26)]) Ap cp b _ _ (Kd.R_reads' HOB.out).2.2 HLM.out HOM.out HTB.out).mono ?_); rintro e w24 ⟨rfl, hb⟩; refine ⟨_, rfl, ?_⟩; have b_B19 := Aside0.mk (blk_below (blk_below B19.out HA.out) hb); have b_HB := Aside0.mk (below_step (below_step HB.out HA.out) hb); clear HB B19 HA HOB hb; have HB := b_HB; have B19 := b_B19; clear b_HB b_B19)
          | ((with_reducible refine gate_dst (N := 21) rfl ?_); refine box_event ?hg (N := 21) ?hd (cs := #[.int .i64 0, .int .i64 0, .string ⟨#[]⟩, .bool false]) (t := 26) ?hr ?_; (case hd => rfl); (case hg => rfl); (case hr => first | (go_simp; done) | (go_simp; rfl)); intro g21 hg w25 hbox hb; have B21 := Aside0.mk hbox; have GEB21 := Aside0.mk ((by rw [hg]; exact (below_size HB.out)) : w.heap.size ≤ g21); have NB19B21 := Aside0.mk ((by rw [hg]; exact Nat.ne_of_lt (blk_lt B19.out)) : g19 ≠ g21); have b_B19 := Aside0.mk (blk_below B19.out hb); have b_HB := Aside0.mk (below_step HB.out hb); clear HB B19; have HB := b_HB; have B19 := b_B19; clear b_HB b_B19; clear hbox hg hb)
          | ((with_reducible refine gate_ (.store 26 (.tmp 21) (.tmp 138)) rfl ?_); go_loud (refine wpList_storeR rfl rfl 26 (.tmp 21) (.tmp 138) rfl g21 (0) rfl (.agg (vc b)) rfl (vc b).toList rfl #[.int .i64 0, .int .i64 0, .string ⟨#[]⟩, .bool false] 26 B21.out size26 (by simp) (by simp [Value.oneCell']) (vc b) rfl ?_); intro w26 hs st; have b_B19 := Aside0.mk (Step.blk st B19.out (NB19B21.out)); have b_HB := Aside0.mk (Step.fresh st HB.out GEB21.out); clear HB B19; have HB := b_HB; have B19 := b_B19; clear b_HB b_B19; clear B21; have B21 := Aside0.mk hs; clear hs st; have hp0 : w26.cell? ⟨g19, 0, none⟩ = some (.int .i64 a.f0) := (blk_cell B19.out 0).trans rfl; have hp1 : w26.cell? ⟨g19, 1, none⟩ = some (.int .i64 a.f1) := (blk_cell B19.out 1).trans rfl; have hp2 : w26.cell? ⟨g19, 2, none⟩ = some (.string a.f2) := (blk_cell B19.out 2).trans rfl; have hp3 : w26.cell? ⟨g19, 3, none⟩ = some (.bool a.f3) := (blk_cell B19.out 3).trans rfl; have hq0 : w26.cell? ⟨g21, 0, none⟩ = some (.int .i64 b.f0) := (blk_cell B21.out 0).trans rfl; have hq1 : w26.cell? ⟨g21, 1, none⟩ = some (.int .i64 b.f1) := (blk_cell B21.out 1).trans rfl; have hq2 : w26.cell? ⟨g21, 2, none⟩ = some (.string b.f2) := (blk_cell B21.out 2).trans rfl; have hq3 : w26.cell? ⟨g21, 3, none⟩ = some (.bool b.f3) := (blk_cell B21.out 3).trans rfl))
          go_ret
          exact ⟨rfl, HB.out⟩
        · have z1 : (x == 0) = false := beq_eq_false_iff_ne.mpr hx0
          have z2 : (x != 0) = true := bne_iff_ne.mpr hx0
          clear h hx0
          go_wp2_with (first
          | ((with_reducible refine gate_dst (N := 111) rfl ?_); go_loud (refine wpList_load_row rfl 26 (.tmp 11) rfl g11 rfl 26 (vc lo) (0, 0) _ B11.out Try.underlying26 rfl size26 ?_))
          | ((with_reducible refine gate_dst (N := 112) rfl ?_); go_loud (refine wpList_load_row rfl 26 (.tmp 13) rfl g13 rfl 26 (vc hi) (0, 0) _ B13.out Try.underlying26 rfl size26 ?_))
          | ((with_reducible refine gate_dst (N := 113) rfl ?_); go_loud (refine wpList_load_row rfl 26 (.tmp 11) rfl g11 rfl 26 (vc lo) (0, 0) _ B11.out Try.underlying26 rfl size26 ?_))
          | ((with_reducible refine gate_callee (f := 9) rfl ?_); refine goesL_ (some 115) rfl rfl Try.func9 (by kernel_rfl) rfl #[.int .i64 5, .slice (some ⟨wr.heap.size, 0, none⟩) 3 3] rfl (by (try simp only [List.map_toArray, List.map_cons, List.map_nil]); first | done | rfl) ?_; go_loud (refine (winnowerlaw18_told.calls 5 [lo, hi, lo] (some ⟨wr.heap.size, 0, none⟩) 3 _ _ _ (row3 lo hi lo (heap_alloc_last _ _)) (by simp) HO3.out HTD.out).mono ?_); rintro e w15 ⟨rfl, hb⟩; refine ⟨_, rfl, ?_⟩; have b_HB := Aside0.mk (below_step (below_alloc HB.out _) hb); clear HB hb; have HB := b_HB; clear b_HB)
          | ((with_reducible refine gate_dst (N := 17) rfl ?_); refine box_event ?hg (N := 17) ?hd (cs := #[.int .i64 0, .int .i64 0, .string ⟨#[]⟩, .bool false]) (t := 26) ?hr ?_; (case hd => rfl); (case hg => rfl); (case hr => first | (go_simp; done) | (go_simp; rfl)); intro g17 hg w16 hbox hb; have B17 := Aside0.mk hbox; have GEB17 := Aside0.mk ((by rw [hg]; exact (below_size HB.out)) : w.heap.size ≤ g17); have b_HB := Aside0.mk (below_step HB.out hb); clear HB; have HB := b_HB; clear b_HB; clear hbox hg hb)
          | ((with_reducible refine gate_ (.store 26 (.tmp 17) (.tmp 116)) rfl ?_); go_loud (refine wpList_storeR rfl rfl 26 (.tmp 17) (.tmp 116) rfl g17 (0) rfl (.agg #[.int .i64 1, .int .i64 d, .string ⟨#[]⟩, .bool false]) rfl [.int .i64 1, .int .i64 d, .string ⟨#[]⟩, .bool false] rfl #[.int .i64 0, .int .i64 0, .string ⟨#[]⟩, .bool false] 26 B17.out size26 (by simp) (by simp [Value.oneCell']) #[.int .i64 1, .int .i64 d, .string ⟨#[]⟩, .bool false] rfl ?_); intro w17 hs st; have b_HB := Aside0.mk (Step.fresh st HB.out GEB17.out); clear HB; have HB := b_HB; clear b_HB; clear B17; have B17 := Aside0.mk hs; clear hs st; have hf0 : w17.cell? ⟨g17, 0, none⟩ = some (.int .i64 1) := (blk_cell B17.out 0).trans rfl; have hf1 : w17.cell? ⟨g17, 1, none⟩ = some (.int .i64 d) := (blk_cell B17.out 1).trans rfl; have hf2 : w17.cell? ⟨g17, 2, none⟩ = some (.string ⟨#[]⟩) := (blk_cell B17.out 2).trans rfl; have hf3 : w17.cell? ⟨g17, 3, none⟩ = some (.bool false) := (blk_cell B17.out 3).trans rfl)
          | ((with_reducible refine gate_callee (f := 9) rfl ?_); refine goesL_ (some 127) rfl rfl Try.func9 (by kernel_rfl) rfl #[.int .i64 2, .slice A l.length c] rfl (by (try simp only [List.map_toArray, List.map_cons, List.map_nil]); first | done | rfl) ?_; go_loud (refine (winnowerlaw18_told.calls 2 l A c a _ _ (Kd.C_below HR.out HB.out) HL.out HO.out HTA.out).mono ?_); rintro e w18 ⟨rfl, hb⟩; refine ⟨_, rfl, ?_⟩; have b_HB := Aside0.mk (below_step HB.out hb); clear HB hb; have HB := b_HB; clear b_HB; clear hf0 hf1 hf2 hf3)
          | ((with_reducible refine gate_dst (N := 19) rfl ?_); refine box_event ?hg (N := 19) ?hd (cs := #[.int .i64 0, .int .i64 0, .string ⟨#[]⟩, .bool false]) (t := 26) ?hr ?_; (case hd => rfl); (case hg => rfl); (case hr => first | (go_simp; done) | (go_simp; rfl)); intro g19 hg w19 hbox hb; have B19 := Aside0.mk hbox; have GEB19 := Aside0.mk ((by rw [hg]; exact (below_size HB.out)) : w.heap.size ≤ g19); have b_HB := Aside0.mk (below_step HB.out hb); clear HB; have HB := b_HB; clear b_HB; clear hbox hg hb)
          | ((with_reducible refine gate_ (.store 26 (.tmp 19) (.tmp 128)) rfl ?_); go_loud (refine wpList_storeR rfl rfl 26 (.tmp 19) (.tmp 128) rfl g19 (0) rfl (.agg (vc a)) rfl (vc a).toList rfl #[.int .i64 0, .int .i64 0, .string ⟨#[]⟩, .bool false] 26 B19.out size26 (by simp) (by simp [Value.oneCell']) (vc a) rfl ?_); intro w20 hs st; have b_HB := Aside0.mk (Step.fresh st HB.out GEB19.out); clear HB; have HB := b_HB; clear b_HB; clear B19; have B19 := Aside0.mk hs; clear hs st)
          | ((with_reducible refine gate_builtin (b := .append) (xs := #[.const (.slice none 0 0), .tmp 131]) rfl ?_); at_builtin; go_loud (refine Kd.R_append_rows k26 (w0 := w20) w20.heap.size rfl (.const (.slice none 0 0)) (.tmp 131) 22 26 (.agg #[(.int .i64 0), (.int .i64 0), (.string ⟨#[]⟩), (.bool false)]) 40 rfl Try.underlying22 info26 rfl (by decide) (by omega) (.slice none 0 0) ([] : List S26) l A l.length c (fun _ => True) (fun _ => False) rfl rfl ?aO ?aR (fun _ _ h => h) (fun _ h => h.elim) ?aF ?aB ?aS ?aL ?_); (case aR => exact (Kd.C_below HR.out HB.out)); (case aB => exact Below.refl _ _); (case aF => exact (fun _ _ => trivial)); (case aO => exact Kd.R_nil _ _ _ _ _); (case aS => exact Nat.le_refl _); (case aL => have := HL.out; simp only [List.length_nil]; omega); intro v132 w21 ho hb hg hat; rw [List.nil_append] at ho; have HA := Aside0.mk hb; have HOA := Aside0.mk ho; clear ho hb hg hat)
          | ((with_reducible refine gate_callee (f := 11) rfl ?_); refine goesL_ (some 134) rfl rfl Try.func11 (by kernel_rfl) rfl #[.int .i64 more] rfl (by (try simp only [List.map_toArray, List.map_cons, List.map_nil]); first | done | rfl) ?_; go_loud (refine (winnowerlaw18_n.calls more 1 more ⟨#[]⟩ false _ rfl).mono ?_); rintro e w22 ⟨rfl, hb⟩; refine ⟨_, rfl, ?_⟩; have HOA_ := Aside0.mk (Kd.R_below HOA.out hb); have HA_ := Aside0.mk (below_step HA.out hb); clear HA HOA hb; have HA := HA_; have HOA := HOA_; clear HA_ HOA_)
          | ((with_reducible refine gate_builtin (b := .append) (xs := #[.tmp 132, .tmp 135]) rfl ?_); at_builtin; go_loud (refine Kd.R_append k26 (w0 := w20) w20.heap.size rfl (.tmp 132) (.tmp 135) 22 26 (.agg #[(.int .i64 0), (.int .i64 0), (.string ⟨#[]⟩), (.bool false)]) 40 rfl Try.underlying22 info26 rfl (by decide) (by omega) v132 l (⟨1, more, ⟨#[]⟩, false⟩ : S26) [.int .i64 1, .int .i64 more, .string ⟨#[]⟩, .bool false] (fun _ => True) (fun _ => False) rfl rfl ?aP (fun _ hk => hk.elim) ?aF ?aO ?aB ?aS ?aL ?_); (case aP => exact k26_mkM _ _ _ _); (case aB => exact HA.out); (case aF => exact (fun _ _ => trivial)); (case aO => exact HOA.out); (case aS => exact HA.out.size); (case aL => have := HL.out; omega); intro v136 w23 ho hb hg hat; have HA_ := Aside0.mk hb; have HOB := Aside0.mk ho; clear HA HOA ho hb hg hat; have HA := HA_; clear HA_; obtain ⟨Ap, cp, ep⟩ := Kd.R_slice HOB.out; subst ep)
          | ((with_reducible refine gate_callee (f := 9) rfl ?_); refine goesL_ (some 137) rfl rfl Try.func9 (by kernel_rfl) rfl #[.int .i64 2, .slice Ap (l ++ [(⟨1, more, ⟨#[]⟩, false⟩ : S26)]).length cp] rfl (by (try simp only [List.map_toArray, List.map_cons, List.map_nil]); first | done | rfl) ?_; go_loud (refine (winnowerlaw18_told.calls 2 (l ++ [(⟨1, more, ⟨#[]⟩, false⟩ : S26)]) Ap cp b _ _ (Kd.R_reads' HOB.out).2.2 HLM.out HOM.out HTB.out).mono ?_); rintro e w24 ⟨rfl, hb⟩; refine ⟨_, rfl, ?_⟩; have b_B19 := Aside0.mk (blk_below (blk_below B19.out HA.out) hb); have b_HB := Aside0.mk (below_step (below_step HB.out HA.out) hb); clear HB B19 HA HOB hb; have HB := b_HB; have B19 := b_B19; clear b_HB b_B19)
          | ((with_reducible refine gate_dst (N := 21) rfl ?_); refine box_event ?hg (N := 21) ?hd (cs := #[.int .i64 0, .int .i64 0, .string ⟨#[]⟩, .bool false]) (t := 26) ?hr ?_; (case hd => rfl); (case hg => rfl); (case hr => first | (go_simp; done) | (go_simp; rfl)); intro g21 hg w25 hbox hb; have B21 := Aside0.mk hbox; have GEB21 := Aside0.mk ((by rw [hg]; exact (below_size HB.out)) : w.heap.size ≤ g21); have NB19B21 := Aside0.mk ((by rw [hg]; exact Nat.ne_of_lt (blk_lt B19.out)) : g19 ≠ g21); have b_B19 := Aside0.mk (blk_below B19.out hb); have b_HB := Aside0.mk (below_step HB.out hb); clear HB B19; have HB := b_HB; have B19 := b_B19; clear b_HB b_B19; clear hbox hg hb)
          | ((with_reducible refine gate_ (.store 26 (.tmp 21) (.tmp 138)) rfl ?_); go_loud (refine wpList_storeR rfl rfl 26 (.tmp 21) (.tmp 138) rfl g21 (0) rfl (.agg (vc b)) rfl (vc b).toList rfl #[.int .i64 0, .int .i64 0, .string ⟨#[]⟩, .bool false] 26 B21.out size26 (by simp) (by simp [Value.oneCell']) (vc b) rfl ?_); intro w26 hs st; have b_B19 := Aside0.mk (Step.blk st B19.out (NB19B21.out)); have b_HB := Aside0.mk (Step.fresh st HB.out GEB21.out); clear HB B19; have HB := b_HB; have B19 := b_B19; clear b_HB b_B19; clear B21; have B21 := Aside0.mk hs; clear hs st; have hp0 : w26.cell? ⟨g19, 0, none⟩ = some (.int .i64 a.f0) := (blk_cell B19.out 0).trans rfl; have hp1 : w26.cell? ⟨g19, 1, none⟩ = some (.int .i64 a.f1) := (blk_cell B19.out 1).trans rfl; have hp2 : w26.cell? ⟨g19, 2, none⟩ = some (.string a.f2) := (blk_cell B19.out 2).trans rfl; have hp3 : w26.cell? ⟨g19, 3, none⟩ = some (.bool a.f3) := (blk_cell B19.out 3).trans rfl; have hq0 : w26.cell? ⟨g21, 0, none⟩ = some (.int .i64 b.f0) := (blk_cell B21.out 0).trans rfl; have hq1 : w26.cell? ⟨g21, 1, none⟩ = some (.int .i64 b.f1) := (blk_cell B21.out 1).trans rfl; have hq2 : w26.cell? ⟨g21, 2, none⟩ = some (.string b.f2) := (blk_cell B21.out 2).trans rfl; have hq3 : w26.cell? ⟨g21, 3, none⟩ = some (.bool b.f3) := (blk_cell B21.out 3).trans rfl))
          go_ret
          exact ⟨rfl, HB.out⟩
      · subst h h'
        have z1 : (b.f0 == 1) = true := beq_iff_eq.mpr hb0
        have z2 : (b.f1 == wrap64 (a.f1 + more)) = true := beq_iff_eq.mpr hb1
        have z3 : (b.f1 == IntKind.i64.wrap (a.f1 + more)) = true := beq_iff_eq.mpr (hb1.trans (i64_w _).symm)
        clear hb0 hb1
        go_wp2_with (first
        | ((with_reducible refine gate_dst (N := 111) rfl ?_); go_loud (refine wpList_load_row rfl 26 (.tmp 11) rfl g11 rfl 26 (vc lo) (0, 0) _ B11.out Try.underlying26 rfl size26 ?_))
        | ((with_reducible refine gate_dst (N := 112) rfl ?_); go_loud (refine wpList_load_row rfl 26 (.tmp 13) rfl g13 rfl 26 (vc hi) (0, 0) _ B13.out Try.underlying26 rfl size26 ?_))
        | ((with_reducible refine gate_dst (N := 113) rfl ?_); go_loud (refine wpList_load_row rfl 26 (.tmp 11) rfl g11 rfl 26 (vc lo) (0, 0) _ B11.out Try.underlying26 rfl size26 ?_))
        | ((with_reducible refine gate_callee (f := 9) rfl ?_); refine goesL_ (some 115) rfl rfl Try.func9 (by kernel_rfl) rfl #[.int .i64 5, .slice (some ⟨wr.heap.size, 0, none⟩) 3 3] rfl (by (try simp only [List.map_toArray, List.map_cons, List.map_nil]); first | done | rfl) ?_; go_loud (refine (winnowerlaw18_told.calls 5 [lo, hi, lo] (some ⟨wr.heap.size, 0, none⟩) 3 _ _ _ (row3 lo hi lo (heap_alloc_last _ _)) (by simp) HO3.out HTD.out).mono ?_); rintro e w15 ⟨rfl, hb⟩; refine ⟨_, rfl, ?_⟩; have b_HB := Aside0.mk (below_step (below_alloc HB.out _) hb); clear HB hb; have HB := b_HB; clear b_HB)
        | ((with_reducible refine gate_dst (N := 17) rfl ?_); refine box_event ?hg (N := 17) ?hd (cs := #[.int .i64 0, .int .i64 0, .string ⟨#[]⟩, .bool false]) (t := 26) ?hr ?_; (case hd => rfl); (case hg => rfl); (case hr => first | (go_simp; done) | (go_simp; rfl)); intro g17 hg w16 hbox hb; have B17 := Aside0.mk hbox; have GEB17 := Aside0.mk ((by rw [hg]; exact (below_size HB.out)) : w.heap.size ≤ g17); have b_HB := Aside0.mk (below_step HB.out hb); clear HB; have HB := b_HB; clear b_HB; clear hbox hg hb)
        | ((with_reducible refine gate_ (.store 26 (.tmp 17) (.tmp 116)) rfl ?_); go_loud (refine wpList_storeR rfl rfl 26 (.tmp 17) (.tmp 116) rfl g17 (0) rfl (.agg #[.int .i64 1, .int .i64 d, .string ⟨#[]⟩, .bool false]) rfl [.int .i64 1, .int .i64 d, .string ⟨#[]⟩, .bool false] rfl #[.int .i64 0, .int .i64 0, .string ⟨#[]⟩, .bool false] 26 B17.out size26 (by simp) (by simp [Value.oneCell']) #[.int .i64 1, .int .i64 d, .string ⟨#[]⟩, .bool false] rfl ?_); intro w17 hs st; have b_HB := Aside0.mk (Step.fresh st HB.out GEB17.out); clear HB; have HB := b_HB; clear b_HB; clear B17; have B17 := Aside0.mk hs; clear hs st; have hf0 : w17.cell? ⟨g17, 0, none⟩ = some (.int .i64 1) := (blk_cell B17.out 0).trans rfl; have hf1 : w17.cell? ⟨g17, 1, none⟩ = some (.int .i64 d) := (blk_cell B17.out 1).trans rfl; have hf2 : w17.cell? ⟨g17, 2, none⟩ = some (.string ⟨#[]⟩) := (blk_cell B17.out 2).trans rfl; have hf3 : w17.cell? ⟨g17, 3, none⟩ = some (.bool false) := (blk_cell B17.out 3).trans rfl)
        | ((with_reducible refine gate_callee (f := 9) rfl ?_); refine goesL_ (some 127) rfl rfl Try.func9 (by kernel_rfl) rfl #[.int .i64 2, .slice A l.length c] rfl (by (try simp only [List.map_toArray, List.map_cons, List.map_nil]); first | done | rfl) ?_; go_loud (refine (winnowerlaw18_told.calls 2 l A c a _ _ (Kd.C_below HR.out HB.out) HL.out HO.out HTA.out).mono ?_); rintro e w18 ⟨rfl, hb⟩; refine ⟨_, rfl, ?_⟩; have b_HB := Aside0.mk (below_step HB.out hb); clear HB hb; have HB := b_HB; clear b_HB; clear hf0 hf1 hf2 hf3)
        | ((with_reducible refine gate_dst (N := 19) rfl ?_); refine box_event ?hg (N := 19) ?hd (cs := #[.int .i64 0, .int .i64 0, .string ⟨#[]⟩, .bool false]) (t := 26) ?hr ?_; (case hd => rfl); (case hg => rfl); (case hr => first | (go_simp; done) | (go_simp; rfl)); intro g19 hg w19 hbox hb; have B19 := Aside0.mk hbox; have GEB19 := Aside0.mk ((by rw [hg]; exact (below_size HB.out)) : w.heap.size ≤ g19); have b_HB := Aside0.mk (below_step HB.out hb); clear HB; have HB := b_HB; clear b_HB; clear hbox hg hb)
        | ((with_reducible refine gate_ (.store 26 (.tmp 19) (.tmp 128)) rfl ?_); go_loud (refine wpList_storeR rfl rfl 26 (.tmp 19) (.tmp 128) rfl g19 (0) rfl (.agg (vc a)) rfl (vc a).toList rfl #[.int .i64 0, .int .i64 0, .string ⟨#[]⟩, .bool false] 26 B19.out size26 (by simp) (by simp [Value.oneCell']) (vc a) rfl ?_); intro w20 hs st; have b_HB := Aside0.mk (Step.fresh st HB.out GEB19.out); clear HB; have HB := b_HB; clear b_HB; clear B19; have B19 := Aside0.mk hs; clear hs st)
        | ((with_reducible refine gate_builtin (b := .append) (xs := #[.const (.slice none 0 0), .tmp 131]) rfl ?_); at_builtin; go_loud (refine Kd.R_append_rows k26 (w0 := w20) w20.heap.size rfl (.const (.slice none 0 0)) (.tmp 131) 22 26 (.agg #[(.int .i64 0), (.int .i64 0), (.string ⟨#[]⟩), (.bool false)]) 40 rfl Try.underlying22 info26 rfl (by decide) (by omega) (.slice none 0 0) ([] : List S26) l A l.length c (fun _ => True) (fun _ => False) rfl rfl ?aO ?aR (fun _ _ h => h) (fun _ h => h.elim) ?aF ?aB ?aS ?aL ?_); (case aR => exact (Kd.C_below HR.out HB.out)); (case aB => exact Below.refl _ _); (case aF => exact (fun _ _ => trivial)); (case aO => exact Kd.R_nil _ _ _ _ _); (case aS => exact Nat.le_refl _); (case aL => have := HL.out; simp only [List.length_nil]; omega); intro v132 w21 ho hb hg hat; rw [List.nil_append] at ho; have HA := Aside0.mk hb; have HOA := Aside0.mk ho; clear ho hb hg hat)
        | ((with_reducible refine gate_callee (f := 11) rfl ?_); refine goesL_ (some 134) rfl rfl Try.func11 (by kernel_rfl) rfl #[.int .i64 more] rfl (by (try simp only [List.map_toArray, List.map_cons, List.map_nil]); first | done | rfl) ?_; go_loud (refine (winnowerlaw18_n.calls more 1 more ⟨#[]⟩ false _ rfl).mono ?_); rintro e w22 ⟨rfl, hb⟩; refine ⟨_, rfl, ?_⟩; have HOA_ := Aside0.mk (Kd.R_below HOA.out hb); have HA_ := Aside0.mk (below_step HA.out hb); clear HA HOA hb; have HA := HA_; have HOA := HOA_; clear HA_ HOA_)
        | ((with_reducible refine gate_builtin (b := .append) (xs := #[.tmp 132, .tmp 135]) rfl ?_); at_builtin; go_loud (refine Kd.R_append k26 (w0 := w20) w20.heap.size rfl (.tmp 132) (.tmp 135) 22 26 (.agg #[(.int .i64 0), (.int .i64 0), (.string ⟨#[]⟩), (.bool false)]) 40 rfl Try.underlying22 info26 rfl (by decide) (by omega) v132 l (⟨1, more, ⟨#[]⟩, false⟩ : S26) [.int .i64 1, .int .i64 more, .string ⟨#[]⟩, .bool false] (fun _ => True) (fun _ => False) rfl rfl ?aP (fun _ hk => hk.elim) ?aF ?aO ?aB ?aS ?aL ?_); (case aP => exact k26_mkM _ _ _ _); (case aB => exact HA.out); (case aF => exact (fun _ _ => trivial)); (case aO => exact HOA.out); (case aS => exact HA.out.size); (case aL => have := HL.out; omega); intro v136 w23 ho hb hg hat; have HA_ := Aside0.mk hb; have HOB := Aside0.mk ho; clear HA HOA ho hb hg hat; have HA := HA_; clear HA_; obtain ⟨Ap, cp, ep⟩ := Kd.R_slice HOB.out; subst ep)
        | ((with_reducible refine gate_callee (f := 9) rfl ?_); refine goesL_ (some 137) rfl rfl Try.func9 (by kernel_rfl) rfl #[.int .i64 2, .slice Ap (l ++ [(⟨1, more, ⟨#[]⟩, false⟩ : S26)]).length cp] rfl (by (try simp only [List.map_toArray, List.map_cons, List.map_nil]); first | done | rfl) ?_; go_loud (refine (winnowerlaw18_told.calls 2 (l ++ [(⟨1, more, ⟨#[]⟩, false⟩ : S26)]) Ap cp b _ _ (Kd.R_reads' HOB.out).2.2 HLM.out HOM.out HTB.out).mono ?_); rintro e w24 ⟨rfl, hb⟩; refine ⟨_, rfl, ?_⟩; have b_B19 := Aside0.mk (blk_below (blk_below B19.out HA.out) hb); have b_HB := Aside0.mk (below_step (below_step HB.out HA.out) hb); clear HB B19 HA HOB hb; have HB := b_HB; have B19 := b_B19; clear b_HB b_B19)
        | ((with_reducible refine gate_dst (N := 21) rfl ?_); refine box_event ?hg (N := 21) ?hd (cs := #[.int .i64 0, .int .i64 0, .string ⟨#[]⟩, .bool false]) (t := 26) ?hr ?_; (case hd => rfl); (case hg => rfl); (case hr => first | (go_simp; done) | (go_simp; rfl)); intro g21 hg w25 hbox hb; have B21 := Aside0.mk hbox; have GEB21 := Aside0.mk ((by rw [hg]; exact (below_size HB.out)) : w.heap.size ≤ g21); have NB19B21 := Aside0.mk ((by rw [hg]; exact Nat.ne_of_lt (blk_lt B19.out)) : g19 ≠ g21); have b_B19 := Aside0.mk (blk_below B19.out hb); have b_HB := Aside0.mk (below_step HB.out hb); clear HB B19; have HB := b_HB; have B19 := b_B19; clear b_HB b_B19; clear hbox hg hb)
        | ((with_reducible refine gate_ (.store 26 (.tmp 21) (.tmp 138)) rfl ?_); go_loud (refine wpList_storeR rfl rfl 26 (.tmp 21) (.tmp 138) rfl g21 (0) rfl (.agg (vc b)) rfl (vc b).toList rfl #[.int .i64 0, .int .i64 0, .string ⟨#[]⟩, .bool false] 26 B21.out size26 (by simp) (by simp [Value.oneCell']) (vc b) rfl ?_); intro w26 hs st; have b_B19 := Aside0.mk (Step.blk st B19.out (NB19B21.out)); have b_HB := Aside0.mk (Step.fresh st HB.out GEB21.out); clear HB B19; have HB := b_HB; have B19 := b_B19; clear b_HB b_B19; clear B21; have B21 := Aside0.mk hs; clear hs st; have hp0 : w26.cell? ⟨g19, 0, none⟩ = some (.int .i64 a.f0) := (blk_cell B19.out 0).trans rfl; have hp1 : w26.cell? ⟨g19, 1, none⟩ = some (.int .i64 a.f1) := (blk_cell B19.out 1).trans rfl; have hp2 : w26.cell? ⟨g19, 2, none⟩ = some (.string a.f2) := (blk_cell B19.out 2).trans rfl; have hp3 : w26.cell? ⟨g19, 3, none⟩ = some (.bool a.f3) := (blk_cell B19.out 3).trans rfl; have hq0 : w26.cell? ⟨g21, 0, none⟩ = some (.int .i64 b.f0) := (blk_cell B21.out 0).trans rfl; have hq1 : w26.cell? ⟨g21, 1, none⟩ = some (.int .i64 b.f1) := (blk_cell B21.out 1).trans rfl; have hq2 : w26.cell? ⟨g21, 2, none⟩ = some (.string b.f2) := (blk_cell B21.out 2).trans rfl; have hq3 : w26.cell? ⟨g21, 3, none⟩ = some (.bool b.f3) := (blk_cell B21.out 3).trans rfl))
        go_ret
        exact ⟨rfl, HB.out⟩
    | succ m_ =>
      have hk : k < l.length := by have := HK.out; omega
      have hkI : (k : Int) < (l.length : Int) := by omega
      have r1 : decide ((k : Int) < (l.length : Int)) = true := decide_eq_true hkI
      have r2 : decide (k < l.length) = true := decide_eq_true hk
      clear hk
      go_wp2
      go_quiet (fail)
      go_wp2
      go_roundg m_
      case measure => omega
      case rel => exact ⟨k + 1, by rw [show ((k + 1 : Nat) : Int) = (k : Int) + 1 from by omega, wrapI (by omega) (by have := HL.out; omega)], rfl, ⟨by have := HK.out; omega⟩, ⟨pw_below_drewN HB.out nq⟩, ⟨blk_drewN B11.out nq⟩, ⟨blk_drewN B13.out nq⟩⟩
theorem winnowerlaw18_AggEnds.calls (l : List S26) (A : Option Addr) (c : Nat) (more : Int) (w : World) (hr : Kd.C k26 w A l.length l) (hc : l.length ≤ c) (ho : okI l) (hmo : -9223372036854775808 ≤ more ∧ more ≤ 9223372036854775807) :
    Calls Try.prog 4 #[.slice A l.length c, .int .i64 more] w fun e w' => e = .returned (.bool true) ∧ Below w.heap.size w w' := by
  cases hf : fewS l with
  | false => exact winnowerlaw18_AggEnds.no_ l A c more w hr hc ho hmo hf
  | true =>
    have hl := (few_len hf).1
    obtain ⟨d, hd, hd2⟩ := told_three (bestS 3 (ownS 1 l)) (bestS 4 (ownS 1 l))
    have h1 := told_1 (l := l) (by omega)
    have h3 := told_3 (l := l) (by omega)
    have h4 := told_4 (l := l) (by omega)
    have h5 := told_5 (l := l) (by omega)
    have hDC := foldV_len (ownS 1 l) []
    rw [List.length_nil] at hDC
    have hxy : ∀ (a b : S26) (x y : Int), toldS 2 l = (a, x) → toldS 2 (l ++ [num26 more]) = (b, y) → x ≠ 0 ∨ y ≠ 0 ∨ (x = 0 ∧ y = 0 ∧ b.f0 = 1 ∧ b.f1 = wrap64 (a.f1 + more)) := by
      intro a b x y ha hb
      by_cases hx : x = 0
      · by_cases hy : y = 0
        · subst hx
          obtain ⟨e1, e2, e3⟩ := sum_more (by omega) more ha hb hy
          refine .inr (.inr ⟨rfl, hy, e1, ?_⟩)
          rw [← e2, wrapI e3.1 e3.2]
        · exact .inr (.inl hy)
      · exact .inl hx
    obtain ⟨a, x, ha⟩ : ∃ a x, toldS 2 l = (a, x) := ⟨_, _, rfl⟩
    obtain ⟨b, y, hb⟩ : ∃ b y, toldS 2 (l ++ [num26 more]) = (b, y) := ⟨_, _, rfl⟩
    have hxy := hxy a b x y ha hb
    cases hO : ownS 1 l with
    | nil =>
      rw [hO] at h1 h3 h4 h5 hd hDC
      exact winnowerlaw18_AggEnds.none_ l A c more w hr hc ho hmo hf 0 0 z26 z26 h1 h5 h3 h4 (by decide) (by decide) rfl rfl rfl (by decide) d hd (by omega) a b x y ha hb hxy
    | cons u t =>
      have hne : ownS 1 l ≠ [] := by rw [hO]; simp
      have m3 := own_kind (best_mem 3 hne)
      have m4 := own_kind (best_mem 4 hne)
      have hD1 : 1 ≤ ((ownS 1 l).foldl addV []).length := by rw [hO]; exact foldV_one u t
      have hC1 : 1 ≤ (ownS 1 l).length := by rw [hO]; simp
      exact winnowerlaw18_AggEnds.some_ l A c more w hr hc ho hmo hf _ _ _ _ h1 h5 h3 h4 (ho _ m3.1) (ho _ m4.1) (by omega) (by omega) m3.2.2 m3.1 (by omega) d hd (by omega) a b x y ha hb hxy

end Go.Proofs.Ytgjmpancofjjbaa.Q
