/- What layer 9 answers, in plain words. -/
import Derived.Test.YteaiaeejdcmefaaDoorHbitset
import Derived.Test.YteaiaeejdcmefaaDoorTx0
import Derived.Test.YteaiaeejdcmefaaDoorTx2
import Derived.Test.YteaiaeejdcmefaaDoorTx3
import Derived.Test.YteaiaeejdcmefaaDoorTx4
import Derived.Test.YteaiaeejdcmefaaDoorTx5
import Derived.Test.YteaiaeejdcmefaaDoorTx6
import Derived.Test.YteaiaeejdcmefaaDoorTx8
import Derived.Test.YteaiaeejdcmefaaDoorTx9
import Derived.Test.YteaiaeejdcmefaaDoorTx11
import Derived.Test.YteaiaeejdcmefaaDoorTx14
import Derived.Test.YteaiaeejdcmefaaDoorTx15
import Derived.Test.YteaiaeejdcmefaaDoorTx16
import Derived.Test.YteaiaeejdcmefaaDoorTx17
namespace Go.Proofs.YteaiaeejdcmefaaDoor.T
open Go.RowKit Go.Proofs.YteaiaeejdcmefaaDoorW.PrintWords Go.Proofs.YteaiaeejdcmefaaDoorW.PrintLast Go.Proofs.YteaiaeejdcmefaaDoorW.PrintMore
attribute [local go_sem] max2_int min2_int max_two min_two max_three min_three max_four min_four   -- for this text's walks alone
set_option linter.unusedVariables false
set_option linter.unusedSimpArgs false

-- SAYS What layer 9 answers, in plain words.
-- FUNCS winnower/winnowerlaw09.List
-- NEEDS bitset_Of.f bitset_Set_Not.f bitset_Set_Has.f bitset_Set_Count.f bitset_Same.f winnowerlaw09_List.f bitset_Upto.f
-- IMPORT Derived.Test.YteaiaeejdcmefaaDoorHbitset
open Go.Proofs.YteaiaeejdcmefaaDoor.Hbitset
/-- The words of a set. -/
def Bs (w : List Int) : Prop := U64 w ∧ w.length ≤ 1024
theorem Bs.nil : Bs [] := ⟨U64.nil, by decide⟩
theorem Bs.put {w : List Int} (h : Bs w) {i : Nat} (hi : i < 65536) : Bs (putL w i) := ⟨h.1.put i, by rw [putL_len]; have := h.2; omega⟩
theorem ofL_ok (l : List Int) : ∀ w, Bs w → Bs (ofL w l) := by
  induction l with
  | nil => intro w h; exact h
  | cons x xs ih =>
    intro w h
    rw [ofL]
    refine ih _ ?_
    by_cases hx : 0 ≤ x ∧ x < 65536
    · rw [if_pos hx]; exact h.put (by omega)
    · rw [if_neg hx]; exact h
theorem ofL_bit (l : List Int) : ∀ w, Bs w → ∀ i, bit (ofL w l) i = (bit w i || decide ((i : Int) ∈ l ∧ i < 65536)) := by
  induction l with
  | nil => intro w h i; rw [ofL, decide_eq_false (by simp), Bool.or_false]
  | cons x xs ih =>
    intro w h i
    rw [ofL]
    by_cases hx : 0 ≤ x ∧ x < 65536
    · obtain ⟨n, rfl⟩ := Int.eq_ofNat_of_zero_le hx.1
      rw [if_pos hx, Int.toNat_natCast, ih _ (h.put (by omega)), putL_bit h.1, Bool.or_assoc]
      congr 1
      by_cases e : i = n
      · subst e
        rw [decide_eq_true rfl, Bool.true_or, decide_eq_true ⟨List.mem_cons_self, by omega⟩]
      · rw [decide_eq_false e, Bool.false_or]
        exact decide_eq_decide.2 ⟨fun h => ⟨List.mem_cons_of_mem _ h.1, h.2⟩, fun h => ⟨(List.mem_cons.1 h.1).resolve_left (fun e2 => e (by omega)), h.2⟩⟩
    · rw [if_neg hx, ih _ h]
      congr 1
      exact decide_eq_decide.2 ⟨fun h => ⟨List.mem_cons_of_mem _ h.1, h.2⟩, fun h => ⟨(List.mem_cons.1 h.1).resolve_left (fun e2 => hx (by omega)), h.2⟩⟩
theorem ofL_bit0 (l : List Int) (i : Nat) : bit (ofL [] l) i = decide ((i : Int) ∈ l ∧ i < 65536) := by rw [ofL_bit l [] Bs.nil, bit_nil, Bool.false_or]
theorem ofL_ok0 (l : List Int) : Bs (ofL [] l) := ofL_ok l [] Bs.nil
/-- Whether a number is in it. -/
def hasL (w : List Int) (a : Int) : Bool := decide (0 ≤ a ∧ a < 65536) && bit w a.toNat
theorem shr_bit {x : Int} (hx : 0 ≤ x ∧ x < 18446744073709551616) {j : Nat} (hj : j < 64) : (Go.bits .and .u64 (shr .u64 x (j : Int)) 1 == 1) = x.toNat.testBit j := by
  obtain ⟨n, rfl⟩ := Int.eq_ofNat_of_zero_le hx.1
  have e : shr .u64 (n : Int) (j : Int) = ((n / 2 ^ j : Nat) : Int) := by
    unfold shr
    rw [Int.toNat_natCast, Nat.min_eq_left (show j ≤ IntKind.bits .u64 by show j ≤ 64; omega), Int.natCast_ediv, Int.natCast_pow]
    rfl
  have hle : n / 2 ^ j ≤ n := Nat.div_le_self _ _
  rw [e, show (1 : Int) = ((1 : Nat) : Int) from rfl, bits_and_u64_nat _ _ (by omega) (by decide), Int.toNat_natCast, Nat.testBit_eq_decide_div_mod_eq, and_1]
  by_cases h : n / 2 ^ j % 2 = 1
  · rw [h, decide_eq_true rfl]; rfl
  · rw [show n / 2 ^ j % 2 = 0 by omega]; rfl
theorem has_tell {w : List Int} (h : U64 w) (a : Int) : bitset_Set_Has.f w a = some (hasL w a) := by
  unfold bitset_Set_Has.f hasL
  rw [bitset_may.tell, Option.bind_some]
  by_cases ha : 0 ≤ a ∧ a < 65536
  · obtain ⟨n, rfl⟩ := Int.eq_ofNat_of_zero_le ha.1
    rw [decide_eq_true ha, if_pos rfl, tdiv64, wrap_small (by omega), at_val, Option.bind_some, tmod64, if_pos (by omega), shr_bit (h.at _) (Nat.mod_lt _ (by decide)), Bool.true_and, Int.toNat_natCast]
    rfl
  · rw [decide_eq_false ha, if_neg (by decide), Bool.false_and]
def withL (w : List Int) (a : Int) : List Int := if 0 ≤ a ∧ a < 65536 then putL w a.toNat else w
theorem with_tell {w : List Int} (h : Bs w) (a : Int) {k : Nat} (hk : 2000 < k) : bitset_Set_With.f k w a = some (withL w a) := by
  unfold bitset_Set_With.f withL
  rw [bitset_may.tell, Option.bind_some]
  by_cases ha : 0 ≤ a ∧ a < 65536
  · obtain ⟨n, rfl⟩ := Int.eq_ofNat_of_zero_le ha.1
    have := h.2
    rw [decide_eq_true ha, if_pos rfl, if_pos ha, slices_Clone_uint64_uint64.f, if_pos (by omega), Option.bind_some, bitset_put.f, bitset_put.tell n (by omega) _ k w rfl (by omega) (by omega), Option.bind_some, Int.toNat_natCast]
  · rw [decide_eq_false ha, if_neg (by decide), if_neg ha]
theorem withL_ok {w : List Int} (h : Bs w) (a : Int) : Bs (withL w a) := by
  unfold withL
  by_cases ha : 0 ≤ a ∧ a < 65536
  · rw [if_pos ha]; exact h.put (by omega)
  · rw [if_neg ha]; exact h
theorem withL_bit {w : List Int} (h : Bs w) (a : Int) (i : Nat) : bit (withL w a) i = (bit w i || decide ((0 ≤ a ∧ a < 65536) ∧ (i : Int) = a)) := by
  unfold withL
  by_cases ha : 0 ≤ a ∧ a < 65536
  · obtain ⟨n, rfl⟩ := Int.eq_ofNat_of_zero_le ha.1
    rw [if_pos ha, Int.toNat_natCast, putL_bit h.1]
    refine congrArg (fun z => bit w i || z) ?_
    exact decide_eq_decide.2 ⟨fun e => ⟨ha, by omega⟩, fun e => by omega⟩
  · rw [if_neg ha, decide_eq_false (fun e => ha e.1), Bool.or_false]
def withoutL (w : List Int) (a : Int) : List Int := if hasL w a = true then rmL w a.toNat else w
theorem hasL_at {w : List Int} {a : Int} (h : hasL w a = true) : (0 ≤ a ∧ a < 65536) ∧ bit w a.toNat = true ∧ a.toNat / 64 < w.length := by
  unfold hasL at h
  rw [Bool.and_eq_true, decide_eq_true_eq] at h
  refine ⟨h.1, h.2, ?_⟩
  by_cases hl : a.toNat / 64 < w.length
  · exact hl
  · rw [bit_far (by omega)] at h; cases h.2
theorem without_tell {w : List Int} (h : Bs w) (a : Int) : bitset_Set_Without.f w a = some (withoutL w a) := by
  unfold bitset_Set_Without.f withoutL
  rw [has_tell h.1, Option.bind_some]
  by_cases hh : hasL w a = true
  · obtain ⟨ha, _, hlt⟩ := hasL_at hh
    obtain ⟨n, rfl⟩ := Int.eq_ofNat_of_zero_le ha.1
    have := h.2
    rw [Int.toNat_natCast] at hlt
    rw [if_pos hh, if_pos hh, slices_Clone_uint64_uint64.f, if_pos (by omega), Option.bind_some, tdiv64, wrap_small (by omega), if_pos (by omega), if_pos (by omega), tmod64, if_pos (by omega), Int.toNat_natCast, rd, Int.toNat_natCast, shl_one (Nat.mod_lt _ (by decide)), Int.toNat_natCast]
    rfl
  · rw [if_neg hh, if_neg hh]
theorem withoutL_ok {w : List Int} (h : Bs w) (a : Int) : Bs (withoutL w a) := by
  unfold withoutL
  by_cases ha : hasL w a = true
  · rw [if_pos ha]; exact ⟨h.1.rm _, by rw [rmL, List.length_set]; exact h.2⟩
  · rw [if_neg ha]; exact h
theorem withoutL_bit {w : List Int} (h : Bs w) (a : Int) (i : Nat) : bit (withoutL w a) i = (bit w i && decide ((i : Int) ≠ a)) := by
  unfold withoutL
  by_cases ha : hasL w a = true
  · obtain ⟨hm, _, hlt⟩ := hasL_at ha
    obtain ⟨n, rfl⟩ := Int.eq_ofNat_of_zero_le hm.1
    rw [if_pos ha, Int.toNat_natCast, rmL_bit h.1 _ _ (by rwa [Int.toNat_natCast] at hlt)]
    refine congrArg (fun z => bit w i && z) ?_
    exact decide_eq_decide.2 ⟨fun e e2 => e (by omega), fun e e2 => e (by omega)⟩
  · rw [if_neg ha]
    by_cases e : (i : Int) = a
    · subst e
      rw [decide_eq_false (by simp), Bool.and_false]
      cases hb : bit w i with
      | false => rfl
      | true =>
        exfalso
        apply ha
        unfold hasL
        rw [Int.toNat_natCast, hb, Bool.and_true, decide_eq_true_eq]
        by_cases hl : i / 64 < w.length
        · have := h.2; omega
        · rw [bit_far (by omega)] at hb; cases hb
    · rw [decide_eq_true e, Bool.and_true]
def andL (a b : List Int) : List Int := (List.range (min a.length b.length)).map (andW a b)
theorem and_tell {a b : List Int} (h : Bs a) : bitset_Set_And.f a b = some (andL a b) := by unfold bitset_Set_And.f; rw [if_pos (by have := h.2; omega)]; rfl
theorem andL_ok {a b : List Int} (ha : Bs a) (hb : Bs b) : Bs (andL a b) := ⟨U64.map fun k _ => (and_word (ha.1.at k) (hb.1.at k)).1, by rw [andL, List.length_map, List.length_range]; have := ha.2; omega⟩
theorem andL_bit {a b : List Int} (ha : Bs a) (hb : Bs b) (i : Nat) : bit (andL a b) i = (bit a i && bit b i) := by
  rw [andL, bit_map]
  by_cases h : i / 64 < min a.length b.length
  · rw [decide_eq_true h, Bool.true_and, andW, (and_word (ha.1.at _) (hb.1.at _)).2]; rfl
  · rw [decide_eq_false h, Bool.false_and]
    by_cases h1 : i / 64 < a.length
    · rw [bit_far (w := b) (by omega), Bool.and_false]
    · rw [bit_far (w := a) (by omega), Bool.false_and]
def orL (a b : List Int) : List Int := (List.range (max a.length b.length)).map (orW a b)
theorem or_tell {a b : List Int} (h : Bs a) (h' : Bs b) : bitset_Set_Or.f a b = some (orL a b) := by unfold bitset_Set_Or.f; rw [if_pos (by have := h.2; have := h'.2; omega)]; rfl
theorem orL_ok {a b : List Int} (ha : Bs a) (hb : Bs b) : Bs (orL a b) := ⟨U64.map fun k _ => (or_word (ha.1.at k) (hb.1.at k)).1, by rw [orL, List.length_map, List.length_range]; have := ha.2; have := hb.2; omega⟩
theorem orL_bit {a b : List Int} (ha : Bs a) (hb : Bs b) (i : Nat) : bit (orL a b) i = (bit a i || bit b i) := by
  rw [orL, bit_map]
  by_cases h : i / 64 < max a.length b.length
  · rw [decide_eq_true h, Bool.true_and, orW, (or_word (ha.1.at _) (hb.1.at _)).2]; rfl
  · rw [decide_eq_false h, Bool.false_and, bit_far (w := a) (by omega), bit_far (w := b) (by omega)]; rfl
theorem uptoW_word (n k : Nat) : (0 ≤ uptoW n k ∧ uptoW n k < 18446744073709551616) ∧ ∀ j, j < 64 → (uptoW n k).toNat.testBit j = decide (64 * k + j < n) := by
  unfold uptoW
  by_cases h : 64 ≤ n - 64 * k
  · rw [if_pos h]
    refine ⟨⟨by decide, by decide⟩, fun j hj => ?_⟩
    rw [show (18446744073709551615 : Int).toNat = 2 ^ 64 - 1 from rfl, Nat.testBit_two_pow_sub_one]
    exact decide_eq_decide.2 ⟨fun _ => by omega, fun _ => hj⟩
  · rw [if_neg h]
    obtain ⟨h1, h2⟩ := pow_lt64 (n - 64 * k) (by omega)
    refine ⟨⟨by omega, by omega⟩, fun j hj => ?_⟩
    have e : ((2 : Int) ^ (n - 64 * k) - 1).toNat = 2 ^ (n - 64 * k) - 1 := by
      have : (2 : Int) ^ (n - 64 * k) = ((2 ^ (n - 64 * k) : Nat) : Int) := by rw [Int.natCast_pow]; rfl
      rw [this]
      generalize 2 ^ (n - 64 * k) = m
      omega
    rw [e, Nat.testBit_two_pow_sub_one]
    exact decide_eq_decide.2 ⟨fun _ => by omega, fun _ => by omega⟩
theorem uptoL_ok {n : Nat} (h : n ≤ 65536) : Bs (uptoL n) := ⟨U64.map fun k _ => (uptoW_word n k).1, by rw [uptoL, List.length_map, List.length_range]; omega⟩
theorem uptoL_bit (n i : Nat) : bit (uptoL n) i = decide (i < n) := by
  rw [uptoL, bit_map, (uptoW_word n _).2 _ (Nat.mod_lt _ (by decide)), show 64 * (i / 64) + i % 64 = i by omega]
  by_cases h : i < n
  · rw [decide_eq_true h, Bool.and_true, decide_eq_true (by omega)]
  · rw [decide_eq_false h, Bool.and_false]
def notL (s : List Int) (n : Int) : List Int := (List.range (uptoL (uptoN n)).length).map (notW (uptoL (uptoN n)) s)
theorem not_tell (s : List Int) (n : Int) : bitset_Set_Not.f s n = some (notL s n) := rfl
theorem notL_ok {s : List Int} (h : Bs s) (n : Int) : Bs (notL s n) := ⟨U64.map fun k _ => (andNot_word ((uptoL_ok (uptoN_le n)).1.at k) (h.1.at k)).1, by rw [notL, List.length_map, List.length_range]; exact (uptoL_ok (uptoN_le n)).2⟩
theorem notL_bit {s : List Int} (h : Bs s) (n : Int) (i : Nat) : bit (notL s n) i = (decide (i < uptoN n) && !bit s i) := by
  rw [notL, bit_map]
  by_cases hi : i / 64 < (uptoL (uptoN n)).length
  · rw [decide_eq_true hi, Bool.true_and, notW, (andNot_word ((uptoL_ok (uptoN_le n)).1.at _) (h.1.at _)).2 _ (Nat.mod_lt _ (by decide)), ← uptoL_bit]; rfl
  · rw [decide_eq_false hi, Bool.false_and, ← uptoL_bit, bit_far (w := uptoL (uptoN n)) (by omega), Bool.false_and]
theorem upto_tell (n : Int) : bitset_Upto.f n = some (uptoL (uptoN n)) := rfl
/-- Two sets are the same where their numbers are. -/
theorem same_from (a b : List Int) (ha : Bs a) (hb : Bs b) : ∀ (d k i : Nat), i + d = max a.length b.length → d < k → ∃ r, bitset_Same.l0 k ((max a.length b.length : Nat) : Int) (i : Int) a b = some r ∧ (r = true ↔ ∀ j, i ≤ j → a.getD j 0 = b.getD j 0) := by
  have h1 := ha.2
  have h2 := hb.2
  intro d
  induction d with
  | zero =>
    intro k i hd hk
    obtain ⟨k, rfl⟩ : ∃ m, k = m + 1 := ⟨k - 1, by omega⟩
    refine ⟨true, by simp only [bitset_Same.l0]; rw [if_neg (by omega)], ⟨fun _ j hj => ?_, fun _ => rfl⟩⟩
    rw [List.getD_eq_getElem?_getD, List.getD_eq_getElem?_getD, List.getElem?_eq_none (by omega), List.getElem?_eq_none (by omega)]
  | succ d ih =>
    intro k i hd hk
    obtain ⟨k, rfl⟩ : ∃ m, k = m + 1 := ⟨k - 1, by omega⟩
    have e1 : wrap64 ((i : Int) + 1) = ((i + 1 : Nat) : Int) := by unfold wrap64; omega
    by_cases e : a.getD i 0 = b.getD i 0
    · obtain ⟨r, hr, hi⟩ := ih k (i + 1) (by omega) (by omega)
      refine ⟨r, ?_, ?_⟩
      · simp only [bitset_Same.l0]
        rw [if_pos (by omega), at_val, Option.bind_some, at_val, Option.bind_some, if_pos e, e1, hr]
      · rw [hi]
        exact ⟨fun h j hj => by
          by_cases ej : j = i
          · subst ej; exact e
          · exact h j (by omega), fun h j hj => h j (by omega)⟩
    · refine ⟨false, ?_, ⟨(fun h => by cases h), fun h => absurd (h i (Nat.le_refl _)) e⟩⟩
      simp only [bitset_Same.l0]
      rw [if_pos (by omega), at_val, Option.bind_some, at_val, Option.bind_some, if_neg e]
theorem same_tell {a b : List Int} (ha : Bs a) (hb : Bs b) {k : Nat} (hk : 2000 < k) : ∃ r, bitset_Same.f k a b = some r ∧ (r = true ↔ ∀ i, bit a i = bit b i) := by
  have h1 := ha.2
  have h2 := hb.2
  have e : mx (a.length : Int) (b.length : Int) = ((max a.length b.length : Nat) : Int) := by unfold mx; split <;> omega
  obtain ⟨r, hr, hi⟩ := same_from a b ha hb (max a.length b.length) k 0 (by omega) (by omega)
  refine ⟨r, by rw [bitset_Same.f, e]; exact hr, ?_⟩
  rw [hi]
  exact ⟨fun h i => by rw [bit, bit, h (i / 64) (Nat.zero_le _)], fun h j _ => words_eq ha.1 hb.1 h j⟩
theorem same_yes {a b : List Int} (ha : Bs a) (hb : Bs b) {k : Nat} (hk : 2000 < k) (h : ∀ i, bit a i = bit b i) : bitset_Same.f k a b = some true := by
  obtain ⟨r, hr, hi⟩ := same_tell ha hb hk
  rw [hr, hi.2 h]
theorem ones_tell {a : Int} (h : 0 ≤ a ∧ a < 18446744073709551616) : bits_OnesCount64.f a = some ((pcn a.toNat : Nat) : Int) := by unfold bits_OnesCount64.f; rw [if_pos h.1, if_pos (by omega)]
theorem count_from (w : List Int) (h : Bs w) : ∀ (d k i c : Nat), i + d = w.length → c ≤ 64 * i → d < k → bitset_Set_Count.l0 k (c : Int) w (w.length : Int) (i : Int) = some ((c + cntW (w.drop i) : Nat) : Int) := by
  have h1 := h.2
  intro d
  induction d with
  | zero =>
    intro k i c hd hc hk
    obtain ⟨k, rfl⟩ : ∃ m, k = m + 1 := ⟨k - 1, by omega⟩
    simp only [bitset_Set_Count.l0]
    rw [if_neg (by omega), List.drop_of_length_le (by omega), cntW, Nat.add_zero]
  | succ d ih =>
    intro k i c hd hc hk
    obtain ⟨k, rfl⟩ : ∃ m, k = m + 1 := ⟨k - 1, by omega⟩
    have e1 : wrap64 ((i : Int) + 1) = ((i + 1 : Nat) : Int) := by unfold wrap64; omega
    have hp : pcn (w.getD i 0).toNat ≤ 64 := by rw [← bl_len64 0]; exact bl_le 64 0 _
    have e2 : wrap64 ((c : Int) + ((pcn (w.getD i 0).toNat : Nat) : Int)) = ((c + pcn (w.getD i 0).toNat : Nat) : Int) := by unfold wrap64; omega
    simp only [bitset_Set_Count.l0]
    rw [if_pos (by omega), if_pos (by omega), if_pos (by omega), rd, Int.toNat_natCast, ones_tell (h.1.at i), Option.bind_some, e1, e2, ih k (i + 1) _ (by omega) (by omega) (by omega), cntW_drop w i (by omega), Nat.add_assoc]
theorem count_tell {w : List Int} (h : Bs w) {k : Nat} (hk : 2000 < k) : bitset_Set_Count.f k w = some (((elems 65536 (bit w)).length : Nat) : Int) := by
  have := h.2
  rw [bitset_Set_Count.f, show (0 : Int) = ((0 : Nat) : Int) from rfl, count_from w h w.length k 0 0 (by omega) (by omega) (by omega), List.drop_zero, Nat.zero_add, ← memb_cnt w 0, memb_elems w 65536 (by omega)]
theorem list_tell {w : List Int} (h : Bs w) (m : Int) : winnowerlaw09_List.f w m = some (ints (most_ m (elems 65536 (bit w)))) := by
  have := h.2
  unfold winnowerlaw09_List.f
  rw [if_pos ⟨by omega, all_of_u64 h.1⟩, memb_elems w 65536 (by omega)]

end Go.Proofs.YteaiaeejdcmefaaDoor.T
