/- What layer 3 answers, in plain words: the numbers of layer 1, Encode, what Decode tells of what was encoded, and the chapter's examples. -/
import Derived.Test.YtnlfhjhdnompaaaHnum
import Derived.Test.YtnlfhjhdnompaaaHruns
import Derived.Test.YtnlfhjhdnompaaaHrl
import Derived.Test.YtnlfhjhdnompaaaTx0
import Derived.Test.YtnlfhjhdnompaaaTx4
import Derived.Test.YtnlfhjhdnompaaaTx5
import Derived.Test.YtnlfhjhdnompaaaTx7
import Derived.Test.YtnlfhjhdnompaaaTx8
import Derived.Test.YtnlfhjhdnompaaaTx9
import Derived.Test.YtnlfhjhdnompaaaTx11
import Derived.Test.YtnlfhjhdnompaaaTx13
import Derived.Test.YtnlfhjhdnompaaaTx14
import Derived.Test.YtnlfhjhdnompaaaTx15
import Derived.Test.YtnlfhjhdnompaaaTx16
import Derived.Test.YtnlfhjhdnompaaaTx19
namespace Go.Proofs.Ytnlfhjhdnompaaa.T
open Go.RowKit Go.Proofs.YtnlfhjhdnompaaaW.PrintWords Go.Proofs.YtnlfhjhdnompaaaW.PrintLast Go.Proofs.YtnlfhjhdnompaaaW.PrintMore
attribute [local go_sem] max2_int min2_int max_two min_two max_three min_three max_four min_four   -- for this text's walks alone
set_option linter.unusedVariables false
set_option linter.unusedSimpArgs false

-- SAYS What layer 3 answers, in plain words: the numbers of layer 1, Encode, what Decode tells of what was encoded, and the chapter's examples.
-- FUNCS winnower/winnowerlaw03.awake
-- NEEDS winnowerlaw03_awake.f runs_Decode.f runs_Encode.f winnowerref01_Same.f winnowerref01_Ints.f
-- IMPORT Derived.Test.YtnlfhjhdnompaaaHnum
-- IMPORT Derived.Test.YtnlfhjhdnompaaaHruns
-- IMPORT Derived.Test.YtnlfhjhdnompaaaHrl
open Go.Proofs.Ytnlfhjhdnompaaa.Hnum Go.Proofs.Ytnlfhjhdnompaaa.Hruns Go.Proofs.Ytnlfhjhdnompaaa.Hrl
theorem num_back.tells {u : Nat} (h : u < 18446744073709551616) : num_back.f (u : Int) = some (back u) := by unfold num_back.f; rw [back_bits h]
theorem num_Get.tells {l : List Int} (h : Bytes l) : num_Get.f l = some (getn l) := by
  unfold num_Get.f num_get.f getn
  rw [if_pos h, Option.bind_some]
  cases hg : getd 0 l with
  | error e => simp only [trip]; rw [show (0 : Int) = ((0 : Nat) : Int) from rfl, num_back.tells (by omega)]; rfl
  | ok p =>
    obtain ⟨u, n⟩ := p
    have := (getd_ok (by omega) h hg).2.2.2.2.1
    simp only [trip]
    rw [num_back.tells (by omega)]; rfl
theorem num_GetLen.tells {l : List Int} (h : Bytes l) : num_GetLen.f l = some (getl l) := by
  unfold num_GetLen.f num_get.f getl
  rw [if_pos h, Option.bind_some]
  cases hg : getd 0 l with
  | error e =>
    have := getd_error hg
    rw [if_neg (show ¬ ((trip (Except.error e)).2.2 = 0) from by show ¬ (e = 0); omega)]
    show some (wrap64 0, (0 : Int), e) = some (0, 0, e)
    rw [wrap_id (by omega) (by omega)]
  | ok p =>
    obtain ⟨u, n⟩ := p
    have := (getd_ok (by omega) h hg).2.2.2.2.1
    rw [if_pos (show (trip (Except.ok (u, n))).2.2 = 0 from rfl)]
    by_cases hu : u ≤ 9223372036854775807
    · rw [if_neg (show ¬ ((trip (Except.ok (u, n))).1 > 9223372036854775807) from by show ¬ ((u : Int) > 9223372036854775807); omega)]
      show some (wrap64 (u : Int), (n : Int), (0 : Int)) = some (if u ≤ 9223372036854775807 then ((u : Int), (n : Int), 0) else (0, 0, 7))
      rw [if_pos hu, wrap_id (by omega) (by omega)]
    · rw [if_pos (show (trip (Except.ok (u, n))).1 > 9223372036854775807 from by show (u : Int) > 9223372036854775807; omega)]
      show some ((0 : Int), (0 : Int), (7 : Int)) = some (if u ≤ 9223372036854775807 then ((u : Int), (n : Int), 0) else (0, 0, 7))
      rw [if_neg hu]
theorem encK_len (i : Nat) (l : List Int) : (encK i l).length = 1 + (digs l.length).length + (bodyK i l).length := by
  simp only [encK, List.length_cons, List.length_append]; omega
theorem best1 (l : List Int) : bestN l 1 = encK 0 l := by simp [bestN]
theorem best2 (l : List Int) : bestN l 2 = if (encK 1 l).length < (encK 0 l).length then encK 1 l else encK 0 l := by
  rw [bestN, best1]; simp
theorem best3 (l : List Int) : bestN l 3 = if (encK 2 l).length < (bestN l 2).length then encK 2 l else bestN l 2 := by
  rw [bestN]; simp
theorem best_is (l : List Int) : ∃ i, i < 3 ∧ bestN l 3 = encK i l := by
  rw [best3, best2]
  by_cases h1 : (encK 1 l).length < (encK 0 l).length
  · rw [if_pos h1]
    split
    · exact ⟨2, by omega, rfl⟩
    · exact ⟨1, by omega, rfl⟩
  · rw [if_neg h1]
    split
    · exact ⟨2, by omega, rfl⟩
    · exact ⟨0, by omega, rfl⟩
theorem best_le (l : List Int) (i : Nat) (h : i < 3) : (bestN l 3).length ≤ (encK i l).length := by
  rw [best3, best2]
  have : i = 0 ∨ i = 1 ∨ i = 2 := by omega
  by_cases h1 : (encK 1 l).length < (encK 0 l).length
  · rw [if_pos h1]
    rcases this with rfl | rfl | rfl <;> split <;> omega
  · rw [if_neg h1]
    rcases this with rfl | rfl | rfl <;> split <;> omega
theorem numsB_bytes (l : List Int) : Bytes (numsB l) := by
  intro x hx
  unfold numsB at hx
  obtain ⟨a, _, ha⟩ := List.mem_flatMap.1 hx
  exact digs_bytes _ x ha
theorem bytesR_cons (a : Int × Int) (r : List (Int × Int)) : bytesR (a :: r) = digs (fold a.1) ++ (digs a.2.toNat ++ bytesR r) := by simp [bytesR]
theorem bytesR_bytes (r : List (Int × Int)) : Bytes (bytesR r) := by
  intro x hx
  unfold bytesR at hx
  obtain ⟨a, _, ha⟩ := List.mem_flatMap.1 hx
  exact (digs_bytes _).append (digs_bytes _) x ha
theorem bodyK_bytes (i : Nat) (l : List Int) : Bytes (bodyK i l) := by
  unfold bodyK
  split
  · exact numsB_bytes _
  · split
    · exact bytesR_bytes _
    · exact numsB_bytes _
theorem encK_bytes {i : Nat} (h : i < 3) (l : List Int) : Bytes (encK i l) := Bytes.cons (by omega) (by omega) ((digs_bytes _).append (bodyK_bytes _ _))
theorem numsB_len {l : List Int} (h : ∀ x ∈ l, i64 x) : (numsB l).length ≤ 10 * l.length := by
  induction l with
  | nil => exact Nat.le_refl _
  | cons x t ih =>
    rw [numsB_cons, List.length_append, List.length_cons]
    have := ih (fun y hy => h y (List.mem_cons_of_mem _ hy))
    have := digs_le_ten (fold_lt (h x (List.mem_cons_self ..)))
    omega
theorem bytesR_le {r : List (Int × Int)} (h : ∀ a ∈ r, i64 a.1 ∧ i64 a.2) : (bytesR r).length ≤ 20 * r.length := by
  induction r with
  | nil => exact Nat.le_refl _
  | cons a t ih =>
    rw [bytesR_cons, List.length_append, List.length_append, List.length_cons]
    have := ih (fun y hy => h y (List.mem_cons_of_mem _ hy))
    obtain ⟨h1, h2⟩ := h a (List.mem_cons_self ..)
    have := digs_le_ten (fold_lt h1)
    unfold i64 at h2
    have := digs_le_ten (u := a.2.toNat) (by omega)
    omega
theorem encode_tell {l : List Int} (h : l.length ≤ 4096) (hi : ∀ x ∈ l, i64 x) : runs_Encode.f l = some (bestN l 3, 0) := by
  unfold runs_Encode.f
  rw [if_neg (by omega), if_pos hi]
theorem digs_short {n : Nat} (h : n < 16384) : (digs n).length ≤ 2 := digs_len 1 n (by omega)
theorem rl_i64 {l : List Int} (hl : l.length ≤ 1000000) (h : ∀ x ∈ l, i64 x) : ∀ a ∈ rl l, i64 a.1 ∧ i64 a.2 := by
  intro a ha
  have h1 := rl_ok l a ha
  have h2 := flat_one (rl_ok l) ha
  rw [flat_rl] at h2
  exact ⟨h _ (rl_mem ha), by unfold i64; omega⟩
theorem drop_own (a b : List Int) : (a ++ b).drop a.length = b := List.drop_left
theorem some_go {more : List Int} (hm : Bytes more) (k : Nat) (n : Int) : ∀ (l acc : List Int) (i : Int), (∀ x ∈ l, i64 x) → 0 ≤ i → i + (l.length : Int) = n → n ≤ 1000000 → acc.length + l.length ≤ 1000000 →
    runs_some.l0 (l.length + k + 1) (numsB l ++ more) acc n i = some (acc ++ l, more, 0) := by
  intro l
  induction l with
  | nil =>
    intro acc i _ _ h _ _
    rw [List.length_nil] at h
    rw [runs_some.l0, if_neg (by omega), List.append_nil]; rfl
  | cons x t ih =>
    intro acc i hi h0 h hn ha
    rw [List.length_cons] at h ha
    have hx := hi x (List.mem_cons_self ..)
    have hb : Bytes (digs (fold x) ++ (numsB t ++ more)) := (digs_bytes _).append ((numsB_bytes _).append hm)
    rw [List.length_cons, show t.length + 1 + k + 1 = (t.length + k + 1) + 1 from by omega, runs_some.l0, if_pos (by omega), numsB_cons, List.append_assoc, num_Get.tells hb, Option.bind_some, getn_digs hx]
    simp only
    rw [if_pos trivial, if_pos (by omega), if_pos (by omega), if_pos (by rw [List.length_append]; omega), Int.toNat_natCast, drop_own, wrap_id (x := i + 1) (by omega) (by omega),
      ih (acc ++ [x]) (i + 1) (fun y hy => hi y (List.mem_cons_of_mem _ hy)) (by omega) (by omega) hn (by rw [List.length_append, List.length_singleton]; omega), List.append_assoc]
    rfl
theorem some_tell {l more : List Int} (hm : Bytes more) (hi : ∀ x ∈ l, i64 x) (hl : l.length ≤ 1000000) {k : Nat} (hk : l.length + 1 ≤ k) : runs_some.f k (numsB l ++ more) (l.length : Int) = some (l, more, 0) := by
  obtain ⟨j, rfl⟩ := Nat.exists_eq_add_of_le hk
  rw [runs_some.f, show l.length + 1 + j = l.length + j + 1 from by omega, some_go hm j _ l [] 0 hi (by omega) (by omega) (by omega) (by simpa using hl)]
  rfl
theorem reps_go (x0 : List Int) (n v a b : Int) (k : Nat) (N : Int) : ∀ (m : Nat) (acc : List Int) (i : Int), 0 ≤ i → i + m = N → N ≤ 1000000 → acc.length + m ≤ 1000000 →
    runs_getRuns.l1 (m + k + 1) x0 n acc v a b N i = runs_getRuns.l1 (k + 1) x0 n (acc ++ List.replicate m v) v a b N N := by
  intro m
  induction m with
  | zero => intro acc i _ h _ _; rw [List.replicate_zero, List.append_nil, Nat.zero_add, show i = N from by omega]
  | succ m ih =>
    intro acc i h0 h hN ha
    rw [show m + 1 + k + 1 = (m + k + 1) + 1 from by omega, runs_getRuns.l1, if_pos (by omega), if_pos (by omega), wrap_id (x := i + 1) (by omega) (by omega), ih (acc ++ [v]) (i + 1) (by omega) (by omega) hN (by rw [List.length_append, List.length_singleton]; omega),
      List.append_assoc, List.replicate_succ]
    rfl
def fuelR (r : List (Int × Int)) : Nat := (r.map fun a => a.2.toNat + 2).sum
theorem runs_go {more : List Int} (hm : Bytes more) (k : Nat) (n : Int) (hn : n ≤ 1000000) : ∀ (r : List (Int × Int)) (acc : List Int), okR r → (∀ a ∈ r, i64 a.1) → (acc.length : Int) + ((flat r).length : Int) = n → r.length ≤ 1000000 →
    runs_getRuns.l0 (fuelR r + k + 1) (bytesR r ++ more) n acc = some (acc ++ flat r, more, 0) := by
  intro r
  induction r with
  | nil =>
    intro acc _ _ h _
    have h' : (acc.length : Int) + 0 = n := h
    rw [runs_getRuns.l0, if_neg (by omega)]
    simp [flat, bytesR]
  | cons a t ih =>
    intro acc hok hi h hr
    obtain ⟨v, c⟩ := a
    have hc : 1 ≤ c := hok (v, c) (List.mem_cons_self ..)
    have hv : i64 v := hi (v, c) (List.mem_cons_self ..)
    rw [flat_cons, List.length_append, List.length_replicate] at h
    simp only at h
    have hb2 : Bytes (digs c.toNat ++ (bytesR t ++ more)) := (digs_bytes _).append ((bytesR_bytes _).append hm)
    have hb : Bytes (digs (fold v) ++ (digs c.toNat ++ (bytesR t ++ more))) := (digs_bytes _).append hb2
    have d1 := digs_le_ten (fold_lt hv)
    have d2 := digs_le_ten (u := c.toNat) (by omega)
    have hlen : (digs (fold v) ++ (digs c.toNat ++ (bytesR t ++ more))).length = (digs (fold v)).length + ((digs c.toNat).length + (bytesR t ++ more).length) := by simp only [List.length_append]
    rw [show fuelR ((v, c) :: t) + k + 1 = (c.toNat + (fuelR t + k + 1) + 1) + 1 from by simp only [fuelR, List.map_cons, List.sum_cons]; omega, bytesR_cons, runs_getRuns.l0, if_pos (by omega)]
    simp only [List.append_assoc]
    rw [num_Get.tells hb, Option.bind_some, getn_digs hv]
    simp only
    rw [if_pos trivial, if_pos (by omega), if_pos (by rw [hlen]; omega), Int.toNat_natCast, drop_own, num_GetLen.tells hb2, Option.bind_some, getl_digs (by omega)]
    simp only
    rw [if_pos trivial, show ((c.toNat : Nat) : Int) = c from by omega, if_neg (by omega), wrap_id (x := n - (acc.length : Int)) (by omega) (by omega), if_neg (by omega),
      reps_go _ _ _ _ _ (fuelR t + k + 1) c c.toNat acc 0 (by omega) (by omega) (by omega) (by omega), runs_getRuns.l1, if_neg (by omega), wrap_id (x := ((digs (fold v)).length : Int) + ((digs c.toNat).length : Int)) (by omega) (by omega), if_pos (by omega), if_pos (by rw [hlen]; omega),
      show ((((digs (fold v)).length : Int) + ((digs c.toNat).length : Int)).toNat) = (digs (fold v)).length + (digs c.toNat).length from by omega, ← List.drop_drop, drop_own, drop_own,
      ih (acc ++ List.replicate c.toNat v) (fun b hb => hok b (List.mem_cons_of_mem _ hb)) (fun b hb => hi b (List.mem_cons_of_mem _ hb)) (by rw [List.length_append, List.length_replicate]; omega) (by rw [List.length_cons] at hr; omega), flat_cons, List.append_assoc]
theorem getRuns_tell {l more : List Int} (hm : Bytes more) (hi : ∀ x ∈ l, i64 x) (hl : l.length ≤ 1000000) {k : Nat} (hk : fuelR (rl l) + 1 ≤ k) : runs_getRuns.f k (bytesR (rl l) ++ more) (l.length : Int) = some (l, more, 0) := by
  obtain ⟨j, rfl⟩ := Nat.exists_eq_add_of_le hk
  rw [runs_getRuns.f, show fuelR (rl l) + 1 + j = fuelR (rl l) + j + 1 from by omega, runs_go hm j _ (by omega) (rl l) [] (rl_ok l) (fun a ha => hi _ (rl_mem ha)) (by rw [flat_rl]; simp) (Nat.le_trans (rl_len l) hl), flat_rl]
  rfl
def sums (last : Int) : List Int → List Int
  | [] => []
  | x :: t => wrap64 (last + x) :: sums (wrap64 (last + x)) t
theorem sums_len (l : List Int) : ∀ last, (sums last l).length = l.length := by
  induction l with
  | nil => intro _; rfl
  | cons x t ih => intro last; simp only [sums, List.length_cons, ih]
theorem sums_i64 (l : List Int) : ∀ last, ∀ x ∈ sums last l, i64 x := by
  induction l with
  | nil => intro _ x h; cases h
  | cons y t ih =>
    intro last x h
    rcases List.mem_cons.1 h with rfl | h
    · exact wrap64_i64 _
    · exact ih _ x h
theorem sums_dels (l : List Int) (hi : ∀ x ∈ l, i64 x) : ∀ last, sums last (dels last l) = l := by
  induction l with
  | nil => intro _; rfl
  | cons x t ih =>
    intro last
    have hx := hi x (List.mem_cons_self ..)
    have e : wrap64 (last + wrap64 (x - last)) = x := by unfold i64 at hx; unfold wrap64; omega
    rw [dels, sums, e, ih (fun y hy => hi y (List.mem_cons_of_mem _ hy))]
theorem dels_sums (l : List Int) (hi : ∀ x ∈ l, i64 x) : ∀ last, dels last (sums last l) = l := by
  induction l with
  | nil => intro _; rfl
  | cons x t ih =>
    intro last
    have hx := hi x (List.mem_cons_self ..)
    have e : wrap64 (wrap64 (last + x) - last) = x := by unfold i64 at hx; unfold wrap64; omega
    rw [sums, dels, e, ih (fun y hy => hi y (List.mem_cons_of_mem _ hy))]
theorem sums_go {l : List Int} (hl : l.length ≤ 1000000) (j : Nat) : ∀ k i : Nat, i + k = l.length → ∀ (b : List Int) (last : Int), b.length = i → runs_Sums.l0 (k + j + 1) b last l (l.length : Int) (i : Int) = some (b ++ sums last (l.drop i)) := by
  intro k
  induction k with
  | zero =>
    intro i h b last _
    rw [runs_Sums.l0, if_neg (by omega), List.drop_eq_nil_of_le (by omega)]
    simp [sums]
  | succ k ih =>
    intro i h b last hb
    have hlt : i < l.length := by omega
    have hrd : rd l (i : Int) = l[i] := by rw [rd, Int.toNat_natCast, List.getD_eq_getElem?_getD, List.getElem?_eq_getElem hlt]; rfl
    rw [show k + 1 + j + 1 = (k + j + 1) + 1 from by omega, runs_Sums.l0, if_pos (by omega), if_pos (by omega), if_pos (by omega), if_pos (by omega), hrd, wrap_id (x := (i : Int) + 1) (by omega) (by omega), show (i : Int) + 1 = ((i + 1 : Nat) : Int) from by omega,
      ih (i + 1) (by omega) _ _ (by rw [List.length_append, hb]; rfl), List.drop_eq_getElem_cons hlt, sums, List.append_assoc]
    rfl
theorem sums_tell {l : List Int} (hl : l.length ≤ 1000000) {k : Nat} (hk : l.length + 1 ≤ k) : runs_Sums.f k l = some (sums 0 l) := by
  obtain ⟨j, rfl⟩ := Nat.exists_eq_add_of_le hk
  rw [runs_Sums.f, show l.length + 1 + j = l.length + j + 1 from by omega]
  exact sums_go hl j l.length 0 (by omega) [] 0 rfl
def fuelK (l : List Int) : Nat := l.length + 1 + (fuelR (rl l) + 1)
theorem getK_tell {i : Nat} {l more : List Int} (h3 : i < 3) (hm : Bytes more) (hi : ∀ x ∈ l, i64 x) (hl : l.length ≤ 1000000) {k : Nat} (hk : fuelK l ≤ k) : getK k i (bodyK i l ++ more) (l.length : Int) = some (l, more, 0) := by
  unfold fuelK at hk
  unfold getK bodyK
  by_cases e0 : i = 0
  · rw [if_pos e0, if_pos e0, some_tell hm hi hl (by omega)]
  · rw [if_neg e0, if_neg e0]
    by_cases e1 : i = 1
    · rw [if_pos e1, if_pos e1, runsOf_eq, getRuns_tell hm hi hl (by omega)]
    · have e := some_tell (l := dels 0 l) hm (dels_i64 l 0) (by rw [dels_len]; exact hl) (k := k) (by rw [dels_len]; omega)
      rw [dels_len] at e
      rw [if_neg e1, if_neg e1, e, Option.bind_some]
      simp only
      rw [sums_tell (by rw [dels_len]; exact hl) (by rw [dels_len]; omega), Option.bind_some, sums_dels l hi]
theorem decode_tell {l more : List Int} (hm : Bytes more) (hi : ∀ x ∈ l, i64 x) (hl : l.length ≤ 4096) (hml : more.length ≤ 1000000) {k : Nat} (hk : fuelK l ≤ k) : runs_Decode.f k (bestN l 3 ++ more) = some (l, ((bestN l 3).length : Int), 0) := by
  have hen := encode_tell hl hi
  obtain ⟨i, h3, hb⟩ := best_is l
  have hlen : (bestN l 3).length ≤ 1000000 := by
    have hq := best_le l 0 (by omega)
    rw [encK_len, show bodyK 0 l = numsB l from rfl] at hq
    have d := digs_short (n := l.length) (by omega)
    have := numsB_len hi
    omega
  have hd := digs_pos l.length
  have hall : bestN l 3 ++ more = (i : Int) :: (digs l.length ++ (bodyK i l ++ more)) := by rw [hb, encK, List.cons_append, List.append_assoc]
  have hlb : (bestN l 3).length = 1 + (digs l.length).length + (bodyK i l).length := by rw [hb, encK_len]
  have hr : rd (bestN l 3 ++ more) 0 = (i : Int) := by rw [hall]; rfl
  have hd1 : (bestN l 3 ++ more).drop 1 = digs l.length ++ (bodyK i l ++ more) := by rw [hall]; rfl
  unfold runs_Decode.f
  rw [if_neg (by rw [List.length_append]; omega), hr, if_neg (by omega), if_neg (by omega), hd1, num_GetLen.tells ((digs_bytes _).append ((bodyK_bytes _ _).append hm)), Option.bind_some, getl_digs (by omega)]
  simp only
  rw [if_neg (by omega), if_neg (by omega), if_neg (by rw [List.length_append]; omega), show (((digs l.length).length : Int) + 1).toNat = (digs l.length).length + 1 from by omega, Nat.add_comm _ 1, ← List.drop_drop, hd1, drop_own, Int.toNat_natCast, getK_tell h3 hm hi (by omega) hk, Option.bind_some]
  simp only
  rw [if_neg (by omega), if_neg (by rw [List.length_append]; omega), hen, Option.bind_some]
  simp only
  rw [show (bestN l 3 ++ more).length - more.length = (bestN l 3).length from by rw [List.length_append]; omega, List.take_left, bytes_Equal.f, beq_self_eq_true, Option.bind_some, if_pos rfl, List.length_append]
  congr 3
  omega
theorem best_same : bestN [7, 7, 7] 3 = [1, 3, 14, 3] := by
  have d3 : digs 3 = [3] := digs_last (by decide)
  have d14 : digs 14 = [14] := digs_last (by decide)
  have d0 : digs 0 = [0] := digs_last (by decide)
  have f7 : fold 7 = 14 := by decide
  have f0 : fold 0 = 0 := by decide
  have e0 : encK 0 [7, 7, 7] = [0, 3, 14, 14, 14] := by simp [encK, bodyK, numsB, d3, d14, f7]
  have e1 : encK 1 [7, 7, 7] = [1, 3, 14, 3] := by simp [encK, bodyK, runsOf_eq, show rl [7, 7, 7] = [(7, 3)] from by decide, bytesR, d3, d14, f7]
  have e2 : encK 2 [7, 7, 7] = [2, 3, 14, 0, 0] := by simp [encK, bodyK, numsB, dels, wrap64, d3, d14, d0, f7, f0]
  rw [best3, best2, e0, e1, e2]; rfl
theorem best_steps : bestN [5, 6, 7] 3 = [0, 3, 10, 12, 14] := by
  have d3 : digs 3 = [3] := digs_last (by decide)
  have d14 : digs 14 = [14] := digs_last (by decide)
  have d12 : digs 12 = [12] := digs_last (by decide)
  have d10 : digs 10 = [10] := digs_last (by decide)
  have d2 : digs 2 = [2] := digs_last (by decide)
  have d1 : digs 1 = [1] := digs_last (by decide)
  have f7 : fold 7 = 14 := by decide
  have f6 : fold 6 = 12 := by decide
  have f5 : fold 5 = 10 := by decide
  have f1 : fold 1 = 2 := by decide
  have e0 : encK 0 [5, 6, 7] = [0, 3, 10, 12, 14] := by simp [encK, bodyK, numsB, d3, d14, d12, d10, f5, f6, f7]
  have e1 : encK 1 [5, 6, 7] = [1, 3, 10, 1, 12, 1, 14, 1] := by simp [encK, bodyK, runsOf_eq, show rl [5, 6, 7] = [(5, 1), (6, 1), (7, 1)] from by decide, bytesR, d3, d14, d12, d10, d1, f5, f6, f7]
  have e2 : encK 2 [5, 6, 7] = [2, 3, 10, 2, 2] := by simp [encK, bodyK, numsB, dels, wrap64, d3, d10, d2, f5, f1]
  rw [best3, best2, e0, e1, e2]; rfl
theorem awake03 {k : Nat} (hk : 100 ≤ k) : winnowerlaw03_awake.f k = some true := by
  have h1 := encode_tell (l := [7, 7, 7]) (by decide) (by decide)
  have h2 := encode_tell (l := [5, 6, 7]) (by decide) (by decide)
  have h3 := decode_tell (l := [7, 7, 7]) (more := [9]) (by decide) (by decide) (by decide) (by decide) (k := k) (Nat.le_trans (by decide) hk)
  rw [best_same] at h1 h3
  rw [best_steps] at h2
  have h3' : runs_Decode.f k [1, 3, 14, 3, 9] = some ([7, 7, 7], 4, 0) := h3
  unfold winnowerlaw03_awake.f
  rw [h1, Option.bind_some, h2, Option.bind_some, h3', Option.bind_some]
  rfl

end Go.Proofs.Ytnlfhjhdnompaaa.T
