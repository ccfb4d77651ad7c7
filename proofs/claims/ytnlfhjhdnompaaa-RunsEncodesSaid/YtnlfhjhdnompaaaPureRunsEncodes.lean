/- Statement RunsEncodes: any list has the block, or the error, that the document says; no condition. -/
import Derived.Test.YtnlfhjhdnompaaaQx19
import Derived.Test.YtnlfhjhdnompaaaHrl
import Derived.Test.YtnlfhjhdnompaaaHrefput
import Derived.Test.YtnlfhjhdnompaaaHrefputl
import Derived.Test.YtnlfhjhdnompaaaHrefruns
import Derived.Test.YtnlfhjhdnompaaaHruns03
namespace Go.Proofs.Ytnlfhjhdnompaaa.Pure
set_option linter.unusedVariables false
set_option linter.unusedSimpArgs false
open Go.RowKit Go.Proofs.Ytnlfhjhdnompaaa.Q Go.Proofs.Ytnlfhjhdnompaaa.Hnum Go.Proofs.Ytnlfhjhdnompaaa.Hruns Go.Proofs.Ytnlfhjhdnompaaa.Hrl Go.Proofs.YtnlfhjhdnompaaaW.PrintWords Go.Proofs.YtnlfhjhdnompaaaW.PrintLast
theorem plain_go {l : List Int} (hl : l.length ≤ 1000000) (hi : ∀ x ∈ l, i64 x) (q : Nat) : ∀ (d i : Nat), i + d = l.length → winnowerref03_plain.l0 (d + q + 1) l (numsB (l.take i)) (i : Int) = some (numsB l) := by
  intro d
  induction d with
  | zero => intro i h; rw [winnowerref03_plain.l0, if_neg (by omega), List.take_of_length_le (by omega)]
  | succ d ih =>
    intro i h
    have hlt : i < l.length := by omega
    have hrd : rd l (i : Int) = l[i] := by rw [rd, Int.toNat_natCast, List.getD_eq_getElem?_getD, List.getElem?_eq_getElem hlt]; rfl
    have hx := hi _ (List.getElem_mem hlt)
    have hd := digs_le_ten (fold_lt hx)
    have hs : numsB (l.take (i + 1)) = numsB (l.take i) ++ digs (fold l[i]) := by unfold numsB; rw [List.take_succ_eq_append_getElem hlt, List.flatMap_append, List.flatMap_cons, List.flatMap_nil, List.append_nil]
    have hn := numsB_len (l := l.take i) (fun z hz => hi z (List.mem_of_mem_take hz))
    rw [List.length_take] at hn
    have hh := ih (i + 1) (by omega)
    rw [hs] at hh
    rw [show d + 1 + q + 1 = (d + q + 1) + 1 from by omega, winnowerref03_plain.l0, if_pos (by omega), if_pos (by omega), hrd, winnowerref01_Put.tells hx, Option.bind_some, if_pos (by omega), wrap_id (x := (i : Int) + 1) (by omega) (by omega), show (i : Int) + 1 = ((i + 1 : Nat) : Int) from by omega]
    exact hh
theorem plain_tell {l : List Int} (hl : l.length ≤ 1000000) (hi : ∀ x ∈ l, i64 x) {k : Nat} (hk : l.length + 1 ≤ k) : winnowerref03_plain.f k l = some (numsB l) := by
  obtain ⟨j, rfl⟩ := Nat.exists_eq_add_of_le hk
  rw [winnowerref03_plain.f, show l.length + 1 + j = l.length + j + 1 from by omega]
  exact plain_go hl hi j l.length 0 (by omega)
theorem rd_mkR (r : List (Int × Int)) (i : Nat) (h : i < r.length) : rd_T35 (mkR r) (i : Int) = ⟨r[i].1, r[i].2⟩ := by
  rw [rd_T35, Int.toNat_natCast, mkR, List.getD_eq_getElem?_getD, List.getElem?_map, List.getElem?_eq_getElem h]; rfl
theorem bytes_go {r : List (Int × Int)} (hr : r.length ≤ 1000000) (hok : okR r) (hi : ∀ a ∈ r, i64 a.1 ∧ i64 a.2) (q : Nat) : ∀ (d i : Nat), i + d = r.length → winnowerref03_runs.l0 (d + q + 1) (mkR r) (bytesR (r.take i)) (i : Int) = some (bytesR r) := by
  intro d
  induction d with
  | zero => intro i h; rw [winnowerref03_runs.l0, if_neg (by rw [mkR_length]; omega), List.take_of_length_le (by omega)]
  | succ d ih =>
    intro i h
    have hlt : i < r.length := by omega
    obtain ⟨hx, hy⟩ := hi _ (List.getElem_mem hlt)
    have hc := hok _ (List.getElem_mem hlt)
    unfold i64 at hy
    have hd := digs_le_ten (fold_lt hx)
    have hd2 := digs_le_ten (u := r[i].2.toNat) (by omega)
    have hs : bytesR (r.take (i + 1)) = bytesR (r.take i) ++ digs (fold r[i].1) ++ digs r[i].2.toNat := by unfold bytesR; rw [List.take_succ_eq_append_getElem hlt, List.flatMap_append, List.flatMap_cons, List.flatMap_nil, List.append_nil, List.append_assoc]
    have hn := bytesR_le (r := r.take i) (fun z hz => hi z (List.mem_of_mem_take hz))
    rw [List.length_take] at hn
    have hh := ih (i + 1) (by omega)
    rw [hs] at hh
    rw [show d + 1 + q + 1 = (d + q + 1) + 1 from by omega, winnowerref03_runs.l0, if_pos (by rw [mkR_length]; omega), if_pos (by omega), rd_mkR _ _ hlt]
    simp only
    rw [winnowerref01_Put.tells hx, Option.bind_some, if_pos (by omega), Option.bind_some, show r[i].2 = ((r[i].2.toNat : Nat) : Int) from by omega, winnowerref01_PutLen.tells (by omega), Option.bind_some, if_pos (by rw [List.length_append]; omega), wrap_id (x := (i : Int) + 1) (by omega) (by omega), show (i : Int) + 1 = ((i + 1 : Nat) : Int) from by omega]
    exact hh
theorem bytes_tell {l : List Int} (hl : l.length ≤ 1000000) (hi : ∀ x ∈ l, i64 x) {k : Nat} (hk : l.length + 1 ≤ k) : winnowerref03_runs.f k l = some (bytesR (rl l)) := by
  have hrl := rl_len l
  rw [winnowerref03_runs.f, refruns_tell hl hk, Option.bind_some]
  obtain ⟨j, rfl⟩ := Nat.exists_eq_add_of_le (show (rl l).length + 1 ≤ k by omega)
  rw [show (rl l).length + 1 + j = (rl l).length + j + 1 from by omega]
  exact bytes_go (r := rl l) (by omega) (rl_ok l) (rl_i64 hl hi) j (rl l).length 0 (by omega)
/-- The three bodies. -/
def three (l : List Int) : List (List Int) := [bodyK 0 l, bodyK 1 l, bodyK 2 l]
theorem rd_three (l : List Int) {i : Nat} (h : i < 3) : rd_L1 (three l) (i : Int) = bodyK i l := by
  have : i = 0 ∨ i = 1 ∨ i = 2 := by omega
  rcases this with rfl | rfl | rfl <;> rfl
theorem enc_end {l : List Int} (hl : l.length ≤ 4096) (hb : ∀ i, (bodyK i l).length ≤ 1000000) {x : Nat} (hx : x < 3) (q : Nat) : winnowerref03_Encode.l0 (q + 1) l (three l) (x : Int) 3 = some (encK x l, 0) := by
  have d := digs_short (n := l.length) (by omega)
  have hbx := hb x
  rw [winnowerref03_Encode.l0, if_neg (by omega), Option.bind_some, winnowerref01_PutLen.tells (by omega), Option.bind_some, if_pos (by rw [List.length_singleton]; omega), Option.bind_some, if_pos (by omega), if_pos (by show (x : Int) < 3; omega), rd_three l hx,
    if_pos (by rw [List.length_append, List.length_singleton]; omega), Int.emod_eq_of_lt (by omega) (by omega)]
  rw [encK, List.singleton_append, List.cons_append]
theorem enc_step {l : List Int} {x y : Nat} (hx : x < 3) (hy : y < 3) (k : Nat) : winnowerref03_Encode.l0 (k + 1) l (three l) (x : Int) (y : Int) = winnowerref03_Encode.l0 k l (three l) (((if (encK y l).length < (encK x l).length then y else x : Nat)) : Int) ((y + 1 : Nat) : Int) := by
  rw [winnowerref03_Encode.l0, if_pos (by omega), if_pos (by omega), if_pos (by show (y : Int) < 3; omega), if_pos (by omega), if_pos (by show (x : Int) < 3; omega), rd_three l hx, rd_three l hy, wrap_id (x := (y : Int) + 1) (by omega) (by omega), show (y : Int) + 1 = ((y + 1 : Nat) : Int) from by omega, encK_len, encK_len]
  by_cases h : (bodyK y l).length < (bodyK x l).length
  · rw [if_pos (by omega), if_pos (by omega)]
  · rw [if_neg (by omega), if_neg (by omega)]
theorem enc_best {l : List Int} (hl : l.length ≤ 4096) (hb : ∀ i, (bodyK i l).length ≤ 1000000) (q : Nat) : winnowerref03_Encode.l0 (q + 3) l (three l) 0 1 = some (bestN l 3, 0) := by
  have e1 := enc_step (l := l) (x := 0) (y := 1) (by omega) (by omega) (q + 2)
  refine e1.trans ?_
  have hlt : ∀ c : Prop, [Decidable c] → (if c then 1 else 0 : Nat) < 3 := fun c _ => by split <;> omega
  rw [best3, best2]
  by_cases h1 : (encK 1 l).length < (encK 0 l).length
  · rw [if_pos h1, if_pos h1, enc_step (by omega) (by omega)]
    by_cases h2 : (encK 2 l).length < (encK 1 l).length
    · rw [if_pos h2, if_pos h2]; exact enc_end hl hb (by omega) q
    · rw [if_neg h2, if_neg h2]; exact enc_end hl hb (by omega) q
  · rw [if_neg h1, if_neg h1, enc_step (by omega) (by omega)]
    by_cases h2 : (encK 2 l).length < (encK 0 l).length
    · rw [if_pos h2, if_pos h2]; exact enc_end hl hb (by omega) q
    · rw [if_neg h2, if_neg h2]; exact enc_end hl hb (by omega) q
theorem refenc_tell {l : List Int} (hl : l.length ≤ 4096) (hi : ∀ x ∈ l, i64 x) {k : Nat} (hk : 5000 ≤ k) : winnowerref03_Encode.f k l = some (bestN l 3, 0) := by
  have hb : ∀ i, (bodyK i l).length ≤ 1000000 := by
    intro i
    unfold bodyK
    split
    · have := numsB_len hi; omega
    · split
      · rw [runsOf_eq]
        have := bytesR_le (rl_i64 (by omega) hi)
        have := rl_len l
        omega
      · have := numsB_len (dels_i64 l 0); rw [dels_len] at this; omega
  rw [winnowerref03_Encode.f, if_neg (by omega), plain_tell (by omega) hi (by omega), Option.bind_some, bytes_tell (by omega) hi (by omega), Option.bind_some, refdels_tell (by omega) hi (by omega), Option.bind_some, plain_tell (by rw [dels_len]; omega) (dels_i64 l 0) (by rw [dels_len]; omega), Option.bind_some]
  obtain ⟨q, rfl⟩ : ∃ q, k = q + 3 := ⟨k - 3, by omega⟩
  rw [← runsOf_eq]
  exact enc_best hl hb q
theorem same (l : List Int) : winnowerref01_Same.f l l = some true := by unfold winnowerref01_Same.f; rw [decide_eq_true rfl]
theorem RunsEncodes : winnowerlaw03_RunsEncodes.Pure := by
  intro l _ _ hw
  have hi : ∀ x ∈ l, i64 x := fun x hx => i64_of_wf (hw x hx)
  refine ⟨5001 + 2, ?_⟩
  unfold winnowerlaw03_RunsEncodes.f
  rw [awake03 (by omega), Option.bind_some, if_pos rfl, winnowerlaw03_RunsEncodes.j0]
  by_cases hl : (l.length : Int) > 5000
  · rw [decide_eq_true hl, if_pos rfl]
  · rw [decide_eq_false hl, if_neg Bool.false_ne_true]
    by_cases h2 : l.length ≤ 4096
    · rw [encode_tell h2 hi, Option.bind_some, refenc_tell h2 hi (by omega), Option.bind_some]
      simp only
      rw [same, Option.bind_some, if_pos rfl]
      rfl
    · rw [runs_Encode.f, if_pos (by omega), Option.bind_some, winnowerref03_Encode.f, if_pos (by omega), Option.bind_some]
      simp only
      rw [same, Option.bind_some, if_pos rfl]
      rfl
end Go.Proofs.Ytnlfhjhdnompaaa.Pure
