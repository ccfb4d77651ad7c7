/- Statement RunsFew: runs are never alike one behind the other, and never empty, their numbers together are as many as the list's, and a block begins with its kind and length; no condition. -/
import Derived.Test.YtnlfhjhdnompaaaQx26
import Derived.Test.YtnlfhjhdnompaaaHrl
import Derived.Test.YtnlfhjhdnompaaaHrefgetl
import Derived.Test.YtnlfhjhdnompaaaHruns03
namespace Go.Proofs.Ytnlfhjhdnompaaa.Pure
set_option linter.unusedVariables false
set_option linter.unusedSimpArgs false
open Go.RowKit Go.Proofs.Ytnlfhjhdnompaaa.Q Go.Proofs.Ytnlfhjhdnompaaa.Hnum Go.Proofs.Ytnlfhjhdnompaaa.Hruns Go.Proofs.Ytnlfhjhdnompaaa.Hrl Go.Proofs.YtnlfhjhdnompaaaW.PrintWords Go.Proofs.YtnlfhjhdnompaaaW.PrintLast
theorem mkR_len (r : List (Int × Int)) : (mkR r).length = r.length := by simp [mkR]
theorem rd_mkR (r : List (Int × Int)) (i : Nat) (h : i < r.length) : rd_T35 (mkR r) (i : Int) = ⟨(r.getD i (0, 0)).1, (r.getD i (0, 0)).2⟩ := by
  rw [rd_T35, Int.toNat_natCast, mkR, List.getD_eq_getElem?_getD, List.getElem?_map, List.getElem?_eq_getElem h, List.getD_eq_getElem?_getD, List.getElem?_eq_getElem h]; rfl
theorem few_end {l : List Int} (hl : l.length ≤ 600) (hi : ∀ x ∈ l, i64 x) (q : Nat) : winnowerlaw03_RunsFew.l0 (q + 1) l (mkR (rl l)) (l.length : Int) ((rl l).length : Int) = some true := by
  obtain ⟨i, h3, hb⟩ := best_is l
  have hlb : (bestN l 3).length = 1 + (digs l.length).length + (bodyK i l).length := by rw [hb, encK_len]
  have hd := digs_pos l.length
  have hr : rd (bestN l 3) 0 = (i : Int) := by rw [hb]; rfl
  have hd1 : (bestN l 3).drop 1 = digs l.length ++ bodyK i l := by rw [hb]; rfl
  rw [winnowerlaw03_RunsFew.l0, mkR_len, if_neg (by omega), encode_tell (by omega) hi, Option.bind_some]
  simp only
  rw [if_pos trivial, if_neg (by omega), if_pos (by omega), hr, if_neg (by omega), if_pos trivial, if_pos (by omega), hd1, winnowerref01_GetLen.tells ((digs_bytes _).append (bodyK_bytes _ _)), Option.bind_some, getl_digs (by omega)]
  simp
theorem few_go {l : List Int} (hl : l.length ≤ 600) (hi : ∀ x ∈ l, i64 x) (q : Nat) : ∀ (d i : Nat), i + d = (rl l).length → winnowerlaw03_RunsFew.l0 (d + q + 1) l (mkR (rl l)) (((rl l).take i).map (·.2)).sum (i : Int) = some true := by
  have hlen := rl_len l
  intro d
  induction d with
  | zero =>
    intro i h
    obtain rfl : i = (rl l).length := by omega
    rw [List.take_length, ← flat_len (rl_ok l), flat_rl, Nat.zero_add]
    exact few_end hl hi q
  | succ d ih =>
    intro i h
    have hlt : i < (rl l).length := by omega
    have hm : (rl l).getD i (0, 0) ∈ rl l := by rw [List.getD_eq_getElem?_getD, List.getElem?_eq_getElem hlt]; exact List.getElem_mem hlt
    have hok := rl_ok l _ hm
    have hup := flat_one (rl_ok l) hm
    rw [flat_rl] at hup
    have hsum : (((rl l).take (i + 1)).map (·.2)).sum = (((rl l).take i).map (·.2)).sum + ((rl l).getD i (0, 0)).2 := by
      rw [List.take_succ_eq_append_getElem hlt, List.map_append, List.sum_append, List.getD_eq_getElem?_getD, List.getElem?_eq_getElem hlt]
      simp
    have hS : ∀ j, 0 ≤ (((rl l).take j).map (·.2)).sum ∧ (((rl l).take j).map (·.2)).sum ≤ (l.length : Int) := by
      intro j
      have hokt : okR ((rl l).take j) := fun a ha => rl_ok l a (List.mem_of_mem_take ha)
      have e := congrArg List.length (flat_rl l)
      rw [← List.take_append_drop j (rl l), flat_append, List.length_append] at e
      rw [← flat_len hokt]
      omega
    have hS1 := hS (i + 1)
    have hw2 : wrap64 ((((rl l).take i).map (·.2)).sum + ((rl l).getD i (0, 0)).2) = (((rl l).take (i + 1)).map (·.2)).sum := by
      rw [← hsum]; exact wrap_id (by omega) (by omega)
    rw [show d + 1 + q + 1 = (d + q + 1) + 1 from by omega, winnowerlaw03_RunsFew.l0, mkR_len, if_pos (by omega), if_pos (by omega), rd_mkR _ _ hlt]
    simp only
    rw [if_neg (by omega), hw2, wrap_id (x := (i : Int) + 1) (by omega) (by omega), show (i : Int) + 1 = ((i + 1 : Nat) : Int) from by omega, ih (i + 1) (by omega)]
    by_cases h0 : i = 0
    · rw [if_neg (by omega)]
    · have e : wrap64 ((i : Int) - 1) = ((i - 1 : Nat) : Int) := by rw [wrap_id (by omega) (by omega)]; omega
      have hne := apart_get (rl_apart l) (i - 1) (by omega)
      rw [show i - 1 + 1 = i from by omega] at hne
      rw [if_pos (by omega), e, if_pos (by omega), if_pos (by omega), rd_mkR _ _ (by omega)]
      simp only
      rw [if_neg hne]
theorem RunsFew : winnowerlaw03_RunsFew.Pure := by
  intro l _ _ hw
  have hi : ∀ x ∈ l, i64 x := fun x hx => i64_of_wf (hw x hx)
  refine ⟨(rl l).length + 100 + 2, ?_⟩
  unfold winnowerlaw03_RunsFew.f
  rw [awake03 (by omega), Option.bind_some, if_pos rfl, winnowerlaw03_RunsFew.j0]
  by_cases hl : (l.length : Int) > 600
  · rw [decide_eq_true hl, if_pos rfl]
  · rw [decide_eq_false hl, if_neg Bool.false_ne_true, runs_Runs.f, if_pos (by omega), Option.bind_some, runsOf_eq]
    have h := few_go (l := l) (by omega) hi 100 (rl l).length 0 (by omega)
    exact h
end Go.Proofs.Ytnlfhjhdnompaaa.Pure
