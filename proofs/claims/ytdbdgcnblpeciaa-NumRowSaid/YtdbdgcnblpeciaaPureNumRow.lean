/- Statement NumRow: numbers that are put one behind the other are got one behind the other, and nothing is left; no condition. -/
import Derived.Test.YtdbdgcnblpeciaaQx10
import Derived.Test.YtdbdgcnblpeciaaHnumtell
import Derived.Test.YtdbdgcnblpeciaaHawake01
namespace Go.Proofs.Ytdbdgcnblpeciaa.Pure
open Go.RowKit Go.Proofs.Ytdbdgcnblpeciaa.Q Go.Proofs.Ytdbdgcnblpeciaa.Hnum Go.Proofs.YtdbdgcnblpeciaaW.PrintWords Go.Proofs.YtdbdgcnblpeciaaW.PrintLast
/-- Numbers, put one behind the other. -/
def cat (l : List Int) : List Int := l.flatMap fun a => digs (fold a)
theorem cat_bytes (l : List Int) : Bytes (cat l) := fun x hx => by
  obtain ⟨a, _, h⟩ := List.mem_flatMap.1 hx
  exact digs_bytes _ x h
theorem cat_len (l : List Int) (h : ∀ a ∈ l, i64 a) : (cat l).length ≤ 10 * l.length := by
  induction l with
  | nil => simp [cat]
  | cons a t ih =>
    have := digs_le_ten (fold_lt (h a (List.mem_cons_self ..)))
    have := ih (fun b hb => h b (List.mem_cons_of_mem _ hb))
    simp only [cat, List.flatMap_cons, List.length_append, List.length_cons] at *
    omega
theorem rd_get {l : List Int} {i : Nat} (h : i < l.length) : rd l (i : Int) = l[i] := by
  rw [rd, Int.toNat_natCast, List.getD_eq_getElem?_getD, List.getElem?_eq_getElem h]; rfl
theorem gets (l : List Int) (hw : ∀ a ∈ l, i64 a) (h6 : l.length ≤ 60) : ∀ (d i k : Nat), i + d = l.length → d < k → winnowerlaw01_NumRow.l1 k l (cat (l.drop i)) (i : Int) = some true := by
  intro d
  induction d with
  | zero =>
    intro i k hd hk
    obtain ⟨q, rfl⟩ : ∃ m, k = m + 1 := ⟨k - 1, by omega⟩
    simp only [winnowerlaw01_NumRow.l1]
    rw [if_neg (by omega), List.drop_of_length_le (by omega)]
    rfl
  | succ d ih =>
    intro i k hd hk
    obtain ⟨q, rfl⟩ : ∃ m, k = m + 1 := ⟨k - 1, by omega⟩
    have hlt : i < l.length := by omega
    have hi := hw _ (List.getElem_mem hlt)
    have hc : cat (l.drop i) = digs (fold l[i]) ++ cat (l.drop (i + 1)) := by rw [List.drop_eq_getElem_cons hlt]; rfl
    have hp := digs_pos (fold l[i])
    simp only [winnowerlaw01_NumRow.l1]
    rw [if_pos (by omega), num_Get.tell (cat_bytes _), hc, getn_digs hi]
    simp only [Option.bind_some, if_true]
    rw [rd_get hlt, if_pos (by omega), if_pos rfl, if_neg (by omega), if_neg (by rw [List.length_append]; omega), if_pos (by omega), if_pos (by rw [List.length_append]; omega), Int.toNat_natCast, List.drop_left,
      wrap_id (by omega) (by omega), show ((i : Int) + 1) = ((i + 1 : Nat) : Int) from by omega]
    exact ih (i + 1) q (by omega) (by omega)
theorem puts (l : List Int) (hw : ∀ a ∈ l, i64 a) (h6 : l.length ≤ 60) : ∀ (d i k : Nat), i + d = l.length → d + l.length + 1 < k → winnowerlaw01_NumRow.l0 k l (cat (l.take i)) (i : Int) = some true := by
  intro d
  induction d with
  | zero =>
    intro i k hd hk
    obtain ⟨q, rfl⟩ : ∃ m, k = m + 1 := ⟨k - 1, by omega⟩
    simp only [winnowerlaw01_NumRow.l0]
    rw [if_neg (by omega), List.take_of_length_le (by omega)]
    have := gets l hw h6 l.length 0 q (by omega) (by omega)
    rw [List.drop_zero] at this
    exact this
  | succ d ih =>
    intro i k hd hk
    obtain ⟨q, rfl⟩ : ∃ m, k = m + 1 := ⟨k - 1, by omega⟩
    have hlt : i < l.length := by omega
    have hi := hw _ (List.getElem_mem hlt)
    have hlen := cat_len (l.take i) (fun a ha => hw a (List.mem_of_mem_take ha))
    rw [List.length_take] at hlen
    simp only [winnowerlaw01_NumRow.l0]
    rw [if_pos (by omega), if_pos (by omega), rd_get hlt, num_Put.tell hi (by omega)]
    simp only [Option.bind_some]
    have hc : cat (l.take i) ++ digs (fold l[i]) = cat (l.take (i + 1)) := by
      unfold cat
      rw [List.take_succ_eq_append_getElem hlt, List.flatMap_append, List.flatMap_singleton]
    rw [hc, wrap_id (by omega) (by omega), show ((i : Int) + 1) = ((i + 1 : Nat) : Int) from by omega]
    exact ih (i + 1) q (by omega) (by omega)
theorem NumRow : winnowerlaw01_NumRow.Pure := by
  intro l _ _ hw
  have hw : ∀ a ∈ l, i64 a := fun a ha => i64_of_wf (hw a ha)
  refine ⟨2 * l.length + 3, ?_⟩
  unfold winnowerlaw01_NumRow.f
  rw [awake01]
  simp only [Option.bind_some, if_true]
  rw [show 2 * l.length + 3 = (2 * l.length + 2) + 1 from rfl, winnowerlaw01_NumRow.j0]
  by_cases h6 : (l.length : Int) > 60
  · rw [if_pos (decide_eq_true h6)]
  · rw [if_neg (by simpa using h6)]
    exact puts l hw (by omega) l.length 0 _ (by omega) (by omega)
end Go.Proofs.Ytdbdgcnblpeciaa.Pure
