/- The machine side of laws, written by wip/tools/myprint.py (the printer's way, with functions proved by hand put in); Lean checks it. Steps that write one block alone, in plain words: what a store of a value, a row or a struct leaves, as a world by a letter. -/
import Derived.Test.YtimomihjghefdaaDoorJ1
import Derived.Test.YtimomihjghefdaaDoorJ4
import Derived.Test.YtimomihjghefdaaDoorQx6
import Derived.Laws.BitsLemmas
import Derived.Laws.Rows
import Derived.Laws.CopyOwn
import Derived.Deep.MidRow
import Derived.Test.YtimomihjghefdaaDoorWWords
import Derived.Test.YtimomihjghefdaaDoorWMore
import Derived.Test.YtimomihjghefdaaDoorJ0
namespace Go.Proofs.YtimomihjghefdaaDoor.Q
open Go.RowKit Go.Proofs.YtimomihjghefdaaDoorW.PrintWords Go.Proofs.YtimomihjghefdaaDoorW.PrintLast Go.Proofs.YtimomihjghefdaaDoorW.PrintMore
attribute [local go_sem] z0y z0v z0z z10 z0s z0t z0w z0x   -- for this text's walks alone
set_option linter.unusedVariables false
set_option linter.unusedSimpArgs false

-- BY HAND: 
/-! ### schema_May: function 16 -/
-- HAND winnower/schema.May over making
theorem z96 (s : ByteArray) (h : (s.size : Int) ≤ 16) : ∃ t, strings_Trim.f s (⟨#[97, 98, 99, 100, 101, 102, 103, 104, 105, 106, 107, 108, 109, 110, 111, 112, 113, 114, 115, 116, 117, 118, 119, 120, 121, 122, 48, 49, 50, 51, 52, 53, 54, 55, 56, 57, 95]⟩ : ByteArray) = some t := by
  unfold strings_Trim.f
  rw [if_pos ⟨by omega, by decide, by decide⟩]
  exact ⟨_, rfl⟩
/-- May a column's name be? -/
def nameS (s : ByteArray) : Bool := (schema_name.f s).getD false
theorem z74 (s : ByteArray) : schema_name.f s = some (nameS s) := by
  have h : ∃ b, schema_name.f s = some b := by
    unfold schema_name.f
    split
    · split
      · rename_i h
        obtain ⟨t, ht⟩ := z96 s h
        rw [ht]
        exact ⟨_, rfl⟩
      · exact ⟨_, rfl⟩
    · exact ⟨_, rfl⟩
  obtain ⟨b, hb⟩ := h
  unfold nameS
  rw [hb]
  rfl
theorem of_ok (l : List S45) (a1 a2 a3 a4 i k : Int) : ∃ b, schema_of.f l a1 a2 a3 a4 i k = some b := by
  unfold schema_of.f
  by_cases h1 : i ≥ 0
  · rw [if_pos h1]
    by_cases h2 : i < (l.length : Int)
    · rw [if_pos h2, if_pos (show (0 : Int) ≤ i from h1)]
      by_cases h3 : (z0f l i).f2 = true
      · rw [if_pos h3]; exact ⟨_, rfl⟩
      · rw [if_neg h3]
        by_cases h4 : k = 0
        · rw [if_pos h4]; exact ⟨_, rfl⟩
        · rw [if_neg h4]; exact ⟨_, rfl⟩
    · rw [if_neg h2]; exact ⟨_, rfl⟩
  · rw [if_neg h1]; exact ⟨_, rfl⟩
def z37 (l : List S45) (a1 a2 a3 a4 : Int) : Bool := (schema_keyed.f l a1 a2 a3 a4).getD false
theorem z3k (l : List S45) (a1 a2 a3 a4 : Int) : schema_keyed.f l a1 a2 a3 a4 = some (z37 l a1 a2 a3 a4) := by
  have h : ∃ b, schema_keyed.f l a1 a2 a3 a4 = some b := by
    unfold schema_keyed.f
    obtain ⟨b1, h1⟩ := of_ok l a1 a2 a3 a4 a1 0
    obtain ⟨b2, h2⟩ := of_ok l a1 a2 a3 a4 a2 1
    obtain ⟨b3, h3⟩ := of_ok l a1 a2 a3 a4 a3 3
    rw [h1, h2, h3]
    simp only [Option.bind_some]
    repeat (first | exact ⟨_, rfl⟩ | split)
  obtain ⟨b, hb⟩ := h
  unfold z37
  rw [hb]
  rfl
def colsS (all : List S45) : List S45 → Int → Bool
  | [], _ => true
  | x :: t, i => nameS x.f0 && (decide (1 ≤ x.f1) && (decide (x.f1 ≤ 3) && (decide (findC x.f0 all 0 = i) && colsS all t (i + 1))))
/-- May a schema be? -/
def mayS (l : List S45) (a1 a2 a3 a4 : Int) : Bool := colsS l l 0 && (decide (1 ≤ l.length) && (decide (l.length ≤ 8) && (z37 l a1 a2 a3 a4 && (decide (-1 ≤ a4) && decide (a4 < (l.length : Int))))))
def schema_May.f (l0_0 : List S45) (a0_1 a0_2 a0_3 a0_4 : Int) : Option Bool := if l0_0.length ≤ 1000000 then some (mayS l0_0 a0_1 a0_2 a0_3 a0_4) else none
theorem z9i {l : List S45} (hl : l.length ≤ 1000000) (a1 a2 a3 a4 : Int) (q : Nat) : ∀ (d i : Nat), i + d = l.length →
    schema_May_p.l0 (d + q + 1) l (l.length : Int) (i : Int) l a1 a2 a3 a4 = some (colsS l (l.drop i) (i : Int) && (decide (1 ≤ l.length) && (decide (l.length ≤ 8) && (z37 l a1 a2 a3 a4 && (decide (-1 ≤ a4) && decide (a4 < (l.length : Int))))))) := by
  intro d
  induction d with
  | zero =>
    intro i hi
    rw [Nat.zero_add]
    unfold schema_May_p.l0
    rw [if_neg (by omega), List.drop_of_length_le (by omega), z3k]
    simp only [colsS, Bool.true_and, Option.bind_some]
    by_cases h1 : (l.length : Int) ≥ 1
    · rw [if_pos h1, decide_eq_true (show 1 ≤ l.length by omega)]
      by_cases h2 : (l.length : Int) ≤ 8
      · rw [if_pos h2, decide_eq_true (show l.length ≤ 8 by omega)]
        cases z37 l a1 a2 a3 a4 with
        | false => rfl
        | true =>
          rw [if_pos rfl]
          by_cases h3 : a4 ≥ -1
          · rw [if_pos h3, decide_eq_true (show -1 ≤ a4 from h3)]; rfl
          · rw [if_neg h3, decide_eq_false (show ¬ -1 ≤ a4 from h3)]; rfl
      · rw [if_neg h2, decide_eq_false (show ¬ l.length ≤ 8 by omega)]; rfl
    · rw [if_neg h1, decide_eq_false (show ¬ 1 ≤ l.length by omega)]; rfl
  | succ d ih =>
    intro i hi
    have hk : i < l.length := by omega
    have hd : l.drop i = z0f l (i : Int) :: l.drop (i + 1) := by
      unfold z0f
      rw [List.drop_eq_getElem_cons hk, Int.toNat_natCast, List.getD_eq_getElem?_getD, List.getElem?_eq_getElem hk]
      rfl
    have ih' := ih (i + 1) (by omega)
    rw [show d + 1 + q + 1 = (d + q + 1) + 1 by omega]
    unfold schema_May_p.l0
    rw [if_pos (by omega), if_pos (by omega), if_pos (by omega), z74, hd]
    simp only [colsS, Option.bind_some, schema_Find.f]
    rw [show wrap64 ((i : Int) + 1) = ((i + 1 : Nat) : Int) by unfold wrap64; omega, ih']
    rw [show ((i + 1 : Nat) : Int) = (i : Int) + 1 by omega]
    cases nameS (z0f l (i : Int)).f0 with
    | false => rfl
    | true =>
      rw [if_pos rfl]
      by_cases h1 : (z0f l (i : Int)).f1 < 1
      · rw [if_pos h1, decide_eq_false (show ¬ 1 ≤ (z0f l (i : Int)).f1 by omega)]; rfl
      · rw [if_neg h1, decide_eq_true (show 1 ≤ (z0f l (i : Int)).f1 by omega)]
        by_cases h2 : (z0f l (i : Int)).f1 > 3
        · rw [if_pos h2, decide_eq_false (show ¬ (z0f l (i : Int)).f1 ≤ 3 by omega)]; rfl
        · rw [if_neg h2, decide_eq_true (show (z0f l (i : Int)).f1 ≤ 3 by omega)]
          by_cases h3 : findC (z0f l (i : Int)).f0 l 0 = (i : Int)
          · rw [if_pos h3, decide_eq_true h3]; rfl
          · rw [if_neg h3, decide_eq_false h3]; rfl
theorem schema_May.fits {l0_0 : List S45} {a0_1 a0_2 a0_3 a0_4 : Int} {r : Bool} (hlen_ : l0_0.length ≤ 9223372036854775807) (h : schema_May.f l0_0 a0_1 a0_2 a0_3 a0_4 = some r) : ∃ k, schema_May_p.f k l0_0 a0_1 a0_2 a0_3 a0_4 = some r := by
  unfold schema_May.f at h
  by_cases hl : l0_0.length ≤ 1000000
  · rw [if_pos hl] at h
    refine ⟨l0_0.length + 0 + 1, ?_⟩
    unfold schema_May_p.f
    have g := z9i hl a0_1 a0_2 a0_3 a0_4 0 l0_0.length 0 (by omega)
    rw [← h]
    exact g
  · rw [if_neg hl] at h; cases h
theorem schema_May.calls (A0_0 : Option Addr) (c0_0 : Nat) (l0_0 : List (S45)) (a0_1 : Int) (a0_2 : Int) (a0_3 : Int) (a0_4 : Int) (r : Bool) (w : World) (hr0_0 : Kd.C k45 w A0_0 l0_0.length l0_0) (hc0_0 : l0_0.length ≤ c0_0) (h : schema_May.f l0_0 a0_1 a0_2 a0_3 a0_4 = some r) :
    Calls Tryd.prog 16 #[.agg #[.slice A0_0 l0_0.length c0_0, .int .i64 a0_1, .int .i64 a0_2, .int .i64 a0_3, .int .i64 a0_4]] w fun e w' => e = .returned (.bool r) ∧ Below w.heap.size w w' := by
  obtain ⟨k, hk⟩ := schema_May.fits hr0_0.2.1 h
  exact schema_May_p.calls k A0_0 c0_0 l0_0 a0_1 a0_2 a0_3 a0_4 r w hr0_0 hc0_0 hk

end Go.Proofs.YtimomihjghefdaaDoor.Q
namespace Go.Proofs.YtimomihjghefdaaDoor.Hstep
open Go.RowKit Go.Proofs.YtimomihjghefdaaDoorW.PrintWords Go.Proofs.YtimomihjghefdaaDoorW.PrintLast Go.Proofs.YtimomihjghefdaaDoorW.PrintMore
set_option linter.unusedVariables false
set_option linter.unusedSimpArgs false
/-- Nothing but block g was written. -/
def Step (g : Nat) (w w' : World) : Prop := z15 w w' g none ∧ ∀ w0 : World, w0.heap.size ≤ g → Below w0.heap.size w0 w → Below w0.heap.size w0 w'
theorem Step.of_below {g : Nat} {w w' : World} (h : Below w.heap.size w w') : Step g w w' := ⟨z15.of_below h g none, fun w0 _ hb => z0a hb h⟩
theorem Step.set_ {g : Nat} {w w' : World} (h : Step g w w') (j : Nat) (u : Value) : Step g w (w'.setCell ⟨g, j, none⟩ u) := ⟨h.1.set_ j u, fun w0 hg hb => z09 (h.2 w0 hg hb) hg⟩
theorem Step.drew {g : Nat} {w w' : World} (h : Step g w w') : Step g w w'.drew := ⟨h.1, fun w0 hg hb => z03 (h.2 w0 hg hb)⟩
theorem Step.drewN {g : Nat} {w w' : World} (h : Step g w w') (n : Nat) : Step g w (w'.drewN n) := ⟨h.1, fun w0 hg hb => z00 (h.2 w0 hg hb) _⟩
theorem Step.below {g : Nat} {w W W1 : World} (h : Step g w W) (hb : Below W.heap.size W W1) : Step g w W1 := ⟨z15.trans h.1 (z15.of_below hb g none) (.inl rfl), fun w0 hg hb0 => z0a (h.2 w0 hg hb0) hb⟩
theorem Step.trans {g : Nat} {w W W1 : World} (h : Step g w W) (k : Step g W W1) : Step g w W1 := ⟨z15.trans h.1 k.1 (.inl rfl), fun w0 hg hb0 => k.2 w0 hg (h.2 w0 hg hb0)⟩
theorem Step.refl (g : Nat) (w : World) : Step g w w := ⟨z15.refl _ _ _, fun _ _ h => h⟩
/-- Another block is as it was. -/
theorem Step.blk {g k : Nat} {w W : World} {o : Obj} (h : Step g w W) (hb : w.heap[k]? = some o) (hne : k ≠ g) : W.heap[k]? = some o := h.1.blk hb hne (by simp)
/-- A step that writes a block that is new is a step below. -/
theorem Step.fresh {g : Nat} {w0 w W : World} (h : Step g w W) (hb : Below w0.heap.size w0 w) (hg : w0.heap.size ≤ g) : Below w0.heap.size w0 W := h.2 w0 hg hb
theorem Step.setCells {g : Nat} {w : World} : ∀ (seg : List Value) (w' : World) (o : Nat), Step g w w' → Step g w (w'.setCells g o seg)
  | [], _, _, h => h
  | v :: r, w', o, h => Step.setCells r _ (o + 1) (h.set_ o v)
theorem z2r {g : Nat} {t : TypeId} : ∀ (seg : List Value) (w : World) (o : Nat) (cur : Array Value), w.heap[g]? = some (.cells cur t (0, 0)) → o + seg.length ≤ cur.size →
    ∃ new : Array Value, (w.setCells g o seg).heap[g]? = some (.cells new t (0, 0)) ∧ new.toList = cur.toList.take o ++ seg ++ cur.toList.drop (o + seg.length)
  | [], w, o, cur, h, hf => ⟨cur, h, by simp⟩
  | v :: r, w, o, cur, h, hf => by
    simp only [List.length_cons] at hf
    obtain ⟨new, h1, h2⟩ := z2r r (w.setCell ⟨g, o, none⟩ v) (o + 1) _ (z26 h o v) (by simp; omega)
    refine ⟨new, h1, ?_⟩
    rw [h2]
    have hl : o < cur.toList.length := by simp; omega
    simp only [Array.toList_setIfInBounds, List.length_cons]
    have hd : (cur.toList.set o v).drop (o + 1 + r.length) = cur.toList.drop (o + (r.length + 1)) := by
      rw [List.drop_set, if_pos (by omega), show o + 1 + r.length = o + (r.length + 1) from by omega]
    have ht : (cur.toList.set o v).take (o + 1) = cur.toList.take o ++ [v] := by
      rw [List.set_eq_take_append_cons_drop, if_pos hl, List.take_append, List.length_take, Nat.min_eq_left (Nat.le_of_lt hl), List.take_take, Nat.min_eq_right (by omega), show o + 1 - o = 1 from by omega]
      rfl
    rw [hd, ht, List.append_assoc (cur.toList.take o)]
    rfl
/-- A store into a box: the value's cells from o on; the world behind it as a letter. -/
theorem z13 {P : Program} {w : World} {ops : Array Oper} {rest : List Oper} {o : Oper} {a : Act} {Q : Exit → Act → World → Prop} (hgd : o.guard = none) (hN : o.dst = none) (ty : TypeId) (x y : Operand) (ho : o.op = .store ty x y)
    (g off : Nat) (hx : a.eval x = .pointer (some ⟨g, off, none⟩)) (u : Value) (hy : a.eval y = u) (seg : List Value) (hu : u.cells.toList = seg) (cur : Array Value) (t : TypeId) (hh : w.heap[g]? = some (.cells cur t (0, 0)))
    (ht : (P.info? ty).map (·.size) = some seg.length) (hfit : off + seg.length ≤ cur.size) (h1 : ∀ q ∈ seg, q.oneCell' = true) (new : Array Value) (hnew : cur.toList.take off ++ seg ++ cur.toList.drop (off + seg.length) = new.toList)
    (h : ∀ W, W.heap[g]? = some (.cells new t (0, 0)) → Step g w W → wpList P ops Q rest a W) : wpList P ops Q (o :: rest) a w := by
  refine wpList_plain hgd fun K hK => ?_
  have hrun := z3r ty u seg hh hu ht hfit h1
  unfold Oper.wp execOp
  simp only [ho, hx, hy, Sem.run_bind, Sem.run_pure, Result.andThen_ok, hrun]
  show K (a.put o.dst undef) _
  rw [hN]
  obtain ⟨new', e1, e2⟩ := z2r seg w off cur hh hfit
  rw [hnew] at e2
  have e3 : new' = new := Array.ext' e2
  subst e3
  exact hK _ _ (h _ e1 (Step.setCells seg w off (Step.refl g w)))
end Go.Proofs.YtimomihjghefdaaDoor.Hstep
