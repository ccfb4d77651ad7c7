/- Steps that write one block alone, in plain words: what a store of a value, a row or a struct leaves, as a world by a letter. -/
import Derived.Laws.BitsLemmas
import Derived.Laws.Rows
import Derived.Laws.CopyOwn
import Derived.Deep.MidRow
import Derived.Test.YteefchdfdgfaaaaDoorWWords
import Derived.Test.YteefchdfdgfaaaaDoorWMore
import Derived.Test.YteefchdfdgfaaaaDoorJ0
namespace Go.Proofs.YteefchdfdgfaaaaDoor.Hstep
open Go.RowKit Go.Proofs.YteefchdfdgfaaaaDoorW.PrintWords Go.Proofs.YteefchdfdgfaaaaDoorW.PrintLast Go.Proofs.YteefchdfdgfaaaaDoorW.PrintMore
set_option linter.unusedVariables false
set_option linter.unusedSimpArgs false
/-- Nothing but block g was written. -/
def Step (g : Nat) (w w' : World) : Prop := KeepBut w w' g none ∧ ∀ w0 : World, w0.heap.size ≤ g → Below w0.heap.size w0 w → Below w0.heap.size w0 w'
theorem Step.of_below {g : Nat} {w w' : World} (h : Below w.heap.size w w') : Step g w w' := ⟨KeepBut.of_below h g none, fun w0 _ hb => below_step hb h⟩
theorem Step.set_ {g : Nat} {w w' : World} (h : Step g w w') (j : Nat) (u : Value) : Step g w (w'.setCell ⟨g, j, none⟩ u) := ⟨h.1.set_ j u, fun w0 hg hb => z09 (h.2 w0 hg hb) hg⟩
theorem Step.drew {g : Nat} {w w' : World} (h : Step g w w') : Step g w w'.drew := ⟨h.1, fun w0 hg hb => z03 (h.2 w0 hg hb)⟩
theorem Step.drewN {g : Nat} {w w' : World} (h : Step g w w') (n : Nat) : Step g w (w'.drewN n) := ⟨h.1, fun w0 hg hb => z00 (h.2 w0 hg hb) _⟩
theorem Step.below {g : Nat} {w W W1 : World} (h : Step g w W) (hb : Below W.heap.size W W1) : Step g w W1 := ⟨KeepBut.trans h.1 (KeepBut.of_below hb g none) (.inl rfl), fun w0 hg hb0 => below_step (h.2 w0 hg hb0) hb⟩
theorem Step.trans {g : Nat} {w W W1 : World} (h : Step g w W) (k : Step g W W1) : Step g w W1 := ⟨KeepBut.trans h.1 k.1 (.inl rfl), fun w0 hg hb0 => k.2 w0 hg (h.2 w0 hg hb0)⟩
theorem Step.refl (g : Nat) (w : World) : Step g w w := ⟨KeepBut.refl _ _ _, fun _ _ h => h⟩
/-- Another block is as it was. -/
theorem Step.blk {g k : Nat} {w W : World} {o : Obj} (h : Step g w W) (hb : w.heap[k]? = some o) (hne : k ≠ g) : W.heap[k]? = some o := h.1.blk hb hne (by simp)
/-- A step that writes a block that is new is a step below. -/
theorem Step.fresh {g : Nat} {w0 w W : World} (h : Step g w W) (hb : Below w0.heap.size w0 w) (hg : w0.heap.size ≤ g) : Below w0.heap.size w0 W := h.2 w0 hg hb
theorem Step.setCells {g : Nat} {w : World} : ∀ (seg : List Value) (w' : World) (o : Nat), Step g w w' → Step g w (w'.setCells g o seg)
  | [], _, _, h => h
  | v :: r, w', o, h => Step.setCells r _ (o + 1) (h.set_ o v)
theorem blk_setCells {g : Nat} {t : TypeId} : ∀ (seg : List Value) (w : World) (o : Nat) (cur : Array Value), w.heap[g]? = some (.cells cur t (0, 0)) → o + seg.length ≤ cur.size →
    ∃ new : Array Value, (w.setCells g o seg).heap[g]? = some (.cells new t (0, 0)) ∧ new.toList = cur.toList.take o ++ seg ++ cur.toList.drop (o + seg.length)
  | [], w, o, cur, h, hf => ⟨cur, h, by simp⟩
  | v :: r, w, o, cur, h, hf => by
    simp only [List.length_cons] at hf
    obtain ⟨new, h1, h2⟩ := blk_setCells r (w.setCell ⟨g, o, none⟩ v) (o + 1) _ (blk_set h o v) (by simp; omega)
    refine ⟨new, h1, ?_⟩
    rw [h2]
    have hl : o < cur.toList.length := by simp; omega
    simp only [Array.toList_setIfInBounds, List.length_cons]
    have hd : (cur.toList.set o v).drop (o + 1 + r.length) = cur.toList.drop (o + (r.length + 1)) := by
      rw [List.drop_set, if_pos (by omega), show o + 1 + r.length = o + (r.length + 1) from by omega]
    have ht : (cur.toList.set o v).take (o + 1) = cur.toList.take o ++ [v] := by
      rw [List.set_eq_take_append_cons_drop, if_pos hl, List.take_append, List.length_take, Nat.min_eq_left (Nat.le_of_lt hl), List.take_take, Nat.min_eq_right (by omega), show o + 1 - o = 1 from by omega]
      rfl
    rw [hd, ht, List.append_assoc (cur.toList.take o)]
    rfl
/-- A store into a box: the value's cells from o on; the world behind it as a letter. -/
theorem wpList_storeR {P : Program} {w : World} {ops : Array Oper} {rest : List Oper} {o : Oper} {a : Act} {Q : Exit → Act → World → Prop} (hgd : o.guard = none) (hN : o.dst = none) (ty : TypeId) (x y : Operand) (ho : o.op = .store ty x y)
    (g off : Nat) (hx : a.eval x = .pointer (some ⟨g, off, none⟩)) (u : Value) (hy : a.eval y = u) (seg : List Value) (hu : u.cells.toList = seg) (cur : Array Value) (t : TypeId) (hh : w.heap[g]? = some (.cells cur t (0, 0)))
    (ht : (P.info? ty).map (·.size) = some seg.length) (hfit : off + seg.length ≤ cur.size) (h1 : ∀ q ∈ seg, q.oneCell' = true) (new : Array Value) (hnew : cur.toList.take off ++ seg ++ cur.toList.drop (off + seg.length) = new.toList)
    (h : ∀ W, W.heap[g]? = some (.cells new t (0, 0)) → Step g w W → wpList P ops Q rest a W) : wpList P ops Q (o :: rest) a w := by
  refine wpList_plain hgd fun K hK => ?_
  have hrun := run_store_run ty u seg hh hu ht hfit h1
  unfold Oper.wp execOp
  simp only [ho, hx, hy, Sem.run_bind, Sem.run_pure, Result.andThen_ok, hrun]
  show K (a.put o.dst undef) _
  rw [hN]
  obtain ⟨new', e1, e2⟩ := blk_setCells seg w off cur hh hfit
  rw [hnew] at e2
  have e3 : new' = new := Array.ext' e2
  subst e3
  exact hK _ _ (h _ e1 (Step.setCells seg w off (Step.refl g w)))
end Go.Proofs.YteefchdfdgfaaaaDoor.Hstep
