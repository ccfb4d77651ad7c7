/- Maps that a call makes for itself: made, a new key laid, a key looked up; the world behind it as a letter. -/
import Derived.MapKept
import Derived.Deep.WholeRow
import Derived.Test.YtgjmpancofjjbaaWWords
import Derived.Test.YtgjmpancofjjbaaHstep
namespace Go.Proofs.Ytgjmpancofjjbaa.Hmapint
open Go.RowKit Go.Proofs.YtgjmpancofjjbaaW.PrintWords Go.Proofs.YtgjmpancofjjbaaW.PrintLast Go.Proofs.YtgjmpancofjjbaaW.PrintMore Go.Proofs.Ytgjmpancofjjbaa.Hstep
set_option linter.unusedVariables false
set_option linter.unusedSimpArgs false
section
variable {P : Program} {w : World} {ops : Array Oper} {rest : List Oper} {o : Oper} {a : Act} {Q : Exit → Act → World → Prop}
theorem wpList_makeMapF (hgd : o.guard = none) (t : TypeId) (ho : o.op = .makeMap t none)
    (h : ∀ W r, r = w.heap.size → W.heap[r]? = some (.map #[] 0) → Below w.heap.size w W → wpList P ops Q rest (a.put o.dst (.map (some r))) W) : wpList P ops Q (o :: rest) a w := by
  refine wpList_plain hgd fun K hK => ?_
  unfold Oper.wp execOp
  simp only [ho, Option.map_none, Sem.run_bind, Sem.run_pure, Result.andThen_ok, show (Instr.makeMap t none).run P w = .ok (.map (some w.heap.size)) (w.alloc (.map #[] 0)) from rfl]
  exact hK _ _ (h _ _ rfl (heap_alloc_last _ _) (below_alloc (Below.refl _ _) _))
theorem step_setMap {r : Nat} {ob : Obj} (hb : w.heap[r]? = some ob) (o' : Obj) : Step r w { w with heap := w.heap.setIfInBounds r o' } :=
  ⟨⟨by simp, fun i _ hi _ => (MapKept.heap_set (o' := o') hb).2 i hi⟩, fun w0 hg hb0 => ⟨hb0.os, hb0.tape, hb0.output, by simpa using hb0.size, fun k hk => ((MapKept.heap_set (o' := o') hb).2 k (by omega)).trans (hb0.block k hk)⟩⟩
/-- m[k] = v where k is not there yet. -/
theorem wpList_insertF (hgd : o.guard = none) (hN : o.dst = none) (t : TypeId) (m x y : Operand) (ho : o.op = .insert t m x y) (r : Nat) (hm : a.eval m = .map (some r)) (k v : Value) (hx : a.eval x = k) (hy : a.eval y = v)
    (kt et : TypeId) (ht : P.underlying t = some (.map kt et)) (d : TypeDesc) (hd : P.underlying kt = some d) (hk : MapKept.IsKey d k) (es : Array MapEntry) (clock : Nat) (hb : w.heap[r]? = some (.map es clock)) (hf : Instr.findNow d k es.toList 0 = some none)
    (h : ∀ W, W.heap[r]? = some (.map (es.push { key := k, val := v, born := clock }) (clock + 1)) → Step r w W → wpList P ops Q rest a W) : wpList P ops Q (o :: rest) a w := by
  refine wpList_plain hgd fun K hK => ?_
  have hrun : (Instr.mapUpdate t (.map (some r)) k v).run P w = .ok () { w with heap := w.heap.setIfInBounds r (.map (es.push { key := k, val := v, born := clock }) (clock + 1)) } := by
    simp [Instr.mapUpdate, run_underlying ht, MapKept.run_getObj_map hb, MapKept.run_checkKey hd hk, MapKept.run_findKey hd hf, MapKept.run_setObj_map _ hb, Result.andThen]
  unfold Oper.wp execOp
  simp only [ho, hm, hx, hy, Sem.run_bind, Sem.run_pure, Result.andThen_ok, hrun]
  show K (a.put o.dst undef) _
  rw [hN]
  exact hK _ _ (h _ (MapKept.heap_set hb).1 (step_setMap hb _))
/-- m[k] where k is there. -/
theorem wpList_lookupF (hgd : o.guard = none) (t : TypeId) (m x : Operand) (ho : o.op = .lookup t m x false) (r : Nat) (hm : a.eval m = .map (some r)) (k v : Value) (hx : a.eval x = k)
    (kt et : TypeId) (ht : P.underlying t = some (.map kt et)) (d : TypeDesc) (hd : P.underlying kt = some d) (hk : MapKept.IsKey d k) (es : Array MapEntry) (clock : Nat) (hb : w.heap[r]? = some (.map es clock)) (i : Nat) (hf : Instr.findNow d k es.toList 0 = some (some (i, v)))
    (h : wpList P ops Q rest (a.put o.dst v) w) : wpList P ops Q (o :: rest) a w := by
  refine wpList_plain hgd fun K hK => ?_
  have hrun : (Instr.lookup t (.map (some r)) k false).run P w = .ok v w := by
    simp [Instr.lookup, run_underlying ht, MapKept.run_getObj_map hb, MapKept.run_checkKey hd hk, MapKept.run_findKey hd hf, Result.andThen]
  unfold Oper.wp execOp
  simp only [ho, hm, hx, Sem.run_bind, Sem.run_pure, Result.andThen_ok, hrun]
  exact hK _ _ h
end
end Go.Proofs.Ytgjmpancofjjbaa.Hmapint
