/- What a law's arguments are, read as data: opened to rows of any kind. -/
import Derived.Deep.Slices
import Derived.Deep.Fields
import Derived.ChangeSame
import Derived.OpenShut
import Derived.Test.YtgjmpancofjjbaaWWords
import Derived.Test.YtgjmpancofjjbaaWArr
import Derived.Test.YtgjmpancofjjbaaWMore
namespace Go.Proofs.Ytgjmpancofjjbaa.Hopen
open Go.RowKit Go.Deep Go.ChangeShapes Go.WideShapes Go.Proofs.YtgjmpancofjjbaaW.PrintWords Go.Proofs.YtgjmpancofjjbaaW.PrintLast Go.Proofs.YtgjmpancofjjbaaW.PrintMore
set_option linter.unusedVariables false
set_option linter.unusedSectionVars false

/-- Whatever reads as data of type t is of kind d, and so well formed. -/
def Opens {α : Type} (P : Program) (w : World) (t : TypeId) (d : Kd α) (ok : α → Prop) : Prop :=
  P.cellsOf t = d.sz ∧ ∀ (H : Type) (enc : TypeId × Value → H) (fuel : Nat) (cs : List Value) (x : DataW H × List MemPlace), DataW.trod enc P w 0 (fun _ => true) true fuel t cs = some x → ∃ a, d.K w a cs ∧ ok a
variable {P : Program} {w : World} {t e : TypeId} {α β : Type} {d : Kd α} {ok : α → Prop}
theorem Opens.int {k : IntKind} (ht : P.underlying t = some (.int k)) (hc : P.cellsOf t = 1) : Opens P w t (Kd.int k) (fun n => (Lit.int k n).wf = true) := by
  refine ⟨hc, fun H enc fuel cs x hx => ?_⟩
  obtain ⟨n, rfl, _, hw⟩ := DataW.trod_int ht hx
  exact ⟨n, rfl, hw⟩
theorem Opens.string (ht : P.underlying t = some .string) (hc : P.cellsOf t = 1) : Opens P w t Kd.string (fun s => s.size ≤ maxLen) := by
  refine ⟨hc, fun H enc fuel cs x hx => ?_⟩
  obtain ⟨s, rfl, _, hw⟩ := DataW.trod_string ht hx
  exact ⟨s, rfl, hw⟩
theorem Opens.bool (ht : P.underlying t = some .bool) (hc : P.cellsOf t = 1) : Opens P w t Kd.bool (fun _ => True) := by
  refine ⟨hc, fun H enc fuel cs x hx => ?_⟩
  obtain ⟨b, rfl, _⟩ := DataW.trod_bool ht hx
  exact ⟨b, rfl, trivial⟩
theorem list_of {p : Nat → α → Prop} (n : Nat) (h : ∀ i, i < n → ∃ x, p i x) : ∃ xs : List α, xs.length = n ∧ ∀ i x, xs[i]? = some x → p i x := by
  induction n with
  | zero => exact ⟨[], rfl, fun i x hx => by simp at hx⟩
  | succ n ih =>
    obtain ⟨xs, hl, hp⟩ := ih (fun i hi => h i (by omega))
    obtain ⟨y, hy⟩ := h n (by omega)
    refine ⟨xs ++ [y], by simp [hl], fun i x hx => ?_⟩
    rcases Nat.lt_or_ge i xs.length with hi | hi
    · rw [List.getElem?_append_left hi] at hx; exact hp i x hx
    · have hlt := (List.getElem?_eq_some_iff.1 hx).1
      rw [List.length_append, List.length_singleton] at hlt
      obtain rfl : i = n := by omega
      rw [List.getElem?_append_right (by omega), hl, Nat.sub_self] at hx
      simp at hx; rw [← hx]; exact hy
theorem C_nil (d : Kd α) (w : World) (A : Option Addr) : d.C w A 0 [] := ⟨rfl, by omega, fun h => by omega⟩
theorem Opens.slice {e' : Nat} (h : Opens P w e d ok) (ht : P.underlying t = some (.slice e)) (hc : P.cellsOf t = 1) : Opens P w t (Kd.slice e' d) (fun xs => xs.length ≤ maxLen ∧ ∀ x ∈ xs, ok x) := by
  refine ⟨hc, fun H enc fuel cs x hx => ?_⟩
  rcases open_slice ht hx with ⟨rfl, _⟩ | ⟨a, len, cap, m, n, D, Pl, rfl, _, hl, hm, hmm, _, hi⟩
  · exact ⟨[], ⟨none, 0, rfl, Nat.le_refl _, C_nil d w none⟩, by simp, fun x hx => by cases hx⟩
  · have hmc : m = cap := by simpa using hmm
    subst hmc
    obtain ⟨xs, hxl, hxs⟩ := list_of (p := fun i y => ∃ cs', w.cells? 0 (a.add (i * P.cellsOf e)) (P.cellsOf e) = some cs' ∧ d.K w y cs' ∧ ok y) len (fun i hlt => by
      obtain ⟨cs', h1, h2⟩ := hi i (by omega)
      obtain ⟨y, hy, ho⟩ := h.2 H enc n cs' _ h2
      exact ⟨y, cs', h1, hy, ho⟩)
    subst hxl
    refine ⟨xs, ⟨some a, m, rfl, hl, rfl, by unfold maxLen at hm; omega, fun _ => ⟨a, rfl, fun j p hj => ?_⟩⟩, by omega, fun y hy => ?_⟩
    · obtain ⟨cs', h1, h2, _⟩ := hxs j p hj
      obtain ⟨_, hcl, hat⟩ := World.cells?_some h1
      rw [h.1] at hcl hat
      refine ⟨cs', hcl, h2, fun i u hu => ?_⟩
      have hlt := (List.getElem?_eq_some_iff.1 hu).1
      rw [← Go.Deep.add_add, hat i (by omega), hu]
    · obtain ⟨i, hi⟩ := List.mem_iff_getElem?.1 hy
      exact (hxs i y hi).choose_spec.2.2
/-- So the fields from a place on. -/
def OpensF {α : Type} (P : Program) (w : World) (l : List Field) (off : Nat) (d : Kd α) (ok : α → Prop) : Prop :=
  ∀ (H : Type) (enc : TypeId × Value → H) (cs : List Value), (∀ f ∈ l, ∃ fuel y, DataW.trod enc P w 0 (fun _ => true) true fuel f.type ((cs.drop f.offset).take (P.cellsOf f.type)) = some y) → ∃ a, d.K w a ((cs.drop off).take d.sz) ∧ ok a
theorem OpensF.last {f : Field} {off : Nat} (h : Opens P w f.type d ok) (ho : f.offset = off) : OpensF P w [f] off d ok := by
  intro H enc cs hf
  obtain ⟨fuel, y, hy⟩ := hf f (List.mem_singleton.2 rfl)
  rw [ho, h.1] at hy
  exact h.2 H enc fuel _ y hy
theorem OpensF.cons {f : Field} {l : List Field} {off : Nat} {d2 : Kd β} {ok2 : β → Prop} (h : Opens P w f.type d ok) (ho : f.offset = off) (h2 : OpensF P w l (off + d.sz) d2 ok2) : OpensF P w (f :: l) off (Kd.pair d d2) (fun a => ok a.1 ∧ ok2 a.2) := by
  intro H enc cs hf
  obtain ⟨fuel, y, hy⟩ := hf f (List.mem_cons_self ..)
  rw [ho, h.1] at hy
  obtain ⟨a, ha, oa⟩ := h.2 H enc fuel _ y hy
  obtain ⟨b, hb, ob⟩ := h2 H enc cs (fun g hg => hf g (List.mem_cons_of_mem _ hg))
  refine ⟨(a, b), ⟨_, _, ?_, ha, hb⟩, oa, ob⟩
  show (cs.drop off).take (d.sz + d2.sz) = _
  rw [← List.drop_drop, List.take_add]
theorem Opens.struct {fs : Array Field} (h : OpensF P w fs.toList 0 d ok) (ht : P.underlying t = some (.struct fs)) (hc : P.cellsOf t = d.sz) : Opens P w t d ok := by
  refine ⟨hc, fun H enc fuel cs x hx => ?_⟩
  obtain ⟨xs, n, _, _, hl, hxl, hf⟩ := DataW.trod_struct ht hx
  obtain ⟨a, ha, oa⟩ := h H enc cs (fun f hm => by
    obtain ⟨i, hi⟩ := List.mem_iff_getElem?.1 hm
    have hi' : fs[i]? = some f := by simpa using hi
    have := hf i f hi'
    have hlt : i < xs.length := by have := (Array.getElem?_eq_some_iff.1 hi').1; omega
    exact ⟨n, _, this.trans (List.getElem?_eq_getElem hlt)⟩)
  rw [List.drop_zero, ← hc, ← hl, List.take_length] at ha
  exact ⟨a, ha, oa⟩
theorem Opens.iso (h : Opens P w t d ok) (f : β → α) (g : α → β) (hfg : ∀ a, f (g a) = a) : Opens P w t (Kd.iso d f) (fun b => ok (f b)) := by
  refine ⟨h.1, fun H enc fuel cs x hx => ?_⟩
  obtain ⟨a, ha, oa⟩ := h.2 H enc fuel cs x hx
  exact ⟨g a, by show d.K w (f (g a)) cs; rw [hfg]; exact ha, by show ok (f (g a)); rw [hfg]; exact oa⟩
theorem Opens.arr {n : Nat} {hs : 0 < d.sz} (h : Opens P w e d ok) (ht : P.underlying t = some (.array n e)) (hc : P.cellsOf t = n * d.sz) : Opens P w t (Kd.arr n d hs) (fun xs => ∀ x ∈ xs, ok x) := by
  refine ⟨hc, fun H enc fuel cs x hx => ?_⟩
  obtain ⟨ys, m, _, _, hl, hyl, hf⟩ := DataW.trod_array ht hx
  obtain ⟨xs, hxl, hxs⟩ := list_of (p := fun i y => d.K w y ((cs.drop (i * d.sz)).take d.sz) ∧ ok y) n (fun i hlt => by
    have := hf i hlt
    rw [h.1, List.getElem?_eq_getElem (by omega)] at this
    exact h.2 H enc m _ _ this)
  refine ⟨xs, ⟨hxl, by rw [hl, hc, hxl], fun j p hj => (hxs j p hj).1⟩, fun y hy => ?_⟩
  obtain ⟨i, hi⟩ := List.mem_iff_getElem?.1 hy
  exact (hxs i y hi).2
/-- An argument. -/
theorem Opens.arg (h : Opens P w t d ok) {H : Type} {enc : TypeId × Value → H} {v : Value} {x : DataW H} {p : List MemPlace} (ht : DataW.Trod enc P w 0 (fun _ => true) true t v x p) : ∃ a, d.K w a v.cells.toList ∧ ok a := by
  obtain ⟨fuel, hf⟩ := ht
  exact h.2 H enc fuel _ _ hf
/-- An argument that is a slice. -/
theorem Opens.sliceArg (h : Opens P w e d ok) (ht : P.underlying t = some (.slice e)) (hc : P.cellsOf t = 1) {r : Reach} {b0 : Nat} {H : Type} {enc : TypeId × Value → H} {v : Value} {x : DataW H} {p : List MemPlace} (hv : Value.okWide P w r b0 t v) (hx : DataW.Trod enc P w 0 (fun _ => true) true t v x p) :
    ∃ (xs : List α) (A : Option Addr) (c : Nat), v = .slice A xs.length c ∧ xs.length ≤ c ∧ d.C w A xs.length xs ∧ xs.length ≤ maxLen ∧ ∀ y ∈ xs, ok y := by
  obtain ⟨A, len, cap, rfl⟩ := okWide_slice ht hv
  obtain ⟨xs, ⟨A', c, hcs, hl, hC⟩, h1, h2⟩ := (Opens.slice (e' := 0) h ht hc).arg hx
  have hcs' : [Value.slice A len cap] = [Value.slice A' xs.length c] := hcs
  simp only [List.cons.injEq, Value.slice.injEq, and_true] at hcs'
  obtain ⟨rfl, rfl, rfl⟩ := hcs'
  exact ⟨xs, A, cap, rfl, hl, hC, h1, h2⟩
/-- An argument that is a struct. -/
theorem Opens.structArg (h : Opens P w t d ok) {fs : Array Field} (ht : P.underlying t = some (.struct fs)) {r : Reach} {b0 : Nat} {H : Type} {enc : TypeId × Value → H} {v : Value} {x : DataW H} {p : List MemPlace} (hv : Value.okWide P w r b0 t v) (hx : DataW.Trod enc P w 0 (fun _ => true) true t v x p) :
    ∃ (a : α) (cs : List Value), v = .agg cs.toArray ∧ d.K w a cs ∧ ok a := by
  obtain ⟨cs, rfl, hsz⟩ := okWide_struct ht hv
  obtain ⟨a, ha, oa⟩ := h.arg hx
  exact ⟨a, cs.toList, by simp, ha, oa⟩
end Go.Proofs.Ytgjmpancofjjbaa.Hopen
