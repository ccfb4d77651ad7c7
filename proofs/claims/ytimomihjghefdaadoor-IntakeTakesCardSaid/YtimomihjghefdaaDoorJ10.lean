/- Chapter 22: a law's call with a schema and a fetch that are read as data. What a law's arguments are, read as data: opened to rows of any kind. What the listed variables of the library give: the handle of the type error. -/
import Derived.Test.YtimomihjghefdaaDoorJ0
import Derived.Test.YtimomihjghefdaaDoorJ9
import Derived.Test.YtimomihjghefdaaDoorJ1
import Derived.Test.YtimomihjghefdaaDoorQx11
import Derived.Deep.Slices
import Derived.Deep.Fields
import Derived.ChangeSame
import Derived.OpenShut
import Derived.Test.YtimomihjghefdaaDoorWWords
import Derived.Test.YtimomihjghefdaaDoorWArr
import Derived.Test.YtimomihjghefdaaDoorWMore
import Derived.Test.YtimomihjghefdaaDoorRows
import Derived.ProofKit
import Derived.LaidMore
import Derived.Lay
import Derived.LaidLaws
import Derived.LaidHandle
import Derived.Stop.Joined
namespace Go.Proofs.YtimomihjghefdaaDoor.Q
open Go.RowKit Go.Proofs.YtimomihjghefdaaDoorW.PrintWords Go.Proofs.YtimomihjghefdaaDoorW.PrintLast Go.Proofs.YtimomihjghefdaaDoorW.PrintMore
attribute [local go_sem] z0y z0v z0z z10 z0s z0t z0w z0x   -- for this text's walks alone
set_option linter.unusedVariables false
set_option linter.unusedSimpArgs false

-- SAYS Chapter 22: a law's call with a schema and a fetch that are read as data.
-- FUNCS winnower/winnowerlaw22.IntakeTakes
-- NEEDS Globs winnowerlaw22_IntakeTakes.f
-- IMPORT Derived.Test.YtimomihjghefdaaDoorHnum
-- IMPORT Derived.Test.YtimomihjghefdaaDoorHval
-- IMPORT Derived.Test.YtimomihjghefdaaDoorHint22b
open Go.Proofs.YtimomihjghefdaaDoor.Hnum Go.Proofs.YtimomihjghefdaaDoor.Hval
/-- A schema as it is read: its columns and four numbers. -/
abbrev SchV := List S45 × Int × Int × Int × Int
abbrev kSch : Kd SchV := Kd.pair (Kd.slice 45 k45) (Kd.pair (Kd.int .i64) (Kd.pair (Kd.int .i64) (Kd.pair (Kd.int .i64) (Kd.int .i64))))
theorem z7m {W : World} {x : SchV} {cs : List Value} (h : kSch.K W x cs) : ∃ A c, Value.agg cs.toArray = .agg #[.slice A x.1.length c, .int .i64 x.2.1, .int .i64 x.2.2.1, .int .i64 x.2.2.2.1, .int .i64 x.2.2.2.2] ∧ x.1.length ≤ c ∧ Kd.C k45 W A x.1.length x.1 := by
  obtain ⟨c1, c2, rfl, ⟨A, c, rfl, hl, hC⟩, c3, c4, rfl, h3, c5, c6, rfl, h5, c7, c8, rfl, h7, h8⟩ := h
  obtain rfl : c3 = [.int .i64 x.2.1] := h3
  obtain rfl : c5 = [.int .i64 x.2.2.1] := h5
  obtain rfl : c7 = [.int .i64 x.2.2.2.1] := h7
  obtain rfl : c8 = [.int .i64 x.2.2.2.2] := h8
  exact ⟨A, c, rfl, hl, hC⟩
/-- A fetch as it is read: two numbers and its records. -/
abbrev FetV := Int × Int × List (List Int)
abbrev kFet : Kd FetV := Kd.pair (Kd.int .i64) (Kd.pair (Kd.int .i64) (Kd.slice 42 (Kd.slice 5 (Kd.int .u8))))
theorem z83 {W : World} {x : FetV} {cs : List Value} (h : kFet.K W x cs) : ∃ A c, Value.agg cs.toArray = .agg #[.int .i64 x.1, .int .i64 x.2.1, .slice A x.2.2.length c] ∧ x.2.2.length ≤ c ∧ Kd.C (Kd.slice 5 (Kd.int .u8)) W A x.2.2.length x.2.2 := by
  obtain ⟨c1, c2, rfl, h1, c3, c4, rfl, h3, A, c, rfl, hl, hC⟩ := h
  obtain rfl : c1 = [.int .i64 x.1] := h1
  obtain rfl : c3 = [.int .i64 x.2.1] := h3
  exact ⟨A, c, rfl, hl, hC⟩
theorem z2s {x : SchV} {cs : List Value} {y : FetV} {cs2 : List Value} (n : Int) (W : World) (hk : kSch.K W x cs) (hk2 : kFet.K W y cs2) (hB : ∀ b ∈ y.2.2, Bytes b) (hG : Globs W) :
    Calls Tryd.prog 3 #[.agg cs.toArray, .int .i64 n, .agg cs2.toArray] W fun e w' => e = .returned (.bool true) ∧ Below W.heap.size W w' := by
  obtain ⟨A, c, e, hl, hC⟩ := z7m hk
  obtain ⟨A2, c2, e2, hl2, hC2⟩ := z83 hk2
  rw [e, e2]
  exact winnowerlaw22_IntakeTakes.calls 2000 A c x.1 _ _ _ _ n y.1 y.2.1 A2 c2 y.2.2 true W hC hl hC2 hl2 hG rfl (z8t hB)

end Go.Proofs.YtimomihjghefdaaDoor.Q
namespace Go.Proofs.YtimomihjghefdaaDoor.Hopen
open Go.RowKit Go.Deep Go.ChangeShapes Go.WideShapes Go.Proofs.YtimomihjghefdaaDoorW.PrintWords Go.Proofs.YtimomihjghefdaaDoorW.PrintLast Go.Proofs.YtimomihjghefdaaDoorW.PrintMore
set_option linter.unusedVariables false
set_option linter.unusedSectionVars false

/-- Whatever reads as data of type t is of kind d, and so well formed. -/
def Opens {α : Type} (P : Program) (w : World) (t : TypeId) (d : Kd α) (ok : α → Prop) : Prop :=
  P.cellsOf t = d.sz ∧ ∀ (H : Type) (enc : TypeId × Value → H) (fuel : Nat) (cs : List Value) (x : DataW H × List MemPlace), DataW.trod enc P w 0 (fun _ => true) true fuel t cs = some x → ∃ a, d.K w a cs ∧ ok a
variable {P : Program} {w : World} {t e : TypeId} {α β : Type} {d : Kd α} {ok : α → Prop}
theorem Opens.int {k : IntKind} (ht : P.underlying t = some (.int k)) (hc : P.cellsOf t = 1) : Opens P w t (Kd.int k) (fun n => (Lit.int k n).wf = true) := by
  refine ⟨hc, fun H enc fuel cs x hx => ?_⟩
  obtain ⟨n, rfl, _, hw⟩ := DataW.trod_int ht hx
  exact ⟨n, rfl, hw⟩
theorem Opens.string (ht : P.underlying t = some .string) (hc : P.cellsOf t = 1) : Opens P w t Kd.string (fun s => s.size ≤ maxLen) := by
  refine ⟨hc, fun H enc fuel cs x hx => ?_⟩
  obtain ⟨s, rfl, _, hw⟩ := DataW.trod_string ht hx
  exact ⟨s, rfl, hw⟩
theorem Opens.bool (ht : P.underlying t = some .bool) (hc : P.cellsOf t = 1) : Opens P w t Kd.bool (fun _ => True) := by
  refine ⟨hc, fun H enc fuel cs x hx => ?_⟩
  obtain ⟨b, rfl, _⟩ := DataW.trod_bool ht hx
  exact ⟨b, rfl, trivial⟩
theorem z99 {p : Nat → α → Prop} (n : Nat) (h : ∀ i, i < n → ∃ x, p i x) : ∃ xs : List α, xs.length = n ∧ ∀ i x, xs[i]? = some x → p i x := by
  induction n with
  | zero => exact ⟨[], rfl, fun i x hx => by simp at hx⟩
  | succ n ih =>
    obtain ⟨xs, hl, hp⟩ := ih (fun i hi => h i (by omega))
    obtain ⟨y, hy⟩ := h n (by omega)
    refine ⟨xs ++ [y], by simp [hl], fun i x hx => ?_⟩
    rcases Nat.lt_or_ge i xs.length with hi | hi
    · rw [List.getElem?_append_left hi] at hx; exact hp i x hx
    · have hlt := (List.getElem?_eq_some_iff.1 hx).1
      rw [List.length_append, List.length_singleton] at hlt
      obtain rfl : i = n := by omega
      rw [List.getElem?_append_right (by omega), hl, Nat.sub_self] at hx
      simp at hx; rw [← hx]; exact hy
theorem C_nil (d : Kd α) (w : World) (A : Option Addr) : d.C w A 0 [] := ⟨rfl, by omega, fun h => by omega⟩
theorem Opens.slice {e' : Nat} (h : Opens P w e d ok) (ht : P.underlying t = some (.slice e)) (hc : P.cellsOf t = 1) : Opens P w t (Kd.slice e' d) (fun xs => xs.length ≤ maxLen ∧ ∀ x ∈ xs, ok x) := by
  refine ⟨hc, fun H enc fuel cs x hx => ?_⟩
  rcases open_slice ht hx with ⟨rfl, _⟩ | ⟨a, len, cap, m, n, D, Pl, rfl, _, hl, hm, hmm, _, hi⟩
  · exact ⟨[], ⟨none, 0, rfl, Nat.le_refl _, C_nil d w none⟩, by simp, fun x hx => by cases hx⟩
  · have hmc : m = cap := by simpa using hmm
    subst hmc
    obtain ⟨xs, hxl, hxs⟩ := z99 (p := fun i y => ∃ cs', w.cells? 0 (a.add (i * P.cellsOf e)) (P.cellsOf e) = some cs' ∧ d.K w y cs' ∧ ok y) len (fun i hlt => by
      obtain ⟨cs', h1, h2⟩ := hi i (by omega)
      obtain ⟨y, hy, ho⟩ := h.2 H enc n cs' _ h2
      exact ⟨y, cs', h1, hy, ho⟩)
    subst hxl
    refine ⟨xs, ⟨some a, m, rfl, hl, rfl, by unfold maxLen at hm; omega, fun _ => ⟨a, rfl, fun j p hj => ?_⟩⟩, by omega, fun y hy => ?_⟩
    · obtain ⟨cs', h1, h2, _⟩ := hxs j p hj
      obtain ⟨_, hcl, hat⟩ := World.cells?_some h1
      rw [h.1] at hcl hat
      refine ⟨cs', hcl, h2, fun i u hu => ?_⟩
      have hlt := (List.getElem?_eq_some_iff.1 hu).1
      rw [← Go.Deep.add_add, hat i (by omega), hu]
    · obtain ⟨i, hi⟩ := List.mem_iff_getElem?.1 hy
      exact (hxs i y hi).choose_spec.2.2
/-- So the fields from a place on. -/
def z1l {α : Type} (P : Program) (w : World) (l : List Field) (off : Nat) (d : Kd α) (ok : α → Prop) : Prop :=
  ∀ (H : Type) (enc : TypeId × Value → H) (cs : List Value), (∀ f ∈ l, ∃ fuel y, DataW.trod enc P w 0 (fun _ => true) true fuel f.type ((cs.drop f.offset).take (P.cellsOf f.type)) = some y) → ∃ a, d.K w a ((cs.drop off).take d.sz) ∧ ok a
theorem z1l.last {f : Field} {off : Nat} (h : Opens P w f.type d ok) (ho : f.offset = off) : z1l P w [f] off d ok := by
  intro H enc cs hf
  obtain ⟨fuel, y, hy⟩ := hf f (List.mem_singleton.2 rfl)
  rw [ho, h.1] at hy
  exact h.2 H enc fuel _ y hy
theorem z1l.cons {f : Field} {l : List Field} {off : Nat} {d2 : Kd β} {ok2 : β → Prop} (h : Opens P w f.type d ok) (ho : f.offset = off) (h2 : z1l P w l (off + d.sz) d2 ok2) : z1l P w (f :: l) off (Kd.pair d d2) (fun a => ok a.1 ∧ ok2 a.2) := by
  intro H enc cs hf
  obtain ⟨fuel, y, hy⟩ := hf f (List.mem_cons_self ..)
  rw [ho, h.1] at hy
  obtain ⟨a, ha, oa⟩ := h.2 H enc fuel _ y hy
  obtain ⟨b, hb, ob⟩ := h2 H enc cs (fun g hg => hf g (List.mem_cons_of_mem _ hg))
  refine ⟨(a, b), ⟨_, _, ?_, ha, hb⟩, oa, ob⟩
  show (cs.drop off).take (d.sz + d2.sz) = _
  rw [← List.drop_drop, List.take_add]
theorem Opens.struct {fs : Array Field} (h : z1l P w fs.toList 0 d ok) (ht : P.underlying t = some (.struct fs)) (hc : P.cellsOf t = d.sz) : Opens P w t d ok := by
  refine ⟨hc, fun H enc fuel cs x hx => ?_⟩
  obtain ⟨xs, n, _, _, hl, hxl, hf⟩ := DataW.trod_struct ht hx
  obtain ⟨a, ha, oa⟩ := h H enc cs (fun f hm => by
    obtain ⟨i, hi⟩ := List.mem_iff_getElem?.1 hm
    have hi' : fs[i]? = some f := by simpa using hi
    have := hf i f hi'
    have hlt : i < xs.length := by have := (Array.getElem?_eq_some_iff.1 hi').1; omega
    exact ⟨n, _, this.trans (List.getElem?_eq_getElem hlt)⟩)
  rw [List.drop_zero, ← hc, ← hl, List.take_length] at ha
  exact ⟨a, ha, oa⟩
theorem Opens.iso (h : Opens P w t d ok) (f : β → α) (g : α → β) (hfg : ∀ a, f (g a) = a) : Opens P w t (Kd.iso d f) (fun b => ok (f b)) := by
  refine ⟨h.1, fun H enc fuel cs x hx => ?_⟩
  obtain ⟨a, ha, oa⟩ := h.2 H enc fuel cs x hx
  exact ⟨g a, by show d.K w (f (g a)) cs; rw [hfg]; exact ha, by show ok (f (g a)); rw [hfg]; exact oa⟩
/-- An argument. -/
theorem Opens.arg (h : Opens P w t d ok) {H : Type} {enc : TypeId × Value → H} {v : Value} {x : DataW H} {p : List MemPlace} (ht : DataW.Trod enc P w 0 (fun _ => true) true t v x p) : ∃ a, d.K w a v.cells.toList ∧ ok a := by
  obtain ⟨fuel, hf⟩ := ht
  exact h.2 H enc fuel _ _ hf
/-- An argument that is a struct. -/
theorem Opens.structArg (h : Opens P w t d ok) {fs : Array Field} (ht : P.underlying t = some (.struct fs)) {r : Reach} {b0 : Nat} {H : Type} {enc : TypeId × Value → H} {v : Value} {x : DataW H} {p : List MemPlace} (hv : Value.okWide P w r b0 t v) (hx : DataW.Trod enc P w 0 (fun _ => true) true t v x p) :
    ∃ (a : α) (cs : List Value), v = .agg cs.toArray ∧ d.K w a cs ∧ ok a := by
  obtain ⟨cs, rfl, hsz⟩ := okWide_struct ht hv
  obtain ⟨a, ha, oa⟩ := h.arg hx
  exact ⟨a, cs.toList, by simp, ha, oa⟩
end Go.Proofs.YtimomihjghefdaaDoor.Hopen
namespace Go.Proofs.YtimomihjghefdaaDoor.Q
open Go.RowKit Go.Proofs.YtimomihjghefdaaDoorW.PrintWords Go.Proofs.YtimomihjghefdaaDoorW.PrintLast Go.Proofs.YtimomihjghefdaaDoorW.PrintMore
attribute [local go_sem] z0y z0v z0z z10 z0s z0t z0w z0x   -- for this text's walks alone
set_option linter.unusedVariables false
set_option linter.unusedSimpArgs false

-- SAYS What the listed variables of the library give: the handle of the type error.
-- FUNCS winnower/schema.Decode
-- NEEDS Globs
-- IMPORT Derived.Test.YtimomihjghefdaaDoorRows
-- IMPORT Derived.ProofKit
-- IMPORT Derived.LaidMore
-- IMPORT Derived.Lay
-- IMPORT Derived.LaidLaws
-- IMPORT Derived.LaidHandle
-- IMPORT Derived.OpenShut
-- IMPORT Derived.Stop.Joined
namespace Laid
open Go.ChangeShapes Go.WideShapes Go.ChangeAt Go.WideMaps Go.WideElems
def three : List (String × DataW Unit) := [("unicode/utf8.acceptRanges", Rows.laid_unicode_utf8_acceptRanges), ("errors.errorType", Rows.laid_errors_errorType), ("unicode/utf8.first", Rows.laid_unicode_utf8_first)]
theorem gErr : Tryd.prog.globalNamed "errors.errorType" = some 0 := by kernel_rfl
theorem rtErr : (Tryd.prog.cutTypes.find? (·.1 == "internal/reflectlite.rtype")).map (·.2) = some 113 := by kernel_rfl
theorem sizeT : Tryd.prog.types.size = 172 := by kernel_rfl
theorem z9v : ((List.range 172).filter fun t => Tryd.prog.rowNamed t [101, 114, 114, 111, 114]) = [57] := by kernel_rfl
def two : List (String × DataW Unit) := [("unicode/utf8.acceptRanges", Rows.laid_unicode_utf8_acceptRanges), ("unicode/utf8.first", Rows.laid_unicode_utf8_first)]
/-- A start that reads as listed: the one that the door's own run leaves, Go's two tables laid. -/
noncomputable def start (os : Os) : World := (World.doorLaid Tryd.prog 400 os).layVars Tryd.prog two
theorem start_os (os : Os) : (start os).os = os := (World.layVars_os _ _ _).trans rfl
theorem start_shaped (os : Os) (args : Array Value) : ((start os).forCall (fun _ _ => 0) ⟨#[], args, []⟩).Shaped Tryd.prog := World.shaped_of_ZipB (by kernel_rfl) (by kernel_rfl)
theorem z90 (os : Os) (args : Array Value) : laidMet Tryd.prog (three.filter fun x => x.2.handleName?.isNone) ((start os).forCall (fun _ _ => 0) ⟨#[], args, []⟩).memory := by
  have e0 : (three.filter fun x => x.2.handleName?.isNone) = two := by kernel_rfl
  have e1 : (two.filter fun x => (["unicode/utf8.acceptRanges", "unicode/utf8.first"] : List String).contains x.1) = two := by kernel_rfl
  have e2 : (two.filter fun x => !(["unicode/utf8.acceptRanges", "unicode/utf8.first"] : List String).contains x.1) = [] := by kernel_rfl
  rw [e0]
  have h : laidMet Tryd.prog two (start os) := laidMet_layVars (w0 := World.doorLaid Tryd.prog 400 os) ["unicode/utf8.acceptRanges", "unicode/utf8.first"] [] (by rw [e1]; rfl) (by rw [e1]; kernel_rfl) (by rw [e1]; kernel_rfl) (by rw [e2]; exact LaidIn.none)
  exact h.of_heap (by simp [World.memory, World.forCall, Input.heap])
theorem door_met (os : Os) (args : Array Value) : laidMetH Tryd.prog three ((start os).forCall (fun _ _ => 0) ⟨#[], args, []⟩).memory :=
  laidMetH_of_parts3 (fuel := 8) (z90 os args) (by kernel_rfl) (by kernel_rfl)
theorem globs_of_laid {W : World} (h : laidMetH Tryd.prog three W) : Globs W := by
  have h' : handlesMet Tryd.prog [("errors.errorType", Rows.laid_errors_errorType)] W := h.2
  obtain ⟨name, u, ty, e1, e2, e3, e4, e5⟩ := h' _ (List.mem_singleton.2 rfl)
  have en : name = [101, 114, 114, 111, 114] := (Option.some.inj e1).symm
  subst en
  obtain rfl := Option.some.inj (rtErr.symm.trans e2)
  have hm : ty ∈ (List.range 172).filter fun t => Tryd.prog.rowNamed t [101, 114, 114, 111, 114] := List.mem_filter.2 ⟨List.mem_range.2 (by rw [← sizeT]; exact e3), e4⟩
  rw [z9v] at hm
  obtain rfl := List.mem_singleton.1 hm
  unfold Globs
  have hh : Value.iface 113 (.agg #[typeHandle Tryd.prog 57]) = RT 57 := by kernel_rfl
  rw [← hh]
  simpa using World.var?_cell gErr e5 0
end Laid

end Go.Proofs.YtimomihjghefdaaDoor.Q
