/- Lemmas of the session for the walks by hand: an append to a full view of a slice that came in, or to a row of the call's own. -/
import Derived.Test.YtdbdgcnblpeciaaProg
import Derived.ArgAppend
import Derived.Test.YtdbdgcnblpeciaaWWords
import Derived.Test.YtdbdgcnblpeciaaWLast
import Derived.Test.YtdbdgcnblpeciaaWMore
namespace Go.Proofs.Ytdbdgcnblpeciaa.Hbase
open Go.RowKit Go.Proofs.YtdbdgcnblpeciaaW.PrintWords Go.Proofs.YtdbdgcnblpeciaaW.PrintLast Go.Proofs.YtdbdgcnblpeciaaW.PrintMore
set_option linter.unusedVariables false

/-- The value is the whole of a slice that came in, without room behind it, or a row of the call's own. -/
def FullOr (k : IntKind) (e : Nat) (w W : World) (A0 : Option Addr) (l0 : List Int) (v : Value) (xs : List Int) : Prop :=
  (v = .slice A0 l0.length l0.length ∧ xs = l0) ∨ Kd.R (Kd.int k) e w W.heap.size (fun _ => True) v xs

theorem FullOr.start (k : IntKind) (e : Nat) (w W : World) (A0 : Option Addr) (l0 : List Int) : FullOr k e w W A0 l0 (.slice A0 l0.length l0.length) l0 := .inl ⟨rfl, rfl⟩

theorem cells_of_C {k : IntKind} {w : World} {A : Option Addr} {l : List Int} (h : Kd.C (Kd.int k) w A l.length l) :
    (A = none → l.length = 0) ∧ ∀ b, A = some b → ∀ j u, (nums k l)[j]? = some u → w.cell? (b.add j) = some u := by
  refine ⟨fun hA => ?_, fun b hb j u hj => ?_⟩
  · rcases Nat.eq_zero_or_pos l.length with h0 | h0
    · exact h0
    · obtain ⟨ad, e, _⟩ := Kd.at_int h 0 (by omega) (by omega)
      rw [hA] at e; cases e
  · have hlt : j < l.length := by
      have := (List.getElem?_eq_some_iff.1 hj).1
      simpa [nums] using this
    obtain ⟨ad, e, hc⟩ := Kd.at_int h (j : Int) (by omega) (by omega)
    rw [hb] at e; cases e
    rw [Int.toNat_natCast] at hc
    rw [hc]
    rw [nums, List.getElem?_map, List.getElem?_eq_getElem hlt] at hj
    simp only [Option.map_some, Option.some.injEq] at hj
    rw [← hj, rd, Int.toNat_natCast, List.getD_eq_getElem?_getD, List.getElem?_eq_getElem hlt]
    rfl

section
variable {P : Program} {ops : Array Oper} {rest : List Oper} {o : Oper} {a : Act} {Q : Exit → Act → World → Prop}
theorem full_append {W W' : World} (hgd : o.guard = none) (s x : Operand) (t e : TypeId) (k : IntKind) (bytes : Nat)
    (ho : o.op = .call { callee := .builtin .append, args := #[s, x], argTypes := #[t, t] })
    (ht : P.underlying t = some (.slice e)) (hinfo : (P.info? e).map (fun i => (i.zero, i.size, i.bytes)) = some (some (.int k 0), 1, bytes)) (hb0 : 0 < bytes)
    (v : Value) (A0 : Option Addr) (l0 xs : List Int) (y : Int) (hs : a.eval s = v) (hx : a.eval x = .slice (some ⟨W'.heap.size, 0, none⟩) 1 1)
    (hv : FullOr k e W' W A0 l0 v xs) (hC : Kd.C (Kd.int k) W A0 l0.length l0) (HB : Below W.heap.size W W') (hl : (xs.length + 1) * bytes ≤ 140737488355328)
    (h : ∀ v1 w1, Kd.R (Kd.int k) e w1 W.heap.size (fun _ => True) v1 (xs ++ [y]) → Below W.heap.size W w1 → wpList P ops Q rest (a.put o.dst v1) w1) :
    wpList P ops Q (o :: rest) a (W'.alloc (.cells #[.int k y] e)) := by
  rcases hv with ⟨rfl, rfl⟩ | hR
  · obtain ⟨i0, hi, hzz⟩ := Option.map_eq_some_iff.1 hinfo
    simp only [Prod.mk.injEq] at hzz
    obtain ⟨hz0, hz1, hz2⟩ := hzz
    have hlen : xs.length + 1 ≤ 140737488355328 := Nat.le_trans (Nat.le_mul_of_pos_right _ hb0) hl
    obtain ⟨hn, hcell⟩ := cells_of_C hC
    refine wpList_append_grows (W'.alloc (.cells #[.int k y] e)) hgd s x t ho e i0 (.int k 0) 1 bytes ht hi hz0 hz1 hz2 rfl (by omega) A0 xs.length xs.length (nums k xs) hs (fun hA => ⟨hn hA, hn hA⟩) (by simp [nums]) ?_
      ⟨W'.heap.size, 0, none⟩ 1 1 [.int k y] hx rfl (World.news_of_block (cs := #[.int k y]) (t := e) (fr := (0, 0)) (heap_alloc_new W' _)) (by simp [Value.oneCell']) (by omega) (by simp only [maxLen]; omega) hl ?_
    · intro b hb j u hj
      have hc := hcell b hb j u hj
      exact ((HB.alloc HB.size _).cell (World.block_lt_of_cell? _ _ hc)).trans hc
    · intro v' w' hown hg
      have hown' : w'.ownsRow W.heap.size e 1 v' (xs ++ [y]).length (encs (Value.int k) (xs ++ [y])) := by
        have h1 := own_weaken hown (show W.heap.size ≤ (W'.alloc (.cells #[.int k y] e)).heap.size by have := HB.size; simp; omega)
        simpa [encs, nums] using h1
      exact h v' w' (Kd.R_of_own (h1 := fun _ => rfl) hown' (fun _ _ => trivial)) ((HB.alloc HB.size _).grown hg (by have := HB.size; simp; omega) (by simp))
  · refine Kd.R_append (Kd.int k) (w0 := W) W.heap.size hgd s x t e (.int k 0) bytes ho ht hinfo rfl Nat.one_pos hb0 v xs y [.int k y] (fun _ => True) (fun _ => False) hs hx rfl (fun _ hk => hk.elim) (fun _ _ => trivial) hR HB HB.size hl ?_
    intro v1 w1 hR1 hB1 _ _
    exact h v1 w1 hR1 hB1
end
end Go.Proofs.Ytdbdgcnblpeciaa.Hbase
