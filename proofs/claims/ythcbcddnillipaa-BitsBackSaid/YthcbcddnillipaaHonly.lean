/- Words of the session: a world in which one block alone has changed. -/
import Derived.Test.YthcbcddnillipaaWWords
import Derived.Test.YthcbcddnillipaaWMore
import Derived.OneCell
namespace Go.Proofs.Ythcbcddnillipaa.Honly
open Go.RowKit Go.Proofs.YthcbcddnillipaaW.PrintWords Go.Proofs.YthcbcddnillipaaW.PrintLast Go.Proofs.YthcbcddnillipaaW.PrintMore
set_option linter.unusedVariables false

/-- Only block g has changed, and nothing is new. -/
structure Only (g : Nat) (w w' : World) : Prop where
  os : w'.os = w.os
  tape : w'.tape = w.tape
  output : w'.output = w.output
  size : w'.heap.size = w.heap.size
  block : ∀ k, k ≠ g → w'.heap[k]? = w.heap[k]?
namespace Only
variable {g : Nat} {w w1 w2 : World}
theorem refl (g : Nat) (w : World) : Only g w w := ⟨rfl, rfl, rfl, rfl, fun _ _ => rfl⟩
theorem trans (h : Only g w w1) (k : Only g w1 w2) : Only g w w2 := ⟨k.os.trans h.os, k.tape.trans h.tape, k.output.trans h.output, k.size.trans h.size, fun i hi => (k.block i hi).trans (h.block i hi)⟩
theorem drew (h : Only g w w1) : Only g w w1.drew := ⟨h.os, h.tape, h.output, h.size, h.block⟩
theorem drewN (h : Only g w w1) (n : Nat) : Only g w (w1.drewN n) := by
  induction n generalizing w1 with
  | zero => exact h
  | succ n ih => first | exact ih h.drew | exact (ih h).drew | (rw [← World.drew_drewN]; exact ih h.drew)
theorem set (h : Only g w w1) (j : Nat) (u : Value) : Only g w (w1.setCell ⟨g, j, none⟩ u) :=
  ⟨h.os, h.tape, h.output, by simpa [World.setCell] using h.size, fun k hk => (Below.heap_setCell w1 ⟨g, j, none⟩ u k hk).trans (h.block k hk)⟩
theorem below (h : Only g w w1) {B : Nat} (hB : B ≤ g) : Below B w w1 := ⟨h.os, h.tape, h.output, Nat.le_of_eq h.size.symm, fun k hk => h.block k (by omega)⟩
theorem below' {w0 : World} {B : Nat} (h0 : Below B w0 w) (h : Only g w w1) (hB : B ≤ g) : Below B w0 w1 := h0.trans (h.below hB)
theorem cell (h : Only g w w1) {p : Addr} (hp : p.block ≠ g) : w1.cell? p = w.cell? p := World.cell?_of_block (h.block p.block hp)
end Only
/-- A row that is read stays readable where its block does not change. -/
theorem C_only {k : IntKind} {g : Nat} {w w1 : World} {A : Option Addr} {n : Nat} {l : List Int} (h : Kd.C (Kd.int k) w A n l) (ho : Only g w w1) (hA : ∀ ad, A = some ad → 0 < n → ad.block ≠ g) : Kd.C (Kd.int k) w1 A n l := by
  refine ⟨h.1, h.2.1, fun hn => ?_⟩
  obtain ⟨ad, e, hc⟩ := h.2.2 hn
  refine ⟨ad, e, fun j p hj => ?_⟩
  obtain ⟨c, hs, hr, hcell⟩ := hc j p hj
  refine ⟨c, hs, hr, fun i u hi => ?_⟩
  rw [ho.cell (by rw [show (ad.add (j * (Kd.int k).sz + i)).block = ad.block from by unfold Addr.add; split <;> rfl]; exact hA ad e hn)]
  exact hcell i u hi
end Go.Proofs.Ythcbcddnillipaa.Honly
