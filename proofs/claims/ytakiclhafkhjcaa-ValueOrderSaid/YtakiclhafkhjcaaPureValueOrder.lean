/- Statement ValueOrder: Order is an order of all values that may be; no condition. -/
import Derived.Test.YtakiclhafkhjcaaUx9
import Derived.Test.YtakiclhafkhjcaaHvalordU
import Derived.Test.YtakiclhafkhjcaaHawake06U
namespace Go.Proofs.Ytakiclhafkhjcaa.Pure
open Go.RowKit Go.Proofs.Ytakiclhafkhjcaa.U Go.Proofs.Ytakiclhafkhjcaa.Hnum Go.Proofs.Ytakiclhafkhjcaa.Hval Go.Proofs.YtakiclhafkhjcaaW.PrintWords Go.Proofs.YtakiclhafkhjcaaW.PrintLast
theorem eqV_dec (x y : V) : (x.k == y.k && (x.i == y.i && (x.s.toList == y.s.toList && (x.b == y.b)))) = decide (x = y) := by
  rw [Bool.eq_iff_iff]
  simp only [Bool.and_eq_true, beq_iff_eq, decide_eq_true_eq]
  constructor
  · rintro ⟨h1, h2, h3, h4⟩
    have h3 := bytes_ext h3
    cases x; cases y
    simp only at h1 h2 h3 h4
    rw [h1, h2, h3, h4]
  · rintro rfl
    exact ⟨rfl, rfl, rfl, rfl⟩
theorem orders (x y z : V) (hx : x.may = true) (hy : y.may = true) (hz : z.may = true) (k : Nat) : winnowerlaw06_ValueOrder.j0 (k + 1) true false x.k x.i x.s x.b y.k y.i y.s y.b z.k z.i z.s z.b = some true := by
  have hr := V.ord_range y x
  have ha := V.ord_anti x y
  have hb := V.ord_anti y z
  have hc := V.ord_anti x z
  simp only [winnowerlaw06_ValueOrder.j0, value_Order.tell, Option.bind_some]
  rw [if_neg (by decide), if_pos (show V.ord ⟨x.k, x.i, x.s, x.b⟩ ⟨y.k, y.i, y.s, y.b⟩ = wrap64 (-V.ord ⟨y.k, y.i, y.s, y.b⟩ ⟨x.k, x.i, x.s, x.b⟩) from by
    show x.ord y = wrap64 (-y.ord x)
    rw [wrap_id (by omega) (by omega)]; exact ha)]
  show (if ((x.ord y == 0) != (x.k == y.k && (x.i == y.i && (x.s.toList == y.s.toList && (x.b == y.b))))) = true then some false else if x.ord x = 0 then if V.null.ord x > 0 then some false else
    if x.ord y ≤ 0 then if y.ord z ≤ 0 then if x.ord z ≤ 0 then if x.ord y = 0 then some ((x.ord z == 0) == (y.ord z == 0)) else some ((x.ord z == 0) == false) else some false else some true else some true else some false) = some true
  rw [eqV_dec]
  have h0 : ((x.ord y == 0) != decide (x = y)) = false := by
    rw [bne_eq_false_iff_eq, Bool.eq_iff_iff]
    simp only [beq_iff_eq, decide_eq_true_eq]
    exact V.ord_zero hx hy
  rw [h0, if_neg (by decide), if_pos (V.ord_self x), if_neg (by have := V.null_le hx; omega)]
  by_cases h1 : x.ord y ≤ 0
  · rw [if_pos h1]
    by_cases h2 : y.ord z ≤ 0
    · have h3 := V.ord_le h1 h2
      rw [if_pos h2, if_pos h3]
      by_cases h4 : x.ord y = 0
      · rw [if_pos h4]
        have e := (V.ord_zero hx hy).1 h4
        rw [e, beq_self_eq_true]
      · rw [if_neg h4]
        have h5 : x.ord z ≠ 0 := by
          intro h
          have e := (V.ord_zero hx hz).1 h
          rw [← e] at h2
          omega
        rw [beq_eq_false_iff_ne.mpr h5]
        rfl
    · rw [if_neg h2]
  · rw [if_neg h1]
theorem ValueOrder : winnowerlaw06_ValueOrder.Pure := by
  intro a0 a1 a2 a3 b0 b1 b2 b3 c0 c1 c2 c3 _ _ _ _ _ _ _ _ _
  refine ⟨1, ?_⟩
  unfold winnowerlaw06_ValueOrder.f
  rw [awake06, Option.bind_some, if_pos rfl]
  simp only [value_May.tell, Option.bind_some]
  have hend : winnowerlaw06_ValueOrder.j0 1 true true a0 a1 a2 a3 b0 b1 b2 b3 c0 c1 c2 c3 = some true := by simp only [winnowerlaw06_ValueOrder.j0, if_true]
  by_cases h1 : V.may ⟨a0, a1, a2, a3⟩ = true
  · rw [if_pos h1]
    by_cases h2 : V.may ⟨b0, b1, b2, b3⟩ = true
    · rw [if_pos h2]
      by_cases h3 : V.may ⟨c0, c1, c2, c3⟩ = true
      · rw [h3]
        exact orders ⟨a0, a1, a2, a3⟩ ⟨b0, b1, b2, b3⟩ ⟨c0, c1, c2, c3⟩ h1 h2 h3 0
      · rw [show V.may ⟨c0, c1, c2, c3⟩ = false from by simpa using h3]
        exact hend
    · rw [if_neg h2]; exact hend
  · rw [if_neg h1]; exact hend
end Go.Proofs.Ytakiclhafkhjcaa.Pure
