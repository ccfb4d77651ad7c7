/- Statement NumOnly: what is got would be put as the same bytes, and a beginning of these is too short; no condition. -/
import Derived.Test.YtdbdgcnblpeciaaQx12
import Derived.Test.YtdbdgcnblpeciaaHnumtell
import Derived.Test.YtdbdgcnblpeciaaHawake01
namespace Go.Proofs.Ytdbdgcnblpeciaa.Pure
open Go.RowKit Go.Proofs.Ytdbdgcnblpeciaa.Q Go.Proofs.Ytdbdgcnblpeciaa.Hnum Go.Proofs.YtdbdgcnblpeciaaW.PrintWords Go.Proofs.YtdbdgcnblpeciaaW.PrintLast
theorem starts (l : List Int) (hb : Bytes l) (hl : l.length ≤ 600) (u n : Nat) (hg : getd 0 l = .ok (u, n)) : ∀ (d i k : Nat), i + d = n → d < k → winnowerlaw01_NumOnly.l0 k l (back u) (n : Int) true (i : Int) = some true := by
  obtain ⟨g1, g2, g3, _, g5, g6⟩ := getd_ok (by omega) hb hg
  rw [Nat.pow_zero, Nat.mul_one] at g5
  intro d
  induction d with
  | zero =>
    intro i k hd hk
    obtain ⟨q, rfl⟩ : ∃ m, k = m + 1 := ⟨k - 1, by omega⟩
    simp only [winnowerlaw01_NumOnly.l0]
    rw [if_neg (by omega), num_GetLen.tell hb]
    by_cases hu : u ≤ 9223372036854775807
    · rw [getl_small hg hu, Option.bind_some, if_pos (show (((u : Int), (n : Int), (0 : Int)) : Int × Int × Int).2.2 = 0 from rfl), num_PutLen.tell hu (by decide)]
      simp only [Option.bind_some, List.nil_append]
      rw [if_pos (by omega), if_pos (by omega), Int.toNat_natCast, g3, show winnowerref01_Same.f (l.take n) (l.take n) = some true from by unfold winnowerref01_Same.f; rw [decide_eq_true rfl]]
      simp only [Option.bind_some, if_true, beq_self_eq_true]
    · rw [getl_big hg hu, Option.bind_some, if_neg (show ¬ (((0 : Int), (0 : Int), (7 : Int)) : Int × Int × Int).2.2 = 0 from by decide), if_pos rfl]
      by_cases hp : u % 2 = 0
      · have e : back u = ((u / 2 : Nat) : Int) := by unfold back; rw [if_pos hp]
        have big : 4611686018427387903 < u / 2 := by omega
        rw [e]
        clear e hg g3 g6 g5 hu hb
        generalize u / 2 = h at *
        rw [if_neg (show ¬ ((h : Int) < 0) from by omega), if_pos (show (h : Int) ≥ 0 from by omega), decide_eq_true (show (h : Int) > 4611686018427387903 from by omega)]
        exact if_pos trivial
      · have e : back u < 0 := by unfold back; rw [if_neg hp]; omega
        rw [if_pos e]
        exact if_pos trivial
  | succ d ih =>
    intro i k hd hk
    obtain ⟨q, rfl⟩ : ∃ m, k = m + 1 := ⟨k - 1, by omega⟩
    simp only [winnowerlaw01_NumOnly.l0]
    rw [if_pos (by omega), if_pos (by omega), if_pos (by omega), Int.toNat_natCast, num_Get.tell (hb.take i), getn, g6 i (by omega)]
    simp only [Option.bind_some, if_true]
    rw [wrap_id (by omega) (by omega), show ((i : Int) + 1) = ((i + 1 : Nat) : Int) from by omega]
    exact ih (i + 1) q (by omega) (by omega)
theorem NumOnly : winnowerlaw01_NumOnly.Pure := by
  intro l _ _ hw
  have hb := Bytes.of_wf hw
  refine ⟨l.length + 4, ?_⟩
  unfold winnowerlaw01_NumOnly.f
  rw [awake01]
  simp only [Option.bind_some, if_true]
  rw [show l.length + 4 = (l.length + 3) + 1 from rfl, winnowerlaw01_NumOnly.j0]
  by_cases h6 : (l.length : Int) > 600
  · rw [if_pos (decide_eq_true h6)]
  · rw [if_neg (by simpa using h6), num_Get.tell hb]
    simp only [Option.bind_some]
    by_cases he : (getn l).2.2 = 0
    · rw [if_pos he]
      obtain ⟨u, n, hg, e, n1, n2, hd, hu, hs⟩ := getn_ok hb he
      rw [e]
      simp only []
      rw [if_neg (by omega), decide_eq_false (by omega), show l.length + 3 = (l.length + 2) + 1 from rfl, winnowerlaw01_NumOnly.j1, if_neg (by decide), num_Put.tell (back_i64 hu) (by decide)]
      simp only [Option.bind_some, List.nil_append]
      rw [if_pos (by omega), if_pos (by omega), fold_back, hd, Int.toNat_natCast, show winnowerref01_Same.f (l.take n) (l.take n) = some true from by unfold winnowerref01_Same.f; rw [decide_eq_true rfl]]
      simp only [Option.bind_some]
      exact starts l hb (by omega) u n hg n 0 _ (by omega) (by omega)
    · rw [if_neg he]
      obtain ⟨e, _, h1, _⟩ := getn_bad he
      rw [h1]
      rfl
end Go.Proofs.Ytdbdgcnblpeciaa.Pure
