/- What the functions of layer 1 answer, in plain words. -/
import Derived.Test.YtdbdgcnblpeciaaHnum
import Derived.Test.YtdbdgcnblpeciaaQx0
import Derived.Test.YtdbdgcnblpeciaaQx1
import Derived.Test.YtdbdgcnblpeciaaQx2
import Derived.Test.YtdbdgcnblpeciaaQx7
import Derived.Test.YtdbdgcnblpeciaaQx8
import Derived.Test.YtdbdgcnblpeciaaQx10
namespace Go.Proofs.Ytdbdgcnblpeciaa.Q
open Go.RowKit Go.Proofs.YtdbdgcnblpeciaaW.PrintWords Go.Proofs.YtdbdgcnblpeciaaW.PrintLast Go.Proofs.YtdbdgcnblpeciaaW.PrintMore
attribute [local go_sem] max2_int min2_int max_two min_two max_three min_three max_four min_four   -- for this text's walks alone
set_option linter.unusedVariables false
set_option linter.unusedSimpArgs false

-- SAYS What the functions of layer 1 answer, in plain words.
-- FUNCS winnower/num.Put winnower/num.PutLen winnower/num.Get winnower/num.GetLen
-- NEEDS num_Put.f num_PutLen.f num_Get.f num_GetLen.f
-- IMPORT Derived.Test.YtdbdgcnblpeciaaHnum
open Go.Proofs.Ytdbdgcnblpeciaa.Hnum
theorem num_put.tell {l : List Int} {u : Nat} (hu : u < 18446744073709551616) (hl : l.length < 1000000000000) : num_put.f l (u : Int) = some (l ++ digs u) := by
  unfold num_put.f; rw [if_pos (by omega), if_pos (by omega), if_pos hl, Int.toNat_natCast]
theorem num_fold.tells {a : Int} (h : i64 a) : num_fold.f a = some (fold a : Int) := by unfold num_fold.f; rw [fold_bits h]
theorem num_Put.tell {l : List Int} {a : Int} (h : i64 a) (hl : l.length < 1000000000000) : num_Put.f l a = some (l ++ digs (fold a)) := by
  unfold num_Put.f; rw [num_fold.tells h, Option.bind_some, num_put.tell (fold_lt h) hl, Option.bind_some]
theorem num_PutLen.tell {l : List Int} {a : Nat} (h : a ≤ 9223372036854775807) (hl : l.length < 1000000000000) : num_PutLen.f l (a : Int) = some (l ++ digs a) := by
  unfold num_PutLen.f; rw [if_neg (by omega), wrap_u64, show (a : Int) % 18446744073709551616 = (a : Int) from by omega, num_put.tell (by omega) hl, Option.bind_some]
theorem num_PutLen.neg {l : List Int} {a : Int} (h : a < 0) : num_PutLen.f l a = some l := by unfold num_PutLen.f; rw [if_pos h]
/-- What Get answers. -/
def getn (l : List Int) : Int × Int × Int := match getd 0 l with | .ok (u, n) => (back u, (n : Int), 0) | .error e => (0, 0, e)
/-- What GetLen answers. -/
def getl (l : List Int) : Int × Int × Int := match getd 0 l with | .ok (u, n) => if u ≤ 9223372036854775807 then ((u : Int), (n : Int), 0) else (0, 0, 7) | .error e => (0, 0, e)
theorem getl_small {l : List Int} {u n : Nat} (hg : getd 0 l = .ok (u, n)) (hu : u ≤ 9223372036854775807) : getl l = ((u : Int), (n : Int), 0) := by
  unfold getl; rw [hg]; exact if_pos hu
theorem getl_big {l : List Int} {u n : Nat} (hg : getd 0 l = .ok (u, n)) (hu : ¬ u ≤ 9223372036854775807) : getl l = (0, 0, 7) := by
  unfold getl; rw [hg]; exact if_neg hu
theorem num_back.tell {u : Nat} (h : u < 18446744073709551616) : num_back.f (u : Int) = some (back u) := by unfold num_back.f; rw [back_bits h]
theorem num_Get.tell {l : List Int} (h : Bytes l) : num_Get.f l = some (getn l) := by
  unfold num_Get.f num_get.f getn
  rw [if_pos h, Option.bind_some]
  cases hg : getd 0 l with
  | error e => simp only [trip]; rw [show (0 : Int) = ((0 : Nat) : Int) from rfl, num_back.tell (by omega)]; rfl
  | ok p =>
    obtain ⟨u, n⟩ := p
    have := (getd_ok (by omega) h hg).2.2.2.2.1
    simp only [trip]
    rw [num_back.tell (by omega)]; rfl
theorem num_GetLen.tell {l : List Int} (h : Bytes l) : num_GetLen.f l = some (getl l) := by
  unfold num_GetLen.f num_get.f getl
  rw [if_pos h, Option.bind_some]
  cases hg : getd 0 l with
  | error e =>
    have := getd_error hg
    rw [if_neg (show ¬ ((trip (Except.error e)).2.2 = 0) from by show ¬ (e = 0); omega)]
    show some (wrap64 0, (0 : Int), e) = some (0, 0, e)
    rw [wrap_id (by omega) (by omega)]
  | ok p =>
    obtain ⟨u, n⟩ := p
    have := (getd_ok (by omega) h hg).2.2.2.2.1
    rw [if_pos (show (trip (Except.ok (u, n))).2.2 = 0 from rfl)]
    by_cases hu : u ≤ 9223372036854775807
    · rw [if_neg (show ¬ ((trip (Except.ok (u, n))).1 > 9223372036854775807) from by show ¬ ((u : Int) > 9223372036854775807); omega)]
      show some (wrap64 (u : Int), (n : Int), (0 : Int)) = some (if u ≤ 9223372036854775807 then ((u : Int), (n : Int), 0) else (0, 0, 7))
      rw [if_pos hu, wrap_id (by omega) (by omega)]
    · rw [if_pos (show (trip (Except.ok (u, n))).1 > 9223372036854775807 from by show (u : Int) > 9223372036854775807; omega)]
      show some ((0 : Int), (0 : Int), (7 : Int)) = some (if u ≤ 9223372036854775807 then ((u : Int), (n : Int), 0) else (0, 0, 7))
      rw [if_neg hu]
theorem getn_digs {a : Int} (h : i64 a) (more : List Int) : getn (digs (fold a) ++ more) = (a, ((digs (fold a)).length : Int), 0) := by
  unfold getn
  rw [getd_digs more (fold a) 0 (by omega) (by have := fold_lt h; omega) (.inl rfl)]
  simp only [back_fold]
theorem getl_digs {a : Nat} (h : a ≤ 9223372036854775807) (more : List Int) : getl (digs a ++ more) = ((a : Int), ((digs a).length : Int), 0) := by
  exact getl_small (getd_digs more a 0 (by omega) (by omega) (.inl rfl)) h
/-- What Get tells of bytes. -/
theorem getn_ok {l : List Int} (hb : Bytes l) (h : (getn l).2.2 = 0) : ∃ u n : Nat, getd 0 l = .ok (u, n) ∧ getn l = (back u, (n : Int), 0) ∧ 1 ≤ n ∧ n ≤ l.length ∧ digs u = l.take n ∧ u < 18446744073709551616 ∧ ∀ i, i < n → getd 0 (l.take i) = .error 6 := by
  cases hg : getd 0 l with
  | error e => rw [getn, hg] at h; simp only at h; have := getd_error hg; omega
  | ok p =>
    obtain ⟨u, n⟩ := p
    obtain ⟨g1, g2, g3, _, g5, g6⟩ := getd_ok (by omega) hb hg
    exact ⟨u, n, rfl, by rw [getn, hg], g1, g2, g3, by simpa using g5, g6⟩
theorem getn_bad {l : List Int} (h : (getn l).2.2 ≠ 0) : ∃ e, getd 0 l = .error e ∧ getn l = (0, 0, e) ∧ getl l = (0, 0, e) := by
  cases hg : getd 0 l with
  | error e => exact ⟨e, rfl, by rw [getn, hg], by rw [getl, hg]⟩
  | ok p => obtain ⟨u, n⟩ := p; rw [getn, hg] at h; exact absurd rfl h

end Go.Proofs.Ytdbdgcnblpeciaa.Q
