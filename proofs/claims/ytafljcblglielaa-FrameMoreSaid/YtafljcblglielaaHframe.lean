/- Frames in plain words: what stands at the beginning of bytes, and what is read of them. -/
import Derived.Laws.BitsLemmas
import Derived.Test.YtafljcblglielaaWWords
import Derived.Test.YtafljcblglielaaWMore
import Derived.Test.YtafljcblglielaaHnum
import Derived.Test.YtafljcblglielaaHcrc
namespace Go.Proofs.Ytafljcblglielaa.Hframe
open Go.RowKit Go.Proofs.YtafljcblglielaaW.PrintWords Go.Proofs.YtafljcblglielaaW.PrintLast Go.Proofs.YtafljcblglielaaW.PrintMore Go.Proofs.Ytafljcblglielaa.Hnum Go.Proofs.Ytafljcblglielaa.Hcrc
set_option linter.unusedVariables false
set_option linter.unusedSimpArgs false
/-- A payload's frame. -/
def sealB (p : List Int) : List Int := digs p.length ++ (p ++ tailB (sumB p))
/-- The frame that bytes begin with: its payload, and how long it is. -/
def one (b : List Int) : Option (List Int × Nat) :=
  if (getl b).2.2 ≠ 0 ∨ 65536 < (getl b).1 ∨ (b.length : Int) < (getl b).2.1 + (getl b).1 + 4 then none
  else if tailB (sumB ((b.drop (getl b).2.1.toNat).take (getl b).1.toNat)) = (b.drop ((getl b).2.1.toNat + (getl b).1.toNat)).take 4 then
    some ((b.drop (getl b).2.1.toNat).take (getl b).1.toNat, (getl b).2.1.toNat + (getl b).1.toNat + 4) else none
/-- The payloads of frames one behind the other, and how many bytes these have. -/
def reads : Nat → List Int → List (List Int) × Nat
  | 0, _ => ([], 0)
  | k + 1, b => match one b with
    | none => ([], 0)
    | some (p, s) => (p :: (reads k (b.drop s)).1, s + (reads k (b.drop s)).2)
theorem reads_none {k : Nat} {b : List Int} (h : one b = none) : reads k b = ([], 0) := by
  cases k with
  | zero => rfl
  | succ k => rw [reads, h]
theorem reads_some {k : Nat} {b p : List Int} {s : Nat} (h : one b = some (p, s)) : reads (k + 1) b = (p :: (reads k (b.drop s)).1, s + (reads k (b.drop s)).2) := by rw [reads, h]
theorem getl_ok {b : List Int} (hb : Bytes b) (h : (getl b).2.2 = 0) : ∃ n k : Nat, getl b = ((n : Int), (k : Int), 0) ∧ n ≤ 9223372036854775807 ∧ 1 ≤ k ∧ k ≤ b.length ∧ digs n = b.take k := by
  unfold getl at h ⊢
  cases hg : getd 0 b with
  | error e => rw [hg] at h; have := getd_error hg; simp only at h; omega
  | ok p =>
    obtain ⟨u, n⟩ := p
    rw [hg] at h
    obtain ⟨g1, g2, g3, _, _, _⟩ := getd_ok (by omega) hb hg
    by_cases hu : u ≤ 9223372036854775807
    · exact ⟨u, n, if_pos hu, hu, g1, g2, g3⟩
    · simp only [if_neg hu] at h; omega
theorem one_cases {b : List Int} (hb : Bytes b) (h : (getl b).2.2 = 0) (h1 : (getl b).1 ≤ 65536) (h2 : (getl b).2.1 + (getl b).1 + 4 ≤ (b.length : Int)) :
    ∃ n k : Nat, getl b = ((n : Int), (k : Int), 0) ∧ n ≤ 65536 ∧ 1 ≤ k ∧ k + n + 4 ≤ b.length ∧ digs n = b.take k ∧
      one b = if tailB (sumB ((b.drop k).take n)) = (b.drop (k + n)).take 4 then some ((b.drop k).take n, k + n + 4) else none := by
  obtain ⟨n, k, hg, hn, hk1, hk2, hd⟩ := getl_ok hb h
  rw [hg] at h1 h2
  simp only at h1 h2
  refine ⟨n, k, hg, by omega, hk1, by omega, hd, ?_⟩
  unfold one
  rw [hg]
  simp only [Int.toNat_natCast]
  rw [if_neg (by rintro (h | h | h) <;> omega)]
theorem one_bad {b : List Int} (h : (getl b).2.2 ≠ 0 ∨ 65536 < (getl b).1 ∨ (b.length : Int) < (getl b).2.1 + (getl b).1 + 4) : one b = none := by
  unfold one; rw [if_pos h]
theorem one_size {b p : List Int} {s : Nat} (hb : Bytes b) (h : one b = some (p, s)) : 5 ≤ s ∧ s ≤ b.length ∧ p.length ≤ 65536 ∧ Bytes p := by
  by_cases hbad : (getl b).2.2 ≠ 0 ∨ 65536 < (getl b).1 ∨ (b.length : Int) < (getl b).2.1 + (getl b).1 + 4
  · rw [one_bad hbad] at h; cases h
  · obtain ⟨n, k, _, hn, hk, hl, _, ho⟩ := one_cases hb (by omega) (by omega) (by omega)
    rw [ho] at h
    split at h
    · simp only [Option.some.injEq, Prod.mk.injEq] at h
      obtain ⟨rfl, rfl⟩ := h
      exact ⟨by omega, hl, by rw [List.length_take]; omega, (hb.drop k).take n⟩
    · cases h
theorem reads_more {b : List Int} (hb : Bytes b) : ∀ (f g : Nat), b.length < f → b.length < g → reads f b = reads g b := by
  intro f
  induction f generalizing b with
  | zero => intro g h _; omega
  | succ f ih =>
    intro g hf hg
    obtain ⟨g, rfl⟩ : ∃ g', g = g' + 1 := ⟨g - 1, by omega⟩
    cases h : one b with
    | none => rw [reads_none h, reads_none h]
    | some q =>
      obtain ⟨p, s⟩ := q
      obtain ⟨h1, h2, _, _⟩ := one_size hb h
      rw [reads_some h, reads_some h, ih (hb.drop s) g (by rw [List.length_drop]; omega) (by rw [List.length_drop]; omega)]
theorem sealB_bytes {p : List Int} (h : Bytes p) : Bytes (sealB p) := (digs_bytes _).append (h.append (tailB_bytes _))
theorem tailB_len (n : Nat) : (tailB n).length = 4 := rfl
theorem sealB_len (p : List Int) : (sealB p).length = (digs p.length).length + p.length + 4 := by
  unfold sealB; rw [List.length_append, List.length_append, tailB_len]; omega
/-- A frame that was sealed is read. -/
theorem one_seal {p : List Int} (more : List Int) (hl : p.length ≤ 65536) : one (sealB p ++ more) = some (p, (sealB p).length) := by
  have hg : getl (sealB p ++ more) = ((p.length : Int), ((digs p.length).length : Int), 0) := by
    unfold sealB; rw [List.append_assoc]; exact getl_digs (by omega) _
  have e1 : (sealB p ++ more).drop (digs p.length).length = p ++ (tailB (sumB p) ++ more) := by
    unfold sealB; rw [List.append_assoc, List.drop_left, List.append_assoc]
  unfold one
  rw [hg]
  simp only [Int.toNat_natCast]
  rw [if_neg (by rw [List.length_append, sealB_len]; rintro (h | h | h) <;> omega), ← List.drop_drop, e1, List.take_left, List.drop_left, show (tailB (sumB p) ++ more).take 4 = tailB (sumB p) from List.take_left' (tailB_len _), if_pos rfl, sealB_len]
end Go.Proofs.Ytafljcblglielaa.Hframe
