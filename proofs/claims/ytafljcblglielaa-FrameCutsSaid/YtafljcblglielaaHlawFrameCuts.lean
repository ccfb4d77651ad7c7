/- The law FrameCuts, walked: what it computes is true. -/
import Derived.Test.YtafljcblglielaaHnum
import Derived.Test.YtafljcblglielaaHcrc
import Derived.Test.YtafljcblglielaaHframe
import Derived.Test.YtafljcblglielaaHframe04
import Derived.Test.YtafljcblglielaaQx0
import Derived.Test.YtafljcblglielaaQx10
import Derived.Test.YtafljcblglielaaQx15
import Derived.Test.YtafljcblglielaaQx16
namespace Go.Proofs.Ytafljcblglielaa.Q
open Go.RowKit Go.Proofs.YtafljcblglielaaW.PrintWords Go.Proofs.YtafljcblglielaaW.PrintLast Go.Proofs.YtafljcblglielaaW.PrintMore
attribute [local go_sem] max2_int min2_int max_two min_two max_three min_three max_four min_four   -- for this text's walks alone
set_option linter.unusedVariables false
set_option linter.unusedSimpArgs false

-- SAYS The law FrameCuts, walked: what it computes is true.
-- FUNCS winnower/winnowerlaw04.FrameCuts
-- NEEDS winnowerlaw04_FrameCuts.f winnowerlaw04_few.f winnowerref04_Lists.f
-- IMPORT Derived.Test.YtafljcblglielaaHnum
-- IMPORT Derived.Test.YtafljcblglielaaHcrc
-- IMPORT Derived.Test.YtafljcblglielaaHframe
-- IMPORT Derived.Test.YtafljcblglielaaHframe04
open Go.Proofs.Ytafljcblglielaa.Hnum Go.Proofs.Ytafljcblglielaa.Hcrc Go.Proofs.Ytafljcblglielaa.Hframe
/-- Frames one behind the other. -/
def cat (l : List (List Int)) : List Int := l.flatMap sealB
theorem cat_cons (p : List Int) (l : List (List Int)) : cat (p :: l) = sealB p ++ cat l := by simp [cat]
/-- How many of them survive a cut. -/
def whole : List (List Int) → Nat → Nat
  | [], _ => 0
  | p :: t, c => if (sealB p).length ≤ c then whole t (c - (sealB p).length) + 1 else 0
theorem whole_le : ∀ (l : List (List Int)) (c : Nat), whole l c ≤ l.length
  | [], _ => Nat.le_refl _
  | p :: t, c => by
    unfold whole
    have := whole_le t (c - (sealB p).length)
    split <;> simp only [List.length_cons] <;> omega
theorem whole_iff : ∀ (l : List (List Int)) (c i : Nat), i < l.length → ((cat (l.take (i + 1))).length ≤ c ↔ i < whole l c)
  | [], c, i, h => by simp at h
  | p :: t, c, i, h => by
    rw [List.take_succ_cons, cat_cons, List.length_append, whole]
    by_cases hp : (sealB p).length ≤ c
    · rw [if_pos hp]
      cases i with
      | zero => rw [List.take_zero]; constructor <;> intro _ <;> (first | omega | (show (sealB p).length + 0 ≤ c; omega))
      | succ i =>
        have := whole_iff t (c - (sealB p).length) i (by simpa using h)
        omega
    · rw [if_neg hp]; omega
theorem one_short {p : List Int} (hl : p.length ≤ 65536) {c : Nat} (hc : c < (sealB p).length) : one ((sealB p).take c) = none := by
  have hs := sealB_len p
  by_cases h : (digs p.length).length ≤ c
  · have hg : getl ((sealB p).take c) = ((p.length : Int), ((digs p.length).length : Int), 0) := by
      unfold sealB
      rw [List.take_append, List.take_of_length_le h]
      exact getl_digs (by omega) _
    exact one_bad (.inr (.inr (by rw [hg, List.length_take]; simp only; omega)))
  · have hg : getl ((sealB p).take c) = (0, 0, 6) := by
      have h1 := getd_digs [] p.length 0 (by omega) (by omega) (.inl rfl)
      rw [List.append_nil] at h1
      have h2 := (getd_ok (by omega) (digs_bytes _) h1).2.2.2.2.2 c (by omega)
      unfold sealB getl
      rw [List.take_append_of_le_length (by omega), h2]
    exact one_bad (.inl (by rw [hg]; decide))
theorem reads_cut : ∀ (l : List (List Int)) (c f : Nat), (∀ p ∈ l, p.length ≤ 65536) → l.length < f → reads f ((cat l).take c) = (l.take (whole l c), (cat (l.take (whole l c))).length)
  | [], c, f, _, _ => by
    have : one ((cat []).take c) = none := by
      rw [show (cat []).take c = [] from by simp [cat]]; exact one_bad (.inl (by decide))
    rw [reads_none this]; rfl
  | p :: t, c, f, hp, hf => by
    obtain ⟨f, rfl⟩ : ∃ g, f = g + 1 := ⟨f - 1, by simp at hf; omega⟩
    have h1 := hp p (List.mem_cons_self ..)
    rw [cat_cons, whole]
    by_cases h : (sealB p).length ≤ c
    · have e : (sealB p ++ cat t).take c = sealB p ++ (cat t).take (c - (sealB p).length) := by
        rw [List.take_append, List.take_of_length_le h]
      rw [if_pos h, e, reads_some (one_seal _ h1), List.drop_left, reads_cut t _ f (fun q hq => hp q (List.mem_cons_of_mem _ hq)) (by simp at hf; omega), List.take_succ_cons, cat_cons, List.length_append]
    · have e : (sealB p ++ cat t).take c = (sealB p).take c := List.take_append_of_le_length (by omega)
      rw [if_neg h, e, reads_none (one_short h1 (by omega))]
      rfl
theorem rdL (l : List (List Int)) (i : Nat) (h : i < l.length) : rd_L1 l (i : Int) = l[i] := by
  rw [rd_L1, Int.toNat_natCast, List.getD_eq_getElem?_getD, List.getElem?_eq_getElem h]; rfl
theorem few_go (l : List (List Int)) (hl : l.length ≤ 20) (q : Nat) : ∀ (d i : Nat), i + d = l.length → (∀ j (h : j < l.length), j < i → l[j].length ≤ 300) →
    ∃ b, winnowerlaw04_few.l0 (d + q + 1) l (i : Int) = some b ∧ (b = true → ∀ p ∈ l, p.length ≤ 300) := by
  intro d
  induction d with
  | zero =>
    intro i h hh
    refine ⟨true, by rw [winnowerlaw04_few.l0, if_neg (by omega)], fun _ p hp => ?_⟩
    obtain ⟨j, hj, rfl⟩ := List.mem_iff_getElem.1 hp
    exact hh j hj (by omega)
  | succ d ih =>
    intro i h hh
    have hlt : i < l.length := by omega
    rw [show d + 1 + q + 1 = (d + q + 1) + 1 from by omega, winnowerlaw04_few.l0, if_pos (by omega), if_pos (by omega), rdL l i hlt]
    by_cases hi : (l[i].length : Int) > 300
    · exact ⟨false, by rw [if_pos hi], fun e => by cases e⟩
    · rw [if_neg hi, wrap_id (x := (i : Int) + 1) (by omega) (by omega), show (i : Int) + 1 = ((i + 1 : Nat) : Int) from by omega]
      refine ih (i + 1) (by omega) (fun j hj hlt2 => ?_)
      by_cases e : j = i
      · subst e; omega
      · exact hh j hj (by omega)
theorem few_tell (l : List (List Int)) {k : Nat} (hk : 30 ≤ k) : ∃ b, winnowerlaw04_few.f k l = some b ∧ (b = true → l.length ≤ 20 ∧ ∀ p ∈ l, p.length ≤ 300) := by
  unfold winnowerlaw04_few.f
  by_cases hl : (l.length : Int) > 20
  · exact ⟨false, by rw [if_pos hl], fun e => by cases e⟩
  · obtain ⟨q, rfl⟩ : ∃ q, k = l.length + q + 1 := ⟨k - l.length - 1, by omega⟩
    rw [if_neg hl]
    obtain ⟨b, h1, h2⟩ := few_go l (by omega) q l.length 0 (by omega) (fun j _ hj => by omega)
    exact ⟨b, h1, fun e => ⟨by omega, h2 e⟩⟩
theorem cat_len : ∀ (l : List (List Int)), (∀ p ∈ l, p.length ≤ 300) → (cat l).length ≤ 400 * l.length
  | [], _ => Nat.le_refl _
  | p :: t, h => by
    have h1 := h p (List.mem_cons_self ..)
    have h2 := cat_len t (fun q hq => h q (List.mem_cons_of_mem _ hq))
    have h3 := digs_le_ten (u := p.length) (by omega)
    rw [cat_cons, List.length_append, sealB_len, List.length_cons]
    omega
theorem cat_bytes : ∀ (l : List (List Int)), (∀ p ∈ l, Bytes p) → Bytes (cat l)
  | [], _ => Bytes.nil
  | p :: t, h => by
    rw [cat_cons]
    exact (sealB_bytes (h p (List.mem_cons_self ..))).append (cat_bytes t (fun q hq => h q (List.mem_cons_of_mem _ hq)))
/-- Where the first frames end. -/
def endsL (l : List (List Int)) (i : Nat) : List Int := (List.range i).map fun j => ((cat (l.take (j + 1))).length : Int)
theorem endsL_succ (l : List (List Int)) (i : Nat) : endsL l (i + 1) = endsL l i ++ [((cat (l.take (i + 1))).length : Int)] := by simp [endsL, List.range_succ]
theorem lists_go (x : List (List Int)) (hx : x.length ≤ 1000000) (q : Nat) : ∀ (d i : Nat), i + d = x.length → winnowerref04_Lists.l0 (d + q + 1) x x (i : Int) = some true := by
  intro d
  induction d with
  | zero => intro i h; rw [winnowerref04_Lists.l0, if_neg (by omega)]
  | succ d ih =>
    intro i h
    rw [show d + 1 + q + 1 = (d + q + 1) + 1 from by omega, winnowerref04_Lists.l0, if_pos (by omega), if_pos (by omega), if_pos (by omega), winnowerref01_Same.f, decide_eq_true rfl, Option.bind_some, if_pos rfl, wrap_id (x := (i : Int) + 1) (by omega) (by omega), show (i : Int) + 1 = ((i + 1 : Nat) : Int) from by omega, ih (i + 1) (by omega)]
theorem lists_tell {x : List (List Int)} (hx : x.length ≤ 1000000) {k : Nat} (hk : x.length + 1 ≤ k) : winnowerref04_Lists.f k x x = some true := by
  obtain ⟨j, rfl⟩ := Nat.exists_eq_add_of_le hk
  rw [winnowerref04_Lists.f, if_pos rfl, show x.length + 1 + j = x.length + j + 1 from by omega]
  exact lists_go x hx j x.length 0 (by omega)
theorem cuts_end {l : List (List Int)} (hl : l.length ≤ 20) (h3 : ∀ p ∈ l, p.length ≤ 300) (hb : ∀ p ∈ l, Bytes p) {c : Nat} (hc : c ≤ (cat l).length) (q : Nat) : ∀ (d i : Nat), i + d = l.length →
    winnowerlaw04_FrameCuts.l1 (d + q + 31) l (cat l) (endsL l l.length) (c : Int) ((min i (whole l c) : Nat) : Int) ((cat (l.take (min i (whole l c)))).length : Int) (i : Int) = some true := by
  have hw := whole_le l c
  have hcl := cat_len l h3
  have hel : (endsL l l.length).length = l.length := by simp [endsL]
  intro d
  induction d with
  | zero =>
    intro i h
    obtain rfl : i = l.length := by omega
    have hr := reads_cut l c (((cat l).take c).length + 1 + l.length) (fun p hp => Nat.le_trans (h3 p hp) (by omega)) (by omega)
    have hbb : Bytes ((cat l).take c) := (cat_bytes l hb).take c
    rw [reads_more hbb (((cat l).take c).length + 1 + l.length) (((cat l).take c).length + 1) (by omega) (by omega)] at hr
    rw [show 0 + q + 31 = (q + 30) + 1 from by omega, winnowerlaw04_FrameCuts.l1, if_neg (by omega), if_pos (by omega), if_pos (by omega), Int.toNat_natCast, read_tell hbb (by rw [List.length_take]; omega), Option.bind_some, hr, Nat.min_eq_right hw, if_pos (by omega), if_pos (by omega), Int.toNat_natCast]
    simp only
    rw [lists_tell (by rw [List.length_take]; omega) (by rw [List.length_take]; omega), Option.bind_some, if_pos rfl]
    simp
  | succ d ih =>
    intro i h
    have hlt : i < l.length := by omega
    have hrd : rd (endsL l l.length) (i : Int) = ((cat (l.take (i + 1))).length : Int) := by
      rw [rd, Int.toNat_natCast, List.getD_eq_getElem?_getD, List.getElem?_eq_getElem (by omega)]
      simp [endsL]
    have hh := ih (i + 1) (by omega)
    have hiff := whole_iff l c i hlt
    rw [show d + 1 + q + 31 = (d + q + 31) + 1 from by omega, winnowerlaw04_FrameCuts.l1, if_pos (by omega), if_pos (by omega), hrd, wrap_id (x := (i : Int) + 1) (by omega) (by omega), show (i : Int) + 1 = ((i + 1 : Nat) : Int) from by omega]
    by_cases e : i < whole l c
    · rw [if_pos (by have := hiff.2 e; omega)]
      rw [Nat.min_eq_left (by omega)] at hh
      exact hh
    · rw [if_neg (fun hx => e (hiff.1 (by omega)))]
      rw [Nat.min_eq_right (by omega)] at hh ⊢
      exact hh
theorem cuts_go {l : List (List Int)} (hl : l.length ≤ 20) (h3 : ∀ p ∈ l, p.length ≤ 300) (hb : ∀ p ∈ l, Bytes p) {cut : Int} (h0 : 0 ≤ cut) (q : Nat) : ∀ (d i : Nat), i + d = l.length →
    winnowerlaw04_FrameCuts.l0 (d + q + 100) l cut (cat (l.take i)) (endsL l i) (i : Int) = some true := by
  have hcl := cat_len l h3
  intro d
  induction d with
  | zero =>
    intro i h
    obtain rfl : i = l.length := by omega
    obtain ⟨m, rfl⟩ := Int.eq_ofNat_of_zero_le h0
    have e1 : wrap64 (((cat l).length : Int) + 1) = (((cat l).length + 1 : Nat) : Int) := by rw [wrap_id (by omega) (by omega)]; omega
    have e2 : Int.tmod (m : Int) (((cat l).length + 1 : Nat) : Int) = ((m % ((cat l).length + 1) : Nat) : Int) := rfl
    have hm : m % ((cat l).length + 1) < (cat l).length + 1 := Nat.mod_lt _ (by omega)
    rw [List.take_length, show 0 + q + 100 = (l.length + (q + 68 - l.length) + 31) + 1 from by omega, winnowerlaw04_FrameCuts.l0, if_neg (by omega), e1, if_neg (by omega), e2]
    have := cuts_end hl h3 hb (c := m % ((cat l).length + 1)) (by omega) (q + 68 - l.length) l.length 0 (by omega)
    rw [Nat.zero_min, List.take_zero] at this
    exact this
  | succ d ih =>
    intro i h
    have hlt : i < l.length := by omega
    have hp := h3 _ (List.getElem_mem hlt)
    have hpb := hb _ (List.getElem_mem hlt)
    have hcat : cat (l.take i) ++ sealB l[i] = cat (l.take (i + 1)) := by unfold cat; rw [List.take_succ_eq_append_getElem hlt, List.flatMap_append, List.flatMap_cons, List.flatMap_nil, List.append_nil]
    have hci := cat_len (l.take i) (fun p hp => h3 p (List.mem_of_mem_take hp))
    rw [List.length_take] at hci
    have hd := digs_le_ten (u := l[i].length) (by omega)
    have hsl := sealB_len l[i]
    have hh := ih (i + 1) (by omega)
    rw [endsL_succ] at hh
    rw [show d + 1 + q + 100 = (d + q + 100) + 1 from by omega, winnowerlaw04_FrameCuts.l0, if_pos (by omega), if_pos (by omega), rdL l i hlt, seal_tell hpb (by omega), Option.bind_some]
    simp only
    rw [if_pos trivial, if_pos (by omega), Option.bind_some, hcat, if_pos (by simp [endsL]; omega), wrap_id (x := (i : Int) + 1) (by omega) (by omega), show (i : Int) + 1 = ((i + 1 : Nat) : Int) from by omega]
    exact hh
theorem cuts (l : List (List Int)) (cut : Int) (hb : ∀ p ∈ l, Bytes p) : ∃ k, winnowerlaw04_FrameCuts.f k l cut = some true := by
  refine ⟨1000 + 1, ?_⟩
  obtain ⟨b, hf, hfew⟩ := few_tell l (k := 1000 + 1) (by omega)
  unfold winnowerlaw04_FrameCuts.f
  rw [awake04 (by omega), Option.bind_some, hf, Option.bind_some, if_pos rfl]
  cases b with
  | false => rw [if_neg Bool.false_ne_true, winnowerlaw04_FrameCuts.j0, if_pos rfl]
  | true =>
    obtain ⟨hl, h3⟩ := hfew rfl
    rw [if_pos rfl, winnowerlaw04_FrameCuts.j0]
    by_cases h0 : cut < 0
    · rw [decide_eq_true h0, if_pos rfl]
    · rw [decide_eq_false h0, if_neg Bool.false_ne_true]
      have h := cuts_go hl h3 hb (cut := cut) (by omega) (900 - l.length) l.length 0 (by omega)
      rw [show l.length + (900 - l.length) + 100 = 1000 from by omega] at h
      exact h
theorem FrameCuts.call (A0 : Option Addr) (c0 : Nat) (l0 : List (List Int)) (a1 : Int) (w : World) (hr0 : Kd.C (Kd.slice 5 (Kd.int .u8)) w A0 l0.length l0) (hc0 : l0.length ≤ c0) (hb : ∀ p ∈ l0, Bytes p) :
    Calls Try.prog 5 #[.slice A0 l0.length c0, .int .i64 a1] w fun e w' => e = .returned (.bool true) ∧ Below w.heap.size w w' := by
  obtain ⟨k, hk⟩ := cuts l0 a1 hb
  exact winnowerlaw04_FrameCuts.calls k A0 c0 l0 a1 true w hr0 hc0 hk

end Go.Proofs.Ytafljcblglielaa.Q
