/- The law FrameMore, walked: what it computes is true. -/
import Derived.Test.YtafljcblglielaaHnum
import Derived.Test.YtafljcblglielaaHcrc
import Derived.Test.YtafljcblglielaaHframe
import Derived.Test.YtafljcblglielaaHopen
import Derived.Test.YtafljcblglielaaHframe04M
import Derived.Test.YtafljcblglielaaHrefputlM
import Derived.Test.YtafljcblglielaaHlawFrameMoreWalkM
import Derived.Test.YtafljcblglielaaMx0
import Derived.Test.YtafljcblglielaaMx3
import Derived.Test.YtafljcblglielaaMx4
import Derived.Test.YtafljcblglielaaMx5
import Derived.Test.YtafljcblglielaaMx6
import Derived.Test.YtafljcblglielaaMx8
import Derived.Test.YtafljcblglielaaMx9
import Derived.Test.YtafljcblglielaaMx11
namespace Go.Proofs.Ytafljcblglielaa.M
open Go.RowKit Go.Proofs.YtafljcblglielaaW.PrintWords Go.Proofs.YtafljcblglielaaW.PrintLast Go.Proofs.YtafljcblglielaaW.PrintMore
attribute [local go_sem] max2_int min2_int max_two min_two max_three min_three max_four min_four   -- for this text's walks alone
set_option linter.unusedVariables false
set_option linter.unusedSimpArgs false

-- SAYS The law FrameMore, walked: what it computes is true.
-- FUNCS winnower/winnowerlaw04.FrameMore
-- NEEDS winnowerlaw04_awake.f winnowerlaw04_few.f winnowerref04_Lists.f frame_Read.f frame_Seal.f winnowerref01_PutLen.f
-- IMPORT Derived.Test.YtafljcblglielaaHnum
-- IMPORT Derived.Test.YtafljcblglielaaHcrc
-- IMPORT Derived.Test.YtafljcblglielaaHframe
-- IMPORT Derived.Test.YtafljcblglielaaHopen
-- IMPORT Derived.Test.YtafljcblglielaaHframe04M
-- IMPORT Derived.Test.YtafljcblglielaaHrefputlM
-- IMPORT Derived.Test.YtafljcblglielaaHlawFrameMoreWalkM
open Go.Proofs.Ytafljcblglielaa.Hnum Go.Proofs.Ytafljcblglielaa.Hcrc Go.Proofs.Ytafljcblglielaa.Hframe Go.Proofs.Ytafljcblglielaa.Hopen
/-- Frames one behind the other. -/
def cat (l : List (List Int)) : List Int := l.flatMap sealB
theorem cat_nil : cat [] = [] := rfl
theorem cat_cons (p : List Int) (l : List (List Int)) : cat (p :: l) = sealB p ++ cat l := by simp [cat]
theorem cat_append (l m : List (List Int)) : cat (l ++ m) = cat l ++ cat m := by simp [cat]
theorem reads_cat : ∀ (l : List (List Int)) (f : Nat), (∀ p ∈ l, p.length ≤ 65536) → l.length < f → reads f (cat l) = (l, (cat l).length)
  | [], f, _, _ => by
    have : one (cat []) = none := one_bad (.inl (by decide))
    rw [reads_none this]; rfl
  | p :: t, f, hp, hf => by
    obtain ⟨f, rfl⟩ : ∃ g, f = g + 1 := ⟨f - 1, by simp at hf; omega⟩
    rw [cat_cons, reads_some (one_seal _ (hp p (List.mem_cons_self ..))), List.drop_left, reads_cat t f (fun q hq => hp q (List.mem_cons_of_mem _ hq)) (by simp at hf; omega), List.length_append]
theorem rdL (l : List (List Int)) (i : Nat) (h : i < l.length) : rd_L1 l (i : Int) = l[i] := by
  rw [rd_L1, Int.toNat_natCast, List.getD_eq_getElem?_getD, List.getElem?_eq_getElem h]; rfl
theorem few_go (l : List (List Int)) (hl : l.length ≤ 20) (q : Nat) : ∀ (d i : Nat), i + d = l.length → (∀ j (h : j < l.length), j < i → l[j].length ≤ 300) →
    ∃ b, winnowerlaw04_few.l0 (d + q + 1) l (i : Int) = some b ∧ (b = true → ∀ p ∈ l, p.length ≤ 300) := by
  intro d
  induction d with
  | zero =>
    intro i h hh
    refine ⟨true, by rw [winnowerlaw04_few.l0, if_neg (by omega)], fun _ p hp => ?_⟩
    obtain ⟨j, hj, rfl⟩ := List.mem_iff_getElem.1 hp
    exact hh j hj (by omega)
  | succ d ih =>
    intro i h hh
    have hlt : i < l.length := by omega
    rw [show d + 1 + q + 1 = (d + q + 1) + 1 from by omega, winnowerlaw04_few.l0, if_pos (by omega), if_pos (by omega), rdL l i hlt]
    by_cases hi : (l[i].length : Int) > 300
    · exact ⟨false, by rw [if_pos hi], fun e => by cases e⟩
    · rw [if_neg hi, wrap_id (x := (i : Int) + 1) (by omega) (by omega), show (i : Int) + 1 = ((i + 1 : Nat) : Int) from by omega]
      refine ih (i + 1) (by omega) (fun j hj hlt2 => ?_)
      by_cases e : j = i
      · subst e; omega
      · exact hh j hj (by omega)
theorem few_tell (l : List (List Int)) {k : Nat} (hk : 30 ≤ k) : ∃ b, winnowerlaw04_few.f k l = some b ∧ (b = true → l.length ≤ 20 ∧ ∀ p ∈ l, p.length ≤ 300) := by
  unfold winnowerlaw04_few.f
  by_cases hl : (l.length : Int) > 20
  · exact ⟨false, by rw [if_pos hl], fun e => by cases e⟩
  · obtain ⟨q, rfl⟩ : ∃ q, k = l.length + q + 1 := ⟨k - l.length - 1, by omega⟩
    rw [if_neg hl]
    obtain ⟨b, h1, h2⟩ := few_go l (by omega) q l.length 0 (by omega) (fun j _ hj => by omega)
    exact ⟨b, h1, fun e => ⟨by omega, h2 e⟩⟩
theorem cat_len : ∀ (l : List (List Int)), (∀ p ∈ l, p.length ≤ 300) → (cat l).length ≤ 400 * l.length
  | [], _ => Nat.le_refl _
  | p :: t, h => by
    have h1 := h p (List.mem_cons_self ..)
    have h2 := cat_len t (fun q hq => h q (List.mem_cons_of_mem _ hq))
    have h3 := digs_le_ten (u := p.length) (by omega)
    rw [cat_cons, List.length_append, sealB_len, List.length_cons]
    omega
theorem cat_bytes : ∀ (l : List (List Int)), (∀ p ∈ l, Bytes p) → Bytes (cat l)
  | [], _ => Bytes.nil
  | p :: t, h => by
    rw [cat_cons]
    exact (sealB_bytes (h p (List.mem_cons_self ..))).append (cat_bytes t (fun q hq => h q (List.mem_cons_of_mem _ hq)))
theorem lists_go (x : List (List Int)) (hx : x.length ≤ 1000000) (q : Nat) : ∀ (d i : Nat), i + d = x.length → winnowerref04_Lists.l0 (d + q + 1) x x (i : Int) = some true := by
  intro d
  induction d with
  | zero => intro i h; rw [winnowerref04_Lists.l0, if_neg (by omega)]
  | succ d ih =>
    intro i h
    rw [show d + 1 + q + 1 = (d + q + 1) + 1 from by omega, winnowerref04_Lists.l0, if_pos (by omega), if_pos (by omega), if_pos (by omega), winnowerref01_Same.f, decide_eq_true rfl, Option.bind_some, if_pos rfl, wrap_id (x := (i : Int) + 1) (by omega) (by omega), show (i : Int) + 1 = ((i + 1 : Nat) : Int) from by omega, ih (i + 1) (by omega)]
theorem lists_tell {x : List (List Int)} (hx : x.length ≤ 1000000) {k : Nat} (hk : x.length + 1 ≤ k) : winnowerref04_Lists.f k x x = some true := by
  obtain ⟨j, rfl⟩ := Nat.exists_eq_add_of_le hk
  rw [winnowerref04_Lists.f, if_pos rfl, show x.length + 1 + j = x.length + j + 1 from by omega]
  exact lists_go x hx j x.length 0 (by omega)
theorem cat_step {l : List (List Int)} {i : Nat} (hlt : i < l.length) : cat (l.take i) ++ sealB l[i] = cat (l.take (i + 1)) := by
  unfold cat; rw [List.take_succ_eq_append_getElem hlt, List.flatMap_append, List.flatMap_cons, List.flatMap_nil, List.append_nil]
/-- The first loop: the frames of l. -/
theorem more_go0 {l : List (List Int)} (hl : l.length ≤ 20) (h3 : ∀ p ∈ l, p.length ≤ 300) (hb : ∀ p ∈ l, Bytes p) (m : List (List Int)) (a2 : Int) (a4 : Bool) (l5 : List (List Int)) (l3 : List Int) (q : Nat) : ∀ (d i : Nat), i + d = l.length →
    winnowerlaw04_FrameMore.l0 (d + q + 1) l m a2 a4 l5 l3 (cat (l.take i)) (i : Int) = winnowerlaw04_FrameMore.l1 q l m a2 a4 l5 l3 (cat l) [] 0 := by
  intro d
  induction d with
  | zero =>
    intro i h
    obtain rfl : i = l.length := by omega
    rw [List.take_length, show 0 + q + 1 = q + 1 from by omega, winnowerlaw04_FrameMore.l0, if_neg (by omega)]
  | succ d ih =>
    intro i h
    have hlt : i < l.length := by omega
    have hp := h3 _ (List.getElem_mem hlt)
    have hci := cat_len (l.take i) (fun p hp => h3 p (List.mem_of_mem_take hp))
    rw [List.length_take] at hci
    have hd := digs_le_ten (u := l[i].length) (by omega)
    have hsl := sealB_len l[i]
    rw [show d + 1 + q + 1 = (d + q + 1) + 1 from by omega, winnowerlaw04_FrameMore.l0, if_pos (by omega), if_pos (by omega), rdL l i hlt, seal_tell (hb _ (List.getElem_mem hlt)) (by omega), Option.bind_some]
    simp only
    rw [if_pos (by omega), cat_step hlt, wrap_id (x := (i : Int) + 1) (by omega) (by omega), show (i : Int) + 1 = ((i + 1 : Nat) : Int) from by omega]
    exact ih (i + 1) (by omega)
theorem both_read {l m : List (List Int)} (hl : l.length ≤ 20) (hm : m.length ≤ 20) (h3 : ∀ p ∈ l, p.length ≤ 300) (g3 : ∀ p ∈ m, p.length ≤ 300) (hb : ∀ p ∈ l, Bytes p) (gb : ∀ p ∈ m, Bytes p) :
    frame_Read.f (cat l ++ cat m) = some (l ++ m, (((cat l).length + (cat m).length : Nat) : Int)) := by
  have h3' : ∀ p ∈ l ++ m, p.length ≤ 300 := fun p hp => (List.mem_append.1 hp).elim (h3 p) (g3 p)
  have hbb : Bytes (cat (l ++ m)) := cat_bytes _ (fun p hp => (List.mem_append.1 hp).elim (hb p) (gb p))
  have hcl := cat_len (l ++ m) h3'
  rw [List.length_append] at hcl
  have hr := reads_cat (l ++ m) ((cat (l ++ m)).length + 1 + (l ++ m).length) (fun p hp => Nat.le_trans (h3' p hp) (by omega)) (by omega)
  rw [reads_more hbb ((cat (l ++ m)).length + 1 + (l ++ m).length) ((cat (l ++ m)).length + 1) (by omega) (by omega)] at hr
  rw [← cat_append, read_tell hbb (by omega), hr, cat_append, List.length_append]
/-- The second loop: the frames of m; all of them are read. -/
theorem more_go1 {l m : List (List Int)} (hl : l.length ≤ 20) (hm : m.length ≤ 20) (h3 : ∀ p ∈ l, p.length ≤ 300) (g3 : ∀ p ∈ m, p.length ≤ 300) (hb : ∀ p ∈ l, Bytes p) (gb : ∀ p ∈ m, Bytes p) (a2 : Int) (a4 : Bool) (l3 : List Int) (q : Nat) : ∀ (d i : Nat), i + d = m.length →
    winnowerlaw04_FrameMore.l1 (d + (q + 50) + 1) l m a2 a4 (l ++ m) l3 (cat l) (cat (m.take i)) (i : Int) = winnowerlaw04_FrameMore.j3 (q + 50) l a2 a4 l3 (cat l) false := by
  have hcl := cat_len l h3
  have hcm := cat_len m g3
  intro d
  induction d with
  | zero =>
    intro i h
    obtain rfl : i = m.length := by omega
    have hL : (l ++ m).length = l.length + m.length := List.length_append
    rw [List.take_length, show 0 + (q + 50) + 1 = (q + 50) + 1 from by omega, winnowerlaw04_FrameMore.l1, if_neg (by omega), if_pos (by rw [List.length_nil]; omega), Option.bind_some, List.nil_append, if_pos (by omega), both_read hl hm h3 g3 hb gb, Option.bind_some]
    simp only
    rw [lst, if_pos (by omega), lists_tell (by omega) (by omega), Option.bind_some, if_pos rfl, wrap_id (by omega) (by omega), show (((cat l).length + (cat m).length : Nat) : Int) = ((cat l).length : Int) + ((cat m).length : Int) from by omega]
    congr 1
    simp
  | succ d ih =>
    intro i h
    have hlt : i < m.length := by omega
    have hp := g3 _ (List.getElem_mem hlt)
    have hci := cat_len (m.take i) (fun p hp => g3 p (List.mem_of_mem_take hp))
    rw [List.length_take] at hci
    have hd := digs_le_ten (u := m[i].length) (by omega)
    have hsl := sealB_len m[i]
    rw [show d + 1 + (q + 50) + 1 = (d + (q + 50) + 1) + 1 from by omega, winnowerlaw04_FrameMore.l1, if_pos (by omega), if_pos (by omega), rdL m i hlt, seal_tell (gb _ (List.getElem_mem hlt)) (by omega), Option.bind_some]
    simp only
    rw [if_pos (by omega), cat_step hlt, wrap_id (x := (i : Int) + 1) (by omega) (by omega), show (i : Int) + 1 = ((i + 1 : Nat) : Int) from by omega]
    exact ih (i + 1) (by omega)
theorem xorB_self : ∀ (a : List Int), Bytes a → xorB a a = List.replicate a.length 0
  | [], _ => rfl
  | x :: t, h => by
    obtain ⟨n, rfl⟩ := Int.eq_ofNat_of_zero_le (h x (by simp)).1
    rw [xorB, xorB_self t (fun y hy => h y (by simp [hy])), List.length_cons, List.replicate_succ]
    simp
theorem xorB_app : ∀ (a b c d : List Int), a.length = b.length → xorB (a ++ c) (b ++ d) = xorB a b ++ xorB c d
  | [], [], _, _, _ => rfl
  | [], _ :: _, _, _, h => by simp at h
  | _ :: _, [], _, _, h => by simp at h
  | x :: a, y :: b, c, d, h => by
    rw [List.cons_append, List.cons_append, xorB, xorB, xorB_app a b c d (by simpa using h), List.cons_append]
/-- A frame of which four bytes in a row were changed behind its length is not read. -/
theorem one_changed {p u v more : List Int} {w0 w1 w2 w3 a b c d : Nat} (hb : Bytes p) (hl : p.length ≤ 300) (hS : p ++ tailB (sumB p) = u ++ [(w0 : Int), (w1 : Int), (w2 : Int), (w3 : Int)] ++ v)
    (h4 : a < 256 ∧ b < 256 ∧ c < 256 ∧ d < 256) (hn : ¬ (a = 0 ∧ b = 0 ∧ c = 0 ∧ d = 0)) :
    one (digs p.length ++ (u ++ [((w0 ^^^ a : Nat) : Int), ((w1 ^^^ b : Nat) : Int), ((w2 ^^^ c : Nat) : Int), ((w3 ^^^ d : Nat) : Int)] ++ v) ++ more) = none := by
  have hSb : Bytes (p ++ tailB (sumB p)) := hb.append (tailB_bytes _)
  have hSl : (p ++ tailB (sumB p)).length = p.length + 4 := by rw [List.length_append, tailB_len]
  obtain ⟨S, eS⟩ : ∃ S, S = u ++ [((w0 ^^^ a : Nat) : Int), ((w1 ^^^ b : Nat) : Int), ((w2 ^^^ c : Nat) : Int), ((w3 ^^^ d : Nat) : Int)] ++ v := ⟨_, rfl⟩
  rw [← eS]
  have hw : w0 < 256 ∧ w1 < 256 ∧ w2 < 256 ∧ w3 < 256 := by
    rw [hS] at hSb
    have q0 := hSb (w0 : Int) (by simp); have q1 := hSb (w1 : Int) (by simp); have q2 := hSb (w2 : Int) (by simp); have q3 := hSb (w3 : Int) (by simp)
    omega
  have hx : ∀ {x y : Nat}, x < 256 → y < 256 → x ^^^ y < 256 := fun hx hy => Nat.xor_lt_two_pow (n := 8) hx hy
  have hub : Bytes u := fun x hx => hSb x (by rw [hS]; simp [hx])
  have hvb : Bytes v := fun x hx => hSb x (by rw [hS]; simp [hx])
  have hSb' : Bytes S := by
    rw [eS]
    refine (hub.append ?_).append hvb
    intro x h
    have e0 := hx hw.1 h4.1; have e1 := hx hw.2.1 h4.2.1; have e2 := hx hw.2.2.1 h4.2.2.1; have e3 := hx hw.2.2.2 h4.2.2.2
    simp only [List.mem_cons, List.not_mem_nil, or_false] at h
    omega
  have hll : S.length = p.length + 4 := by
    rw [← hSl, hS, eS]; simp
  have hxor : xorB S (p ++ tailB (sumB p)) = List.replicate u.length 0 ++ [(a : Int), (b : Int), (c : Int), (d : Int)] ++ List.replicate v.length 0 := by
    rw [hS, eS, xorB_app _ _ _ _ (by simp), xorB_app _ _ _ _ rfl, xorB_self u hub, xorB_self v hvb]
    congr 2
    have e : ∀ x y : Nat, (x ^^^ y) ^^^ x = y := fun x y => by rw [Nat.xor_comm x y, Nat.xor_assoc, Nat.xor_self, Nat.xor_zero]
    simp [xorB, e]
  have hne := burst (by rw [hll, hSl]) hxor h4 hn 4294967295
  have hend := (sum_end (s := tailB (sumB p)) hb (tailB_bytes _) (tailB_len _)).2 rfl
  rw [hend] at hne
  have hg : getl (digs p.length ++ S ++ more) = ((p.length : Int), ((digs p.length).length : Int), 0) := by
    rw [List.append_assoc]; exact getl_digs (by omega) _
  have e1 : (digs p.length ++ S ++ more).drop (digs p.length).length = S ++ more := by rw [List.append_assoc, List.drop_left]
  unfold one
  rw [hg]
  simp only [Int.toNat_natCast]
  rw [if_neg (by rw [List.length_append, List.length_append, hll]; rintro (h | h | h) <;> omega), ← List.drop_drop, e1, List.take_append_of_le_length (by omega), List.drop_append_of_le_length (by omega), List.take_append_of_le_length (by rw [List.length_drop]; omega), List.take_of_length_le (l := S.drop p.length) (by rw [List.length_drop]; omega)]
  refine if_neg (fun h => hne ?_)
  have := (sum_end (p := S.take p.length) (s := S.drop p.length) (hSb'.take _) (hSb'.drop _) (by rw [List.length_drop]; omega)).2 h
  rwa [List.take_append_drop] at this
theorem j4_true (q : Nat) (l : List (List Int)) (a2 : Int) (l3 A : List Int) : winnowerlaw04_FrameMore.j4 (q + 1) l a2 l3 A true = some true := by rw [winnowerlaw04_FrameMore.j4, if_pos rfl]
theorem l2_round {pre post bs : List Int} {x : Int} {hd at_ j k : Nat} (hj : j < 4) (hbs : bs.length = 4) (hp : pre.length = hd + at_ + j) (hs : (pre ++ x :: post).length ≤ 1000000) :
    winnowerlaw04_FrameMore.l2 (k + 1) (at_ : Int) bs (pre ++ x :: post) (hd : Int) (j : Int) = winnowerlaw04_FrameMore.l2 k (at_ : Int) bs (pre ++ Go.bits .xor .u8 x (rd bs (j : Int)) :: post) (hd : Int) ((j + 1 : Nat) : Int) := by
  have hL : (pre ++ x :: post).length = pre.length + (post.length + 1) := by simp
  have e : wrap64 (wrap64 ((hd : Int) + (at_ : Int)) + (j : Int)) = ((pre.length : Nat) : Int) := by
    rw [wrap_id (x := (hd : Int) + (at_ : Int)) (by omega) (by omega), wrap_id (by omega) (by omega)]; omega
  have er : rd (pre ++ x :: post) ((pre.length : Nat) : Int) = x := by
    rw [rd, Int.toNat_natCast, List.getD_eq_getElem?_getD, List.getElem?_append_right (Nat.le_refl _), Nat.sub_self]; rfl
  have es : ∀ y : Int, (pre ++ x :: post).set pre.length y = pre ++ y :: post := fun y => by
    rw [List.set_append_right _ _ (Nat.le_refl _), Nat.sub_self]; rfl
  rw [winnowerlaw04_FrameMore.l2, if_pos (by omega), e, if_pos (by omega), if_pos (by omega), if_pos (by omega), if_pos (by omega), Int.toNat_natCast, er, es, wrap_id (x := (j : Int) + 1) (by omega) (by omega), show (j : Int) + 1 = ((j + 1 : Nat) : Int) from by omega]
theorem l2_end {X bs : List Int} {hd at_ k : Nat} (hX : Bytes X) (hs : X.length ≤ 1000000) (ho : one X = none) :
    winnowerlaw04_FrameMore.l2 (k + 1) (at_ : Int) bs X (hd : Int) ((4 : Nat) : Int) = some true := by
  rw [winnowerlaw04_FrameMore.l2, if_neg (by omega), read_tell hX hs, Option.bind_some, reads_none ho]
  simp only
  rw [if_pos (show ((([] : List (List Int)).length : Nat) : Int) = 0 from rfl)]
  rfl
theorem more_j4 {p : List Int} {t : List (List Int)} (hl : (p :: t).length ≤ 20) (h3 : ∀ x ∈ p :: t, x.length ≤ 300) (hb : ∀ x ∈ p :: t, Bytes x) {at_ : Nat} (hat : at_ ≤ p.length) {a b c d : Nat} (h4 : a < 256 ∧ b < 256 ∧ c < 256 ∧ d < 256) (hn : ¬ (a = 0 ∧ b = 0 ∧ c = 0 ∧ d = 0)) (q : Nat) :
    winnowerlaw04_FrameMore.j4 (q + 10) (p :: t) (at_ : Int) [(a : Int), (b : Int), (c : Int), (d : Int)] (cat (p :: t)) false = some true := by
  have hpb := hb p (by simp)
  have hp3 := h3 p (by simp)
  have hd := digs_le_ten (u := p.length) (by omega)
  have hcl := cat_len (p :: t) h3
  have hSl : (p ++ tailB (sumB p)).length = p.length + 4 := by rw [List.length_append, tailB_len]
  have hSb : Bytes (p ++ tailB (sumB p)) := hpb.append (tailB_bytes _)
  obtain ⟨u, hu⟩ : ∃ u, u = (p ++ tailB (sumB p)).take at_ := ⟨_, rfl⟩
  have hul : u.length = at_ := by rw [hu, List.length_take]; omega
  obtain ⟨w0, w1, w2, w3, v, hv⟩ : ∃ w0 w1 w2 w3 v, (p ++ tailB (sumB p)).drop at_ = w0 :: w1 :: w2 :: w3 :: v := by
    have hdl : ((p ++ tailB (sumB p)).drop at_).length = p.length + 4 - at_ := by rw [List.length_drop, hSl]
    match hm : (p ++ tailB (sumB p)).drop at_ with
    | w0 :: w1 :: w2 :: w3 :: v => exact ⟨w0, w1, w2, w3, v, rfl⟩
    | [] | [_] | [_, _] | [_, _, _] => rw [hm] at hdl; simp at hdl; omega
  have hdb : Bytes (w0 :: w1 :: w2 :: w3 :: v) := by rw [← hv]; exact hSb.drop _
  obtain ⟨w0, rfl⟩ := Int.eq_ofNat_of_zero_le (hdb w0 (by simp)).1
  obtain ⟨w1, rfl⟩ := Int.eq_ofNat_of_zero_le (hdb w1 (by simp)).1
  obtain ⟨w2, rfl⟩ := Int.eq_ofNat_of_zero_le (hdb w2 (by simp)).1
  obtain ⟨w3, rfl⟩ := Int.eq_ofNat_of_zero_le (hdb w3 (by simp)).1
  have q0 : w0 < 256 := by have := (hdb w0 (by simp)).2; omega
  have q1 : w1 < 256 := by have := (hdb w1 (by simp)).2; omega
  have q2 : w2 < 256 := by have := (hdb w2 (by simp)).2; omega
  have q3 : w3 < 256 := by have := (hdb w3 (by simp)).2; omega
  have hS : p ++ tailB (sumB p) = u ++ [(w0 : Int), (w1 : Int), (w2 : Int), (w3 : Int)] ++ v := by
    rw [List.append_assoc, hu]
    show _ = _ ++ (w0 : Int) :: (w1 : Int) :: (w2 : Int) :: (w3 : Int) :: v
    rw [← hv, List.take_append_drop]
  have hcat : cat (p :: t) = (digs p.length ++ u) ++ (w0 : Int) :: (w1 : Int) :: (w2 : Int) :: (w3 : Int) :: (v ++ cat t) := by
    rw [cat_cons, sealB, hS]; simp
  have hx : ∀ {x y : Nat}, x < 256 → y < 256 → x ^^^ y < 256 := fun hx hy => Nat.xor_lt_two_pow (n := 8) hx hy
  have e0 := hx q0 h4.1
  have e1 := hx q1 h4.2.1
  have e2 := hx q2 h4.2.2.1
  have e3 := hx q3 h4.2.2.2
  have hone := one_changed (more := cat t) hpb hp3 hS h4 hn
  have hXb : Bytes (digs p.length ++ (u ++ [((w0 ^^^ a : Nat) : Int), ((w1 ^^^ b : Nat) : Int), ((w2 ^^^ c : Nat) : Int), ((w3 ^^^ d : Nat) : Int)] ++ v) ++ cat t) := by
    refine ((digs_bytes _).append ((Bytes.append (by rw [hu]; exact hSb.take _) ?_).append (fun x h => hdb x (by simp [h])))).append (cat_bytes t (fun x h => hb x (by simp [h])))
    intro x h
    simp only [List.mem_cons, List.not_mem_nil, or_false] at h
    omega
  have hXl : (digs p.length ++ (u ++ [((w0 ^^^ a : Nat) : Int), ((w1 ^^^ b : Nat) : Int), ((w2 ^^^ c : Nat) : Int), ((w3 ^^^ d : Nat) : Int)] ++ v) ++ cat t).length = (cat (p :: t)).length := by
    rw [hcat]; simp
  have hfl : (cat (p :: t)).length = (digs p.length).length + (p.length + 4) + (cat t).length := by rw [cat_cons, List.length_append, sealB_len]; omega
  have hpre : (digs p.length ++ u).length = (digs p.length).length + at_ := by rw [List.length_append, hul]
  have hbig : (cat (p :: t)).length ≤ 1000000 := by omega
  rw [show q + 10 = (q + 9) + 1 from rfl, winnowerlaw04_FrameMore.j4, if_neg (by decide), if_pos (by simp only [List.length_cons]; omega), show rd_L1 (p :: t) 0 = p from rfl, winnowerref01_PutLen.tells (by omega), Option.bind_some,
    wrap_id (x := ((digs p.length).length : Int) + (at_ : Int)) (by omega) (by omega), wrap_id (x := ((digs p.length).length : Int) + (at_ : Int) + 4) (by omega) (by omega), if_neg (by omega), hcat]
  have r0 : rd [(a : Int), (b : Int), (c : Int), (d : Int)] ((0 : Nat) : Int) = (a : Int) := rfl
  have r1 : rd [(a : Int), (b : Int), (c : Int), (d : Int)] ((1 : Nat) : Int) = (b : Int) := rfl
  have r2 : rd [(a : Int), (b : Int), (c : Int), (d : Int)] ((2 : Nat) : Int) = (c : Int) := rfl
  have r3 : rd [(a : Int), (b : Int), (c : Int), (d : Int)] ((3 : Nat) : Int) = (d : Int) := rfl
  rw [hcat] at hbig hXl
  simp only [List.length_append, List.length_cons] at hbig
  have s0 := l2_round (k := q + 8) (bs := [(a : Int), (b : Int), (c : Int), (d : Int)]) (pre := digs p.length ++ u) (x := (w0 : Int)) (post := (w1 : Int) :: (w2 : Int) :: (w3 : Int) :: (v ++ cat t)) (hd := (digs p.length).length) (at_ := at_) (j := 0) (by omega) rfl (by omega) (by simp only [List.length_append, List.length_cons]; omega)
  rw [r0, u8_xor _ _ q0 h4.1] at s0
  have s1 := l2_round (k := q + 7) (bs := [(a : Int), (b : Int), (c : Int), (d : Int)]) (pre := digs p.length ++ u ++ [((w0 ^^^ a : Nat) : Int)]) (x := (w1 : Int)) (post := (w2 : Int) :: (w3 : Int) :: (v ++ cat t)) (hd := (digs p.length).length) (at_ := at_) (j := 1) (by omega) rfl (by rw [List.length_append, hpre]; rfl) (by simp only [List.length_append, List.length_cons, List.length_nil]; omega)
  rw [r1, u8_xor _ _ q1 h4.2.1, List.append_assoc _ [_], List.append_assoc _ [_]] at s1
  have s2 := l2_round (k := q + 6) (bs := [(a : Int), (b : Int), (c : Int), (d : Int)]) (pre := digs p.length ++ u ++ [((w0 ^^^ a : Nat) : Int), ((w1 ^^^ b : Nat) : Int)]) (x := (w2 : Int)) (post := (w3 : Int) :: (v ++ cat t)) (hd := (digs p.length).length) (at_ := at_) (j := 2) (by omega) rfl (by rw [List.length_append, hpre]; rfl) (by simp only [List.length_append, List.length_cons, List.length_nil]; omega)
  rw [r2, u8_xor _ _ q2 h4.2.2.1, List.append_assoc _ [_, _], List.append_assoc _ [_, _]] at s2
  have s3 := l2_round (k := q + 5) (bs := [(a : Int), (b : Int), (c : Int), (d : Int)]) (pre := digs p.length ++ u ++ [((w0 ^^^ a : Nat) : Int), ((w1 ^^^ b : Nat) : Int), ((w2 ^^^ c : Nat) : Int)]) (x := (w3 : Int)) (post := v ++ cat t) (hd := (digs p.length).length) (at_ := at_) (j := 3) (by omega) rfl (by rw [List.length_append, hpre]; rfl) (by simp only [List.length_append, List.length_cons, List.length_nil]; omega)
  rw [r3, u8_xor _ _ q3 h4.2.2.2, List.append_assoc _ [_, _, _], List.append_assoc _ [_, _, _]] at s3
  refine s0.trans (s1.trans (s2.trans (s3.trans ?_)))
  have hend := l2_end (bs := [(a : Int), (b : Int), (c : Int), (d : Int)]) (hd := (digs p.length).length) (at_ := at_) (k := q + 4) hXb (by rw [hXl]; simp only [List.length_append, List.length_cons]; omega) hone
  simp only [List.append_assoc, List.cons_append, List.nil_append] at hend ⊢
  exact hend
theorem more_j3 {l : List (List Int)} (hl : l.length ≤ 20) (h3 : ∀ x ∈ l, x.length ≤ 300) (hb : ∀ x ∈ l, Bytes x) (a2 : Int) {a b c d : Nat} (h4 : a < 256 ∧ b < 256 ∧ c < 256 ∧ d < 256) (q : Nat) :
    winnowerlaw04_FrameMore.j3 (q + 50) l a2 ((a : Int) == 0 && (b : Int) == 0 && (c : Int) == 0 && (d : Int) == 0) [(a : Int), (b : Int), (c : Int), (d : Int)] (cat l) false = some true := by
  rw [show q + 50 = (q + 49) + 1 from rfl, winnowerlaw04_FrameMore.j3, if_neg (by decide)]
  cases l with
  | nil => rw [if_pos (show ((([] : List (List Int)).length : Nat) : Int) = 0 from rfl)]; exact j4_true (q + 48) _ _ _ _
  | cons p t =>
    rw [if_neg (by simp only [List.length_cons]; omega)]
    by_cases h0 : a2 < 0
    · rw [if_pos h0]; exact j4_true (q + 48) _ _ _ _
    · obtain ⟨m, rfl⟩ := Int.eq_ofNat_of_zero_le (show 0 ≤ a2 by omega)
      rw [if_neg h0, if_pos (by simp only [List.length_cons]; omega), show rd_L1 (p :: t) 0 = p from rfl]
      by_cases h1 : (m : Int) > (p.length : Int)
      · rw [if_pos h1]; exact j4_true (q + 48) _ _ _ _
      · rw [if_neg h1]
        by_cases hz : a = 0 ∧ b = 0 ∧ c = 0 ∧ d = 0
        · obtain ⟨rfl, rfl, rfl, rfl⟩ := hz
          exact j4_true (q + 48) _ _ _ _
        · have e : ((a : Int) == 0 && (b : Int) == 0 && (c : Int) == 0 && (d : Int) == 0) = false := by
            rw [Bool.eq_false_iff]
            intro h
            simp only [Bool.and_eq_true, beq_iff_eq] at h
            exact hz (by omega)
          rw [e]
          exact more_j4 hl h3 hb (by omega) h4 hz (q + 39)
theorem more (l m : List (List Int)) (a2 : Int) {a b c d : Nat} (h4 : a < 256 ∧ b < 256 ∧ c < 256 ∧ d < 256) (hb : ∀ x ∈ l, Bytes x) (gb : ∀ x ∈ m, Bytes x) :
    ∃ k, winnowerlaw04_FrameMore.f k l m a2 [(a : Int), (b : Int), (c : Int), (d : Int)] ((a : Int) == 0 && (b : Int) == 0 && (c : Int) == 0 && (d : Int) == 0) (l ++ m) = some true := by
  refine ⟨1000 + 1, ?_⟩
  obtain ⟨x, hf, hfew⟩ := few_tell l (k := 1000 + 1) (by omega)
  obtain ⟨y, gf, gfew⟩ := few_tell m (k := 1000 + 1) (by omega)
  unfold winnowerlaw04_FrameMore.f
  rw [awake04 (by omega), Option.bind_some, hf, Option.bind_some, gf, Option.bind_some, if_pos rfl]
  cases x with
  | false => rw [if_neg Bool.false_ne_true, winnowerlaw04_FrameMore.j0, if_pos rfl]
  | true =>
    obtain ⟨hl, h3⟩ := hfew rfl
    rw [if_pos rfl]
    cases y with
    | false => rw [winnowerlaw04_FrameMore.j0]; rfl
    | true =>
      obtain ⟨hm, g3⟩ := gfew rfl
      rw [winnowerlaw04_FrameMore.j0, if_neg (by decide)]
      have s0 := more_go0 hl h3 hb m a2 ((a : Int) == 0 && (b : Int) == 0 && (c : Int) == 0 && (d : Int) == 0) (l ++ m) [(a : Int), (b : Int), (c : Int), (d : Int)] (999 - l.length) l.length 0 (by omega)
      rw [List.take_zero, show l.length + (999 - l.length) + 1 = 1000 from by omega] at s0
      have s1 := more_go1 hl hm h3 g3 hb gb a2 ((a : Int) == 0 && (b : Int) == 0 && (c : Int) == 0 && (d : Int) == 0) [(a : Int), (b : Int), (c : Int), (d : Int)] (999 - l.length - m.length - 51) m.length 0 (by omega)
      rw [List.take_zero, show m.length + (999 - l.length - m.length - 51 + 50) + 1 = 999 - l.length from by omega] at s1
      exact s0.trans (s1.trans (more_j3 hl h3 hb a2 h4 _))
theorem FrameMore.call (A0 : Option Addr) (c0 : Nat) (l0 : List (List Int)) (A1 : Option Addr) (c1 : Nat) (l1 : List (List Int)) (a2 : Int) (b0 b1 b2 b3 : Int) (w : World) (hr0 : Kd.C (Kd.slice 5 (Kd.int .u8)) w A0 l0.length l0) (hc0 : l0.length ≤ c0) (hr1 : Kd.C (Kd.slice 5 (Kd.int .u8)) w A1 l1.length l1) (hc1 : l1.length ≤ c1) (hb : ∀ p ∈ l0, Bytes p) (gb : ∀ p ∈ l1, Bytes p) (h4 : Bytes [b0, b1, b2, b3]) :
    Calls Try.prog 6 #[.slice A0 l0.length c0, .slice A1 l1.length c1, .int .i64 a2, .agg #[.int .u8 b0, .int .u8 b1, .int .u8 b2, .int .u8 b3]] w fun e w' => e = .returned (.bool true) ∧ Below w.heap.size w w' := by
  obtain ⟨a, rfl⟩ := Int.eq_ofNat_of_zero_le (h4 b0 (by simp)).1
  obtain ⟨b, rfl⟩ := Int.eq_ofNat_of_zero_le (h4 b1 (by simp)).1
  obtain ⟨c, rfl⟩ := Int.eq_ofNat_of_zero_le (h4 b2 (by simp)).1
  obtain ⟨d, rfl⟩ := Int.eq_ofNat_of_zero_le (h4 b3 (by simp)).1
  have qa : a < 256 := by have := (h4 a (by simp)).2; omega
  have qb : b < 256 := by have := (h4 b (by simp)).2; omega
  have qc : c < 256 := by have := (h4 c (by simp)).2; omega
  have qd : d < 256 := by have := (h4 d (by simp)).2; omega
  obtain ⟨k, hk⟩ := more l0 l1 a2 (a := a) (b := b) (c := c) (d := d) (by omega) hb gb
  exact winnowerlaw04_FrameMore.calls k A0 c0 l0 A1 c1 l1 a2 a b c d _ _ _ true w hr0 hc0 hr1 hc1 rfl rfl rfl rfl hk
/-- An argument that is an array. -/
theorem arrayArg {P : Program} {w : World} {t e : TypeId} {α : Type} {d : Kd α} {ok : α → Prop} (h : Opens P w t d ok) {n : Nat} (ht : P.underlying t = some (.array n e)) {r : Reach} {b0 : Nat} {H : Type} {enc : TypeId × Value → H} {v : Value} {x : DataW H} {p : List MemPlace} (hv : Value.okWide P w r b0 t v) (hx : DataW.Trod enc P w 0 (fun _ => true) true t v x p) :
    ∃ (a : α) (cs : List Value), v = .agg cs.toArray ∧ d.K w a cs ∧ ok a := by
  simp only [Value.okWide, ht] at hv
  obtain ⟨cs, rfl, _⟩ := hv
  obtain ⟨a, ha, oa⟩ := h.arg hx
  exact ⟨a, cs.toList, by simp, ha, oa⟩
theorem four_of {w : World} {hs : 0 < (Kd.int .u8).sz} {xs : List Int} {cs : List Value} (h : (Kd.arr 4 (Kd.int .u8) hs).K w xs cs) : ∃ b0 b1 b2 b3, xs = [b0, b1, b2, b3] ∧ cs = [.int .u8 b0, .int .u8 b1, .int .u8 b2, .int .u8 b3] := by
  obtain ⟨hl, hc, hp⟩ := h
  obtain ⟨b0, b1, b2, b3, rfl⟩ : ∃ b0 b1 b2 b3, xs = [b0, b1, b2, b3] := by
    match xs, hl with
    | [b0, b1, b2, b3], _ => exact ⟨b0, b1, b2, b3, rfl⟩
  have hc4 : cs.length = 4 := hc
  obtain ⟨c0, c1, c2, c3, rfl⟩ : ∃ c0 c1 c2 c3, cs = [c0, c1, c2, c3] := by
    match cs, hc4 with
    | [c0, c1, c2, c3], _ => exact ⟨c0, c1, c2, c3, rfl⟩
  have e0 : [c0] = [Value.int .u8 b0] := hp 0 b0 rfl
  have e1 : [c1] = [Value.int .u8 b1] := hp 1 b1 rfl
  have e2 : [c2] = [Value.int .u8 b2] := hp 2 b2 rfl
  have e3 : [c3] = [Value.int .u8 b3] := hp 3 b3 rfl
  injection e0 with e0; injection e1 with e1; injection e2 with e2; injection e3 with e3
  exact ⟨b0, b1, b2, b3, rfl, by rw [e0, e1, e2, e3]⟩
theorem FrameMore.call_ (A0 : Option Addr) (c0 : Nat) (l0 : List (List Int)) (A1 : Option Addr) (c1 : Nat) (l1 : List (List Int)) (a2 : Int) (xs : List Int) (cs : List Value) (w : World) {hs : 0 < (Kd.int .u8).sz} (hr0 : Kd.C (Kd.slice 5 (Kd.int .u8)) w A0 l0.length l0) (hc0 : l0.length ≤ c0) (hr1 : Kd.C (Kd.slice 5 (Kd.int .u8)) w A1 l1.length l1) (hc1 : l1.length ≤ c1) (hb : ∀ p ∈ l0, Bytes p) (gb : ∀ p ∈ l1, Bytes p) (hk : (Kd.arr 4 (Kd.int .u8) hs).K w xs cs) (h4 : Bytes xs) :
    Calls Try.prog 6 #[.slice A0 l0.length c0, .slice A1 l1.length c1, .int .i64 a2, .agg cs.toArray] w fun e w' => e = .returned (.bool true) ∧ Below w.heap.size w w' := by
  obtain ⟨b0, b1, b2, b3, rfl, rfl⟩ := four_of hk
  exact FrameMore.call A0 c0 l0 A1 c1 l1 a2 b0 b1 b2 b3 w hr0 hc0 hr1 hc1 hb gb h4

end Go.Proofs.Ytafljcblglielaa.M
