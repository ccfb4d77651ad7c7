/- Statement FrameSums: sums of bytes of one length differ as their differences do; no condition. -/
import Derived.Test.YtafljcblglielaaQx17
import Derived.Test.YtafljcblglielaaHcrc
import Derived.Test.YtafljcblglielaaHframe04
namespace Go.Proofs.Ytafljcblglielaa.Pure
set_option linter.unusedVariables false
set_option linter.unusedSimpArgs false
open Go.RowKit Go.Proofs.Ytafljcblglielaa.Q Go.Proofs.Ytafljcblglielaa.Hnum Go.Proofs.Ytafljcblglielaa.Hcrc Go.Proofs.YtafljcblglielaaW.PrintWords Go.Proofs.YtafljcblglielaaW.PrintLast
theorem i64_xor (a b : Nat) (ha : a < 4294967296) (hb : b < 4294967296) : Go.bits .xor .i64 (a : Int) (b : Int) = ((a ^^^ b : Nat) : Int) := by
  have h : a ^^^ b < 2 ^ 32 := Nat.xor_lt_two_pow (by omega) (by omega)
  show IntKind.i64.wrap (((BitVec.ofInt 64 (a : Int) ^^^ BitVec.ofInt 64 (b : Int)).toNat : Nat) : Int) = _
  simp only [BitVec.ofInt_natCast, BitVec.toNat_xor, BitVec.toNat_ofNat]
  rw [Nat.mod_eq_of_lt (by omega), Nat.mod_eq_of_lt (by omega), IntKind.wrap_i64]
  omega
theorem xorB_noughts : ∀ (c : List Int), Bytes c → xorB c (List.replicate c.length 0) = c
  | [], _ => rfl
  | a :: t, h => by
    obtain ⟨n, rfl⟩ := Int.eq_ofNat_of_zero_le (h a (List.mem_cons_self ..)).1
    rw [List.length_cons, List.replicate_succ, xorB, xorB_noughts t (fun x hx => h x (List.mem_cons_of_mem _ hx))]
    simp
theorem four (a b : List Int) (h : a.length = b.length) (ha : Bytes a) (hb : Bytes b) : ((sumB a ^^^ sumB b) ^^^ sumB (xorB a b)) ^^^ sumB (List.replicate a.length 0) = 0 := by
  have hl := xorB_len a b h
  have e1 := crcN_xor a b 4294967295 4294967295 h
  have e2 := crcN_xor (xorB a b) (List.replicate a.length 0) 4294967295 4294967295 (by rw [hl, List.length_replicate])
  rw [← hl, xorB_noughts _ (xorB_bytes a b ha hb), hl, Nat.xor_self] at e2
  rw [Nat.xor_self] at e1
  unfold sumB
  generalize crcN 4294967295 a = x at *
  generalize crcN 4294967295 b = y at *
  generalize crcN 4294967295 (xorB a b) = z at *
  generalize crcN 4294967295 (List.replicate a.length 0) = u at *
  generalize (4294967295 : Nat) = f
  have e : x ^^^ y = z ^^^ u := e1.symm.trans e2
  have e3 : (x ^^^ f) ^^^ (y ^^^ f) = x ^^^ y := by rw [Nat.xor_assoc, Nat.xor_comm y f, ← Nat.xor_assoc f, Nat.xor_self, Nat.zero_xor]
  have e4 : (z ^^^ f) ^^^ (u ^^^ f) = z ^^^ u := by rw [Nat.xor_assoc, Nat.xor_comm u f, ← Nat.xor_assoc f, Nat.xor_self, Nat.zero_xor]
  rw [Nat.xor_assoc, e3, e4, e, Nat.xor_self]
theorem sums_go {a b : List Int} (h : a.length = b.length) (ha : Bytes a) (hb : Bytes b) (hl : a.length ≤ 600) (q : Nat) : ∀ (d i : Nat), i + d = a.length →
    winnowerlaw04_FrameSums.l0 (d + q + 1) a b (xorB (a.take i) (b.take i) ++ List.replicate d 0) (i : Int) = some true := by
  intro d
  induction d with
  | zero =>
    intro i hi
    have hn : Bytes (List.replicate a.length (0 : Int)) := fun x hx => by rw [(List.mem_replicate.1 hx).2]; omega
    rw [List.take_of_length_le (by omega), List.take_of_length_le (by omega), List.replicate_zero, List.append_nil]
    rw [winnowerlaw04_FrameSums.l0, if_neg (by omega), sum_tell ha (by omega), Option.bind_some, sum_tell hb (by omega), Option.bind_some, sum_tell (xorB_bytes a b ha hb) (by rw [xorB_len a b h]; omega), Option.bind_some, if_pos (by omega), Int.toNat_natCast, if_pos (by omega), sum_tell hn (by rw [List.length_replicate]; omega), Option.bind_some]
    have l1 := sumB_lt ha
    have l2 := sumB_lt hb
    have l3 := sumB_lt (xorB_bytes a b ha hb)
    have l4 := sumB_lt hn
    rw [i64_xor _ _ l1 l2, i64_xor _ _ (Nat.xor_lt_two_pow (n := 32) l1 l2) l3, i64_xor _ _ (Nat.xor_lt_two_pow (n := 32) (Nat.xor_lt_two_pow (n := 32) l1 l2) l3) l4, four a b h ha hb]
    rfl
  | succ d ih =>
    intro i hi
    have hlt : i < a.length := by omega
    have hlt' : i < b.length := by omega
    have ra : rd a (i : Int) = a[i] := by rw [rd, Int.toNat_natCast, List.getD_eq_getElem?_getD, List.getElem?_eq_getElem hlt]; rfl
    have rb : rd b (i : Int) = b[i] := by rw [rd, Int.toNat_natCast, List.getD_eq_getElem?_getD, List.getElem?_eq_getElem hlt']; rfl
    have hxl : (xorB (a.take i) (b.take i)).length = i := by rw [xorB_len _ _ (by rw [List.length_take, List.length_take]; omega), List.length_take]; omega
    obtain ⟨m, hm⟩ := Int.eq_ofNat_of_zero_le (ha _ (List.getElem_mem hlt)).1
    obtain ⟨n, hn⟩ := Int.eq_ofNat_of_zero_le (hb _ (List.getElem_mem hlt')).1
    have hm2 := (ha _ (List.getElem_mem hlt)).2
    have hn2 := (hb _ (List.getElem_mem hlt')).2
    have hx : ∀ (s t : List Int) (x y : Int), s.length = t.length → xorB (s ++ [x]) (t ++ [y]) = xorB s t ++ [((x.toNat ^^^ y.toNat : Nat) : Int)] := by
      intro s
      induction s with
      | nil => intro t x y he; obtain rfl : t = [] := List.length_eq_zero_iff.1 he.symm; rfl
      | cons c s ihs =>
        intro t x y he
        cases t with
        | nil => cases he
        | cons e t => rw [List.cons_append, List.cons_append, xorB, ihs t x y (by simpa using he)]; rfl
    have e : (xorB (a.take i) (b.take i) ++ List.replicate (d + 1) 0).set i (Go.bits .xor .u8 a[i] b[i]) = xorB (a.take (i + 1)) (b.take (i + 1)) ++ List.replicate d 0 := by
      rw [List.take_succ_eq_append_getElem hlt, List.take_succ_eq_append_getElem hlt', hx _ _ _ _ (by rw [List.length_take, List.length_take]; omega), List.set_append_right _ _ (by omega), hxl, Nat.sub_self, List.replicate_succ, List.set_cons_zero, hm, hn, Go.Proofs.Ytafljcblglielaa.Q.u8_xor m n (by omega) (by omega), List.append_assoc, Int.toNat_natCast, Int.toNat_natCast]
      rfl
    rw [show d + 1 + q + 1 = (d + q + 1) + 1 from by omega, winnowerlaw04_FrameSums.l0, if_pos (by omega), if_pos (by omega), if_pos (by omega), if_pos (by rw [List.length_append, hxl, List.length_replicate]; omega), ra, rb, Int.toNat_natCast, e, wrap_id (x := (i : Int) + 1) (by omega) (by omega), show (i : Int) + 1 = ((i + 1 : Nat) : Int) from by omega, ih (i + 1) (by omega)]
theorem FrameSums : winnowerlaw04_FrameSums.Pure := by
  intro a b _ _ ha _ _ hb
  have ha := Bytes.of_wf ha
  have hb := Bytes.of_wf hb
  refine ⟨a.length + 100 + 2, ?_⟩
  unfold winnowerlaw04_FrameSums.f
  rw [awake04 (by omega), Option.bind_some, if_pos rfl]
  by_cases hl : (a.length : Int) > 600
  · rw [if_pos hl, winnowerlaw04_FrameSums.j0, if_pos rfl]
  · rw [if_neg hl, winnowerlaw04_FrameSums.j0]
    by_cases h : a.length = b.length
    · rw [show ((a.length : Int) != (b.length : Int)) = false from by rw [h]; simp, if_neg Bool.false_ne_true, if_pos (by omega), Int.toNat_natCast, if_pos (by omega)]
      have hh := sums_go h ha hb (by omega) 100 a.length 0 (by omega)
      exact hh
    · rw [show ((a.length : Int) != (b.length : Int)) = true from bne_iff_ne.2 (by omega), if_pos rfl]
end Go.Proofs.Ytafljcblglielaa.Pure
