/- The machine side of laws, written by wip/tools/myprint.py (the printer's way, with functions proved by hand put in); Lean checks it. -/
import Derived.Test.YteefchdfdgfaaaaDoorJ0
import Derived.Test.YteefchdfdgfaaaaDoorJ1
import Derived.Test.YteefchdfdgfaaaaDoorQx23
import Derived.Deep.RegionLaw
import Derived.Test.YteefchdfdgfaaaaDoorQx18
namespace Go.Proofs.YteefchdfdgfaaaaDoor.Q
open Go.RowKit Go.Proofs.YteefchdfdgfaaaaDoorW.PrintWords Go.Proofs.YteefchdfdgfaaaaDoorW.PrintLast Go.Proofs.YteefchdfdgfaaaaDoorW.PrintMore
attribute [local go_sem] max2_int min2_int max_two min_two max_three min_three max_four min_four   -- for this text's walks alone
set_option linter.unusedVariables false
set_option linter.unusedSimpArgs false

-- BY HAND: Derived.Test.YteefchdfdgfaaaaDoorHnum
/-! ### winnowerref01_digits: function 52 -/
-- HAND winnower/winnowerref01.digits over
-- IMPORT Derived.Test.YteefchdfdgfaaaaDoorHnum
open Go.Proofs.YteefchdfdgfaaaaDoor.Hnum
theorem winnowerref01_digits.tell (m : Nat) : ∀ (h o kq : Nat), h ≤ m → h ≤ 9223372036854775807 → o ≤ 1 → h < kq → winnowerref01_digits_p.f kq (h : Int) (o : Int) = some (digs (2 * h + o)) := by
  induction m with
  | zero =>
    intro h o kq hm hh ho hq
    obtain ⟨q, rfl⟩ : ∃ m, kq = m + 1 := ⟨kq - 1, by omega⟩
    simp only [winnowerref01_digits_p.f]
    rw [if_pos (by omega), digs_last (by omega), wrap_id (x := 2 * (h : Int)) (by omega) (by omega), wrap_id (by omega) (by omega), show (2 * (h : Int) + (o : Int)) % 256 = ((2 * h + o : Nat) : Int) from by omega]
  | succ m ih =>
    intro h o kq hm hh ho hq
    obtain ⟨q, rfl⟩ : ∃ m, kq = m + 1 := ⟨kq - 1, by omega⟩
    simp only [winnowerref01_digits_p.f]
    by_cases h64 : h < 64
    · rw [if_pos (by omega), digs_last (by omega), wrap_id (x := 2 * (h : Int)) (by omega) (by omega), wrap_id (by omega) (by omega), show (2 * (h : Int) + (o : Int)) % 256 = ((2 * h + o : Nat) : Int) from by omega]
    · rw [if_neg (by omega)]
      have e1 : wrap64 (Int.tdiv (h : Int) 64) = ((h / 64 : Nat) : Int) := by rw [Int.tdiv_eq_ediv_of_nonneg (by omega)]; unfold wrap64; omega
      have e2 : wrap64 (Int.tdiv ((h / 64 : Nat) : Int) 2) = ((h / 64 / 2 : Nat) : Int) := by rw [Int.tdiv_eq_ediv_of_nonneg (by omega)]; unfold wrap64; omega
      have e3 : Int.tmod ((h / 64 : Nat) : Int) 2 = ((h / 64 % 2 : Nat) : Int) := by rw [Int.tmod_eq_emod_of_nonneg (by omega)]; omega
      have e4 : Int.tmod (h : Int) 64 = ((h % 64 : Nat) : Int) := by rw [Int.tmod_eq_emod_of_nonneg (by omega)]; omega
      rw [e1, e2, e3, e4, ih (h / 64 / 2) (h / 64 % 2) q (by omega) (by omega) (by omega) (by omega), Option.bind_some, Option.bind_some]
      have hl := digs_le_ten (u := 2 * (h / 64 / 2) + h / 64 % 2) (by omega)
      rw [if_pos (by simp only [List.length_singleton]; omega), digs_more (u := 2 * h + o) (by omega)]
      rw [List.singleton_append]
      have e5 : (wrap64 ((wrap64 ((wrap64 (2 * ((h % 64 : Nat) : Int))) + (o : Int))) + 128)) % 256 = (((2 * h + o) % 128 + 128 : Nat) : Int) := by
        rw [wrap_id (x := 2 * ((h % 64 : Nat) : Int)) (by omega) (by omega), wrap_id (x := 2 * ((h % 64 : Nat) : Int) + (o : Int)) (by omega) (by omega), wrap_id (by omega) (by omega)]
        exact half_byte h o ho
      rw [e5, half_digit h o ho]
def winnowerref01_digits.f (a0 a1 : Int) : Option (List Int) := if 0 ≤ a0 ∧ a0 ≤ 9223372036854775807 ∧ 0 ≤ a1 ∧ a1 ≤ 1 then some (digs (2 * a0 + a1).toNat) else none
theorem winnowerref01_digits.calls (a0 : Int) (a1 : Int) (r : List Int) (w : World) (h : winnowerref01_digits.f a0 a1 = some r) :
    Calls Tryd.prog 52 #[.int .i64 a0, .int .i64 a1] w fun e w' => ∃ v0_ : Value, e = .returned (v0_) ∧ Kd.R (Kd.int .u8) 5 w' w.heap.size (fun _ => True) v0_ r ∧ Below w.heap.size w w' := by
  unfold winnowerref01_digits.f at h
  by_cases hc : 0 ≤ a0 ∧ a0 ≤ 9223372036854775807 ∧ 0 ≤ a1 ∧ a1 ≤ 1
  · rw [if_pos hc] at h
    obtain ⟨h0, h1, h2, h3⟩ := hc
    obtain ⟨u, rfl⟩ := Int.eq_ofNat_of_zero_le h0
    obtain ⟨o, rfl⟩ := Int.eq_ofNat_of_zero_le h2
    refine winnowerref01_digits_p.calls (u + 1) u o r w ?_
    rw [← h, winnowerref01_digits.tell u u o (u + 1) (by omega) (by omega) (by omega) (by omega), show (2 * (u : Int) + (o : Int)).toNat = 2 * u + o from by omega]
  · rw [if_neg hc] at h; cases h

end Go.Proofs.YteefchdfdgfaaaaDoor.Q
namespace Go.Proofs.YteefchdfdgfaaaaDoor.Q
open Go.RowKit Go.Proofs.YteefchdfdgfaaaaDoorW.PrintWords Go.Proofs.YteefchdfdgfaaaaDoorW.PrintLast Go.Proofs.YteefchdfdgfaaaaDoorW.PrintMore
attribute [local go_sem] max2_int min2_int max_two min_two max_three min_three max_four min_four   -- for this text's walks alone
set_option linter.unusedVariables false
set_option linter.unusedSimpArgs false

/-! ### winnowerref01_Put: function 41 -/
def winnowerref01_Put.f (a0 : Int) : Option (List Int) := if a0 < 0 then ((winnowerref01_digits.f (wrap64 (-(wrap64 (a0 + 1)))) 1).bind fun t263 => (some t263)) else ((winnowerref01_digits.f a0 0).bind fun t266 => (some t266))
set_option maxHeartbeats 8000000 in
set_option maxRecDepth 100000 in
theorem winnowerref01_Put.calls (a0 : Int) (r : List Int) (w : World) (h : winnowerref01_Put.f a0 = some r) :
    Calls Tryd.prog 41 #[.int .i64 a0] w fun e w' => ∃ v0_ : Value, e = .returned (v0_) ∧ Kd.R (Kd.int .u8) 5 w' w.heap.size (fun _ => True) v0_ r ∧ Below w.heap.size w w' := by
  have HB := z05.mk (Below.refl w.heap.size w)
  have H : (if a0 < 0 then ((winnowerref01_digits.f (wrap64 (-(wrap64 (a0 + 1)))) 1).bind fun t263 => (some t263)) else ((winnowerref01_digits.f a0 0).bind fun t266 => (some t266))) = some r := h
  clear h
  by_cases c2 : a0 < 0
  · rw [if_pos c2] at H
    have c2b0 : decide (a0 < 0) = true := decide_eq_true c2
    clear c2
    replace H := Option.bind_eq_some_iff.mp H
    obtain ⟨t263, A30, H⟩ := H
    replace H : (some t263) = some r := H
    have A3 := z05.mk A30
    clear A30
    obtain rfl := Option.some.inj H
    go_enter Tryd.func41, Tryd.ntmps41
    go_wp2_with (first | ((with_reducible refine gate_callee (f := 52) rfl ?_); refine goesL_ (some 8) rfl rfl Tryd.func52 (by kernel_rfl) rfl #[.int .i64 (wrap64 (-(wrap64 (a0 + 1)))), .int .i64 1] rfl (by (try simp only [List.map_toArray, List.map_cons, List.map_nil]); first | done | rfl | (simp only [List.length_drop, List.length_take]; rfl)) ?_; (with_reducible refine (winnowerref01_digits.calls (wrap64 (-(wrap64 (a0 + 1)))) 1 t263 _ A3.out).mono ?_); rintro e w4 ⟨v264, rfl, ho0, hb⟩; refine ⟨_, rfl, ?_⟩; have n0_ := z05.mk (Kd.R_lower ho0 (z0b (by repeat (first | (with_reducible first | exact HB.out | apply z03 | apply z00 | apply z04) | exact HB.out)))); have n1_ := z05.mk (z0a (by repeat (first | (with_reducible first | exact HB.out | apply z03 | apply z00 | apply z04) | exact HB.out)) hb); clear HB; have HO265 := n0_; have HB := n1_; clear n0_ n1_; (try clear hb); (try clear hb2); (try clear hk); (try clear hi); (try clear ho0)))
    go_ret
    exact ⟨_, by first | rfl | (simp [z0e, z0d] <;> rfl) | (refine congrArg (fun b_ : Bool => Ending.returned (Value.bool b_)) ?_; simp; done) | (simp [*, z0e, z0d] <;> rfl), by (with_reducible repeat (first | apply Kd.R_alloc | apply Kd.R_drewN | apply Kd.R_drew)); exact HO265.out, by repeat (first | (with_reducible first | exact HB.out | apply z03 | apply z00 | apply z04) | exact HB.out)⟩
  · rw [if_neg c2] at H
    have c2b0 : decide (a0 < 0) = false := decide_eq_false c2
    clear c2
    replace H := Option.bind_eq_some_iff.mp H
    obtain ⟨t266, A50, H⟩ := H
    replace H : (some t266) = some r := H
    have A5 := z05.mk A50
    clear A50
    obtain rfl := Option.some.inj H
    go_enter Tryd.func41, Tryd.ntmps41
    go_wp2_with (first | ((with_reducible refine gate_callee (f := 52) rfl ?_); refine goesL_ (some 10) rfl rfl Tryd.func52 (by kernel_rfl) rfl #[.int .i64 a0, .int .i64 0] rfl (by (try simp only [List.map_toArray, List.map_cons, List.map_nil]); first | done | rfl | (simp only [List.length_drop, List.length_take]; rfl)) ?_; (with_reducible refine (winnowerref01_digits.calls a0 0 t266 _ A5.out).mono ?_); rintro e w6 ⟨v267, rfl, ho0, hb⟩; refine ⟨_, rfl, ?_⟩; have n0_ := z05.mk (Kd.R_lower ho0 (z0b (by repeat (first | (with_reducible first | exact HB.out | apply z03 | apply z00 | apply z04) | exact HB.out)))); have n1_ := z05.mk (z0a (by repeat (first | (with_reducible first | exact HB.out | apply z03 | apply z00 | apply z04) | exact HB.out)) hb); clear HB; have HO268 := n0_; have HB := n1_; clear n0_ n1_; (try clear hb); (try clear hb2); (try clear hk); (try clear hi); (try clear ho0)))
    go_ret
    exact ⟨_, by first | rfl | (simp [z0e, z0d] <;> rfl) | (refine congrArg (fun b_ : Bool => Ending.returned (Value.bool b_)) ?_; simp; done) | (simp [*, z0e, z0d] <;> rfl), by (with_reducible repeat (first | apply Kd.R_alloc | apply Kd.R_drewN | apply Kd.R_drew)); exact HO268.out, by repeat (first | (with_reducible first | exact HB.out | apply z03 | apply z00 | apply z04) | exact HB.out)⟩

/-! ### winnowerref01_PutLen: function 42 -/
def winnowerref01_PutLen.f (a0 : Int) : Option (List Int) := if a0 < 0 then (some ([] : List Int)) else ((winnowerref01_digits.f (wrap64 (Int.tdiv a0 2)) (Int.tmod a0 2)).bind fun t269 => (some t269))
set_option maxHeartbeats 8000000 in
set_option maxRecDepth 100000 in
theorem winnowerref01_PutLen.calls (a0 : Int) (r : List Int) (w : World) (h : winnowerref01_PutLen.f a0 = some r) :
    Calls Tryd.prog 42 #[.int .i64 a0] w fun e w' => ∃ v0_ : Value, e = .returned (v0_) ∧ Kd.R (Kd.int .u8) 5 w' w.heap.size (fun _ => True) v0_ r ∧ Below w.heap.size w w' := by
  have HB := z05.mk (Below.refl w.heap.size w)
  have H : (if a0 < 0 then (some ([] : List Int)) else ((winnowerref01_digits.f (wrap64 (Int.tdiv a0 2)) (Int.tmod a0 2)).bind fun t269 => (some t269))) = some r := h
  clear h
  by_cases c2 : a0 < 0
  · rw [if_pos c2] at H
    have c2b0 : decide (a0 < 0) = true := decide_eq_true c2
    clear c2
    obtain rfl := Option.some.inj H
    go_enter Tryd.func42, Tryd.ntmps42
    go_wp2
    go_ret
    exact ⟨_, by first | rfl | (simp [z0e, z0d] <;> rfl) | (refine congrArg (fun b_ : Bool => Ending.returned (Value.bool b_)) ?_; simp; done) | (simp [*, z0e, z0d] <;> rfl), by first | exact Kd.R_nil _ _ _ _ _ | exact Kd.N_nil _ _ _ _ _ | exact Kd.V_nil _ _ _ _ _ | exact Kd.Q_nil _ _ _ _ _ | exact Kd.S_nil _ _ _ _ _, by repeat (first | (with_reducible first | exact HB.out | apply z03 | apply z00 | apply z04) | exact HB.out)⟩
  · rw [if_neg c2] at H
    have c2b0 : decide (a0 < 0) = false := decide_eq_false c2
    clear c2
    replace H := Option.bind_eq_some_iff.mp H
    obtain ⟨t269, A30, H⟩ := H
    replace H : (some t269) = some r := H
    have A3 := z05.mk A30
    clear A30
    obtain rfl := Option.some.inj H
    go_enter Tryd.func42, Tryd.ntmps42
    go_wp2_with (first | ((with_reducible refine gate_callee (f := 52) rfl ?_); refine goesL_ (some 9) rfl rfl Tryd.func52 (by kernel_rfl) rfl #[.int .i64 (wrap64 (Int.tdiv a0 2)), .int .i64 (Int.tmod a0 2)] rfl (by (try simp only [List.map_toArray, List.map_cons, List.map_nil]); first | done | rfl | (simp only [List.length_drop, List.length_take]; rfl)) ?_; (with_reducible refine (winnowerref01_digits.calls (wrap64 (Int.tdiv a0 2)) (Int.tmod a0 2) t269 _ A3.out).mono ?_); rintro e w4 ⟨v270, rfl, ho0, hb⟩; refine ⟨_, rfl, ?_⟩; have n0_ := z05.mk (Kd.R_lower ho0 (z0b (by repeat (first | (with_reducible first | exact HB.out | apply z03 | apply z00 | apply z04) | exact HB.out)))); have n1_ := z05.mk (z0a (by repeat (first | (with_reducible first | exact HB.out | apply z03 | apply z00 | apply z04) | exact HB.out)) hb); clear HB; have HO271 := n0_; have HB := n1_; clear n0_ n1_; (try clear hb); (try clear hb2); (try clear hk); (try clear hi); (try clear ho0)))
    go_ret
    exact ⟨_, by first | rfl | (simp [z0e, z0d] <;> rfl) | (refine congrArg (fun b_ : Bool => Ending.returned (Value.bool b_)) ?_; simp; done) | (simp [*, z0e, z0d] <;> rfl), by (with_reducible repeat (first | apply Kd.R_alloc | apply Kd.R_drewN | apply Kd.R_drew)); exact HO271.out, by repeat (first | (with_reducible first | exact HB.out | apply z03 | apply z00 | apply z04) | exact HB.out)⟩

end Go.Proofs.YteefchdfdgfaaaaDoor.Q
namespace Go.Proofs.YteefchdfdgfaaaaDoor.Q
open Go.RowKit Go.Proofs.YteefchdfdgfaaaaDoorW.PrintWords Go.Proofs.YteefchdfdgfaaaaDoorW.PrintLast Go.Proofs.YteefchdfdgfaaaaDoorW.PrintMore
attribute [local go_sem] max2_int min2_int max_two min_two max_three min_three max_four min_four   -- for this text's walks alone
set_option linter.unusedVariables false
set_option linter.unusedSimpArgs false

-- BY HAND: Derived.Test.YteefchdfdgfaaaaDoorHnum,Derived.Test.YteefchdfdgfaaaaDoorHval,Derived.Deep.RegionLaw
/-! ### winnowerref06_Put: function 25 -/
-- HAND winnower/winnowerref06.Put making
-- IMPORT Derived.Test.YteefchdfdgfaaaaDoorHnum
-- IMPORT Derived.Test.YteefchdfdgfaaaaDoorHval
-- IMPORT Derived.Deep.RegionLaw
open Go.Proofs.YteefchdfdgfaaaaDoor.Hnum Go.Proofs.YteefchdfdgfaaaaDoor.Hval
theorem winnowerref06_May.tell (k i : Int) (s : ByteArray) (b : Bool) : winnowerref06_May.f k i s b = some (V.may ⟨k, i, s, b⟩) := by
  unfold winnowerref06_May.f V.may
  simp only
  by_cases c0 : k = 0
  · rw [if_pos c0, if_neg (show ¬ k = 1 by omega), if_neg (show ¬ k = 2 by omega), if_neg (show ¬ k = 3 by omega), if_pos c0]
    by_cases h1 : i = 0
    · rw [if_pos h1]
      by_cases h2 : s.toList = []
      · rw [if_pos h2, h1, h2]; rfl
      · rw [if_neg h2, beq_eq_false_iff_ne.mpr h2]; simp
    · rw [if_neg h1, beq_eq_false_iff_ne.mpr h1]; simp
  · rw [if_neg c0]
    by_cases c1 : k = 1
    · rw [if_pos c1, if_pos c1]
      by_cases h2 : s.toList = []
      · rw [if_pos h2, h2]; rfl
      · rw [if_neg h2, beq_eq_false_iff_ne.mpr h2]; simp
    · rw [if_neg c1, if_neg c1]
      by_cases c2 : k = 2
      · rw [if_pos c2, if_pos c2]
        by_cases h1 : i = 0
        · rw [if_pos h1, h1]
          by_cases h3 : b = true
          · rw [if_pos h3, h3]; simp
          · rw [if_neg h3, show b = false from by simpa using h3]
            by_cases h4 : (s.size : Int) > 64
            · rw [if_pos h4, decide_eq_false (by omega)]
            · rw [if_neg h4, decide_eq_true (by omega)]; rfl
        · rw [if_neg h1, beq_eq_false_iff_ne.mpr h1]; simp
      · rw [if_neg c2, if_neg c2]
        by_cases c3 : k = 3
        · rw [if_pos c3, if_pos c3]
          by_cases h1 : i = 0
          · rw [if_pos h1, h1]; simp
          · rw [if_neg h1, beq_eq_false_iff_ne.mpr h1]; simp
        · rw [if_neg c3, if_neg c3, if_neg c0]
theorem winnowerref01_Put.tells {a : Int} (h : i64 a) : winnowerref01_Put.f a = some (digs (fold a)) := by
  unfold i64 at h
  unfold winnowerref01_Put.f
  by_cases h0 : a < 0
  · have e : wrap64 (-(wrap64 (a + 1))) = -(a + 1) := by rw [wrap_id (x := a + 1) (by omega) (by omega), wrap_id (by omega) (by omega)]
    have e2 : (2 * (-(a + 1)) + 1).toNat = fold a := by unfold fold; rw [if_neg (by omega)]; omega
    rw [if_pos h0, e]
    unfold winnowerref01_digits.f
    rw [if_pos ⟨by omega, by omega, by omega, by omega⟩, Option.bind_some, e2]
  · have e2 : (2 * a + 0).toNat = fold a := by unfold fold; rw [if_pos (by omega)]; omega
    rw [if_neg h0]
    unfold winnowerref01_digits.f
    rw [if_pos ⟨by omega, by omega, by omega, by omega⟩, Option.bind_some, e2]
theorem winnowerref01_PutLen.tells {a : Nat} (h : a ≤ 9223372036854775807) : winnowerref01_PutLen.f (a : Int) = some (digs a) := by
  unfold winnowerref01_PutLen.f
  have e1 : wrap64 (Int.tdiv (a : Int) 2) = ((a / 2 : Nat) : Int) := by rw [Int.tdiv_eq_ediv_of_nonneg (by omega), wrap_id (by omega) (by omega)]; omega
  have e2 : Int.tmod (a : Int) 2 = ((a % 2 : Nat) : Int) := by rw [Int.tmod_eq_emod_of_nonneg (by omega)]; omega
  have e3 : (2 * ((a / 2 : Nat) : Int) + ((a % 2 : Nat) : Int)).toNat = a := by omega
  rw [if_neg (by omega), e1, e2]
  unfold winnowerref01_digits.f
  rw [if_pos ⟨by omega, by omega, by omega, by omega⟩, Option.bind_some, e3]
theorem winnowerref06_Put.info : (Tryd.prog.info? 5).map (fun i => (i.zero, i.size, i.bytes)) = some (some (.int .u8 0), 1, 1) := by kernel_rfl
/-- The bytes of a string, as they stand in a new block. -/
theorem C_bytes (W : World) (s : ByteArray) (hs : s.size ≤ 9223372036854775807) : Kd.C (Kd.int .u8) (Lib.bytesWorld W 5 s) (some ⟨W.heap.size, 0, none⟩) s.size (bytesOf s) :=
  Kd.C_of_reads (enc := Value.int .u8) (h1 := fun _ => rfl) (d := (0 : Int)) (bytes_reads W 5 s hs)
def winnowerref06_Put.f (k i : Int) (s : ByteArray) (b : Bool) : Option (List Int × Int) := if i64 i then some (V.put ⟨k, i, s, b⟩ []) else none
set_option maxHeartbeats 4000000 in
theorem winnowerref06_Put.calls (a0_0 : Int) (a0_1 : Int) (a0_2 : ByteArray) (a0_3 : Bool) (r1 : List Int) (r2 : Int) (w : World) (h : winnowerref06_Put.f a0_0 a0_1 a0_2 a0_3 = some (r1, r2)) :
    Calls Tryd.prog 25 #[.agg #[.int .i64 a0_0, .int .i64 a0_1, .string a0_2, .bool a0_3]] w fun e w' => ∃ v0_ : Value, e = .returned (.tuple #[v0_, .int .i64 r2]) ∧ Kd.R (Kd.int .u8) 5 w' w.heap.size (fun _ => True) v0_ r1 ∧ Below w.heap.size w w' := by
  have huV := Tryd.underlying46
  unfold winnowerref06_Put.f at h
  by_cases hi : i64 a0_1
  · rw [if_pos hi] at h
    have H := z05.mk h
    have HI := z05.mk hi
    clear h hi
    have hmt := winnowerref06_May.tell a0_0 a0_1 a0_2 a0_3
    by_cases hm : V.may ⟨a0_0, a0_1, a0_2, a0_3⟩ = true
    · rw [hm] at hmt
      have HM := z05.mk hm
      have HT := z05.mk hmt
      clear hm hmt
      by_cases c1 : a0_0 = 1
      · subst c1
        have hr : r1 = digs (fold a0_1) ∧ r2 = 0 := by
          have := H.out
          unfold V.put V.bytes at this
          rw [if_pos HM.out, List.nil_append] at this
          simp only [if_true, Option.some.injEq, Prod.mk.injEq] at this
          exact ⟨this.1.symm, this.2.symm⟩
        have HP := z05.mk (winnowerref01_Put.tells HI.out)
        have HR := z05.mk hr
        clear hr
        go_enter Tryd.func25, Tryd.ntmps25
        go_wp2_with fail
        refine (winnowerref06_May.calls _ _ _ _ true _ HT.out).mono ?_
        rintro e w1 ⟨rfl, hb⟩
        have hB := blk_below (blk_new w _) hb
        have c0 := z02 hB 0
        have c1 := z02 hB 1
        have c2 := z02 hB 2
        have c3 := z02 hB 3
        have HB := z05.mk (((Below.refl _ _).alloc (Nat.le_refl _) _).trans (hb.mono (by simp)))
        clear hb hB
        go_wp2_with fail
        refine (winnowerref01_Put.calls a0_1 _ _ HP.out).mono ?_
        rintro e w2 ⟨v, rfl, hr, hb⟩
        have HR1 := z05.mk hr
        have HB1 := z05.mk (HB.out.trans (hb.mono HB.out.size))
        have hsz := HB.out.size
        clear hb hr
        go_wp2
        go_ret2
        exact ⟨v, by rw [HR.out.2]; rfl, by rw [HR.out.1]; exact Kd.R_lower HR1.out hsz, HB1.out⟩
      · by_cases c2 : a0_0 = 2
        · subst c2
          have hs : a0_2.size ≤ 64 := by
            have := HM.out
            unfold V.may at this
            simp only at this
            by_cases h : (a0_2.size : Int) > 64
            · simp [h] at this
            · omega
          have hr : r1 = digs a0_2.size ++ bytesOf a0_2 ∧ r2 = 0 := by
            have := H.out
            unfold V.put V.bytes at this
            rw [if_pos HM.out, List.nil_append] at this
            simp only [Option.some.injEq, Prod.mk.injEq] at this
            exact ⟨this.1.symm, this.2.symm⟩
          have HP := z05.mk (winnowerref01_PutLen.tells (a := a0_2.size) (by omega))
          have HD := z05.mk (digs_le_ten (u := a0_2.size) (by omega))
          have HL := z05.mk (bytesOf_length a0_2)
          have HR := z05.mk hr
          have kc := fun W : World => Lib.run_convert_string_bytes (P := Tryd.prog) W 9 29 5 a0_2 Tryd.underlying9 Tryd.underlying29 Tryd.underlying5
          clear hr c1
          go_enter Tryd.func25, Tryd.ntmps25
          go_wp2_with fail
          refine (winnowerref06_May.calls _ _ _ _ true _ HT.out).mono ?_
          rintro e w1 ⟨rfl, hb⟩
          have hB := blk_below (blk_new w _) hb
          have c0 := z02 hB 0
          have c1 := z02 hB 1
          have c2 := z02 hB 2
          have c3 := z02 hB 3
          have HB := z05.mk (((Below.refl _ _).alloc (Nat.le_refl _) _).trans (hb.mono (by simp)))
          have HB1 := z05.mk hb
          clear hb hB
          go_wp2_with fail
          have hsz : w.heap.size < w1.heap.size := by have := HB1.out.size; simp at this; omega
          have c2b : (Lib.bytesWorld w1.drew 5 a0_2).cell? ⟨w.heap.size, 2, none⟩ = some (.string a0_2) := (Lib.bytesWorld_old _ _ _ _ hsz).trans c2
          go_region_law (first
            | (go_simp; go_at_call 42; refine (winnowerref01_PutLen.calls _ _ _ HP.out).mono ?_; rintro e w2 ⟨v2, rfl, hr2, hb2⟩; have c2' : w2.cell? ⟨w.heap.size, 2, none⟩ = some (.string a0_2) := (hb2.cell (p := ⟨w.heap.size, 2, none⟩) (by first | exact hsz | (rw [Lib.bytesWorld_size]; exact Nat.lt_succ_of_lt hsz))).trans (by first | exact c2 | exact (Lib.bytesWorld_old _ _ _ _ hsz).trans c2); have HR2 := z05.mk (Kd.R_lower hr2 (show w.heap.size ≤ _ by first | exact Nat.le_of_lt hsz | (rw [Lib.bytesWorld_size]; exact Nat.le_succ_of_le (Nat.le_of_lt hsz)))); have HB3 := z05.mk (show Below w.heap.size w w2 by first | exact HB.out.drew.trans (hb2.mono (Nat.le_of_lt hsz)) | exact (bytes_below HB.out.drew (Nat.le_of_lt hsz) _ _).trans (hb2.mono (by rw [Lib.bytesWorld_size]; exact Nat.le_succ_of_le (Nat.le_of_lt hsz)))); have HB2 := z05.mk hb2; clear hr2 hb2; dsimp only)
            | (refine Kd.R_append_rows_step (Kd.int .u8) (w0 := w) w.heap.size (by rfl) (.tmp 21) (.tmp 24) 29 5 (.int .u8 0) 1 rfl Tryd.underlying29 winnowerref06_Put.info rfl (by decide) (by decide) v2 (digs a0_2.size) (bytesOf a0_2) _ a0_2.size _ (fun _ => True) (fun _ => False) rfl rfl ?aO ?aR (fun _ _ h => h) (fun _ h => h.elim) (fun _ _ => trivial) ?aB ?aS ?aL ?_
               (case aO => first | exact HR2.out | exact Kd.R_below HR2.out (bytes_below (Below.refl _ _) (Nat.le_refl _) _ _))
               (case aR => first | exact C_bytes w2 _ (by omega) | exact Kd.C_below (C_bytes w1.drew _ (by omega)) HB2.out)
               (case aB => first | exact HB3.out | exact bytes_below HB3.out HB3.out.size _ _)
               (case aS => first | exact HB3.out.size | exact (bytes_below HB3.out HB3.out.size _ _).size)
               (case aL => have := HD.out; omega)
               intro v3 w3 hr3 hb3 hg3 ho3; clear hg3 ho3; have HR3 := z05.mk hr3; have HB4 := z05.mk hb3; clear hr3 hb3))
          all_goals go_wp2
          all_goals go_ret2
          all_goals exact ⟨_, by rw [HR.out.2]; rfl, by rw [HR.out.1]; exact HR3.out, HB4.out⟩
        · by_cases c3 : a0_0 = 3
          · subst c3
            have hr : r1 = [tr a0_3] ∧ r2 = 0 := by
              have := H.out
              unfold V.put V.bytes at this
              rw [if_pos HM.out, List.nil_append] at this
              simp only [Option.some.injEq, Prod.mk.injEq] at this
              exact ⟨this.1.symm, this.2.symm⟩
            have HR := z05.mk hr
            clear hr c1 c2
            cases a0_3
            all_goals
              go_enter Tryd.func25, Tryd.ntmps25
              go_wp2_with fail
              refine (winnowerref06_May.calls _ _ _ _ true _ HT.out).mono ?_
              rintro e w1 ⟨rfl, hb⟩
              have hB := blk_below (blk_new w _) hb
              have c0 := z02 hB 0
              have c1 := z02 hB 1
              have c2 := z02 hB 2
              have c3 := z02 hB 3
              have HB := z05.mk (((Below.refl _ _).alloc (Nat.le_refl _) _).trans (hb.mono (by simp)))
              clear hb hB
              go_wp2
              go_ret2
              refine ⟨_, by rw [HR.out.2]; rfl, ?_, HB.out.alloc HB.out.size _⟩
              rw [HR.out.1]
              exact Kd.R_of_own (enc := Value.int .u8) (h1 := fun _ => rfl) (ok := fun _ => True) (own_lit _ w.heap.size 5 .u8 [_] HB.out.size (by decide)) (fun _ _ => trivial)
          · have hr : r1 = [] ∧ r2 = 0 := by
              have := H.out
              unfold V.put V.bytes at this
              rw [if_pos HM.out, List.nil_append] at this
              simp only [c1, c2, c3, if_false, Option.some.injEq, Prod.mk.injEq] at this
              exact ⟨this.1.symm, this.2.symm⟩
            have HR := z05.mk hr
            clear hr
            have d1 : (a0_0 == 1) = false := beq_eq_false_iff_ne.mpr c1
            have d2 : (a0_0 == 2) = false := beq_eq_false_iff_ne.mpr c2
            have d3 : (a0_0 == 3) = false := beq_eq_false_iff_ne.mpr c3
            clear c1 c2 c3
            go_enter Tryd.func25, Tryd.ntmps25
            go_wp2_with fail
            refine (winnowerref06_May.calls _ _ _ _ true _ HT.out).mono ?_
            rintro e w1 ⟨rfl, hb⟩
            have hB := blk_below (blk_new w _) hb
            have c0 := z02 hB 0
            have c1 := z02 hB 1
            have c2 := z02 hB 2
            have c3 := z02 hB 3
            have HB := z05.mk (((Below.refl _ _).alloc (Nat.le_refl _) _).trans (hb.mono (by simp)))
            clear hb hB
            go_wp2
            go_ret2
            exact ⟨_, by rw [HR.out.2]; rfl, by rw [HR.out.1]; exact Kd.R_nil _ _ _ _ _, HB.out⟩
    · have hm2 : V.may ⟨a0_0, a0_1, a0_2, a0_3⟩ = false := by simpa using hm
      rw [hm2] at hmt
      have hr : r1 = [] ∧ r2 = 1 := by
        have := H.out
        unfold V.put at this
        rw [if_neg hm] at this
        simp only [Option.some.injEq, Prod.mk.injEq] at this
        exact ⟨this.1.symm, this.2.symm⟩
      have HR := z05.mk hr
      have HT := z05.mk hmt
      clear hr hm hm2 hmt
      go_enter Tryd.func25, Tryd.ntmps25
      go_wp2_with fail
      refine (winnowerref06_May.calls _ _ _ _ false _ HT.out).mono ?_
      rintro e w1 ⟨rfl, hb⟩
      have HB := z05.mk (((Below.refl _ _).alloc (Nat.le_refl _) _).trans (hb.mono (by simp)))
      clear hb
      go_wp2
      go_ret2
      exact ⟨_, by rw [HR.out.2]; rfl, by rw [HR.out.1]; exact Kd.R_nil _ _ _ _ _, HB.out⟩
  · rw [if_neg hi] at h; cases h

end Go.Proofs.YteefchdfdgfaaaaDoor.Q
namespace Go.Proofs.YteefchdfdgfaaaaDoor.Q
open Go.RowKit Go.Proofs.YteefchdfdgfaaaaDoorW.PrintWords Go.Proofs.YteefchdfdgfaaaaDoorW.PrintLast Go.Proofs.YteefchdfdgfaaaaDoorW.PrintMore
attribute [local go_sem] max2_int min2_int max_two min_two max_three min_three max_four min_four   -- for this text's walks alone
set_option linter.unusedVariables false
set_option linter.unusedSimpArgs false

/-! ### winnowerref07_Encode: function 12 -/
def winnowerref07_Encode.l0 : Nat → List (S46) → List Int → Int → List (S48) → Int → Int → Int → Int → Option (List Int × Int)
  | 0, _, _, _, _, _, _, _, _ => none
  | k + 1, x1, x7, x8, x273000, x273001, x273002, x273003, x273004 => if x8 < (x1.length : Int) then (if 0 ≤ x8 then (if x8 < (x273000.length : Int) then (if (rd_T48 x273000 x8).f2 = true then (if ((z0c x1 x8).f0) = 0 then (if x7.length < 140737488355328 then (winnowerref07_Encode.l0 k x1 (x7 ++ [0]) (wrap64 (x8 + 1)) x273000 x273001 x273002 x273003 x273004) else (none)) else (if x7.length < 140737488355328 then ((some (x7 ++ [1] : List Int)).bind fun y279 => ((winnowerref06_Put.f ((z0c x1 x8).f0) ((z0c x1 x8).f1) ((z0c x1 x8).f2) ((z0c x1 x8).f3)).bind fun bt283 => (if y279.length + bt283.1.length < 140737488355328 then (winnowerref07_Encode.l0 k x1 (y279 ++ bt283.1) (wrap64 (x8 + 1)) x273000 x273001 x273002 x273003 x273004) else (none)))) else (none))) else ((winnowerref06_Put.f ((z0c x1 x8).f0) ((z0c x1 x8).f1) ((z0c x1 x8).f2) ((z0c x1 x8).f3)).bind fun bt291 => (if x7.length + bt291.1.length < 140737488355328 then (winnowerref07_Encode.l0 k x1 (x7 ++ bt291.1) (wrap64 (x8 + 1)) x273000 x273001 x273002 x273003 x273004) else (none)))) else (none)) else (none)) else (some (x7, 0))
def winnowerref07_Encode.f (k : Nat) (l0_0 : List (S48)) (a0_1 : Int) (a0_2 : Int) (a0_3 : Int) (a0_4 : Int) (l1 : List (S46)) : Option (List Int × Int) := (winnowerref07_Fits.f k l0_0 a0_1 a0_2 a0_3 a0_4 l1).bind fun t273 => (if t273 = true then (winnowerref07_Encode.l0 k l1 ([] : List Int) 0 l0_0 a0_1 a0_2 a0_3 a0_4) else (some (([] : List Int), 1)))
set_option maxHeartbeats 8000000 in
set_option maxRecDepth 100000 in
theorem winnowerref07_Encode.calls (k : Nat) (A0_0 : Option Addr) (c0_0 : Nat) (l0_0 : List (S48)) (a0_1 : Int) (a0_2 : Int) (a0_3 : Int) (a0_4 : Int) (A1 : Option Addr) (c1 : Nat) (l1 : List (S46)) (r1 : List Int) (r2 : Int) (w : World) (hr0_0 : Kd.C k48 w A0_0 l0_0.length l0_0) (hc0_0 : l0_0.length ≤ c0_0) (hr1 : Kd.C k46 w A1 l1.length l1) (hc1 : l1.length ≤ c1) (h : winnowerref07_Encode.f k l0_0 a0_1 a0_2 a0_3 a0_4 l1 = some (r1, r2)) :
    Calls Tryd.prog 12 #[.agg #[.slice A0_0 l0_0.length c0_0, .int .i64 a0_1, .int .i64 a0_2, .int .i64 a0_3, .int .i64 a0_4], .slice A1 l1.length c1] w fun e w' => ∃ v0_ : Value, e = .returned (.tuple #[v0_, .int .i64 r2]) ∧ Kd.R (Kd.int .u8) 5 w' w.heap.size (fun _ => True) v0_ r1 ∧ Below w.heap.size w w' := by
  have hu24 := Tryd.underlying24
  have hu46 := Tryd.underlying46
  have HR0_0 := z05.mk hr0_0
  have HC0_0 := z05.mk hc0_0
  clear hr0_0 hc0_0
  have HR1 := z05.mk hr1
  have HC1 := z05.mk hc1
  clear hr1 hc1
  have HB := z05.mk (Below.refl w.heap.size w)
  have H : ((winnowerref07_Fits.f k l0_0 a0_1 a0_2 a0_3 a0_4 l1).bind fun t273 => (if t273 = true then (winnowerref07_Encode.l0 k l1 ([] : List Int) 0 l0_0 a0_1 a0_2 a0_3 a0_4) else (some (([] : List Int), 1)))) = some (r1, r2) := h
  clear h
  replace H := Option.bind_eq_some_iff.mp H
  obtain ⟨t273, A30, H⟩ := H
  replace H : (if t273 = true then (winnowerref07_Encode.l0 k l1 ([] : List Int) 0 l0_0 a0_1 a0_2 a0_3 a0_4) else (some (([] : List Int), 1))) = some (r1, r2) := H
  have A3 := z05.mk A30
  clear A30
  by_cases c4 : t273 = true
  · subst c4
    have H1 : (winnowerref07_Encode.l0 k l1 ([] : List Int) 0 l0_0 a0_1 a0_2 a0_3 a0_4) = some (r1, r2) := by rw [if_pos rfl] at H; exact H
    clear H
    have H := H1
    clear H1
    have H' := z05.mk H
    clear H
    go_enter Tryd.func12, Tryd.ntmps12
    go_wp2_with (first | ((with_reducible refine gate_dst (N := 2) rfl ?_); refine box_event ?hg (N := 2) ?hd (cs := #[.slice A0_0 l0_0.length c0_0, .int .i64 a0_1, .int .i64 a0_2, .int .i64 a0_3, .int .i64 a0_4]) (t := 24) ?hr ?_; (case hd => rfl); (case hg => rfl); (case hr => first | (go_simp; done) | (go_simp; rfl)); intro gb272 hg w5 hbox hb; have n0_ := z05.mk (z0a (by repeat (first | (with_reducible first | exact HB.out | apply z03 | apply z00 | apply z04) | exact HB.out)) hb); have n1_ := z05.mk (hbox); have n2_ := z05.mk ((by rw [hg]; exact (z0b (by repeat (first | (with_reducible first | exact HB.out | apply z03 | apply z00 | apply z04) | exact HB.out))) : w.heap.size ≤ gb272)); have n3_ := z05.mk ((by rw [hg]; exact (z0b (by repeat (first | (with_reducible first | exact HB.out | apply z03 | apply z00 | apply z04) | exact HB.out))) : w.heap.size ≤ gb272)); clear HB; have HB := n0_; have BK272 := n1_; have GW272 := n2_; have GE272 := n3_; clear n0_ n1_ n2_ n3_; clear hb hbox hg; have hcz6_0 : w5.cell? ⟨gb272, 0, none⟩ = some (.slice A0_0 l0_0.length c0_0) := (z02 BK272.out 0).trans rfl; have hcz6_1 : w5.cell? ⟨gb272, 1, none⟩ = some (.int .i64 a0_1) := (z02 BK272.out 1).trans rfl; have hcz6_2 : w5.cell? ⟨gb272, 2, none⟩ = some (.int .i64 a0_2) := (z02 BK272.out 2).trans rfl; have hcz6_3 : w5.cell? ⟨gb272, 3, none⟩ = some (.int .i64 a0_3) := (z02 BK272.out 3).trans rfl; have hcz6_4 : w5.cell? ⟨gb272, 4, none⟩ = some (.int .i64 a0_4) := (z02 BK272.out 4).trans rfl; have hfz6_0 := z01 BK272.out 0; have hfz6_1 := z01 BK272.out 1; have hfz6_2 := z01 BK272.out 2; have hfz6_3 := z01 BK272.out 3; have hfz6_4 := z01 BK272.out 4) | ((with_reducible refine gate_callee (f := 19) rfl ?_); refine goesL_ (some 13) rfl rfl Tryd.func19 (by kernel_rfl) rfl #[.agg #[.slice A0_0 l0_0.length c0_0, .int .i64 a0_1, .int .i64 a0_2, .int .i64 a0_3, .int .i64 a0_4], .slice A1 l1.length c1] rfl (by (try simp only [List.map_toArray, List.map_cons, List.map_nil]); first | done | rfl | (simp only [List.length_drop, List.length_take]; rfl)) ?_; (with_reducible refine (winnowerref07_Fits.calls k _ _ l0_0 a0_1 a0_2 a0_3 a0_4 _ _ l1 true _ ?side1 ?side2 ?side3 ?side4 A3.out).mono ?_); (case side1 => repeat (first | exact (Kd.C_below HR0_0.out HB.out) | (with_reducible refine Kd.C_alloc ?_ _) | (with_reducible refine Kd.C_drewN ?_ _) | (with_reducible refine Kd.C_drew ?_))); (case side2 => exact HC0_0.out); (case side3 => repeat (first | exact (Kd.C_below HR1.out HB.out) | (with_reducible refine Kd.C_alloc ?_ _) | (with_reducible refine Kd.C_drewN ?_ _) | (with_reducible refine Kd.C_drew ?_))); (case side4 => exact HC1.out); rintro e w7 ⟨rfl, hb⟩; refine ⟨_, rfl, ?_⟩; have n0_ := z05.mk (blk_below (g := gb272) (o := .cells #[.slice A0_0 l0_0.length c0_0, .int .i64 a0_1, .int .i64 a0_2, .int .i64 a0_3, .int .i64 a0_4] 24 (0, 0)) (by (with_reducible repeat (first | refine z07 ?_ _ | refine z09 ?_ | refine z06 ?_ _)); exact BK272.out) hb); have n1_ := z05.mk (z0a (by repeat (first | (with_reducible first | exact HB.out | apply z03 | apply z00 | apply z04 | refine z08 ?_ GE272.out) | exact HB.out)) hb); clear BK272; clear HB; have BK272 := n0_; have HB := n1_; clear n0_ n1_; (try clear hb); (try clear hb2); (try clear hk); (try clear hi)))
    go_loopg [7, 8] k (fun kq v7 v8 w' => ∃ (x7_1 : List Int) (x8_1 : Int), v8 = .int .i64 x8_1 ∧ z05 (winnowerref07_Encode.l0 kq l1 x7_1 x8_1 l0_0 a0_1 a0_2 a0_3 a0_4 = some (r1, r2)) ∧ z05 (kq ≤ k) ∧ z05 (Kd.R (Kd.int .u8) 5 w' w.heap.size (fun _ => True) v7 x7_1) ∧ z05 (w'.heap[gb272]? = some (.cells #[(.slice A0_0 l0_0.length c0_0), .int .i64 a0_1, .int .i64 a0_2, .int .i64 a0_3, .int .i64 a0_4] 24 (0, 0))) ∧ z05 (Below w.heap.size w w'))
    case atStart => exact ⟨(([] : List Int)), (0), (by first | rfl | (simp; done) | (simp [*]; done)), H', ⟨Nat.le_refl _⟩, ⟨by first | exact Kd.R_nil _ _ _ _ _ | exact Kd.N_nil _ _ _ _ _ | exact Kd.V_nil _ _ _ _ _ | exact Kd.Q_nil _ _ _ _ _ | exact Kd.S_nil _ _ _ _ _⟩, ⟨by (with_reducible repeat (first | refine z07 ?_ _ | refine z09 ?_ | refine z06 ?_ _)); exact BK272.out⟩, ⟨by repeat (first | (with_reducible first | exact HB.out | apply z03 | apply z00 | apply z04 | refine z08 ?_ GE272.out) | exact HB.out)⟩⟩
    case round =>
      clear H'
      try clear c1
      try clear p2
      try clear c4
      try clear hcz6_0
      try clear hcz6_1
      try clear hcz6_2
      try clear hcz6_3
      try clear hcz6_4
      try clear hfz6_0
      try clear hfz6_1
      try clear hfz6_2
      try clear hfz6_3
      try clear hfz6_4
      obtain ⟨x7_1, x8_1, rfl, HA, HK1, HO_7, BK272, HB⟩ := hrel
      cases gk with
      | zero => exact absurd HA.out (by simp [winnowerref07_Encode.l0])
      | succ k1 =>
        have H := HA.out
        clear HA
        simp only [winnowerref07_Encode.l0] at H
        by_cases c8 : x8_1 < (l1.length : Int)
        · rw [if_pos c8] at H
          have c8b0 : decide (x8_1 < (l1.length : Int)) = true := decide_eq_true c8
          clear c8
          by_cases c9 : 0 ≤ x8_1
          · rw [if_pos c9] at H
            have c9b0 : decide (0 ≤ x8_1) = true := decide_eq_true c9
            clear c9
            by_cases c10 : x8_1 < (l0_0.length : Int)
            · rw [if_pos c10] at H
              have c10b0 : decide (x8_1 < (l0_0.length : Int)) = true := decide_eq_true c10
              clear c10
              obtain ⟨bq11, hbq11⟩ : ∃ b_ : Bool, b_ = ((rd_T48 l0_0 x8_1).f2) := ⟨_, rfl⟩
              replace H : (if bq11 = true then (if ((z0c l1 x8_1).f0) = 0 then (if x7_1.length < 140737488355328 then (winnowerref07_Encode.l0 k1 l1 (x7_1 ++ [0]) (wrap64 (x8_1 + 1)) l0_0 a0_1 a0_2 a0_3 a0_4) else (none)) else (if x7_1.length < 140737488355328 then ((some (x7_1 ++ [1] : List Int)).bind fun y279 => ((winnowerref06_Put.f ((z0c l1 x8_1).f0) ((z0c l1 x8_1).f1) ((z0c l1 x8_1).f2) ((z0c l1 x8_1).f3)).bind fun bt283 => (if y279.length + bt283.1.length < 140737488355328 then (winnowerref07_Encode.l0 k1 l1 (y279 ++ bt283.1) (wrap64 (x8_1 + 1)) l0_0 a0_1 a0_2 a0_3 a0_4) else (none)))) else (none))) else ((winnowerref06_Put.f ((z0c l1 x8_1).f0) ((z0c l1 x8_1).f1) ((z0c l1 x8_1).f2) ((z0c l1 x8_1).f3)).bind fun bt291 => (if x7_1.length + bt291.1.length < 140737488355328 then (winnowerref07_Encode.l0 k1 l1 (x7_1 ++ bt291.1) (wrap64 (x8_1 + 1)) l0_0 a0_1 a0_2 a0_3 a0_4) else (none)))) = some (r1, r2) := by rw [← hbq11] at H; exact H
              have Nbq11 := z05.mk hbq11
              clear hbq11
              by_cases c12 : bq11 = true
              · subst c12
                have H1 : (if ((z0c l1 x8_1).f0) = 0 then (if x7_1.length < 140737488355328 then (winnowerref07_Encode.l0 k1 l1 (x7_1 ++ [0]) (wrap64 (x8_1 + 1)) l0_0 a0_1 a0_2 a0_3 a0_4) else (none)) else (if x7_1.length < 140737488355328 then ((some (x7_1 ++ [1] : List Int)).bind fun y279 => ((winnowerref06_Put.f ((z0c l1 x8_1).f0) ((z0c l1 x8_1).f1) ((z0c l1 x8_1).f2) ((z0c l1 x8_1).f3)).bind fun bt283 => (if y279.length + bt283.1.length < 140737488355328 then (winnowerref07_Encode.l0 k1 l1 (y279 ++ bt283.1) (wrap64 (x8_1 + 1)) l0_0 a0_1 a0_2 a0_3 a0_4) else (none)))) else (none))) = some (r1, r2) := by rw [if_pos rfl] at H; exact H
                clear H
                have H := H1
                clear H1
                by_cases c13 : ((z0c l1 x8_1).f0) = 0
                · rw [if_pos c13] at H
                  have c13b0 : (((z0c l1 x8_1).f0) == 0) = true := beq_iff_eq.mpr c13
                  have c13b1 : (((z0c l1 x8_1).f0) != 0) = false := bne_eq_false_iff_eq.mpr c13
                  clear c13
                  by_cases c14 : x7_1.length < 140737488355328
                  · rw [if_pos c14] at H
                    have LMc14 := z05.mk c14
                    clear c14
                    obtain ⟨y276, hy276⟩ : ∃ y_ : List Int, y_ = (x7_1 ++ [0]) := ⟨_, rfl⟩
                    replace H : (winnowerref07_Encode.l0 k1 l1 y276 (wrap64 (x8_1 + 1)) l0_0 a0_1 a0_2 a0_3 a0_4) = some (r1, r2) := by first | (rw [hy276]; with_reducible exact H) | (have H2_ := (Option.bind_some _ _).symm.trans H; rw [hy276]; with_reducible exact H2_) | (have H2_ := (Option.bind_some _ _).symm.trans H; with_reducible exact H2_) | with_reducible exact H | (rw [hy276]; exact H) | exact H
                    have Ny276 := z05.mk hy276
                    clear hy276
                    have H' := z05.mk H
                    clear H
                    have hcz15_0 : wr.cell? ⟨gb272, 0, none⟩ = some (.slice A0_0 l0_0.length c0_0) := (z02 BK272.out 0).trans rfl
                    have hcz15_1 : wr.cell? ⟨gb272, 1, none⟩ = some (.int .i64 a0_1) := (z02 BK272.out 1).trans rfl
                    have hcz15_2 : wr.cell? ⟨gb272, 2, none⟩ = some (.int .i64 a0_2) := (z02 BK272.out 2).trans rfl
                    have hcz15_3 : wr.cell? ⟨gb272, 3, none⟩ = some (.int .i64 a0_3) := (z02 BK272.out 3).trans rfl
                    have hcz15_4 : wr.cell? ⟨gb272, 4, none⟩ = some (.int .i64 a0_4) := (z02 BK272.out 4).trans rfl
                    have hfz15_0 := z01 BK272.out 0
                    have hfz15_1 := z01 BK272.out 1
                    have hfz15_2 := z01 BK272.out 2
                    have hfz15_3 := z01 BK272.out 3
                    have hfz15_4 := z01 BK272.out 4
                    have p274 : 0 ≤ (x8_1 : Int) := of_decide_eq_true (by first | (with_reducible assumption) | assumption)
                    have q274 : x8_1 < (l0_0.length : Int) := of_decide_eq_true (by first | (with_reducible assumption) | assumption)
                    obtain ⟨ad274, e274, hx274_0, hx274_1, hx274_2⟩ := at_T48 HR0_0.out x8_1 p274 q274
                    (try rw [← Nbq11.out] at hx274_2)
                    cases e274
                    replace hx274_0 := (HB.out.cell (World.block_lt_of_cell? w _ hx274_0)).trans hx274_0
                    replace hx274_1 := (HB.out.cell (World.block_lt_of_cell? w _ hx274_1)).trans hx274_1
                    replace hx274_2 := (HB.out.cell (World.block_lt_of_cell? w _ hx274_2)).trans hx274_2
                    replace p274 := eq_true p274
                    replace q274 := eq_true q274
                    have p275 : 0 ≤ (x8_1 : Int) := of_decide_eq_true (by first | (with_reducible assumption) | assumption)
                    have q275 : x8_1 < (l1.length : Int) := of_decide_eq_true (by first | (with_reducible assumption) | assumption)
                    obtain ⟨ad275, e275, hx275_0, hx275_1, hx275_2, hx275_3⟩ := at_T46 HR1.out x8_1 p275 q275
                    (try rw [← Nbq11.out] at hx275_3)
                    cases e275
                    replace hx275_0 := (HB.out.cell (World.block_lt_of_cell? w _ hx275_0)).trans hx275_0
                    replace hx275_1 := (HB.out.cell (World.block_lt_of_cell? w _ hx275_1)).trans hx275_1
                    replace hx275_2 := (HB.out.cell (World.block_lt_of_cell? w _ hx275_2)).trans hx275_2
                    replace hx275_3 := (HB.out.cell (World.block_lt_of_cell? w _ hx275_3)).trans hx275_3
                    replace p275 := eq_true p275
                    replace q275 := eq_true q275
                    go_wp2_with (first | ((with_reducible refine gate_builtin (b := .append) (xs := #[.tmp 34, .tmp 35]) rfl ?_); at_builtin; refine Kd.R_append (Kd.int .u8) (w0 := w) w.heap.size rfl (.tmp 34) (.tmp 35) 29 5 (.int .u8 0) 1 rfl Tryd.underlying29 info5 rfl (by decide) (by omega) u7 x7_1 0 [.int .u8 0] (fun _ => True) (fun _ => False) rfl rfl ?aP (fun _ hk => hk.elim) ?aF ?aO ?aB ?aS ?aL ?_; (case aP => exact rfl); (case aB => exact (by repeat (first | (with_reducible first | exact HB.out | apply z03 | apply z00 | apply z04 | refine z08 ?_ GE272.out) | exact HB.out))); (case aF => exact (fun _ _ => trivial)); (case aO => exact (by (with_reducible repeat (first | apply Kd.R_alloc | apply Kd.R_drewN | apply Kd.R_drew)); exact HO_7.out)); (case aS => exact (z0b (by repeat (first | (with_reducible first | exact HB.out | apply z03 | apply z00 | apply z04 | refine z08 ?_ GE272.out) | exact HB.out)))); (case aL => have := LMc14.out; omega); intro v277 w16 ho hb hg hat; rw [← Ny276.out] at ho; have n0_ := z05.mk (blk_grown (g := gb272) (o := .cells #[.slice (some ad274) l0_0.length c0_0, .int .i64 a0_1, .int .i64 a0_2, .int .i64 a0_3, .int .i64 a0_4] 24 (0, 0)) (by (with_reducible repeat (first | refine z07 ?_ _ | refine z09 ?_ | refine z06 ?_ _)); exact BK272.out) hg (Kd.R_ne HO_7.out BK272.out (by decide))); have n1_ := z05.mk (hb); have n2_ := z05.mk (ho); clear BK272; clear HB; clear HO_7; have BK272 := n0_; have HB := n1_; have HO278 := n2_; clear n0_ n1_ n2_; clear ho hb hg hat))
                    go_roundg k1
                    case measure => have := HK1.out; omega
                    case rel => exact ⟨(y276), (wrap64 (x8_1 + 1)), (by first | rfl | (simp; done) | (simp [*]; done)), H', ⟨by have := HK1.out; omega⟩, ⟨by (with_reducible repeat (first | apply Kd.R_alloc | apply Kd.R_drewN | apply Kd.R_drew)); exact HO278.out⟩, ⟨by (with_reducible repeat (first | refine z07 ?_ _ | refine z09 ?_ | refine z06 ?_ _)); exact BK272.out⟩, ⟨by repeat (first | (with_reducible first | exact HB.out | apply z03 | apply z00 | apply z04 | refine z08 ?_ GE272.out) | exact HB.out)⟩⟩
                  · rw [if_neg c14] at H
                    exact absurd H (by simp)
                · rw [if_neg c13] at H
                  have c13b0 : (((z0c l1 x8_1).f0) == 0) = false := beq_eq_false_iff_ne.mpr c13
                  have c13b1 : (((z0c l1 x8_1).f0) != 0) = true := bne_iff_ne.mpr c13
                  by_cases c17 : x7_1.length < 140737488355328
                  · rw [if_pos c17] at H
                    have LMc17 := z05.mk c17
                    clear c17
                    obtain ⟨y279, hy279⟩ : ∃ y_ : List Int, y_ = (x7_1 ++ [1]) := ⟨_, rfl⟩
                    replace H : ((winnowerref06_Put.f ((z0c l1 x8_1).f0) ((z0c l1 x8_1).f1) ((z0c l1 x8_1).f2) ((z0c l1 x8_1).f3)).bind fun bt283 => (if y279.length + bt283.1.length < 140737488355328 then (winnowerref07_Encode.l0 k1 l1 (y279 ++ bt283.1) (wrap64 (x8_1 + 1)) l0_0 a0_1 a0_2 a0_3 a0_4) else (none))) = some (r1, r2) := by first | (rw [hy279]; with_reducible exact H) | (have H2_ := (Option.bind_some _ _).symm.trans H; rw [hy279]; with_reducible exact H2_) | (have H2_ := (Option.bind_some _ _).symm.trans H; with_reducible exact H2_) | with_reducible exact H | (rw [hy279]; exact H) | exact H
                    have Ny279 := z05.mk hy279
                    clear hy279
                    replace H := Option.bind_eq_some_iff.mp H
                    obtain ⟨⟨t283, t286⟩, A180, H⟩ := H
                    replace H : (if y279.length + t283.length < 140737488355328 then (winnowerref07_Encode.l0 k1 l1 (y279 ++ t283) (wrap64 (x8_1 + 1)) l0_0 a0_1 a0_2 a0_3 a0_4) else (none)) = some (r1, r2) := H
                    have A18 := z05.mk A180
                    clear A180
                    by_cases c19 : y279.length + t283.length < 140737488355328
                    · rw [if_pos c19] at H
                      have LMc19 := z05.mk c19
                      clear c19
                      obtain ⟨y287, hy287⟩ : ∃ y_ : List Int, y_ = (y279 ++ t283) := ⟨_, rfl⟩
                      replace H : (winnowerref07_Encode.l0 k1 l1 y287 (wrap64 (x8_1 + 1)) l0_0 a0_1 a0_2 a0_3 a0_4) = some (r1, r2) := by first | (rw [hy287]; with_reducible exact H) | (have H2_ := (Option.bind_some _ _).symm.trans H; rw [hy287]; with_reducible exact H2_) | (have H2_ := (Option.bind_some _ _).symm.trans H; with_reducible exact H2_) | with_reducible exact H | (rw [hy287]; exact H) | exact H
                      have Ny287 := z05.mk hy287
                      clear hy287
                      have H' := z05.mk H
                      clear H
                      have hcz20_0 : wr.cell? ⟨gb272, 0, none⟩ = some (.slice A0_0 l0_0.length c0_0) := (z02 BK272.out 0).trans rfl
                      have hcz20_1 : wr.cell? ⟨gb272, 1, none⟩ = some (.int .i64 a0_1) := (z02 BK272.out 1).trans rfl
                      have hcz20_2 : wr.cell? ⟨gb272, 2, none⟩ = some (.int .i64 a0_2) := (z02 BK272.out 2).trans rfl
                      have hcz20_3 : wr.cell? ⟨gb272, 3, none⟩ = some (.int .i64 a0_3) := (z02 BK272.out 3).trans rfl
                      have hcz20_4 : wr.cell? ⟨gb272, 4, none⟩ = some (.int .i64 a0_4) := (z02 BK272.out 4).trans rfl
                      have hfz20_0 := z01 BK272.out 0
                      have hfz20_1 := z01 BK272.out 1
                      have hfz20_2 := z01 BK272.out 2
                      have hfz20_3 := z01 BK272.out 3
                      have hfz20_4 := z01 BK272.out 4
                      have p274 : 0 ≤ (x8_1 : Int) := of_decide_eq_true (by first | (with_reducible assumption) | assumption)
                      have q274 : x8_1 < (l0_0.length : Int) := of_decide_eq_true (by first | (with_reducible assumption) | assumption)
                      obtain ⟨ad274, e274, hx274_0, hx274_1, hx274_2⟩ := at_T48 HR0_0.out x8_1 p274 q274
                      (try rw [← Nbq11.out] at hx274_2)
                      cases e274
                      replace hx274_0 := (HB.out.cell (World.block_lt_of_cell? w _ hx274_0)).trans hx274_0
                      replace hx274_1 := (HB.out.cell (World.block_lt_of_cell? w _ hx274_1)).trans hx274_1
                      replace hx274_2 := (HB.out.cell (World.block_lt_of_cell? w _ hx274_2)).trans hx274_2
                      replace p274 := eq_true p274
                      replace q274 := eq_true q274
                      have p275 : 0 ≤ (x8_1 : Int) := of_decide_eq_true (by first | (with_reducible assumption) | assumption)
                      have q275 : x8_1 < (l1.length : Int) := of_decide_eq_true (by first | (with_reducible assumption) | assumption)
                      obtain ⟨ad275, e275, hx275_0, hx275_1, hx275_2, hx275_3⟩ := at_T46 HR1.out x8_1 p275 q275
                      (try rw [← Nbq11.out] at hx275_3)
                      cases e275
                      replace hx275_0 := (HB.out.cell (World.block_lt_of_cell? w _ hx275_0)).trans hx275_0
                      replace hx275_1 := (HB.out.cell (World.block_lt_of_cell? w _ hx275_1)).trans hx275_1
                      replace hx275_2 := (HB.out.cell (World.block_lt_of_cell? w _ hx275_2)).trans hx275_2
                      replace hx275_3 := (HB.out.cell (World.block_lt_of_cell? w _ hx275_3)).trans hx275_3
                      replace p275 := eq_true p275
                      replace q275 := eq_true q275
                      go_wp2_with (first | ((with_reducible refine gate_builtin (b := .append) (xs := #[.tmp 37, .tmp 38]) rfl ?_); at_builtin; refine Kd.R_append (Kd.int .u8) (w0 := w) w.heap.size rfl (.tmp 37) (.tmp 38) 29 5 (.int .u8 0) 1 rfl Tryd.underlying29 info5 rfl (by decide) (by omega) u7 x7_1 1 [.int .u8 1] (fun _ => True) (fun _ => False) rfl rfl ?aP (fun _ hk => hk.elim) ?aF ?aO ?aB ?aS ?aL ?_; (case aP => exact rfl); (case aB => exact (by repeat (first | (with_reducible first | exact HB.out | apply z03 | apply z00 | apply z04 | refine z08 ?_ GE272.out) | exact HB.out))); (case aF => exact (fun _ _ => trivial)); (case aO => exact (by (with_reducible repeat (first | apply Kd.R_alloc | apply Kd.R_drewN | apply Kd.R_drew)); exact HO_7.out)); (case aS => exact (z0b (by repeat (first | (with_reducible first | exact HB.out | apply z03 | apply z00 | apply z04 | refine z08 ?_ GE272.out) | exact HB.out)))); (case aL => have := LMc17.out; omega); intro v280 w21 ho hb hg hat; rw [← Ny279.out] at ho; have n0_ := z05.mk (blk_grown (g := gb272) (o := .cells #[.slice (some ad274) l0_0.length c0_0, .int .i64 a0_1, .int .i64 a0_2, .int .i64 a0_3, .int .i64 a0_4] 24 (0, 0)) (by (with_reducible repeat (first | refine z07 ?_ _ | refine z09 ?_ | refine z06 ?_ _)); exact BK272.out) hg (Kd.R_ne HO_7.out BK272.out (by decide))); have n1_ := z05.mk (hb); have n2_ := z05.mk (ho); clear BK272; clear HB; clear HO_7; have BK272 := n0_; have HB := n1_; have HO281 := n2_; clear n0_ n1_ n2_; clear ho hb hg hat; have p282 : 0 ≤ (x8_1 : Int) := of_decide_eq_true (by first | (with_reducible assumption) | assumption); have q282 : x8_1 < (l1.length : Int) := of_decide_eq_true (by first | (with_reducible assumption) | assumption); obtain ⟨ad282, e282, hx282_0, hx282_1, hx282_2, hx282_3⟩ := at_T46 HR1.out x8_1 p282 q282; (try rw [← Nbq11.out] at hx282_3); obtain rfl : ad275 = ad282 := (by injection e282); replace hx282_0 := (HB.out.cell (World.block_lt_of_cell? w _ hx282_0)).trans hx282_0; replace hx282_1 := (HB.out.cell (World.block_lt_of_cell? w _ hx282_1)).trans hx282_1; replace hx282_2 := (HB.out.cell (World.block_lt_of_cell? w _ hx282_2)).trans hx282_2; replace hx282_3 := (HB.out.cell (World.block_lt_of_cell? w _ hx282_3)).trans hx282_3; replace p282 := eq_true p282; replace q282 := eq_true q282) | ((with_reducible refine gate_callee (f := 25) rfl ?_); refine goesL_ (some 45) rfl rfl Tryd.func25 (by kernel_rfl) rfl #[.agg #[.int .i64 ((z0c l1 x8_1).f0), .int .i64 ((z0c l1 x8_1).f1), .string ((z0c l1 x8_1).f2), .bool ((z0c l1 x8_1).f3)]] rfl (by (try simp only [List.map_toArray, List.map_cons, List.map_nil]); first | done | rfl | (simp only [List.length_drop, List.length_take]; rfl)) ?_; (with_reducible refine (winnowerref06_Put.calls ((z0c l1 x8_1).f0) ((z0c l1 x8_1).f1) ((z0c l1 x8_1).f2) ((z0c l1 x8_1).f3) t283 t286 _ A18.out).mono ?_); rintro e w22 ⟨v284, rfl, ho0, hb⟩; refine ⟨_, rfl, ?_⟩; have n0_ := z05.mk (Kd.R_elder' (by (with_reducible repeat (first | apply Kd.R_alloc | apply Kd.R_drewN | apply Kd.R_drew)); exact HO281.out) (Kd.R_base ho0) hb); have n1_ := z05.mk (Kd.R_lower (Kd.R_new' ho0 (Kd.R_lt (by (with_reducible repeat (first | apply Kd.R_alloc | apply Kd.R_drewN | apply Kd.R_drew)); exact HO281.out))) (z0b (by repeat (first | (with_reducible first | exact HB.out | apply z03 | apply z00 | apply z04 | refine z08 ?_ GE272.out) | exact HB.out)))); have n2_ := z05.mk (blk_below (g := gb272) (o := .cells #[.slice (some ad274) l0_0.length c0_0, .int .i64 a0_1, .int .i64 a0_2, .int .i64 a0_3, .int .i64 a0_4] 24 (0, 0)) (by (with_reducible repeat (first | refine z07 ?_ _ | refine z09 ?_ | refine z06 ?_ _)); exact BK272.out) hb); have n3_ := z05.mk (z0a (by repeat (first | (with_reducible first | exact HB.out | apply z03 | apply z00 | apply z04 | refine z08 ?_ GE272.out) | exact HB.out)) hb); clear HO281; clear BK272; clear HB; have HO281 := n0_; have HO285 := n1_; have BK272 := n2_; have HB := n3_; clear n0_ n1_ n2_ n3_; (try clear hb); (try clear hb2); (try clear hk); (try clear hi); (try clear ho0); obtain ⟨Ao24, co24, eo24⟩ := Kd.R_slice HO285.out; subst eo24) | ((with_reducible refine gate_builtin (b := .append) (xs := #[.tmp 48, .tmp 49]) rfl ?_); at_builtin; refine Kd.R_append_rows (Kd.int .u8) (w0 := w) w.heap.size rfl (.tmp 48) (.tmp 49) 29 5 (.int .u8 0) 1 rfl Tryd.underlying29 info5 rfl (by decide) (by omega) v280 y279 t283 _ _ _ (fun k_ => some k_ ≠ (.slice Ao24 t283.length co24 : Value).ownBlock) (fun _ => False) rfl rfl ?aO ?aR (fun _ _ h => h) (fun _ h => h.elim) ?aF ?aB ?aS ?aL ?_; (case aR => repeat (first | exact (Kd.R_reads' HO285.out).2.2 | (with_reducible refine Kd.C_alloc ?_ _) | (with_reducible refine Kd.C_drewN ?_ _) | (with_reducible refine Kd.C_drew ?_))); (case aB => exact (by repeat (first | (with_reducible first | exact HB.out | apply z03 | apply z00 | apply z04 | refine z08 ?_ GE272.out) | exact HB.out))); (case aF => exact (fun k_ hk => Kd.fresh' (Kd.R_lt (by (with_reducible repeat (first | apply Kd.R_alloc | apply Kd.R_drewN | apply Kd.R_drew)); exact HO285.out)) k_ hk)); (case aO => exact (by (with_reducible repeat (first | apply Kd.R_alloc | apply Kd.R_drewN | apply Kd.R_drew)); exact Kd.R_mono HO281.out (fun _ hk => hk.2))); (case aS => exact (z0b (by repeat (first | (with_reducible first | exact HB.out | apply z03 | apply z00 | apply z04 | refine z08 ?_ GE272.out) | exact HB.out)))); (case aL => have := LMc19.out; omega); intro v288 w23 ho hb hg hat; rw [← Ny287.out] at ho; have n0_ := z05.mk (blk_grown (g := gb272) (o := .cells #[.slice (some ad274) l0_0.length c0_0, .int .i64 a0_1, .int .i64 a0_2, .int .i64 a0_3, .int .i64 a0_4] 24 (0, 0)) (by (with_reducible repeat (first | refine z07 ?_ _ | refine z09 ?_ | refine z06 ?_ _)); exact BK272.out) hg (Kd.R_ne HO281.out BK272.out (by decide))); have n1_ := z05.mk (Kd.R_after (ok := (fun _ => True)) (by (with_reducible repeat (first | apply Kd.R_alloc | apply Kd.R_drewN | apply Kd.R_drew)); exact HO285.out) hg hat); have n2_ := z05.mk (hb); have n3_ := z05.mk (ho); clear BK272; clear HO285; clear HB; clear HO281; have BK272 := n0_; have HO285 := n1_; have HB := n2_; have HO289 := n3_; clear n0_ n1_ n2_ n3_; clear ho hb hg hat))
                      go_roundg k1
                      case measure => have := HK1.out; omega
                      case rel => exact ⟨(y287), (wrap64 (x8_1 + 1)), (by first | rfl | (simp; done) | (simp [*]; done)), H', ⟨by have := HK1.out; omega⟩, ⟨by (with_reducible repeat (first | apply Kd.R_alloc | apply Kd.R_drewN | apply Kd.R_drew)); exact Kd.R_mono HO289.out (fun _ hk => trivial)⟩, ⟨by (with_reducible repeat (first | refine z07 ?_ _ | refine z09 ?_ | refine z06 ?_ _)); exact BK272.out⟩, ⟨by repeat (first | (with_reducible first | exact HB.out | apply z03 | apply z00 | apply z04 | refine z08 ?_ GE272.out) | exact HB.out)⟩⟩
                    · rw [if_neg c19] at H
                      exact absurd H (by simp)
                  · rw [if_neg c17] at H
                    exact absurd H (by simp)
              · replace c12 := Bool.eq_false_iff.mpr c12
                subst c12
                have H1 : ((winnowerref06_Put.f ((z0c l1 x8_1).f0) ((z0c l1 x8_1).f1) ((z0c l1 x8_1).f2) ((z0c l1 x8_1).f3)).bind fun bt291 => (if x7_1.length + bt291.1.length < 140737488355328 then (winnowerref07_Encode.l0 k1 l1 (x7_1 ++ bt291.1) (wrap64 (x8_1 + 1)) l0_0 a0_1 a0_2 a0_3 a0_4) else (none))) = some (r1, r2) := by rw [if_neg (show ¬ (false = true) by decide)] at H; exact H
                clear H
                have H := H1
                clear H1
                replace H := Option.bind_eq_some_iff.mp H
                obtain ⟨⟨t291, t294⟩, A250, H⟩ := H
                replace H : (if x7_1.length + t291.length < 140737488355328 then (winnowerref07_Encode.l0 k1 l1 (x7_1 ++ t291) (wrap64 (x8_1 + 1)) l0_0 a0_1 a0_2 a0_3 a0_4) else (none)) = some (r1, r2) := H
                have A25 := z05.mk A250
                clear A250
                by_cases c26 : x7_1.length + t291.length < 140737488355328
                · rw [if_pos c26] at H
                  have LMc26 := z05.mk c26
                  clear c26
                  obtain ⟨y295, hy295⟩ : ∃ y_ : List Int, y_ = (x7_1 ++ t291) := ⟨_, rfl⟩
                  replace H : (winnowerref07_Encode.l0 k1 l1 y295 (wrap64 (x8_1 + 1)) l0_0 a0_1 a0_2 a0_3 a0_4) = some (r1, r2) := by first | (rw [hy295]; with_reducible exact H) | (have H2_ := (Option.bind_some _ _).symm.trans H; rw [hy295]; with_reducible exact H2_) | (have H2_ := (Option.bind_some _ _).symm.trans H; with_reducible exact H2_) | with_reducible exact H | (rw [hy295]; exact H) | exact H
                  have Ny295 := z05.mk hy295
                  clear hy295
                  have H' := z05.mk H
                  clear H
                  have hcz27_0 : wr.cell? ⟨gb272, 0, none⟩ = some (.slice A0_0 l0_0.length c0_0) := (z02 BK272.out 0).trans rfl
                  have hcz27_1 : wr.cell? ⟨gb272, 1, none⟩ = some (.int .i64 a0_1) := (z02 BK272.out 1).trans rfl
                  have hcz27_2 : wr.cell? ⟨gb272, 2, none⟩ = some (.int .i64 a0_2) := (z02 BK272.out 2).trans rfl
                  have hcz27_3 : wr.cell? ⟨gb272, 3, none⟩ = some (.int .i64 a0_3) := (z02 BK272.out 3).trans rfl
                  have hcz27_4 : wr.cell? ⟨gb272, 4, none⟩ = some (.int .i64 a0_4) := (z02 BK272.out 4).trans rfl
                  have hfz27_0 := z01 BK272.out 0
                  have hfz27_1 := z01 BK272.out 1
                  have hfz27_2 := z01 BK272.out 2
                  have hfz27_3 := z01 BK272.out 3
                  have hfz27_4 := z01 BK272.out 4
                  have p274 : 0 ≤ (x8_1 : Int) := of_decide_eq_true (by first | (with_reducible assumption) | assumption)
                  have q274 : x8_1 < (l0_0.length : Int) := of_decide_eq_true (by first | (with_reducible assumption) | assumption)
                  obtain ⟨ad274, e274, hx274_0, hx274_1, hx274_2⟩ := at_T48 HR0_0.out x8_1 p274 q274
                  (try rw [← Nbq11.out] at hx274_2)
                  cases e274
                  replace hx274_0 := (HB.out.cell (World.block_lt_of_cell? w _ hx274_0)).trans hx274_0
                  replace hx274_1 := (HB.out.cell (World.block_lt_of_cell? w _ hx274_1)).trans hx274_1
                  replace hx274_2 := (HB.out.cell (World.block_lt_of_cell? w _ hx274_2)).trans hx274_2
                  replace p274 := eq_true p274
                  replace q274 := eq_true q274
                  have p290 : 0 ≤ (x8_1 : Int) := of_decide_eq_true (by first | (with_reducible assumption) | assumption)
                  have q290 : x8_1 < (l1.length : Int) := of_decide_eq_true (by first | (with_reducible assumption) | assumption)
                  obtain ⟨ad290, e290, hx290_0, hx290_1, hx290_2, hx290_3⟩ := at_T46 HR1.out x8_1 p290 q290
                  (try rw [← Nbq11.out] at hx290_3)
                  cases e290
                  replace hx290_0 := (HB.out.cell (World.block_lt_of_cell? w _ hx290_0)).trans hx290_0
                  replace hx290_1 := (HB.out.cell (World.block_lt_of_cell? w _ hx290_1)).trans hx290_1
                  replace hx290_2 := (HB.out.cell (World.block_lt_of_cell? w _ hx290_2)).trans hx290_2
                  replace hx290_3 := (HB.out.cell (World.block_lt_of_cell? w _ hx290_3)).trans hx290_3
                  replace p290 := eq_true p290
                  replace q290 := eq_true q290
                  go_wp2_with (first | ((with_reducible refine gate_callee (f := 25) rfl ?_); refine goesL_ (some 45) rfl rfl Tryd.func25 (by kernel_rfl) rfl #[.agg #[.int .i64 ((z0c l1 x8_1).f0), .int .i64 ((z0c l1 x8_1).f1), .string ((z0c l1 x8_1).f2), .bool ((z0c l1 x8_1).f3)]] rfl (by (try simp only [List.map_toArray, List.map_cons, List.map_nil]); first | done | rfl | (simp only [List.length_drop, List.length_take]; rfl)) ?_; (with_reducible refine (winnowerref06_Put.calls ((z0c l1 x8_1).f0) ((z0c l1 x8_1).f1) ((z0c l1 x8_1).f2) ((z0c l1 x8_1).f3) t291 t294 _ A25.out).mono ?_); rintro e w28 ⟨v292, rfl, ho0, hb⟩; refine ⟨_, rfl, ?_⟩; have n0_ := z05.mk (Kd.R_elder' (by (with_reducible repeat (first | apply Kd.R_alloc | apply Kd.R_drewN | apply Kd.R_drew)); exact HO_7.out) (Kd.R_base ho0) hb); have n1_ := z05.mk (Kd.R_lower (Kd.R_new' ho0 (Kd.R_lt (by (with_reducible repeat (first | apply Kd.R_alloc | apply Kd.R_drewN | apply Kd.R_drew)); exact HO_7.out))) (z0b (by repeat (first | (with_reducible first | exact HB.out | apply z03 | apply z00 | apply z04 | refine z08 ?_ GE272.out) | exact HB.out)))); have n2_ := z05.mk (blk_below (g := gb272) (o := .cells #[.slice (some ad274) l0_0.length c0_0, .int .i64 a0_1, .int .i64 a0_2, .int .i64 a0_3, .int .i64 a0_4] 24 (0, 0)) (by (with_reducible repeat (first | refine z07 ?_ _ | refine z09 ?_ | refine z06 ?_ _)); exact BK272.out) hb); have n3_ := z05.mk (z0a (by repeat (first | (with_reducible first | exact HB.out | apply z03 | apply z00 | apply z04 | refine z08 ?_ GE272.out) | exact HB.out)) hb); clear HO_7; clear BK272; clear HB; have HO_7 := n0_; have HO293 := n1_; have BK272 := n2_; have HB := n3_; clear n0_ n1_ n2_ n3_; (try clear hb); (try clear hb2); (try clear hk); (try clear hi); (try clear ho0); obtain ⟨Ao30, co30, eo30⟩ := Kd.R_slice HO293.out; subst eo30) | ((with_reducible refine gate_builtin (b := .append) (xs := #[.tmp 48, .tmp 49]) rfl ?_); at_builtin; refine Kd.R_append_rows (Kd.int .u8) (w0 := w) w.heap.size rfl (.tmp 48) (.tmp 49) 29 5 (.int .u8 0) 1 rfl Tryd.underlying29 info5 rfl (by decide) (by omega) u7 x7_1 t291 _ _ _ (fun k_ => some k_ ≠ (.slice Ao30 t291.length co30 : Value).ownBlock) (fun _ => False) rfl rfl ?aO ?aR (fun _ _ h => h) (fun _ h => h.elim) ?aF ?aB ?aS ?aL ?_; (case aR => repeat (first | exact (Kd.R_reads' HO293.out).2.2 | (with_reducible refine Kd.C_alloc ?_ _) | (with_reducible refine Kd.C_drewN ?_ _) | (with_reducible refine Kd.C_drew ?_))); (case aB => exact (by repeat (first | (with_reducible first | exact HB.out | apply z03 | apply z00 | apply z04 | refine z08 ?_ GE272.out) | exact HB.out))); (case aF => exact (fun k_ hk => Kd.fresh' (Kd.R_lt (by (with_reducible repeat (first | apply Kd.R_alloc | apply Kd.R_drewN | apply Kd.R_drew)); exact HO293.out)) k_ hk)); (case aO => exact (by (with_reducible repeat (first | apply Kd.R_alloc | apply Kd.R_drewN | apply Kd.R_drew)); exact Kd.R_mono HO_7.out (fun _ hk => hk.2))); (case aS => exact (z0b (by repeat (first | (with_reducible first | exact HB.out | apply z03 | apply z00 | apply z04 | refine z08 ?_ GE272.out) | exact HB.out)))); (case aL => have := LMc26.out; omega); intro v296 w29 ho hb hg hat; rw [← Ny295.out] at ho; have n0_ := z05.mk (blk_grown (g := gb272) (o := .cells #[.slice (some ad274) l0_0.length c0_0, .int .i64 a0_1, .int .i64 a0_2, .int .i64 a0_3, .int .i64 a0_4] 24 (0, 0)) (by (with_reducible repeat (first | refine z07 ?_ _ | refine z09 ?_ | refine z06 ?_ _)); exact BK272.out) hg (Kd.R_ne HO_7.out BK272.out (by decide))); have n1_ := z05.mk (Kd.R_after (ok := (fun _ => True)) (by (with_reducible repeat (first | apply Kd.R_alloc | apply Kd.R_drewN | apply Kd.R_drew)); exact HO293.out) hg hat); have n2_ := z05.mk (hb); have n3_ := z05.mk (ho); clear BK272; clear HO293; clear HB; clear HO_7; have BK272 := n0_; have HO293 := n1_; have HB := n2_; have HO297 := n3_; clear n0_ n1_ n2_ n3_; clear ho hb hg hat))
                  go_roundg k1
                  case measure => have := HK1.out; omega
                  case rel => exact ⟨(y295), (wrap64 (x8_1 + 1)), (by first | rfl | (simp; done) | (simp [*]; done)), H', ⟨by have := HK1.out; omega⟩, ⟨by (with_reducible repeat (first | apply Kd.R_alloc | apply Kd.R_drewN | apply Kd.R_drew)); exact Kd.R_mono HO297.out (fun _ hk => trivial)⟩, ⟨by (with_reducible repeat (first | refine z07 ?_ _ | refine z09 ?_ | refine z06 ?_ _)); exact BK272.out⟩, ⟨by repeat (first | (with_reducible first | exact HB.out | apply z03 | apply z00 | apply z04 | refine z08 ?_ GE272.out) | exact HB.out)⟩⟩
                · rw [if_neg c26] at H
                  exact absurd H (by simp)
            · rw [if_neg c10] at H
              exact absurd H (by simp)
          · rw [if_neg c9] at H
            exact absurd H (by simp)
        · rw [if_neg c8] at H
          have c8b0 : decide (x8_1 < (l1.length : Int)) = false := decide_eq_false c8
          clear c8
          simp only [Option.some.injEq, Prod.mk.injEq] at H
          obtain ⟨rfl, rfl⟩ := H
          go_wp2
          go_ret2
          exact ⟨_, by first | rfl | (simp [z0e, z0d] <;> rfl) | (refine congrArg (fun b_ : Bool => Ending.returned (Value.bool b_)) ?_; simp; done) | (simp [*, z0e, z0d] <;> rfl), by (with_reducible repeat (first | apply Kd.R_alloc | apply Kd.R_drewN | apply Kd.R_drew)); exact HO_7.out, by repeat (first | (with_reducible first | exact HB.out | apply z03 | apply z00 | apply z04 | refine z08 ?_ GE272.out) | exact HB.out)⟩
  · replace c4 := Bool.eq_false_iff.mpr c4
    subst c4
    have H1 : (some (([] : List Int), 1)) = some (r1, r2) := by rw [if_neg (show ¬ (false = true) by decide)] at H; exact H
    clear H
    have H := H1
    clear H1
    simp only [Option.some.injEq, Prod.mk.injEq] at H
    obtain ⟨rfl, rfl⟩ := H
    go_enter Tryd.func12, Tryd.ntmps12
    go_wp2_with (first | ((with_reducible refine gate_dst (N := 2) rfl ?_); refine box_event ?hg (N := 2) ?hd (cs := #[.slice A0_0 l0_0.length c0_0, .int .i64 a0_1, .int .i64 a0_2, .int .i64 a0_3, .int .i64 a0_4]) (t := 24) ?hr ?_; (case hd => rfl); (case hg => rfl); (case hr => first | (go_simp; done) | (go_simp; rfl)); intro gb272 hg w31 hbox hb; have n0_ := z05.mk (z0a (by repeat (first | (with_reducible first | exact HB.out | apply z03 | apply z00 | apply z04) | exact HB.out)) hb); have n1_ := z05.mk (hbox); have n2_ := z05.mk ((by rw [hg]; exact (z0b (by repeat (first | (with_reducible first | exact HB.out | apply z03 | apply z00 | apply z04) | exact HB.out))) : w.heap.size ≤ gb272)); have n3_ := z05.mk ((by rw [hg]; exact (z0b (by repeat (first | (with_reducible first | exact HB.out | apply z03 | apply z00 | apply z04) | exact HB.out))) : w.heap.size ≤ gb272)); clear HB; have HB := n0_; have BK272 := n1_; have GW272 := n2_; have GE272 := n3_; clear n0_ n1_ n2_ n3_; clear hb hbox hg; have hcz32_0 : w31.cell? ⟨gb272, 0, none⟩ = some (.slice A0_0 l0_0.length c0_0) := (z02 BK272.out 0).trans rfl; have hcz32_1 : w31.cell? ⟨gb272, 1, none⟩ = some (.int .i64 a0_1) := (z02 BK272.out 1).trans rfl; have hcz32_2 : w31.cell? ⟨gb272, 2, none⟩ = some (.int .i64 a0_2) := (z02 BK272.out 2).trans rfl; have hcz32_3 : w31.cell? ⟨gb272, 3, none⟩ = some (.int .i64 a0_3) := (z02 BK272.out 3).trans rfl; have hcz32_4 : w31.cell? ⟨gb272, 4, none⟩ = some (.int .i64 a0_4) := (z02 BK272.out 4).trans rfl; have hfz32_0 := z01 BK272.out 0; have hfz32_1 := z01 BK272.out 1; have hfz32_2 := z01 BK272.out 2; have hfz32_3 := z01 BK272.out 3; have hfz32_4 := z01 BK272.out 4) | ((with_reducible refine gate_callee (f := 19) rfl ?_); refine goesL_ (some 13) rfl rfl Tryd.func19 (by kernel_rfl) rfl #[.agg #[.slice A0_0 l0_0.length c0_0, .int .i64 a0_1, .int .i64 a0_2, .int .i64 a0_3, .int .i64 a0_4], .slice A1 l1.length c1] rfl (by (try simp only [List.map_toArray, List.map_cons, List.map_nil]); first | done | rfl | (simp only [List.length_drop, List.length_take]; rfl)) ?_; (with_reducible refine (winnowerref07_Fits.calls k _ _ l0_0 a0_1 a0_2 a0_3 a0_4 _ _ l1 false _ ?side1 ?side2 ?side3 ?side4 A3.out).mono ?_); (case side1 => repeat (first | exact (Kd.C_below HR0_0.out HB.out) | (with_reducible refine Kd.C_alloc ?_ _) | (with_reducible refine Kd.C_drewN ?_ _) | (with_reducible refine Kd.C_drew ?_))); (case side2 => exact HC0_0.out); (case side3 => repeat (first | exact (Kd.C_below HR1.out HB.out) | (with_reducible refine Kd.C_alloc ?_ _) | (with_reducible refine Kd.C_drewN ?_ _) | (with_reducible refine Kd.C_drew ?_))); (case side4 => exact HC1.out); rintro e w33 ⟨rfl, hb⟩; refine ⟨_, rfl, ?_⟩; have n0_ := z05.mk (blk_below (g := gb272) (o := .cells #[.slice A0_0 l0_0.length c0_0, .int .i64 a0_1, .int .i64 a0_2, .int .i64 a0_3, .int .i64 a0_4] 24 (0, 0)) (by (with_reducible repeat (first | refine z07 ?_ _ | refine z09 ?_ | refine z06 ?_ _)); exact BK272.out) hb); have n1_ := z05.mk (z0a (by repeat (first | (with_reducible first | exact HB.out | apply z03 | apply z00 | apply z04 | refine z08 ?_ GE272.out) | exact HB.out)) hb); clear BK272; clear HB; have BK272 := n0_; have HB := n1_; clear n0_ n1_; (try clear hb); (try clear hb2); (try clear hk); (try clear hi)))
    go_ret2
    exact ⟨_, by first | rfl | (simp [z0e, z0d] <;> rfl) | (refine congrArg (fun b_ : Bool => Ending.returned (Value.bool b_)) ?_; simp; done) | (simp [*, z0e, z0d] <;> rfl), by first | exact Kd.R_nil _ _ _ _ _ | exact Kd.N_nil _ _ _ _ _ | exact Kd.V_nil _ _ _ _ _ | exact Kd.Q_nil _ _ _ _ _ | exact Kd.S_nil _ _ _ _ _, by repeat (first | (with_reducible first | exact HB.out | apply z03 | apply z00 | apply z04 | refine z08 ?_ GE272.out) | exact HB.out)⟩

/-! ### winnowerref07_Find: function 17 -/
def winnowerref07_Find.l0 : Nat → ByteArray → Int → List (S48) → Int → Int → Int → Int → Option (Int)
  | 0, _, _, _, _, _, _, _ => none
  | k + 1, x1, x5, x299000, x299001, x299002, x299003, x299004 => if x5 < (x299000.length : Int) then (if 0 ≤ x5 then (if ((rd_T48 x299000 x5).f0).toList = x1.toList then (some x5) else (winnowerref07_Find.l0 k x1 (wrap64 (x5 + 1)) x299000 x299001 x299002 x299003 x299004)) else (none)) else (some (-1))
def winnowerref07_Find.f (k : Nat) (l0_0 : List (S48)) (a0_1 : Int) (a0_2 : Int) (a0_3 : Int) (a0_4 : Int) (a1 : ByteArray) : Option (Int) := winnowerref07_Find.l0 k a1 0 l0_0 a0_1 a0_2 a0_3 a0_4
set_option maxHeartbeats 8000000 in
set_option maxRecDepth 100000 in
theorem winnowerref07_Find.calls (k : Nat) (A0_0 : Option Addr) (c0_0 : Nat) (l0_0 : List (S48)) (a0_1 : Int) (a0_2 : Int) (a0_3 : Int) (a0_4 : Int) (a1 : ByteArray) (r : Int) (w : World) (hr0_0 : Kd.C k48 w A0_0 l0_0.length l0_0) (hc0_0 : l0_0.length ≤ c0_0) (h : winnowerref07_Find.f k l0_0 a0_1 a0_2 a0_3 a0_4 a1 = some r) :
    Calls Tryd.prog 17 #[.agg #[.slice A0_0 l0_0.length c0_0, .int .i64 a0_1, .int .i64 a0_2, .int .i64 a0_3, .int .i64 a0_4], .string a1] w fun e w' => e = .returned (.int .i64 r) ∧ Below w.heap.size w w' := by
  have hu24 := Tryd.underlying24
  have HR0_0 := z05.mk hr0_0
  have HC0_0 := z05.mk hc0_0
  clear hr0_0 hc0_0
  have HB := z05.mk (Below.refl w.heap.size w)
  have H : (winnowerref07_Find.l0 k a1 0 l0_0 a0_1 a0_2 a0_3 a0_4) = some r := h
  clear h
  have H' := z05.mk H
  clear H
  go_enter Tryd.func17, Tryd.ntmps17
  go_wp2_with (first | ((with_reducible refine gate_dst (N := 2) rfl ?_); refine box_event ?hg (N := 2) ?hd (cs := #[.slice A0_0 l0_0.length c0_0, .int .i64 a0_1, .int .i64 a0_2, .int .i64 a0_3, .int .i64 a0_4]) (t := 24) ?hr ?_; (case hd => rfl); (case hg => rfl); (case hr => first | (go_simp; done) | (go_simp; rfl)); intro gb298 hg w3 hbox hb; have n0_ := z05.mk (z0a (by repeat (first | (with_reducible first | exact HB.out | apply z03 | apply z00 | apply z04) | exact HB.out)) hb); have n1_ := z05.mk (hbox); have n2_ := z05.mk ((by rw [hg]; exact (z0b (by repeat (first | (with_reducible first | exact HB.out | apply z03 | apply z00 | apply z04) | exact HB.out))) : w.heap.size ≤ gb298)); have n3_ := z05.mk ((by rw [hg]; exact (z0b (by repeat (first | (with_reducible first | exact HB.out | apply z03 | apply z00 | apply z04) | exact HB.out))) : w.heap.size ≤ gb298)); clear HB; have HB := n0_; have BK298 := n1_; have GW298 := n2_; have GE298 := n3_; clear n0_ n1_ n2_ n3_; clear hb hbox hg))
  go_loopg [5] k (fun kq v5 w' => ∃ (x5_1 : Int), v5 = .int .i64 x5_1 ∧ z05 (winnowerref07_Find.l0 kq a1 x5_1 l0_0 a0_1 a0_2 a0_3 a0_4 = some r) ∧ z05 (kq ≤ k) ∧ z05 (w'.heap[gb298]? = some (.cells #[(.slice A0_0 l0_0.length c0_0), .int .i64 a0_1, .int .i64 a0_2, .int .i64 a0_3, .int .i64 a0_4] 24 (0, 0))) ∧ z05 (Below w.heap.size w w'))
  case atStart => exact ⟨(0), (by first | rfl | (simp; done) | (simp [*]; done)), H', ⟨Nat.le_refl _⟩, ⟨by (with_reducible repeat (first | refine z07 ?_ _ | refine z09 ?_ | refine z06 ?_ _)); exact BK298.out⟩, ⟨by repeat (first | (with_reducible first | exact HB.out | apply z03 | apply z00 | apply z04 | refine z08 ?_ GE298.out) | exact HB.out)⟩⟩
  case round =>
    clear H'
    try clear c1
    try clear p2
    obtain ⟨x5_1, rfl, HA, HK1, BK298, HB⟩ := hrel
    cases gk with
    | zero => exact absurd HA.out (by simp [winnowerref07_Find.l0])
    | succ k1 =>
      have H := HA.out
      clear HA
      simp only [winnowerref07_Find.l0] at H
      by_cases c4 : x5_1 < (l0_0.length : Int)
      · rw [if_pos c4] at H
        have c4b0 : decide (x5_1 < (l0_0.length : Int)) = true := decide_eq_true c4
        clear c4
        by_cases c5 : 0 ≤ x5_1
        · rw [if_pos c5] at H
          have c5b0 : decide (0 ≤ x5_1) = true := decide_eq_true c5
          clear c5
          by_cases c6 : ((rd_T48 l0_0 x5_1).f0).toList = a1.toList
          · rw [if_pos c6] at H
            have c6b0 : (((rd_T48 l0_0 x5_1).f0).toList == a1.toList) = true := beq_iff_eq.mpr c6
            have c6b1 : (((rd_T48 l0_0 x5_1).f0).toList != a1.toList) = false := bne_eq_false_iff_eq.mpr c6
            clear c6
            obtain rfl := Option.some.inj H
            have hcz7_0 : wr.cell? ⟨gb298, 0, none⟩ = some (.slice A0_0 l0_0.length c0_0) := (z02 BK298.out 0).trans rfl
            have hcz7_1 : wr.cell? ⟨gb298, 1, none⟩ = some (.int .i64 a0_1) := (z02 BK298.out 1).trans rfl
            have hcz7_2 : wr.cell? ⟨gb298, 2, none⟩ = some (.int .i64 a0_2) := (z02 BK298.out 2).trans rfl
            have hcz7_3 : wr.cell? ⟨gb298, 3, none⟩ = some (.int .i64 a0_3) := (z02 BK298.out 3).trans rfl
            have hcz7_4 : wr.cell? ⟨gb298, 4, none⟩ = some (.int .i64 a0_4) := (z02 BK298.out 4).trans rfl
            have hfz7_0 := z01 BK298.out 0
            have hfz7_1 := z01 BK298.out 1
            have hfz7_2 := z01 BK298.out 2
            have hfz7_3 := z01 BK298.out 3
            have hfz7_4 := z01 BK298.out 4
            have p299 : 0 ≤ (x5_1 : Int) := of_decide_eq_true (by first | (with_reducible assumption) | assumption)
            have q299 : x5_1 < (l0_0.length : Int) := of_decide_eq_true (by first | (with_reducible assumption) | assumption)
            obtain ⟨ad299, e299, hx299_0, hx299_1, hx299_2⟩ := at_T48 HR0_0.out x5_1 p299 q299
            cases e299
            replace hx299_0 := (HB.out.cell (World.block_lt_of_cell? w _ hx299_0)).trans hx299_0
            replace hx299_1 := (HB.out.cell (World.block_lt_of_cell? w _ hx299_1)).trans hx299_1
            replace hx299_2 := (HB.out.cell (World.block_lt_of_cell? w _ hx299_2)).trans hx299_2
            replace p299 := eq_true p299
            replace q299 := eq_true q299
            go_wp2
            go_ret
            exact ⟨by first | rfl | (simp [z0e, z0d] <;> rfl) | (refine congrArg (fun b_ : Bool => Ending.returned (Value.bool b_)) ?_; simp; done) | (simp [*, z0e, z0d] <;> rfl), by repeat (first | (with_reducible first | exact HB.out | apply z03 | apply z00 | apply z04 | refine z08 ?_ GE298.out) | exact HB.out)⟩
          · rw [if_neg c6] at H
            have c6b0 : (((rd_T48 l0_0 x5_1).f0).toList == a1.toList) = false := beq_eq_false_iff_ne.mpr c6
            have c6b1 : (((rd_T48 l0_0 x5_1).f0).toList != a1.toList) = true := bne_iff_ne.mpr c6
            have H' := z05.mk H
            clear H
            have hcz8_0 : wr.cell? ⟨gb298, 0, none⟩ = some (.slice A0_0 l0_0.length c0_0) := (z02 BK298.out 0).trans rfl
            have hcz8_1 : wr.cell? ⟨gb298, 1, none⟩ = some (.int .i64 a0_1) := (z02 BK298.out 1).trans rfl
            have hcz8_2 : wr.cell? ⟨gb298, 2, none⟩ = some (.int .i64 a0_2) := (z02 BK298.out 2).trans rfl
            have hcz8_3 : wr.cell? ⟨gb298, 3, none⟩ = some (.int .i64 a0_3) := (z02 BK298.out 3).trans rfl
            have hcz8_4 : wr.cell? ⟨gb298, 4, none⟩ = some (.int .i64 a0_4) := (z02 BK298.out 4).trans rfl
            have hfz8_0 := z01 BK298.out 0
            have hfz8_1 := z01 BK298.out 1
            have hfz8_2 := z01 BK298.out 2
            have hfz8_3 := z01 BK298.out 3
            have hfz8_4 := z01 BK298.out 4
            have p299 : 0 ≤ (x5_1 : Int) := of_decide_eq_true (by first | (with_reducible assumption) | assumption)
            have q299 : x5_1 < (l0_0.length : Int) := of_decide_eq_true (by first | (with_reducible assumption) | assumption)
            obtain ⟨ad299, e299, hx299_0, hx299_1, hx299_2⟩ := at_T48 HR0_0.out x5_1 p299 q299
            cases e299
            replace hx299_0 := (HB.out.cell (World.block_lt_of_cell? w _ hx299_0)).trans hx299_0
            replace hx299_1 := (HB.out.cell (World.block_lt_of_cell? w _ hx299_1)).trans hx299_1
            replace hx299_2 := (HB.out.cell (World.block_lt_of_cell? w _ hx299_2)).trans hx299_2
            replace p299 := eq_true p299
            replace q299 := eq_true q299
            go_wp2
            go_roundg k1
            case measure => have := HK1.out; omega
            case rel => exact ⟨(wrap64 (x5_1 + 1)), (by first | rfl | (simp; done) | (simp [*]; done)), H', ⟨by have := HK1.out; omega⟩, ⟨by (with_reducible repeat (first | refine z07 ?_ _ | refine z09 ?_ | refine z06 ?_ _)); exact BK298.out⟩, ⟨by repeat (first | (with_reducible first | exact HB.out | apply z03 | apply z00 | apply z04 | refine z08 ?_ GE298.out) | exact HB.out)⟩⟩
        · rw [if_neg c5] at H
          exact absurd H (by simp)
      · rw [if_neg c4] at H
        have c4b0 : decide (x5_1 < (l0_0.length : Int)) = false := decide_eq_false c4
        clear c4
        obtain rfl := Option.some.inj H
        have hcz9_0 : wr.cell? ⟨gb298, 0, none⟩ = some (.slice A0_0 l0_0.length c0_0) := (z02 BK298.out 0).trans rfl
        have hcz9_1 : wr.cell? ⟨gb298, 1, none⟩ = some (.int .i64 a0_1) := (z02 BK298.out 1).trans rfl
        have hcz9_2 : wr.cell? ⟨gb298, 2, none⟩ = some (.int .i64 a0_2) := (z02 BK298.out 2).trans rfl
        have hcz9_3 : wr.cell? ⟨gb298, 3, none⟩ = some (.int .i64 a0_3) := (z02 BK298.out 3).trans rfl
        have hcz9_4 : wr.cell? ⟨gb298, 4, none⟩ = some (.int .i64 a0_4) := (z02 BK298.out 4).trans rfl
        have hfz9_0 := z01 BK298.out 0
        have hfz9_1 := z01 BK298.out 1
        have hfz9_2 := z01 BK298.out 2
        have hfz9_3 := z01 BK298.out 3
        have hfz9_4 := z01 BK298.out 4
        go_wp2
        go_ret
        exact ⟨by first | rfl | (simp [z0e, z0d] <;> rfl) | (refine congrArg (fun b_ : Bool => Ending.returned (Value.bool b_)) ?_; simp; done) | (simp [*, z0e, z0d] <;> rfl), by repeat (first | (with_reducible first | exact HB.out | apply z03 | apply z00 | apply z04 | refine z08 ?_ GE298.out) | exact HB.out)⟩

end Go.Proofs.YteefchdfdgfaaaaDoor.Q
