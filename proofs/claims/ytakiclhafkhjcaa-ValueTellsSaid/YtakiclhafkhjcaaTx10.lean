/- The machine side of laws, written by wip/tools/myprint.py (the printer's way, with functions proved by hand put in); Lean checks it. -/
import Derived.Deep.RegionLaw
import Derived.Test.YtakiclhafkhjcaaHnum
import Derived.Test.YtakiclhafkhjcaaHval
import Derived.Test.YtakiclhafkhjcaaTx0
import Derived.Test.YtakiclhafkhjcaaTx7
import Derived.Test.YtakiclhafkhjcaaTx8
import Derived.Test.YtakiclhafkhjcaaTx9
namespace Go.Proofs.Ytakiclhafkhjcaa.T
open Go.RowKit Go.Proofs.YtakiclhafkhjcaaW.PrintWords Go.Proofs.YtakiclhafkhjcaaW.PrintLast Go.Proofs.YtakiclhafkhjcaaW.PrintMore
attribute [local go_sem] max2_int min2_int max_two min_two max_three min_three max_four min_four   -- for this text's walks alone
set_option linter.unusedVariables false
set_option linter.unusedSimpArgs false

-- BY HAND: Derived.Test.YtakiclhafkhjcaaHnum,Derived.Test.YtakiclhafkhjcaaHval,Derived.Deep.RegionLaw
/-! ### winnowerref06_Put: function 10 -/
-- HAND winnower/winnowerref06.Put making
-- IMPORT Derived.Test.YtakiclhafkhjcaaHnum
-- IMPORT Derived.Test.YtakiclhafkhjcaaHval
-- IMPORT Derived.Deep.RegionLaw
open Go.Proofs.Ytakiclhafkhjcaa.Hnum Go.Proofs.Ytakiclhafkhjcaa.Hval
theorem winnowerref06_May.tell (k i : Int) (s : ByteArray) (b : Bool) : winnowerref06_May.f k i s b = some (V.may ⟨k, i, s, b⟩) := by
  unfold winnowerref06_May.f V.may
  simp only
  by_cases c0 : k = 0
  · rw [if_pos c0, if_neg (show ¬ k = 1 by omega), if_neg (show ¬ k = 2 by omega), if_neg (show ¬ k = 3 by omega), if_pos c0]
    by_cases h1 : i = 0
    · rw [if_pos h1]
      by_cases h2 : s.toList = []
      · rw [if_pos h2, h1, h2]; rfl
      · rw [if_neg h2, beq_eq_false_iff_ne.mpr h2]; simp
    · rw [if_neg h1, beq_eq_false_iff_ne.mpr h1]; simp
  · rw [if_neg c0]
    by_cases c1 : k = 1
    · rw [if_pos c1, if_pos c1]
      by_cases h2 : s.toList = []
      · rw [if_pos h2, h2]; rfl
      · rw [if_neg h2, beq_eq_false_iff_ne.mpr h2]; simp
    · rw [if_neg c1, if_neg c1]
      by_cases c2 : k = 2
      · rw [if_pos c2, if_pos c2]
        by_cases h1 : i = 0
        · rw [if_pos h1, h1]
          by_cases h3 : b = true
          · rw [if_pos h3, h3]; simp
          · rw [if_neg h3, show b = false from by simpa using h3]
            by_cases h4 : (s.size : Int) > 64
            · rw [if_pos h4, decide_eq_false (by omega)]
            · rw [if_neg h4, decide_eq_true (by omega)]; rfl
        · rw [if_neg h1, beq_eq_false_iff_ne.mpr h1]; simp
      · rw [if_neg c2, if_neg c2]
        by_cases c3 : k = 3
        · rw [if_pos c3, if_pos c3]
          by_cases h1 : i = 0
          · rw [if_pos h1, h1]; simp
          · rw [if_neg h1, beq_eq_false_iff_ne.mpr h1]; simp
        · rw [if_neg c3, if_neg c3, if_neg c0]
theorem winnowerref01_Put.tells {a : Int} (h : i64 a) : winnowerref01_Put.f a = some (digs (fold a)) := by
  unfold i64 at h
  unfold winnowerref01_Put.f
  by_cases h0 : a < 0
  · have e : wrap64 (-(wrap64 (a + 1))) = -(a + 1) := by rw [wrap_id (x := a + 1) (by omega) (by omega), wrap_id (by omega) (by omega)]
    have e2 : (2 * (-(a + 1)) + 1).toNat = fold a := by unfold fold; rw [if_neg (by omega)]; omega
    rw [if_pos h0, e]
    unfold winnowerref01_digits.f
    rw [if_pos ⟨by omega, by omega, by omega, by omega⟩, Option.bind_some, e2]
  · have e2 : (2 * a + 0).toNat = fold a := by unfold fold; rw [if_pos (by omega)]; omega
    rw [if_neg h0]
    unfold winnowerref01_digits.f
    rw [if_pos ⟨by omega, by omega, by omega, by omega⟩, Option.bind_some, e2]
theorem winnowerref01_PutLen.tells {a : Nat} (h : a ≤ 9223372036854775807) : winnowerref01_PutLen.f (a : Int) = some (digs a) := by
  unfold winnowerref01_PutLen.f
  have e1 : wrap64 (Int.tdiv (a : Int) 2) = ((a / 2 : Nat) : Int) := by rw [Int.tdiv_eq_ediv_of_nonneg (by omega), wrap_id (by omega) (by omega)]; omega
  have e2 : Int.tmod (a : Int) 2 = ((a % 2 : Nat) : Int) := by rw [Int.tmod_eq_emod_of_nonneg (by omega)]; omega
  have e3 : (2 * ((a / 2 : Nat) : Int) + ((a % 2 : Nat) : Int)).toNat = a := by omega
  rw [if_neg (by omega), e1, e2]
  unfold winnowerref01_digits.f
  rw [if_pos ⟨by omega, by omega, by omega, by omega⟩, Option.bind_some, e3]
theorem winnowerref06_Put.info : (Try.prog.info? 5).map (fun i => (i.zero, i.size, i.bytes)) = some (some (.int .u8 0), 1, 1) := by kernel_rfl
/-- The bytes of a string, as they stand in a new block. -/
theorem C_bytes (W : World) (s : ByteArray) (hs : s.size ≤ 9223372036854775807) : Kd.C (Kd.int .u8) (Lib.bytesWorld W 5 s) (some ⟨W.heap.size, 0, none⟩) s.size (bytesOf s) :=
  Kd.C_of_reads (enc := Value.int .u8) (h1 := fun _ => rfl) (d := (0 : Int)) (bytes_reads W 5 s hs)
def winnowerref06_Put.f (k i : Int) (s : ByteArray) (b : Bool) : Option (List Int × Int) := if i64 i then some (V.put ⟨k, i, s, b⟩ []) else none
set_option maxHeartbeats 4000000 in
theorem winnowerref06_Put.calls (a0_0 : Int) (a0_1 : Int) (a0_2 : ByteArray) (a0_3 : Bool) (r1 : List Int) (r2 : Int) (w : World) (h : winnowerref06_Put.f a0_0 a0_1 a0_2 a0_3 = some (r1, r2)) :
    Calls Try.prog 10 #[.agg #[.int .i64 a0_0, .int .i64 a0_1, .string a0_2, .bool a0_3]] w fun e w' => ∃ v0_ : Value, e = .returned (.tuple #[v0_, .int .i64 r2]) ∧ Kd.R (Kd.int .u8) 5 w' w.heap.size (fun _ => True) v0_ r1 ∧ Below w.heap.size w w' := by
  have huV := Try.underlying23
  unfold winnowerref06_Put.f at h
  by_cases hi : i64 a0_1
  · rw [if_pos hi] at h
    have H := Aside0.mk h
    have HI := Aside0.mk hi
    clear h hi
    have hmt := winnowerref06_May.tell a0_0 a0_1 a0_2 a0_3
    by_cases hm : V.may ⟨a0_0, a0_1, a0_2, a0_3⟩ = true
    · rw [hm] at hmt
      have HM := Aside0.mk hm
      have HT := Aside0.mk hmt
      clear hm hmt
      by_cases c1 : a0_0 = 1
      · subst c1
        have hr : r1 = digs (fold a0_1) ∧ r2 = 0 := by
          have := H.out
          unfold V.put V.bytes at this
          rw [if_pos HM.out, List.nil_append] at this
          simp only [if_true, Option.some.injEq, Prod.mk.injEq] at this
          exact ⟨this.1.symm, this.2.symm⟩
        have HP := Aside0.mk (winnowerref01_Put.tells HI.out)
        have HR := Aside0.mk hr
        clear hr
        go_enter Try.func10, Try.ntmps10
        go_wp2_with fail
        refine (winnowerref06_May.calls _ _ _ _ true _ HT.out).mono ?_
        rintro e w1 ⟨rfl, hb⟩
        have hB := blk_below (blk_new w _) hb
        have c0 := blk_cell hB 0
        have c1 := blk_cell hB 1
        have c2 := blk_cell hB 2
        have c3 := blk_cell hB 3
        have HB := Aside0.mk (((Below.refl _ _).alloc (Nat.le_refl _) _).trans (hb.mono (by simp)))
        clear hb hB
        go_wp2_with fail
        refine (winnowerref01_Put.calls a0_1 _ _ HP.out).mono ?_
        rintro e w2 ⟨v, rfl, hr, hb⟩
        have HR1 := Aside0.mk hr
        have HB1 := Aside0.mk (HB.out.trans (hb.mono HB.out.size))
        have hsz := HB.out.size
        clear hb hr
        go_wp2
        go_ret2
        exact ⟨v, by rw [HR.out.2]; rfl, by rw [HR.out.1]; exact Kd.R_lower HR1.out hsz, HB1.out⟩
      · by_cases c2 : a0_0 = 2
        · subst c2
          have hs : a0_2.size ≤ 64 := by
            have := HM.out
            unfold V.may at this
            simp only at this
            by_cases h : (a0_2.size : Int) > 64
            · simp [h] at this
            · omega
          have hr : r1 = digs a0_2.size ++ bytesOf a0_2 ∧ r2 = 0 := by
            have := H.out
            unfold V.put V.bytes at this
            rw [if_pos HM.out, List.nil_append] at this
            simp only [Option.some.injEq, Prod.mk.injEq] at this
            exact ⟨this.1.symm, this.2.symm⟩
          have HP := Aside0.mk (winnowerref01_PutLen.tells (a := a0_2.size) (by omega))
          have HD := Aside0.mk (digs_le_ten (u := a0_2.size) (by omega))
          have HL := Aside0.mk (bytesOf_length a0_2)
          have HR := Aside0.mk hr
          have kc := fun W : World => Lib.run_convert_string_bytes (P := Try.prog) W 9 24 5 a0_2 Try.underlying9 Try.underlying24 Try.underlying5
          clear hr c1
          go_enter Try.func10, Try.ntmps10
          go_wp2_with fail
          refine (winnowerref06_May.calls _ _ _ _ true _ HT.out).mono ?_
          rintro e w1 ⟨rfl, hb⟩
          have hB := blk_below (blk_new w _) hb
          have c0 := blk_cell hB 0
          have c1 := blk_cell hB 1
          have c2 := blk_cell hB 2
          have c3 := blk_cell hB 3
          have HB := Aside0.mk (((Below.refl _ _).alloc (Nat.le_refl _) _).trans (hb.mono (by simp)))
          have HB1 := Aside0.mk hb
          clear hb hB
          go_wp2_with fail
          have hsz : w.heap.size < w1.heap.size := by have := HB1.out.size; simp at this; omega
          have c2b : (Lib.bytesWorld w1.drew 5 a0_2).cell? ⟨w.heap.size, 2, none⟩ = some (.string a0_2) := (Lib.bytesWorld_old _ _ _ _ hsz).trans c2
          go_region_law (first
            | (go_simp; go_at_call 24; refine (winnowerref01_PutLen.calls _ _ _ HP.out).mono ?_; rintro e w2 ⟨v2, rfl, hr2, hb2⟩; have c2' : w2.cell? ⟨w.heap.size, 2, none⟩ = some (.string a0_2) := (hb2.cell (p := ⟨w.heap.size, 2, none⟩) (by first | exact hsz | (rw [Lib.bytesWorld_size]; exact Nat.lt_succ_of_lt hsz))).trans (by first | exact c2 | exact (Lib.bytesWorld_old _ _ _ _ hsz).trans c2); have HR2 := Aside0.mk (Kd.R_lower hr2 (show w.heap.size ≤ _ by first | exact Nat.le_of_lt hsz | (rw [Lib.bytesWorld_size]; exact Nat.le_succ_of_le (Nat.le_of_lt hsz)))); have HB3 := Aside0.mk (show Below w.heap.size w w2 by first | exact HB.out.drew.trans (hb2.mono (Nat.le_of_lt hsz)) | exact (bytes_below HB.out.drew (Nat.le_of_lt hsz) _ _).trans (hb2.mono (by rw [Lib.bytesWorld_size]; exact Nat.le_succ_of_le (Nat.le_of_lt hsz)))); have HB2 := Aside0.mk hb2; clear hr2 hb2; dsimp only)
            | (refine Kd.R_append_rows_step (Kd.int .u8) (w0 := w) w.heap.size (by rfl) (.tmp 21) (.tmp 24) 24 5 (.int .u8 0) 1 rfl Try.underlying24 winnowerref06_Put.info rfl (by decide) (by decide) v2 (digs a0_2.size) (bytesOf a0_2) _ a0_2.size _ (fun _ => True) (fun _ => False) rfl rfl ?aO ?aR (fun _ _ h => h) (fun _ h => h.elim) (fun _ _ => trivial) ?aB ?aS ?aL ?_
               (case aO => first | exact HR2.out | exact Kd.R_below HR2.out (bytes_below (Below.refl _ _) (Nat.le_refl _) _ _))
               (case aR => first | exact C_bytes w2 _ (by omega) | exact Kd.C_below (C_bytes w1.drew _ (by omega)) HB2.out)
               (case aB => first | exact HB3.out | exact bytes_below HB3.out HB3.out.size _ _)
               (case aS => first | exact HB3.out.size | exact (bytes_below HB3.out HB3.out.size _ _).size)
               (case aL => have := HD.out; omega)
               intro v3 w3 hr3 hb3 hg3 ho3; clear hg3 ho3; have HR3 := Aside0.mk hr3; have HB4 := Aside0.mk hb3; clear hr3 hb3))
          all_goals go_wp2
          all_goals go_ret2
          all_goals exact ⟨_, by rw [HR.out.2]; rfl, by rw [HR.out.1]; exact HR3.out, HB4.out⟩
        · by_cases c3 : a0_0 = 3
          · subst c3
            have hr : r1 = [tr a0_3] ∧ r2 = 0 := by
              have := H.out
              unfold V.put V.bytes at this
              rw [if_pos HM.out, List.nil_append] at this
              simp only [Option.some.injEq, Prod.mk.injEq] at this
              exact ⟨this.1.symm, this.2.symm⟩
            have HR := Aside0.mk hr
            clear hr c1 c2
            cases a0_3
            all_goals
              go_enter Try.func10, Try.ntmps10
              go_wp2_with fail
              refine (winnowerref06_May.calls _ _ _ _ true _ HT.out).mono ?_
              rintro e w1 ⟨rfl, hb⟩
              have hB := blk_below (blk_new w _) hb
              have c0 := blk_cell hB 0
              have c1 := blk_cell hB 1
              have c2 := blk_cell hB 2
              have c3 := blk_cell hB 3
              have HB := Aside0.mk (((Below.refl _ _).alloc (Nat.le_refl _) _).trans (hb.mono (by simp)))
              clear hb hB
              go_wp2
              go_ret2
              refine ⟨_, by rw [HR.out.2]; rfl, ?_, HB.out.alloc HB.out.size _⟩
              rw [HR.out.1]
              exact Kd.R_of_own (enc := Value.int .u8) (h1 := fun _ => rfl) (ok := fun _ => True) (own_lit _ w.heap.size 5 .u8 [_] HB.out.size (by decide)) (fun _ _ => trivial)
          · have hr : r1 = [] ∧ r2 = 0 := by
              have := H.out
              unfold V.put V.bytes at this
              rw [if_pos HM.out, List.nil_append] at this
              simp only [c1, c2, c3, if_false, Option.some.injEq, Prod.mk.injEq] at this
              exact ⟨this.1.symm, this.2.symm⟩
            have HR := Aside0.mk hr
            clear hr
            have d1 : (a0_0 == 1) = false := beq_eq_false_iff_ne.mpr c1
            have d2 : (a0_0 == 2) = false := beq_eq_false_iff_ne.mpr c2
            have d3 : (a0_0 == 3) = false := beq_eq_false_iff_ne.mpr c3
            clear c1 c2 c3
            go_enter Try.func10, Try.ntmps10
            go_wp2_with fail
            refine (winnowerref06_May.calls _ _ _ _ true _ HT.out).mono ?_
            rintro e w1 ⟨rfl, hb⟩
            have hB := blk_below (blk_new w _) hb
            have c0 := blk_cell hB 0
            have c1 := blk_cell hB 1
            have c2 := blk_cell hB 2
            have c3 := blk_cell hB 3
            have HB := Aside0.mk (((Below.refl _ _).alloc (Nat.le_refl _) _).trans (hb.mono (by simp)))
            clear hb hB
            go_wp2
            go_ret2
            exact ⟨_, by rw [HR.out.2]; rfl, by rw [HR.out.1]; exact Kd.R_nil _ _ _ _ _, HB.out⟩
    · have hm2 : V.may ⟨a0_0, a0_1, a0_2, a0_3⟩ = false := by simpa using hm
      rw [hm2] at hmt
      have hr : r1 = [] ∧ r2 = 1 := by
        have := H.out
        unfold V.put at this
        rw [if_neg hm] at this
        simp only [Option.some.injEq, Prod.mk.injEq] at this
        exact ⟨this.1.symm, this.2.symm⟩
      have HR := Aside0.mk hr
      have HT := Aside0.mk hmt
      clear hr hm hm2 hmt
      go_enter Try.func10, Try.ntmps10
      go_wp2_with fail
      refine (winnowerref06_May.calls _ _ _ _ false _ HT.out).mono ?_
      rintro e w1 ⟨rfl, hb⟩
      have HB := Aside0.mk (((Below.refl _ _).alloc (Nat.le_refl _) _).trans (hb.mono (by simp)))
      clear hb
      go_wp2
      go_ret2
      exact ⟨_, by rw [HR.out.2]; rfl, by rw [HR.out.1]; exact Kd.R_nil _ _ _ _ _, HB.out⟩
  · rw [if_neg hi] at h; cases h

end Go.Proofs.Ytakiclhafkhjcaa.T
