/- The law FrameMore's walk: written by wip/turn/FrameMore.back.py from the printed text of the turned function (FrameMore.ops.py), with words of its own ahead. -/
import Derived.ChangeKeysEq
import Derived.Laws.Rows
import Derived.Test.YtafljcblglielaaMx0
import Derived.Test.YtafljcblglielaaMx4
import Derived.Test.YtafljcblglielaaMx5
import Derived.Test.YtafljcblglielaaMx6
import Derived.Test.YtafljcblglielaaMx9
import Derived.Test.YtafljcblglielaaMx11
namespace Go.Proofs.Ytafljcblglielaa.M
open Go.RowKit Go.Proofs.YtafljcblglielaaW.PrintWords Go.Proofs.YtafljcblglielaaW.PrintLast Go.Proofs.YtafljcblglielaaW.PrintMore
attribute [local go_sem] max2_int min2_int max_two min_two max_three min_three max_four min_four   -- for this text's walks alone
set_option linter.unusedVariables false
set_option linter.unusedSimpArgs false

-- SAYS The law FrameMore's walk: written by wip/turn/FrameMore.back.py from the printed text of the turned function (FrameMore.ops.py), with words of its own ahead.
-- FUNCS winnower/winnowerlaw04.FrameMore
-- NEEDS winnowerlaw04_awake.calls winnowerlaw04_few.calls frame_Seal.calls winnowerref04_Lists.calls frame_Read.calls winnowerref01_PutLen.calls
-- IMPORT Derived.ChangeKeysEq
-- IMPORT Derived.Laws.Rows
/-- A slice's header as a thing of one cell. -/
def hdrv (h : Option Addr × Nat × Nat) : Value := .slice h.1 h.2.1 h.2.2
abbrev hdr : Kd (Option Addr × Nat × Nat) := Kd.scalar hdrv (fun _ => rfl)
/-- The headers hs lead to the rows of l. -/
def Heads {α : Type} (d : Kd α) (w : World) (l : List (List α)) (hs : List (Option Addr × Nat × Nat)) : Prop :=
  hs.length = l.length ∧ ∀ (j : Nat) (x : List α) (h : Option Addr × Nat × Nat), l[j]? = some x → hs[j]? = some h → h.2.1 = x.length ∧ x.length ≤ h.2.2 ∧ d.C w h.1 x.length x
theorem Heads.below {α : Type} {d : Kd α} {w w1 : World} {l : List (List α)} {hs : List (Option Addr × Nat × Nat)} (h : Heads d w l hs) (hb : Below w.heap.size w w1) : Heads d w1 l hs :=
  ⟨h.1, fun j x y hx hy => ⟨(h.2 j x y hx hy).1, (h.2 j x y hx hy).2.1, Kd.C_below (h.2 j x y hx hy).2.2 hb⟩⟩
theorem Heads.append {α : Type} {d : Kd α} {w : World} {l m : List (List α)} {hs ks : List (Option Addr × Nat × Nat)} (h : Heads d w l hs) (h' : Heads d w m ks) : Heads d w (l ++ m) (hs ++ ks) := by
  refine ⟨by rw [List.length_append, List.length_append, h.1, h'.1], fun j x y hx hy => ?_⟩
  by_cases hj : j < l.length
  · rw [List.getElem?_append_left hj] at hx
    rw [List.getElem?_append_left (by rw [h.1]; exact hj)] at hy
    exact h.2 j x y hx hy
  · rw [List.getElem?_append_right (by omega)] at hx
    rw [List.getElem?_append_right (by rw [h.1]; omega), h.1] at hy
    exact h'.2 _ x y hx hy
theorem heads_of {α : Type} {d : Kd α} {e : Nat} {w : World} {A : Option Addr} {n : Nat} {l : List (List α)} (h : (Kd.slice e d).C w A n l) : ∃ hs, hdr.C w A n hs ∧ Heads d w l hs := by
  obtain ⟨hl, hn, hc⟩ := h
  by_cases h0 : 0 < n
  · obtain ⟨ad, e0, hc⟩ := hc h0
    have key : ∀ j : Fin l.length, ∃ h : Option Addr × Nat × Nat, (h.2.1 = l[j].length ∧ l[j].length ≤ h.2.2 ∧ d.C w h.1 l[j].length l[j]) ∧ w.cell? (ad.add j) = some (hdrv h) := by
      intro j
      obtain ⟨c, _, ⟨B, cp, rfl, hle, hC⟩, hcell⟩ := hc j _ (List.getElem?_eq_getElem j.2)
      refine ⟨(B, l[j].length, cp), ⟨rfl, hle, hC⟩, ?_⟩
      have := hcell 0 _ rfl
      simpa [Kd.slice, hdrv] using this
    refine ⟨List.ofFn fun j => (key j).choose, ⟨by simp [hl], hn, fun _ => ⟨ad, e0, fun j p hp => ?_⟩⟩, by simp, fun j x h hx hh => ?_⟩
    · rw [List.getElem?_ofFn] at hp
      split at hp
      · rename_i hj
        injection hp with hp
        subst hp
        refine ⟨[hdrv (key ⟨j, hj⟩).choose], rfl, rfl, fun i u hu => ?_⟩
        cases i with
        | zero =>
          have := (key ⟨j, hj⟩).choose_spec.2
          simp only [List.getElem?_cons_zero, Option.some.injEq] at hu
          subst hu
          simpa [hdr, Kd.scalar] using this
        | succ i => simp at hu
      · cases hp
    · rw [List.getElem?_ofFn] at hh
      split at hh
      · rename_i hj
        injection hh with hh
        subst hh
        have := (key ⟨j, hj⟩).choose_spec.1
        rw [List.getElem?_eq_getElem hj] at hx
        injection hx with hx
        subst hx
        exact this
      · cases hh
  · obtain rfl : n = 0 := by omega
    obtain rfl : l = [] := List.eq_nil_of_length_eq_zero hl
    exact ⟨[], ⟨rfl, hn, fun h => absurd h (by omega)⟩, rfl, fun j x h hx => by simp at hx⟩
theorem of_heads {α : Type} {d : Kd α} {e : Nat} {w : World} {A : Option Addr} {n : Nat} {l : List (List α)} {hs : List (Option Addr × Nat × Nat)} (h : hdr.C w A n hs) (hh : Heads d w l hs) : (Kd.slice e d).C w A n l := by
  refine ⟨hh.1.symm.trans h.1, h.2.1, fun h0 => ?_⟩
  obtain ⟨ad, e0, hc⟩ := h.2.2 h0
  refine ⟨ad, e0, fun j x hx => ?_⟩
  have hj : j < hs.length := by
    rw [hh.1]
    exact (List.getElem?_eq_some_iff.1 hx).1
  have hy := List.getElem?_eq_getElem hj
  obtain ⟨e1, e2, e3⟩ := hh.2 j x _ hx hy
  obtain ⟨c, _, hcs, hcell⟩ := hc j _ hy
  have hcs' : c = [hdrv hs[j]] := hcs
  subst hcs'
  refine ⟨[hdrv hs[j]], rfl, ⟨hs[j].1, hs[j].2.2, by rw [← e1]; rfl, e2, e3⟩, fun i u hu => ?_⟩
  have := hcell i u hu
  simpa [Kd.slice, hdr, Kd.scalar] using this
theorem underlying38 : Try.prog.underlying 38 = some (.array 4 5) := by kernel_rfl
theorem size38 : (Try.prog.info? 38).map (·.size) = some 4 := by kernel_rfl
theorem und5 : Try.prog.underlying 5 = some (.int .u8) := by kernel_rfl
/-- A [4]byte as a value. -/
abbrev four (b0 b1 b2 b3 : Int) : Array Value := #[.int .u8 b0, .int .u8 b1, .int .u8 b2, .int .u8 b3]
theorem part4 (b0 b1 b2 b3 : Int) (w : World) (i : Nat) (hi : i < 4) : (part 5 (four b0 b1 b2 b3) (i * Try.prog.cellsOf 5)).run Try.prog w = .ok (.int .u8 (rd [b0, b1, b2, b3] i)) w := by
  have hc : Try.prog.cellsOf 5 = 1 := by kernel_rfl
  have ha : (isAgg 5).run Try.prog w = .ok false w := by
    unfold isAgg
    rw [Sem.run_bind, run_underlying und5 w]
    rfl
  rw [hc, Nat.mul_one]
  unfold part
  rw [Sem.run_bind, ha]
  obtain rfl | rfl | rfl | rfl : i = 0 ∨ i = 1 ∨ i = 2 ∨ i = 3 := by omega
  all_goals rfl
theorem eq4 (b0 b1 b2 b3 : Int) (w : World) : (Op.equal 38 (.agg (four b0 b1 b2 b3)) (.agg (four 0 0 0 0))).run Try.prog w = .ok (b0 == 0 && b1 == 0 && b2 == 0 && b3 == 0) w := by
  obtain ⟨i, hi⟩ : ∃ i, Try.prog.info? 5 = some i := by
    cases h : Try.prog.info? 5 with
    | none => exact absurd h (by intro h; have := info5; rw [h] at this; cases this)
    | some i => exact ⟨i, rfl⟩
  have he : ∀ (a b : Int) (d : Nat), (Op.equalIn (d + 1) 5 (.int .u8 a) (.int .u8 b)).run Try.prog w = .ok (a == b) w := fun a b d => run_equalIn_int w d 5 .u8 .u8 a b und5
  show (Op.equalIn (9999 + 1) 38 _ _).run Try.prog w = _
  rw [run_equalIn_array w 9999 _ _ underlying38 hi]
  have hr : List.range 4 = [0, 1, 2, 3] := rfl
  rw [hr]
  have step : ∀ (j : Nat) (is : List Nat), j < 4 → ∀ q : Bool, (Op.eqItems 9999 5 (Try.prog.cellsOf 5) (four b0 b1 b2 b3) (four 0 0 0 0) is).run Try.prog w = .ok q w →
      (Op.eqItems 9999 5 (Try.prog.cellsOf 5) (four b0 b1 b2 b3) (four 0 0 0 0) (j :: is)).run Try.prog w = .ok ((rd [b0, b1, b2, b3] j == rd [0, 0, 0, 0] j) && q) w := by
    intro j is hj q hq
    simp only [Op.eqItems, Sem.run_bind, part4 _ _ _ _ w j hj, Result.andThen_ok, he]
    cases rd [b0, b1, b2, b3] j == rd [0, 0, 0, 0] j
    · rfl
    · exact hq
  have := step 0 _ (by omega) _ (step 1 _ (by omega) _ (step 2 _ (by omega) _ (step 3 [] (by omega) true rfl)))
  simp only [Bool.and_true] at this
  rw [this]
  simp [rd, Bool.and_assoc]
theorem row4 {b0 b1 b2 b3 : Int} {w : World} {g : Nat} (h : w.heap[g]? = some (.cells (four b0 b1 b2 b3) 38 (0, 0))) : (Kd.int .u8).C w (some ⟨g, 0, none⟩) ([b0, b1, b2, b3] : List Int).length [b0, b1, b2, b3] :=
  Kd.C_of_reads (d := (0 : Int)) (h1 := fun _ => rfl) ⟨rfl, (by show 4 ≤ 9223372036854775807; omega), fun _ => ⟨_, rfl, fun j hj => by
    have hj : j < 4 := hj
    rw [add_plain, cell_of_row w g j _ _ _ h]
    obtain rfl | rfl | rfl | rfl : j = 0 ∨ j = 1 ∨ j = 2 ∨ j = 3 := by omega
    all_goals rfl⟩⟩
/-- Lists, of a list of modest length. -/
def lst (k : Nat) (a b : List (List Int)) : Option Bool := if b.length < 1000000 then winnowerref04_Lists.f k a b else none
theorem lst_some {k : Nat} {a b : List (List Int)} {r : Bool} (h : lst k a b = some r) : b.length < 1000000 ∧ winnowerref04_Lists.f k a b = some r := by
  unfold lst at h
  split at h
  · exact ⟨by assumption, h⟩
  · cases h
theorem joined_ {α : Type} {d : Kd α} {w W1 : World} {base : Nat} {ok : Nat → Prop} {v : Value} {l m lm : List (List α)} {hs ks : List (Option Addr × Nat × Nat)} {e e' : Nat} (h : Heads d w l hs) (h' : Heads d w m ks) (hb : Below w.heap.size w W1) (hl : lm = l ++ m) (ho : hdr.R e W1 base ok v (([] ++ hs) ++ ks)) :
    ∃ A c, v = .slice A lm.length c ∧ lm.length ≤ c ∧ (Kd.slice e' d).C W1 A lm.length lm := by
  obtain ⟨A, c, e1⟩ := Kd.R_slice ho
  subst e1
  have hn : (([] ++ hs) ++ ks).length = lm.length := by rw [hl, List.nil_append, List.length_append, List.length_append, h.1, h'.1]
  obtain ⟨_, h2, h3⟩ := Kd.R_reads' ho
  rw [hn] at h2 h3
  refine ⟨A, c, by rw [hn], h2, of_heads h3 ?_⟩
  rw [List.nil_append, hl]
  exact (h.below hb).append (h'.below hb)
section
variable {ops : Array Oper} {rest : List Oper} {o : Oper} {a : Act} {Q : Exit → Act → World → Prop}
theorem app1 {W : World} (hgd : o.guard = none) (x : Operand) (ho : o.op = .call { callee := .builtin .append, args := #[.const (.slice none 0 0), x], argTypes := #[30, 30] }) (hs : List (Option Addr × Nat × Nat)) (A : Option Addr) (m c : Nat) (hx : a.eval x = .slice A m c)
    (HR : hdr.C W A m hs) (hl : m < 1000000) (h : ∀ v1 w1, hdr.R 22 w1 W.heap.size (fun _ => True) v1 ([] ++ hs) → Below W.heap.size W w1 → wpList Try.prog ops Q rest (a.put o.dst v1) w1) : wpList Try.prog ops Q (o :: rest) a W :=
  Kd.R_append_rows hdr W.heap.size hgd (.const (.slice none 0 0)) x 30 22 (.slice none 0 0) 24 ho Try.underlying30 info22 rfl (by decide) (by omega) (.slice none 0 0) [] hs A m c (fun _ => True) (fun _ => False) rfl hx (Kd.R_nil _ _ _ _ _) HR (fun _ _ h => h) (fun _ h => h.elim) (fun _ _ => trivial) (Below.refl _ _) (Nat.le_refl _) (by rw [List.length_nil]; omega) (fun v1 w1 h1 h2 _ _ => h v1 w1 h1 h2)
theorem app2 {w0 W : World} {base : Nat} (hgd : o.guard = none) (s x : Operand) (ho : o.op = .call { callee := .builtin .append, args := #[s, x], argTypes := #[30, 30] }) (v : Value) (xs hs : List (Option Addr × Nat × Nat)) (A : Option Addr) (m c : Nat) (hv : a.eval s = v) (hx : a.eval x = .slice A m c)
    (HO : hdr.R 22 W base (fun _ => True) v xs) (HR : hdr.C W A m hs) (HB : Below base w0 W) (hbase : base ≤ W.heap.size) (hl : xs.length + m < 1000000) (h : ∀ v1 w1, hdr.R 22 w1 base (fun _ => True) v1 (xs ++ hs) → Below base w0 w1 → wpList Try.prog ops Q rest (a.put o.dst v1) w1) : wpList Try.prog ops Q (o :: rest) a W :=
  Kd.R_append_rows hdr base hgd s x 30 22 (.slice none 0 0) 24 ho Try.underlying30 info22 rfl (by decide) (by omega) v xs hs A m c (fun k => True) (fun _ => False) hv hx HO HR (fun _ _ h => h) (fun _ h => h.elim) (fun _ _ => trivial) HB hbase (by omega) (fun v1 w1 h1 h2 _ _ => h v1 w1 h1 h2)
end
theorem eql_run {a : Act} {o : Oper} {x y : Operand} {b0 b1 b2 b3 : Int} {w : World} (ho : o.op = .binOp .eql 38 x y 38) (hx : a.eval x = .agg (four b0 b1 b2 b3)) (hy : a.eval y = .agg (four 0 0 0 0)) :
    (execOp a.eval o).run Try.prog w = .ok (.value (.bool (b0 == 0 && b1 == 0 && b2 == 0 && b3 == 0))) w := by
  have hp : (program).run Try.prog w = .ok Try.prog w := rfl
  have hg : Try.prog.eqGuardType Try.prog.depth 38 = false := by kernel_rfl
  have e1 : (eqGuard .eql 38 x y (.agg (four b0 b1 b2 b3)) (.agg (four 0 0 0 0))).run Try.prog w = .ok () w := by
    simp [eqGuard, Sem.run_bind, hp, hg]
  simp only [execOp, ho, hx, hy, Sem.run_bind, e1, Result.andThen_ok]
  simp only [binOp, Sem.run_bind, eq4, Result.andThen_ok, Sem.run_pure]
/-! ### winnowerlaw04_FrameMore: function 6 -/
mutual
def winnowerlaw04_FrameMore.j0 : Nat → List (List Int) → List (List Int) → Int → Bool → List (List Int) → List Int → Bool → Bool → Option (Bool)
  | 0, _, _, _, _, _, _, _, _ => none
  | k + 1, x0, x1, x2, x4, x5, x7, x9, x41 => if x41 = true then (some x9) else (winnowerlaw04_FrameMore.l0 k x0 x1 x2 x4 x5 x7 ([] : List Int) 0)
def winnowerlaw04_FrameMore.l0 : Nat → List (List Int) → List (List Int) → Int → Bool → List (List Int) → List Int → List Int → Int → Option (Bool)
  | 0, _, _, _, _, _, _, _, _ => none
  | k + 1, x0, x1, x2, x4, x5, x7, x12, x14 => if x14 < (x0.length : Int) then (if 0 ≤ x14 then ((frame_Seal.f (rd_L1 x0 x14)).bind fun bt169 => (if x12.length + bt169.1.length < 140737488355328 then (winnowerlaw04_FrameMore.l0 k x0 x1 x2 x4 x5 x7 (x12 ++ bt169.1) (wrap64 (x14 + 1))) else (none))) else (none)) else (winnowerlaw04_FrameMore.l1 k x0 x1 x2 x4 x5 x7 x12 ([] : List Int) 0)
def winnowerlaw04_FrameMore.l1 : Nat → List (List Int) → List (List Int) → Int → Bool → List (List Int) → List Int → List Int → List Int → Int → Option (Bool)
  | 0, _, _, _, _, _, _, _, _, _ => none
  | k + 1, x0, x1, x2, x4, x5, x7, x12, x13, x17 => if x17 < (x1.length : Int) then (if 0 ≤ x17 then ((frame_Seal.f (rd_L1 x1 x17)).bind fun bt177 => (if x13.length + bt177.1.length < 140737488355328 then (winnowerlaw04_FrameMore.l1 k x0 x1 x2 x4 x5 x7 x12 (x13 ++ bt177.1) (wrap64 (x17 + 1))) else (none))) else (none)) else (if ([] : List Int).length + x12.length < 140737488355328 then ((some (([] : List Int) ++ x12 : List Int)).bind fun y184 => (if y184.length + x13.length < 140737488355328 then ((frame_Read.f (y184 ++ x13)).bind fun bt190 => ((lst k bt190.1 x5).bind fun t194 => (if t194 = true then (winnowerlaw04_FrameMore.j3 k x0 x2 x4 x7 x12 (bt190.2 != (wrap64 ((x12.length : Int) + (x13.length : Int))))) else (winnowerlaw04_FrameMore.j3 k x0 x2 x4 x7 x12 true)))) else (none))) else (none))
def winnowerlaw04_FrameMore.j3 : Nat → List (List Int) → Int → Bool → List Int → List Int → Bool → Option (Bool)
  | 0, _, _, _, _, _, _ => none
  | k + 1, x0, x2, x4, x7, x12, x101 => if x101 = true then (some false) else (if (x0.length : Int) = 0 then (winnowerlaw04_FrameMore.j4 k x0 x2 x7 x12 true) else (if x2 < 0 then (winnowerlaw04_FrameMore.j4 k x0 x2 x7 x12 true) else (if 0 < (x0.length : Int) then (if x2 > ((rd_L1 x0 0).length : Int) then (winnowerlaw04_FrameMore.j4 k x0 x2 x7 x12 true) else (winnowerlaw04_FrameMore.j4 k x0 x2 x7 x12 x4)) else (none))))
def winnowerlaw04_FrameMore.j4 : Nat → List (List Int) → Int → List Int → List Int → Bool → Option (Bool)
  | 0, _, _, _, _, _ => none
  | k + 1, x0, x2, x7, x12, x121 => if x121 = true then (some true) else (if 0 < (x0.length : Int) then ((winnowerref01_PutLen.f ((rd_L1 x0 0).length : Int)).bind fun t197 => (if (x12.length : Int) < (wrap64 ((wrap64 ((t197.length : Int) + x2)) + 4)) then (some false) else (winnowerlaw04_FrameMore.l2 k x2 x7 x12 (t197.length : Int) 0))) else (none))
def winnowerlaw04_FrameMore.l2 : Nat → Int → List Int → List Int → Int → Int → Option (Bool)
  | 0, _, _, _, _, _ => none
  | k + 1, x2, x7, x12, x23, x24 => if x24 < 4 then (if 0 ≤ (wrap64 ((wrap64 (x23 + x2)) + x24)) then (if (wrap64 ((wrap64 (x23 + x2)) + x24)) < (x12.length : Int) then (if 0 ≤ x24 then (if x24 < (x7.length : Int) then (winnowerlaw04_FrameMore.l2 k x2 x7 (x12.set ((wrap64 ((wrap64 (x23 + x2)) + x24)) : Int).toNat (Go.bits .xor .u8 (rd x12 (wrap64 ((wrap64 (x23 + x2)) + x24))) (rd x7 x24))) x23 (wrap64 (x24 + 1))) else (none)) else (none)) else (none)) else (none)) else ((frame_Read.f x12).bind fun bt203 => (if (bt203.1.length : Int) = 0 then (some (bt203.2 == 0)) else (some false)))
end
def winnowerlaw04_FrameMore.f (k : Nat) (l0 : List (List Int)) (l1 : List (List Int)) (a2 : Int) (l3 : List Int) (a4 : Bool) (l5 : List (List Int)) : Option (Bool) := (winnowerlaw04_awake.f k).bind fun t165 => ((winnowerlaw04_few.f k l0).bind fun t166 => ((winnowerlaw04_few.f k l1).bind fun t167 => (if t165 = true then (if t166 = true then (winnowerlaw04_FrameMore.j0 k l0 l1 a2 a4 l5 l3 t165 (!t167)) else (winnowerlaw04_FrameMore.j0 k l0 l1 a2 a4 l5 l3 t165 true)) else (winnowerlaw04_FrameMore.j0 k l0 l1 a2 a4 l5 l3 t165 true))))
def winnowerlaw04_FrameMore.T30 : Bool × List (List Nat × List Nat) := (true, [([], []), ([], []), ([], []), ([1, 2], [1, 2]), ([], []), ([3, 4], [3, 4]), ([], []), ([], []), ([], []), ([7, 8], [7, 8]), ([], []), ([9, 10], [9, 10]), ([6, 11], [6, 11]), ([12], [12]), ([], []), ([14], [14]), ([15], [15]), ([13, 16], [13, 16]), ([0, 5, 0, 1, 2, 3, 4, 5, 6, 7, 8, 9, 10, 11, 12, 13, 14, 15, 16, 17], [0, 5]), ([18, 17, 0, 1, 2, 3, 4, 5, 6, 7, 8, 9, 10, 11, 12, 13, 14, 15, 16, 17], [17, 18])])
def winnowerlaw04_FrameMore.B30 : List Nat := [0, 0, 0, 6, 0, 30, 0, 0, 0, 384, 0, 1920, 4032, 8128, 0, 16384, 49152, 131008, 262143, 524287]
theorem winnowerlaw04_FrameMore.tab30 : rtab .any (opsOf Try.f6 30) = winnowerlaw04_FrameMore.T30 := by kernel_rfl
theorem winnowerlaw04_FrameMore.bits30 : waitsOk winnowerlaw04_FrameMore.T30.2 winnowerlaw04_FrameMore.B30 = true := by kernel_rfl
set_option maxHeartbeats 8000000 in
set_option maxRecDepth 100000 in
theorem winnowerlaw04_FrameMore.calls (k : Nat) (A0 : Option Addr) (c0 : Nat) (l0 : List (List Int)) (A1 : Option Addr) (c1 : Nat) (l1 : List (List Int)) (a2 : Int) (b0 b1 b2 b3 : Int) (l3 : List Int) (a4 : Bool) (l5 : List (List Int)) (r : Bool) (w0 : World) (hr0 : Kd.C (Kd.slice 5 (Kd.int .u8)) w0 A0 l0.length l0) (hc0 : l0.length ≤ c0) (hr1 : Kd.C (Kd.slice 5 (Kd.int .u8)) w0 A1 l1.length l1) (hc1 : l1.length ≤ c1) (h3 : l3 = [b0, b1, b2, b3]) (h4 : a4 = (b0 == 0 && b1 == 0 && b2 == 0 && b3 == 0)) (h5 : l5 = l0 ++ l1) (hT_ : r = true) (h : winnowerlaw04_FrameMore.f k l0 l1 a2 l3 a4 l5 = some r) :
    Calls Try.prog 6 #[.slice A0 l0.length c0, .slice A1 l1.length c1, .int .i64 a2, .agg (four b0 b1 b2 b3)] w0 fun e w' => e = .returned (.bool r) ∧ Below w0.heap.size w0 w' := by
  have HZ0 := Aside0.mk hr0
  have HC0 := Aside0.mk hc0
  clear hr0 hc0
  have HZ1 := Aside0.mk hr1
  have HC1 := Aside0.mk hc1
  clear hr1 hc1
  have H3 := Aside0.mk h3
  have H4 := Aside0.mk h4
  have H5 := Aside0.mk h5
  clear h3 h4 h5
  have HTRUE := Aside0.mk hT_
  clear hT_
  have H : ((winnowerlaw04_awake.f k).bind fun t165 => ((winnowerlaw04_few.f k l0).bind fun t166 => ((winnowerlaw04_few.f k l1).bind fun t167 => (if t165 = true then (if t166 = true then (winnowerlaw04_FrameMore.j0 k l0 l1 a2 a4 l5 l3 t165 (!t167)) else (winnowerlaw04_FrameMore.j0 k l0 l1 a2 a4 l5 l3 t165 true)) else (winnowerlaw04_FrameMore.j0 k l0 l1 a2 a4 l5 l3 t165 true))))) = some r := h
  clear h
  replace H := Option.bind_eq_some_iff.mp H
  obtain ⟨t165, A70, H⟩ := H
  replace H : ((winnowerlaw04_few.f k l0).bind fun t166 => ((winnowerlaw04_few.f k l1).bind fun t167 => (if t165 = true then (if t166 = true then (winnowerlaw04_FrameMore.j0 k l0 l1 a2 a4 l5 l3 t165 (!t167)) else (winnowerlaw04_FrameMore.j0 k l0 l1 a2 a4 l5 l3 t165 true)) else (winnowerlaw04_FrameMore.j0 k l0 l1 a2 a4 l5 l3 t165 true)))) = some r := H
  have A7 := Aside0.mk A70
  clear A70
  replace H := Option.bind_eq_some_iff.mp H
  obtain ⟨t166, A80, H⟩ := H
  replace H : ((winnowerlaw04_few.f k l1).bind fun t167 => (if t165 = true then (if t166 = true then (winnowerlaw04_FrameMore.j0 k l0 l1 a2 a4 l5 l3 t165 (!t167)) else (winnowerlaw04_FrameMore.j0 k l0 l1 a2 a4 l5 l3 t165 true)) else (winnowerlaw04_FrameMore.j0 k l0 l1 a2 a4 l5 l3 t165 true))) = some r := H
  have A8 := Aside0.mk A80
  clear A80
  replace H := Option.bind_eq_some_iff.mp H
  obtain ⟨t167, A90, H⟩ := H
  replace H : (if t165 = true then (if t166 = true then (winnowerlaw04_FrameMore.j0 k l0 l1 a2 a4 l5 l3 t165 (!t167)) else (winnowerlaw04_FrameMore.j0 k l0 l1 a2 a4 l5 l3 t165 true)) else (winnowerlaw04_FrameMore.j0 k l0 l1 a2 a4 l5 l3 t165 true)) = some r := H
  have A9 := Aside0.mk A90
  clear A90
  have HC10 := Aside0.mk H
  clear H
  go_enter Try.func6, Try.ntmps6
  go_upto_region 4 with (first | ((with_reducible refine gate_dst (N := 7) rfl ?_); refine box_event ?hg (N := 7) ?hd (cs := four b0 b1 b2 b3) (t := 38) ?hr ?_; (case hd => rfl); (case hg => rfl); (case hr => first | (go_simp; done) | (go_simp; rfl)); intro gA hgA w hbox hb; have HR0 := Aside0.mk (Kd.C_below HZ0.out hb); have HR1 := Aside0.mk (Kd.C_below HZ1.out hb); have BX := Aside0.mk hbox; have HBZ := Aside0.mk hb; have HB := Aside0.mk (Below.refl w.heap.size w); have HR3 : Aside0 (Kd.C (Kd.int .u8) w (some ⟨gA, 0, none⟩) l3.length l3) := Aside0.mk (by rw [H3.out]; exact row4 hbox); clear hbox hb hgA HZ0 HZ1) | ((with_reducible refine gate_callee (f := 8) rfl ?_); refine goesL_ (some 27) rfl rfl Try.func8 (by kernel_rfl) rfl #[] rfl (by (try simp only [List.map_toArray, List.map_cons, List.map_nil]); first | done | rfl | (simp only [List.length_drop, List.length_take]; rfl)) ?_; (with_reducible refine (winnowerlaw04_awake.calls k  t165 _ A7.out).mono ?_); rintro e w11 ⟨rfl, hb⟩; refine ⟨_, rfl, ?_⟩; have n0_ := Aside0.mk (below_step (by repeat (first | (with_reducible first | exact HB.out | apply below_alloc | apply pw_below_drewN | apply below_drew1) | exact HB.out)) hb); clear HB; have HB := n0_; clear n0_; (try clear hb); (try clear hb2); (try clear hk); (try clear hi)) | ((with_reducible refine gate_callee (f := 17) rfl ?_); refine goesL_ (some 29) rfl rfl Try.func17 (by kernel_rfl) rfl #[.slice A0 l0.length c0] rfl (by (try simp only [List.map_toArray, List.map_cons, List.map_nil]); first | done | rfl | (simp only [List.length_drop, List.length_take]; rfl)) ?_; (with_reducible refine (winnowerlaw04_few.calls k _ _ l0 t166 _ ?side1 ?side2 A8.out).mono ?_); (case side1 => repeat (first | exact (Kd.C_below HR0.out HB.out) | (with_reducible refine Kd.C_alloc ?_ _) | (with_reducible refine Kd.C_drewN ?_ _) | (with_reducible refine Kd.C_drew ?_))); (case side2 => exact HC0.out); rintro e w' ⟨rfl, ⟨nd, rfl⟩⟩; refine ⟨_, rfl, ?_⟩) | ((with_reducible refine gate_callee (f := 17) rfl ?_); refine goesL_ (some 31) rfl rfl Try.func17 (by kernel_rfl) rfl #[.slice A1 l1.length c1] rfl (by (try simp only [List.map_toArray, List.map_cons, List.map_nil]); first | done | rfl | (simp only [List.length_drop, List.length_take]; rfl)) ?_; (with_reducible refine (winnowerlaw04_few.calls k _ _ l1 t167 _ ?side1 ?side2 A9.out).mono ?_); (case side1 => repeat (first | exact (Kd.C_below HR1.out (by repeat (first | (with_reducible first | exact HB.out | apply below_alloc | apply pw_below_drewN | apply below_drew1) | exact HB.out))) | (with_reducible refine Kd.C_alloc ?_ _) | (with_reducible refine Kd.C_drewN ?_ _) | (with_reducible refine Kd.C_drew ?_))); (case side2 => exact HC1.out); rintro e w' ⟨rfl, ⟨nd, rfl⟩⟩; refine ⟨_, rfl, ?_⟩))
  (try simp only [Act.put, List.setIfInBounds_toArray, List.set_cons_zero, List.set_cons_succ])
  go_cut [41] (fun v41 wc => ∃ (kq : Nat) (x41_9 : Bool), v41 = .bool x41_9 ∧ Aside0 (winnowerlaw04_FrameMore.j0 kq l0 l1 a2 a4 l5 l3 t165 x41_9 = some r) ∧ Aside0 (kq ≤ k) ∧ Aside0 (Below w.heap.size w wc))
  case first =>
    have H := HC10.out
    clear HC10
    by_cases c12 : t165 = true
    · subst c12
      have H1 : (if t166 = true then (winnowerlaw04_FrameMore.j0 k l0 l1 a2 a4 l5 l3 true (!t167)) else (winnowerlaw04_FrameMore.j0 k l0 l1 a2 a4 l5 l3 true true)) = some r := by rw [if_pos rfl] at H; exact H
      clear H
      have H := H1
      clear H1
      by_cases c13 : t166 = true
      · subst c13
        have H1 : (winnowerlaw04_FrameMore.j0 k l0 l1 a2 a4 l5 l3 true (!t167)) = some r := by rw [if_pos rfl] at H; exact H
        clear H
        have H := H1
        clear H1
        have H' := Aside0.mk H
        clear H
        go_wp2
        go_meet
        case rel => exact ⟨_, (!t167), (by first | rfl | (simp; done) | (simp [*]; done)), H', ⟨by first | omega | exact Nat.le_refl _⟩, ⟨by repeat (first | (with_reducible first | exact HB.out | apply below_alloc | apply pw_below_drewN | apply below_drew1) | exact HB.out)⟩⟩
      · replace c13 := Bool.eq_false_iff.mpr c13
        subst c13
        have H1 : (winnowerlaw04_FrameMore.j0 k l0 l1 a2 a4 l5 l3 true true) = some r := by rw [if_neg (show ¬ (false = true) by decide)] at H; exact H
        clear H
        have H := H1
        clear H1
        have H' := Aside0.mk H
        clear H
        go_wp2
        go_meet
        case rel => exact ⟨_, (true), (by first | rfl | (simp; done) | (simp [*]; done)), H', ⟨by first | omega | exact Nat.le_refl _⟩, ⟨by repeat (first | (with_reducible first | exact HB.out | apply below_alloc | apply pw_below_drewN | apply below_drew1) | exact HB.out)⟩⟩
    · replace c12 := Bool.eq_false_iff.mpr c12
      subst c12
      have H1 : (winnowerlaw04_FrameMore.j0 k l0 l1 a2 a4 l5 l3 false true) = some r := by rw [if_neg (show ¬ (false = true) by decide)] at H; exact H
      clear H
      have H := H1
      clear H1
      have H' := Aside0.mk H
      clear H
      go_wp2
      go_meet
      case rel => exact ⟨_, (true), (by first | rfl | (simp; done) | (simp [*]; done)), H', ⟨by first | omega | exact Nat.le_refl _⟩, ⟨by repeat (first | (with_reducible first | exact HB.out | apply below_alloc | apply pw_below_drewN | apply below_drew1) | exact HB.out)⟩⟩
  case rest =>
    clear HC10
    try clear c1
    try clear p2
    try clear c3
    try clear c5
    try clear c6
    try clear c8
    try clear c12
    try clear c13
    obtain ⟨kq, x41_9, rfl, HA, HJ9, HB⟩ := hcut
    cases kq with
    | zero => exact absurd HA.out (by simp [winnowerlaw04_FrameMore.j0])
    | succ kj9 =>
      have H := HA.out
      clear HA
      simp only [winnowerlaw04_FrameMore.j0] at H
      by_cases c14 : x41_9 = true
      · subst c14
        have H1 : (some t165) = some r := by rw [if_pos rfl] at H; exact H
        clear H
        have H := H1
        clear H1
        obtain rfl := Option.some.inj H
        go_wp2
        go_ret
        exact ⟨by first | rfl | (simp [errW_none, errW_some] <;> rfl) | (refine congrArg (fun b_ : Bool => Ending.returned (Value.bool b_)) ?_; simp; done) | (simp [*, errW_none, errW_some] <;> rfl), below_step HBZ.out (by repeat (first | (with_reducible first | exact HB.out | apply below_alloc | apply pw_below_drewN | apply below_drew1) | exact HB.out))⟩
      · replace c14 := Bool.eq_false_iff.mpr c14
        subst c14
        have H1 : (winnowerlaw04_FrameMore.l0 kj9 l0 l1 a2 a4 l5 l3 ([] : List Int) 0) = some r := by rw [if_neg (show ¬ (false = true) by decide)] at H; exact H
        clear H
        have H := H1
        clear H1
        have H' := Aside0.mk H
        clear H
        go_wp2
        go_loopg [12, 14] kj9 (fun kq v12 v14 w' => ∃ (x12_2 : List Int) (x14_2 : Int), v14 = .int .i64 x14_2 ∧ Aside0 (winnowerlaw04_FrameMore.l0 kq l0 l1 a2 a4 l5 l3 x12_2 x14_2 = some r) ∧ Aside0 (kq ≤ kj9) ∧ Aside0 (Kd.R (Kd.int .u8) 5 w' w.heap.size (fun _ => True) v12 x12_2) ∧ Aside0 (Below w.heap.size w w'))
        case atStart => exact ⟨(([] : List Int)), (0), (by first | rfl | (simp; done) | (simp [*]; done)), H', ⟨Nat.le_refl _⟩, ⟨by first | exact Kd.R_nil _ _ _ _ _ | exact Kd.N_nil _ _ _ _ _ | exact Kd.V_nil _ _ _ _ _ | exact Kd.Q_nil _ _ _ _ _ | exact Kd.S_nil _ _ _ _ _⟩, ⟨by repeat (first | (with_reducible first | exact HB.out | apply below_alloc | apply pw_below_drewN | apply below_drew1) | exact HB.out)⟩⟩
        case round =>
          clear H'
          try clear c1
          try clear p2
          try clear c3
          try clear c5
          try clear c6
          try clear c8
          try clear c12
          try clear c13
          try clear c14
          try clear p2
          obtain ⟨x12_2, x14_2, rfl, HA, HK2, HO_12, HB⟩ := hrel
          cases gk with
          | zero => exact absurd HA.out (by simp [winnowerlaw04_FrameMore.l0])
          | succ k2 =>
            have H := HA.out
            clear HA
            simp only [winnowerlaw04_FrameMore.l0] at H
            by_cases c15 : x14_2 < (l0.length : Int)
            · rw [if_pos c15] at H
              have c15b0 : decide (x14_2 < (l0.length : Int)) = true := decide_eq_true c15
              have c15b0y0 := c15b0
              (try simp only [hl12_6] at c15b0y0)
              have c15b0y1 := c15b0
              (try simp only [hl168_0] at c15b0y1)
              have c15b0y2 := c15b0
              (try simp only [hl176_0] at c15b0y2)
              have c15b0y3 := c15b0
              (try simp only [hl195_0] at c15b0y3)
              have c15b0y4 := c15b0
              (try simp only [hl196_0] at c15b0y4)
              clear c15
              by_cases c16 : 0 ≤ x14_2
              · rw [if_pos c16] at H
                have c16b0 : decide (0 ≤ x14_2) = true := decide_eq_true c16
                clear c16
                replace H := Option.bind_eq_some_iff.mp H
                obtain ⟨⟨t169, t170⟩, A170, H⟩ := H
                replace H : (if x12_2.length + t169.length < 140737488355328 then (winnowerlaw04_FrameMore.l0 k2 l0 l1 a2 a4 l5 l3 (x12_2 ++ t169) (wrap64 (x14_2 + 1))) else (none)) = some r := H
                have A17 := Aside0.mk A170
                clear A170
                by_cases c18 : x12_2.length + t169.length < 140737488355328
                · rw [if_pos c18] at H
                  have LMc18 := Aside0.mk c18
                  clear c18
                  obtain ⟨y173, hy173⟩ : ∃ y_ : List Int, y_ = (x12_2 ++ t169) := ⟨_, rfl⟩
                  replace H : (winnowerlaw04_FrameMore.l0 k2 l0 l1 a2 a4 l5 l3 y173 (wrap64 (x14_2 + 1))) = some r := by first | (rw [hy173]; with_reducible exact H) | (have H2_ := (Option.bind_some _ _).symm.trans H; rw [hy173]; with_reducible exact H2_) | (have H2_ := (Option.bind_some _ _).symm.trans H; with_reducible exact H2_) | with_reducible exact H | (rw [hy173]; exact H) | exact H
                  have Ny173 := Aside0.mk hy173
                  clear hy173
                  have H' := Aside0.mk H
                  clear H
                  have p168 : 0 ≤ (x14_2 : Int) := of_decide_eq_true (by first | (with_reducible assumption) | assumption)
                  have q168 : x14_2 < (l0.length : Int) := of_decide_eq_true (by first | (with_reducible assumption) | assumption)
                  obtain ⟨ad168, A168_0, c168_0, e168, hx168_0, hl168_0, hi168_0⟩ := at_L1 HR0.out x14_2 p168 q168
                  cases e168
                  replace hx168_0 := (HB.out.cell (World.block_lt_of_cell? w _ hx168_0)).trans hx168_0
                  have HR168_0 := Aside0.mk hi168_0
                  have HC168_0 := Aside0.mk hl168_0
                  clear hi168_0 hl168_0
                  replace p168 := eq_true p168
                  replace q168 := eq_true q168
                  go_wp2_with (first | ((with_reducible refine gate_callee (f := 9) rfl ?_); refine goesL_ (some 54) rfl rfl Try.func9 (by kernel_rfl) rfl #[.slice A168_0 (rd_L1 l0 x14_2).length c168_0] rfl (by (try simp only [List.map_toArray, List.map_cons, List.map_nil]); first | done | rfl | (simp only [List.length_drop, List.length_take]; rfl)) ?_; (with_reducible refine (frame_Seal.calls _ _ (rd_L1 l0 x14_2) t169 t170 _ ?side1 ?side2 A17.out).mono ?_); (case side1 => repeat (first | exact (Kd.C_below HR168_0.out HB.out) | (with_reducible refine Kd.C_alloc ?_ _) | (with_reducible refine Kd.C_drewN ?_ _) | (with_reducible refine Kd.C_drew ?_))); (case side2 => exact HC168_0.out); rintro e w19 ⟨v171, rfl, ho0, hb⟩; refine ⟨_, rfl, ?_⟩; have n0_ := Aside0.mk (Kd.R_elder' (by (with_reducible repeat (first | apply Kd.R_alloc | apply Kd.R_drewN | apply Kd.R_drew)); exact HO_12.out) (Kd.R_base ho0) hb); have n1_ := Aside0.mk (Kd.R_lower (Kd.R_new' ho0 (Kd.R_lt (by (with_reducible repeat (first | apply Kd.R_alloc | apply Kd.R_drewN | apply Kd.R_drew)); exact HO_12.out))) (below_size (by repeat (first | (with_reducible first | exact HB.out | apply below_alloc | apply pw_below_drewN | apply below_drew1) | exact HB.out)))); have n2_ := Aside0.mk (below_step (by repeat (first | (with_reducible first | exact HB.out | apply below_alloc | apply pw_below_drewN | apply below_drew1) | exact HB.out)) hb); clear HO_12; clear HB; have HO_12 := n0_; have HO172 := n1_; have HB := n2_; clear n0_ n1_ n2_; (try clear hb); (try clear hb2); (try clear hk); (try clear hi); (try clear ho0); obtain ⟨Ao21, co21, eo21⟩ := Kd.R_slice HO172.out; subst eo21) | ((with_reducible refine gate_builtin (b := .append) (xs := #[.tmp 57, .tmp 58]) rfl ?_); (try (refine gate_guard (by rfl) ?_; dsimp only)); at_builtin; refine Kd.R_append_rows (Kd.int .u8) (w0 := w) w.heap.size rfl (.tmp 57) (.tmp 58) 22 5 (.int .u8 0) 1 rfl Try.underlying22 info5 rfl (by decide) (by omega) u12 x12_2 t169 _ _ _ (fun k_ => some k_ ≠ (.slice Ao21 t169.length co21 : Value).ownBlock) (fun _ => False) rfl rfl ?aO ?aR (fun _ _ h => h) (fun _ h => h.elim) ?aF ?aB ?aS ?aL ?_; (case aR => repeat (first | exact (Kd.R_reads' HO172.out).2.2 | (with_reducible refine Kd.C_alloc ?_ _) | (with_reducible refine Kd.C_drewN ?_ _) | (with_reducible refine Kd.C_drew ?_))); (case aB => exact (by repeat (first | (with_reducible first | exact HB.out | apply below_alloc | apply pw_below_drewN | apply below_drew1) | exact HB.out))); (case aF => exact (fun k_ hk => Kd.fresh' (Kd.R_lt (by (with_reducible repeat (first | apply Kd.R_alloc | apply Kd.R_drewN | apply Kd.R_drew)); exact HO172.out)) k_ hk)); (case aO => exact (by (with_reducible repeat (first | apply Kd.R_alloc | apply Kd.R_drewN | apply Kd.R_drew)); exact Kd.R_mono HO_12.out (fun _ hk => hk.2))); (case aS => exact (below_size (by repeat (first | (with_reducible first | exact HB.out | apply below_alloc | apply pw_below_drewN | apply below_drew1) | exact HB.out)))); (case aL => have := LMc18.out; omega); intro v174 w20 ho hb hg hat; rw [← Ny173.out] at ho; have n0_ := Aside0.mk (Kd.R_after (ok := (fun _ => True)) (by (with_reducible repeat (first | apply Kd.R_alloc | apply Kd.R_drewN | apply Kd.R_drew)); exact HO172.out) hg hat); have n1_ := Aside0.mk (hb); have n2_ := Aside0.mk (ho); clear HO172; clear HB; clear HO_12; have HO172 := n0_; have HB := n1_; have HO175 := n2_; clear n0_ n1_ n2_; clear ho hb hg hat))
                  go_roundg k2
                  case measure => have := HJ9.out; have := HK2.out; omega
                  case rel => exact ⟨(y173), (wrap64 (x14_2 + 1)), (by first | rfl | (simp; done) | (simp [*]; done)), H', ⟨by have := HJ9.out; have := HK2.out; omega⟩, ⟨by (with_reducible repeat (first | apply Kd.R_alloc | apply Kd.R_drewN | apply Kd.R_drew)); exact Kd.R_mono HO175.out (fun _ hk => trivial)⟩, ⟨by repeat (first | (with_reducible first | exact HB.out | apply below_alloc | apply pw_below_drewN | apply below_drew1) | exact HB.out)⟩⟩
                · rw [if_neg c18] at H
                  exact absurd H (by simp)
              · rw [if_neg c16] at H
                exact absurd H (by simp)
            · rw [if_neg c15] at H
              have c15b0 : decide (x14_2 < (l0.length : Int)) = false := decide_eq_false c15
              have c15b0y0 := c15b0
              (try simp only [hl12_6] at c15b0y0)
              have c15b0y1 := c15b0
              (try simp only [hl168_0] at c15b0y1)
              have c15b0y2 := c15b0
              (try simp only [hl176_0] at c15b0y2)
              have c15b0y3 := c15b0
              (try simp only [hl195_0] at c15b0y3)
              have c15b0y4 := c15b0
              (try simp only [hl196_0] at c15b0y4)
              clear c15
              have H' := Aside0.mk H
              clear H
              go_wp2
              go_loopg [13, 17] k2 (fun kq v13 v17 w' => ∃ (x13_3 : List Int) (x17_3 : Int), v17 = .int .i64 x17_3 ∧ Aside0 (winnowerlaw04_FrameMore.l1 kq l0 l1 a2 a4 l5 l3 x12_2 x13_3 x17_3 = some r) ∧ Aside0 (kq ≤ k2) ∧ Aside0 (Kd.R (Kd.int .u8) 5 w' w.heap.size (fun k_ => some k_ ≠ (v13 : Value).ownBlock) u12 x12_2) ∧ Aside0 (Kd.R (Kd.int .u8) 5 w' w.heap.size (fun k_ => some k_ ≠ (u12 : Value).ownBlock) v13 x13_3) ∧ Aside0 (Below w.heap.size w w'))
              case atStart => exact ⟨(([] : List Int)), (0), (by first | rfl | (simp; done) | (simp [*]; done)), H', ⟨Nat.le_refl _⟩, ⟨by (with_reducible repeat (first | apply Kd.R_alloc | apply Kd.R_drewN | apply Kd.R_drew)); exact Kd.R_mono HO_12.out (fun _ hk => (by simp [Value.ownBlock]))⟩, ⟨by first | exact Kd.R_nil _ _ _ _ _ | exact Kd.N_nil _ _ _ _ _ | exact Kd.V_nil _ _ _ _ _ | exact Kd.Q_nil _ _ _ _ _ | exact Kd.S_nil _ _ _ _ _⟩, ⟨by repeat (first | (with_reducible first | exact HB.out | apply below_alloc | apply pw_below_drewN | apply below_drew1) | exact HB.out)⟩⟩
              case round =>
                clear H'
                try clear c1
                try clear p1
                try clear q1
                try clear hx1
                try clear p2
                try clear c3
                try clear c5
                try clear c6
                try clear p6
                try clear c8
                try clear c9
                try clear c12
                try clear c13
                try clear c14
                try clear c15
                try clear c15b0
                try clear c16
                try clear c16b0
                try clear p16
                try clear q16
                try clear hx16
                try clear c17
                try clear c18
                try clear hx168_0
                try clear p168
                try clear p2
                try clear q168
                obtain ⟨x13_3, x17_3, rfl, HA, HK3, HO_12, HO_13, HB⟩ := hrel
                cases gk with
                | zero => exact absurd HA.out (by simp [winnowerlaw04_FrameMore.l1])
                | succ k3 =>
                  have H := HA.out
                  clear HA
                  simp only [winnowerlaw04_FrameMore.l1] at H
                  by_cases c22 : x17_3 < (l1.length : Int)
                  · rw [if_pos c22] at H
                    have c22b0 : decide (x17_3 < (l1.length : Int)) = true := decide_eq_true c22
                    have c22b0y0 := c22b0
                    (try simp only [hl12_6] at c22b0y0)
                    have c22b0y1 := c22b0
                    (try simp only [hl168_0] at c22b0y1)
                    have c22b0y2 := c22b0
                    (try simp only [hl176_0] at c22b0y2)
                    have c22b0y3 := c22b0
                    (try simp only [hl195_0] at c22b0y3)
                    have c22b0y4 := c22b0
                    (try simp only [hl196_0] at c22b0y4)
                    clear c22
                    by_cases c23 : 0 ≤ x17_3
                    · rw [if_pos c23] at H
                      have c23b0 : decide (0 ≤ x17_3) = true := decide_eq_true c23
                      clear c23
                      replace H := Option.bind_eq_some_iff.mp H
                      obtain ⟨⟨t177, t178⟩, A240, H⟩ := H
                      replace H : (if x13_3.length + t177.length < 140737488355328 then (winnowerlaw04_FrameMore.l1 k3 l0 l1 a2 a4 l5 l3 x12_2 (x13_3 ++ t177) (wrap64 (x17_3 + 1))) else (none)) = some r := H
                      have A24 := Aside0.mk A240
                      clear A240
                      by_cases c25 : x13_3.length + t177.length < 140737488355328
                      · rw [if_pos c25] at H
                        have LMc25 := Aside0.mk c25
                        clear c25
                        obtain ⟨y181, hy181⟩ : ∃ y_ : List Int, y_ = (x13_3 ++ t177) := ⟨_, rfl⟩
                        replace H : (winnowerlaw04_FrameMore.l1 k3 l0 l1 a2 a4 l5 l3 x12_2 y181 (wrap64 (x17_3 + 1))) = some r := by first | (rw [hy181]; with_reducible exact H) | (have H2_ := (Option.bind_some _ _).symm.trans H; rw [hy181]; with_reducible exact H2_) | (have H2_ := (Option.bind_some _ _).symm.trans H; with_reducible exact H2_) | with_reducible exact H | (rw [hy181]; exact H) | exact H
                        have Ny181 := Aside0.mk hy181
                        clear hy181
                        have H' := Aside0.mk H
                        clear H
                        have p176 : 0 ≤ (x17_3 : Int) := of_decide_eq_true (by first | (with_reducible assumption) | assumption)
                        have q176 : x17_3 < (l1.length : Int) := of_decide_eq_true (by first | (with_reducible assumption) | assumption)
                        obtain ⟨ad176, A176_0, c176_0, e176, hx176_0, hl176_0, hi176_0⟩ := at_L1 HR1.out x17_3 p176 q176
                        cases e176
                        replace hx176_0 := (HB.out.cell (World.block_lt_of_cell? w _ hx176_0)).trans hx176_0
                        have HR176_0 := Aside0.mk hi176_0
                        have HC176_0 := Aside0.mk hl176_0
                        clear hi176_0 hl176_0
                        replace p176 := eq_true p176
                        replace q176 := eq_true q176
                        go_wp2_with (first | ((with_reducible refine gate_callee (f := 9) rfl ?_); refine goesL_ (some 71) rfl rfl Try.func9 (by kernel_rfl) rfl #[.slice A176_0 (rd_L1 l1 x17_3).length c176_0] rfl (by (try simp only [List.map_toArray, List.map_cons, List.map_nil]); first | done | rfl | (simp only [List.length_drop, List.length_take]; rfl)) ?_; (with_reducible refine (frame_Seal.calls _ _ (rd_L1 l1 x17_3) t177 t178 _ ?side1 ?side2 A24.out).mono ?_); (case side1 => repeat (first | exact (Kd.C_below HR176_0.out HB.out) | (with_reducible refine Kd.C_alloc ?_ _) | (with_reducible refine Kd.C_drewN ?_ _) | (with_reducible refine Kd.C_drew ?_))); (case side2 => exact HC176_0.out); rintro e w26 ⟨v179, rfl, ho0, hb⟩; refine ⟨_, rfl, ?_⟩; have n0_ := Aside0.mk (Kd.R_elder' (by (with_reducible repeat (first | apply Kd.R_alloc | apply Kd.R_drewN | apply Kd.R_drew)); exact HO_12.out) (Kd.R_base ho0) hb); have n1_ := Aside0.mk (Kd.R_elder' (by (with_reducible repeat (first | apply Kd.R_alloc | apply Kd.R_drewN | apply Kd.R_drew)); exact HO_13.out) (Kd.R_base ho0) hb); have n2_ := Aside0.mk (Kd.R_lower (Kd.R_new' (Kd.R_new' ho0 (Kd.R_lt (by (with_reducible repeat (first | apply Kd.R_alloc | apply Kd.R_drewN | apply Kd.R_drew)); exact HO_12.out))) (Kd.R_lt (by (with_reducible repeat (first | apply Kd.R_alloc | apply Kd.R_drewN | apply Kd.R_drew)); exact HO_13.out))) (below_size (by repeat (first | (with_reducible first | exact HB.out | apply below_alloc | apply pw_below_drewN | apply below_drew1) | exact HB.out)))); have n3_ := Aside0.mk (below_step (by repeat (first | (with_reducible first | exact HB.out | apply below_alloc | apply pw_below_drewN | apply below_drew1) | exact HB.out)) hb); clear HO_12; clear HO_13; clear HB; have HO_12 := n0_; have HO_13 := n1_; have HO180 := n2_; have HB := n3_; clear n0_ n1_ n2_ n3_; (try clear hb); (try clear hb2); (try clear hk); (try clear hi); (try clear ho0); obtain ⟨Ao28, co28, eo28⟩ := Kd.R_slice HO180.out; subst eo28) | ((with_reducible refine gate_builtin (b := .append) (xs := #[.tmp 74, .tmp 75]) rfl ?_); (try (refine gate_guard (by rfl) ?_; dsimp only)); at_builtin; refine Kd.R_append_rows (Kd.int .u8) (w0 := w) w.heap.size rfl (.tmp 74) (.tmp 75) 22 5 (.int .u8 0) 1 rfl Try.underlying22 info5 rfl (by decide) (by omega) u13 x13_3 t177 _ _ _ (fun k_ => some k_ ≠ (u12 : Value).ownBlock ∧ some k_ ≠ (.slice Ao28 t177.length co28 : Value).ownBlock) (fun _ => False) rfl rfl ?aO ?aR (fun _ _ h => h) (fun _ h => h.elim) ?aF ?aB ?aS ?aL ?_; (case aR => repeat (first | exact (Kd.R_reads' HO180.out).2.2 | (with_reducible refine Kd.C_alloc ?_ _) | (with_reducible refine Kd.C_drewN ?_ _) | (with_reducible refine Kd.C_drew ?_))); (case aB => exact (by repeat (first | (with_reducible first | exact HB.out | apply below_alloc | apply pw_below_drewN | apply below_drew1) | exact HB.out))); (case aF => exact (fun k_ hk => ⟨Kd.fresh' (Kd.R_lt (by (with_reducible repeat (first | apply Kd.R_alloc | apply Kd.R_drewN | apply Kd.R_drew)); exact HO_12.out)) k_ hk, Kd.fresh' (Kd.R_lt (by (with_reducible repeat (first | apply Kd.R_alloc | apply Kd.R_drewN | apply Kd.R_drew)); exact HO180.out)) k_ hk⟩)); (case aO => exact (by (with_reducible repeat (first | apply Kd.R_alloc | apply Kd.R_drewN | apply Kd.R_drew)); exact HO_13.out)); (case aS => exact (below_size (by repeat (first | (with_reducible first | exact HB.out | apply below_alloc | apply pw_below_drewN | apply below_drew1) | exact HB.out)))); (case aL => have := LMc25.out; omega); intro v182 w27 ho hb hg hat; rw [← Ny181.out] at ho; have n0_ := Aside0.mk (Kd.R_after (ok := (fun k_ => some k_ ≠ (.slice Ao28 t177.length co28 : Value).ownBlock)) (by (with_reducible repeat (first | apply Kd.R_alloc | apply Kd.R_drewN | apply Kd.R_drew)); exact Kd.R_mono HO_12.out (fun _ hk => ⟨hk.2, hk.1⟩)) hg hat); have n1_ := Aside0.mk (Kd.R_after (ok := (fun k_ => some k_ ≠ (u12 : Value).ownBlock)) (by (with_reducible repeat (first | apply Kd.R_alloc | apply Kd.R_drewN | apply Kd.R_drew)); exact Kd.R_mono HO180.out (fun _ hk => ⟨hk.1.2, hk.2⟩)) hg hat); have n2_ := Aside0.mk (hb); have n3_ := Aside0.mk (ho); clear HO_12; clear HO180; clear HB; clear HO_13; have HO_12 := n0_; have HO180 := n1_; have HB := n2_; have HO183 := n3_; clear n0_ n1_ n2_ n3_; clear ho hb hg hat))
                        go_roundg k3
                        case measure => have := HJ9.out; have := HK2.out; have := HK3.out; omega
                        case rel => exact ⟨(y181), (wrap64 (x17_3 + 1)), (by first | rfl | (simp; done) | (simp [*]; done)), H', ⟨by have := HJ9.out; have := HK2.out; have := HK3.out; omega⟩, ⟨by (with_reducible repeat (first | apply Kd.R_alloc | apply Kd.R_drewN | apply Kd.R_drew)); exact Kd.R_mono HO_12.out (fun _ hk => hk.2)⟩, ⟨by (with_reducible repeat (first | apply Kd.R_alloc | apply Kd.R_drewN | apply Kd.R_drew)); exact Kd.R_mono HO183.out (fun _ hk => hk.1)⟩, ⟨by repeat (first | (with_reducible first | exact HB.out | apply below_alloc | apply pw_below_drewN | apply below_drew1) | exact HB.out)⟩⟩
                      · rw [if_neg c25] at H
                        exact absurd H (by simp)
                    · rw [if_neg c23] at H
                      exact absurd H (by simp)
                  · rw [if_neg c22] at H
                    have c22b0 : decide (x17_3 < (l1.length : Int)) = false := decide_eq_false c22
                    have c22b0y0 := c22b0
                    (try simp only [hl12_6] at c22b0y0)
                    have c22b0y1 := c22b0
                    (try simp only [hl168_0] at c22b0y1)
                    have c22b0y2 := c22b0
                    (try simp only [hl176_0] at c22b0y2)
                    have c22b0y3 := c22b0
                    (try simp only [hl195_0] at c22b0y3)
                    have c22b0y4 := c22b0
                    (try simp only [hl196_0] at c22b0y4)
                    clear c22
                    by_cases c29 : ([] : List Int).length + x12_2.length < 140737488355328
                    · rw [if_pos c29] at H
                      have LMc29 := Aside0.mk c29
                      clear c29
                      obtain ⟨y184, hy184⟩ : ∃ y_ : List Int, y_ = (([] : List Int) ++ x12_2) := ⟨_, rfl⟩
                      replace H : (if y184.length + x13_3.length < 140737488355328 then ((frame_Read.f (y184 ++ x13_3)).bind fun bt190 => ((lst k3 bt190.1 l5).bind fun t194 => (if t194 = true then (winnowerlaw04_FrameMore.j3 k3 l0 a2 a4 l3 x12_2 (bt190.2 != (wrap64 ((x12_2.length : Int) + (x13_3.length : Int))))) else (winnowerlaw04_FrameMore.j3 k3 l0 a2 a4 l3 x12_2 true)))) else (none)) = some r := by first | (rw [hy184]; with_reducible exact H) | (have H2_ := (Option.bind_some _ _).symm.trans H; rw [hy184]; with_reducible exact H2_) | (have H2_ := (Option.bind_some _ _).symm.trans H; with_reducible exact H2_) | with_reducible exact H | (rw [hy184]; exact H) | exact H
                      have Ny184 := Aside0.mk hy184
                      clear hy184
                      by_cases c30 : y184.length + x13_3.length < 140737488355328
                      · rw [if_pos c30] at H
                        have LMc30 := Aside0.mk c30
                        clear c30
                        obtain ⟨y187, hy187⟩ : ∃ y_ : List Int, y_ = (y184 ++ x13_3) := ⟨_, rfl⟩
                        replace H : ((frame_Read.f y187).bind fun bt190 => ((lst k3 bt190.1 l5).bind fun t194 => (if t194 = true then (winnowerlaw04_FrameMore.j3 k3 l0 a2 a4 l3 x12_2 (bt190.2 != (wrap64 ((x12_2.length : Int) + (x13_3.length : Int))))) else (winnowerlaw04_FrameMore.j3 k3 l0 a2 a4 l3 x12_2 true)))) = some r := by first | (rw [hy187]; with_reducible exact H) | (have H2_ := (Option.bind_some _ _).symm.trans H; rw [hy187]; with_reducible exact H2_) | (have H2_ := (Option.bind_some _ _).symm.trans H; with_reducible exact H2_) | with_reducible exact H | (rw [hy187]; exact H) | exact H
                        have Ny187 := Aside0.mk hy187
                        clear hy187
                        replace H := Option.bind_eq_some_iff.mp H
                        obtain ⟨⟨t190, t191⟩, A310, H⟩ := H
                        replace H : ((lst k3 t190 l5).bind fun t194 => (if t194 = true then (winnowerlaw04_FrameMore.j3 k3 l0 a2 a4 l3 x12_2 (t191 != (wrap64 ((x12_2.length : Int) + (x13_3.length : Int))))) else (winnowerlaw04_FrameMore.j3 k3 l0 a2 a4 l3 x12_2 true))) = some r := H
                        have A31 := Aside0.mk A310
                        clear A310
                        replace H := Option.bind_eq_some_iff.mp H
                        obtain ⟨t194, A320, H⟩ := H
                        replace H : (if t194 = true then (winnowerlaw04_FrameMore.j3 k3 l0 a2 a4 l3 x12_2 (t191 != (wrap64 ((x12_2.length : Int) + (x13_3.length : Int))))) else (winnowerlaw04_FrameMore.j3 k3 l0 a2 a4 l3 x12_2 true)) = some r := H
                        have A32 := Aside0.mk A320
                        clear A320
                        have HC33 := Aside0.mk H
                        clear H
                        obtain ⟨Ao35, co35, eo35⟩ := Kd.R_slice HO_12.out
                        subst eo35
                        obtain ⟨hs0, hh0, hd0⟩ := heads_of HR0.out
                        have HH0 := Aside0.mk hh0
                        have HD0 := Aside0.mk hd0
                        obtain ⟨hs1, hh1, hd1⟩ := heads_of HR1.out
                        have HH1 := Aside0.mk hh1
                        have HD1 := Aside0.mk hd1
                        clear hh0 hd0 hh1 hd1
                        have few0 : Aside0 (l0.length + l1.length < 1000000) := Aside0.mk (by have := (lst_some A32.out).1; rw [H5.out, List.length_append] at this; exact this)
                        go_upto_region 20 with (first | ((with_reducible refine gate_builtin (b := .append) (xs := #[.const (.slice none 0 0), .tmp 78]) rfl ?_); (try (refine gate_guard (by rfl) ?_; dsimp only)); at_builtin; refine Kd.R_append_rows (Kd.int .u8) (w0 := w) w.heap.size rfl (.const (.slice none 0 0)) (.tmp 78) 22 5 (.int .u8 0) 1 rfl Try.underlying22 info5 rfl (by decide) (by omega) (.slice none 0 0) ([] : List Int) x12_2 _ _ _ (fun k_ => some k_ ≠ (.slice Ao35 x12_2.length co35 : Value).ownBlock ∧ some k_ ≠ (u13 : Value).ownBlock) (fun _ => False) rfl rfl ?aO ?aR (fun _ _ h => h) (fun _ h => h.elim) ?aF ?aB ?aS ?aL ?_; (case aR => repeat (first | exact (Kd.R_reads' HO_12.out).2.2 | (with_reducible refine Kd.C_alloc ?_ _) | (with_reducible refine Kd.C_drewN ?_ _) | (with_reducible refine Kd.C_drew ?_))); (case aB => exact (by repeat (first | (with_reducible first | exact HB.out | apply below_alloc | apply pw_below_drewN | apply below_drew1) | exact HB.out))); (case aF => exact (fun k_ hk => ⟨Kd.fresh' (Kd.R_lt (by (with_reducible repeat (first | apply Kd.R_alloc | apply Kd.R_drewN | apply Kd.R_drew)); exact HO_12.out)) k_ hk, Kd.fresh' (Kd.R_lt (by (with_reducible repeat (first | apply Kd.R_alloc | apply Kd.R_drewN | apply Kd.R_drew)); exact HO_13.out)) k_ hk⟩)); (case aO => exact ((Kd.R_nil _ _ _ _ (fun k_ => some k_ ≠ (.slice Ao35 x12_2.length co35 : Value).ownBlock ∧ some k_ ≠ (u13 : Value).ownBlock)))); (case aS => exact (below_size (by repeat (first | (with_reducible first | exact HB.out | apply below_alloc | apply pw_below_drewN | apply below_drew1) | exact HB.out)))); (case aL => have := LMc29.out; omega); intro v185 w34 ho hb hg hat; rw [← Ny184.out] at ho; have n0_ := Aside0.mk (Kd.R_after (Kd.R_apart_nil (by (with_reducible repeat (first | apply Kd.R_alloc | apply Kd.R_drewN | apply Kd.R_drew)); exact HO_12.out)) hg hat); have n1_ := Aside0.mk (Kd.R_after (Kd.R_apart_nil (by (with_reducible repeat (first | apply Kd.R_alloc | apply Kd.R_drewN | apply Kd.R_drew)); exact HO_13.out)) hg hat); have n2_ := Aside0.mk (hb); have n3_ := Aside0.mk (ho); clear HO_12; clear HO_13; clear HB; have HO_12 := n0_; have HO_13 := n1_; have HB := n2_; have HO186 := n3_; clear n0_ n1_ n2_ n3_; clear ho hb hg hat; obtain ⟨Ao37, co37, eo37⟩ := Kd.R_slice HO_13.out; subst eo37) | ((with_reducible refine gate_builtin (b := .append) (xs := #[.tmp 79, .tmp 80]) rfl ?_); (try (refine gate_guard (by rfl) ?_; dsimp only)); at_builtin; refine Kd.R_append_rows (Kd.int .u8) (w0 := w) w.heap.size rfl (.tmp 79) (.tmp 80) 22 5 (.int .u8 0) 1 rfl Try.underlying22 info5 rfl (by decide) (by omega) v185 y184 x13_3 _ _ _ (fun k_ => some k_ ≠ (.slice Ao35 x12_2.length co35 : Value).ownBlock ∧ some k_ ≠ (.slice Ao37 x13_3.length co37 : Value).ownBlock) (fun _ => False) rfl rfl ?aO ?aR (fun _ _ h => h) (fun _ h => h.elim) ?aF ?aB ?aS ?aL ?_; (case aR => repeat (first | exact (Kd.R_reads' HO_13.out).2.2 | (with_reducible refine Kd.C_alloc ?_ _) | (with_reducible refine Kd.C_drewN ?_ _) | (with_reducible refine Kd.C_drew ?_))); (case aB => exact (by repeat (first | (with_reducible first | exact HB.out | apply below_alloc | apply pw_below_drewN | apply below_drew1) | exact HB.out))); (case aF => exact (fun k_ hk => ⟨Kd.fresh' (Kd.R_lt (by (with_reducible repeat (first | apply Kd.R_alloc | apply Kd.R_drewN | apply Kd.R_drew)); exact HO_12.out)) k_ hk, Kd.fresh' (Kd.R_lt (by (with_reducible repeat (first | apply Kd.R_alloc | apply Kd.R_drewN | apply Kd.R_drew)); exact HO_13.out)) k_ hk⟩)); (case aO => exact (by (with_reducible repeat (first | apply Kd.R_alloc | apply Kd.R_drewN | apply Kd.R_drew)); exact HO186.out)); (case aS => exact (below_size (by repeat (first | (with_reducible first | exact HB.out | apply below_alloc | apply pw_below_drewN | apply below_drew1) | exact HB.out)))); (case aL => have := LMc30.out; omega); intro v188 w36 ho hb hg hat; rw [← Ny187.out] at ho; have n0_ := Aside0.mk (Kd.R_after (ok := (fun k_ => some k_ ≠ (.slice Ao37 x13_3.length co37 : Value).ownBlock)) (by (with_reducible repeat (first | apply Kd.R_alloc | apply Kd.R_drewN | apply Kd.R_drew)); exact HO_12.out) hg hat); have n1_ := Aside0.mk (Kd.R_after (ok := (fun k_ => some k_ ≠ (.slice Ao35 x12_2.length co35 : Value).ownBlock)) (by (with_reducible repeat (first | apply Kd.R_alloc | apply Kd.R_drewN | apply Kd.R_drew)); exact HO_13.out) hg hat); have n2_ := Aside0.mk (hb); have n3_ := Aside0.mk (ho); clear HO_12; clear HO_13; clear HB; clear HO186; have HO_12 := n0_; have HO_13 := n1_; have HB := n2_; have HO189 := n3_; clear n0_ n1_ n2_ n3_; clear ho hb hg hat; obtain ⟨Ao38, co38, eo38⟩ := Kd.R_slice HO189.out; subst eo38) | ((with_reducible refine gate_callee (f := 14) rfl ?_); refine goesL_ (some 82) rfl rfl Try.func14 (by kernel_rfl) rfl #[.slice Ao38 y187.length co38] rfl (by (try simp only [List.map_toArray, List.map_cons, List.map_nil]); first | done | rfl | (simp only [List.length_drop, List.length_take]; rfl)) ?_; (with_reducible refine (frame_Read.calls _ _ y187 t190 t191 _ ?side1 ?side2 A31.out).mono ?_); (case side1 => repeat (first | exact (Kd.R_reads' HO189.out).2.2 | (with_reducible refine Kd.C_alloc ?_ _) | (with_reducible refine Kd.C_drewN ?_ _) | (with_reducible refine Kd.C_drew ?_))); (case side2 => exact (Kd.R_reads' HO189.out).2.1); rintro e w39 ⟨v192, rfl, ho0, hb⟩; refine ⟨_, rfl, ?_⟩; have n0_ := Aside0.mk (Kd.R_below (by (with_reducible repeat (first | apply Kd.R_alloc | apply Kd.R_drewN | apply Kd.R_drew)); exact HO_12.out) hb); have n1_ := Aside0.mk (Kd.R_below (by (with_reducible repeat (first | apply Kd.R_alloc | apply Kd.R_drewN | apply Kd.R_drew)); exact HO_13.out) hb); have n2_ := Aside0.mk (Kd.R_below (by (with_reducible repeat (first | apply Kd.R_alloc | apply Kd.R_drewN | apply Kd.R_drew)); exact HO189.out) hb); have n3_ := Aside0.mk (Kd.S_lower (Kd.S_new' (Kd.S_new' (Kd.S_new' ho0 (Kd.R_lt (by (with_reducible repeat (first | apply Kd.R_alloc | apply Kd.R_drewN | apply Kd.R_drew)); exact HO_12.out))) (Kd.R_lt (by (with_reducible repeat (first | apply Kd.R_alloc | apply Kd.R_drewN | apply Kd.R_drew)); exact HO_13.out))) (Kd.R_lt (by (with_reducible repeat (first | apply Kd.R_alloc | apply Kd.R_drewN | apply Kd.R_drew)); exact HO189.out))) (below_size (by repeat (first | (with_reducible first | exact HB.out | apply below_alloc | apply pw_below_drewN | apply below_drew1) | exact HB.out)))); have n4_ := Aside0.mk (below_step (by repeat (first | (with_reducible first | exact HB.out | apply below_alloc | apply pw_below_drewN | apply below_drew1) | exact HB.out)) hb); clear HO_12; clear HO_13; clear HO189; clear HB; have HO_12 := n0_; have HO_13 := n1_; have HO189 := n2_; have HO193 := n3_; have HB := n4_; clear n0_ n1_ n2_ n3_ n4_; (try clear hb); (try clear hb2); (try clear hk); (try clear hi); (try clear ho0); obtain ⟨Ao40, co40, eo40⟩ := Kd.S_slice HO193.out; subst eo40; have HCt := Aside0.mk (Kd.S_reads' HO193.out).2.2; have HLt := Aside0.mk (Kd.S_reads' HO193.out).2.1) | ((with_reducible refine gate_builtin (b := .append) (xs := #[.const (.slice none 0 0), .tmp 86]) rfl ?_); (try (refine gate_guard (by rfl) ?_; dsimp only)); at_builtin; go_loud (refine app1 rfl (.tmp 86) rfl hs0 A0 l0.length c0 rfl ?aR ?aL ?_); (case aR => exact (Kd.C_below HH0.out (by repeat (first | (with_reducible first | exact HB.out | apply below_alloc | apply pw_below_drewN | apply below_drew1) | exact HB.out)))); (case aL => (have := few0.out; omega)); intro v87 w87 ho hb; have HO87 := Aside0.mk ho; have BB87 := Aside0.mk hb; clear ho hb) | ((with_reducible refine gate_builtin (b := .append) (xs := #[.tmp 87, .tmp 88]) rfl ?_); (try (refine gate_guard (by rfl) ?_; dsimp only)); at_builtin; go_loud (refine app2 rfl (.tmp 87) (.tmp 88) rfl v87 ([] ++ hs0) hs1 A1 l1.length c1 rfl rfl HO87.out ?aR BB87.out (below_size BB87.out) ?aL ?_); (case aR => exact (Kd.C_below HH1.out (below_step (by repeat (first | (with_reducible first | exact HB.out | apply below_alloc | apply pw_below_drewN | apply below_drew1) | exact HB.out)) BB87.out))); (case aL => (have := few0.out; have := HD0.out.1; rw [List.nil_append]; omega)); intro v89 w89 ho hb; have n0_ := Aside0.mk (Kd.R_below (by (with_reducible repeat (first | apply Kd.R_alloc | apply Kd.R_drewN | apply Kd.R_drew)); exact HO_12.out) hb); have n1_ := Aside0.mk (below_step (by repeat (first | (with_reducible first | exact HB.out | apply below_alloc | apply pw_below_drewN | apply below_drew1) | exact HB.out)) hb); have n2_ := Aside0.mk (Kd.C_below (by (with_reducible repeat (first | apply Kd.C_alloc | apply Kd.C_drewN | apply Kd.C_drew)); exact HCt.out) hb); clear HO_12 HB HCt HO_13 HO189 HO193 HO87 BB87; have HO_12 := n0_; have HB := n1_; have HCt := n2_; clear n0_ n1_ n2_; obtain ⟨A89, c89, e89, hle89, hC89⟩ := joined_ (e' := 5) HD0.out HD1.out HB.out H5.out ho; subst e89; have HR5 := Aside0.mk hC89; have HC5 := Aside0.mk hle89; clear ho hb hC89 hle89) | ((with_reducible refine gate_callee (f := 16) rfl ?_); refine goesL_ (some 90) rfl rfl Try.func16 (by kernel_rfl) rfl #[.slice Ao40 t190.length co40, .slice A89 l5.length c89] rfl (by (try simp only [List.map_toArray, List.map_cons, List.map_nil]); first | done | rfl | (simp only [List.length_drop, List.length_take]; rfl)) ?_; (with_reducible refine (winnowerref04_Lists.calls k3 _ _ t190 _ _ l5 t194 _ ?side1 ?side2 ?side3 ?side4 (lst_some A32.out).2).mono ?_); (case side1 => repeat (first | exact HCt.out | (with_reducible refine Kd.C_alloc ?_ _) | (with_reducible refine Kd.C_drewN ?_ _) | (with_reducible refine Kd.C_drew ?_))); (case side2 => exact HLt.out); (case side3 => repeat (first | exact HR5.out | (with_reducible refine Kd.C_alloc ?_ _) | (with_reducible refine Kd.C_drewN ?_ _) | (with_reducible refine Kd.C_drew ?_))); (case side4 => exact HC5.out); rintro e w' ⟨rfl, ⟨nd, rfl⟩⟩; refine ⟨_, rfl, ?_⟩))
                        (try simp only [Act.put, List.setIfInBounds_toArray, List.set_cons_zero, List.set_cons_succ])
                        go_cut [101] (fun v101 wc => ∃ (kq : Nat) (x101_32 : Bool), v101 = .bool x101_32 ∧ Aside0 (winnowerlaw04_FrameMore.j3 kq l0 a2 a4 l3 x12_2 x101_32 = some r) ∧ Aside0 (kq ≤ k3) ∧ Aside0 (Kd.R (Kd.int .u8) 5 wc w.heap.size (fun _ => True) (.slice Ao35 x12_2.length co35) x12_2) ∧ Aside0 (Below w.heap.size w wc))
                        case first =>
                          have H := HC33.out
                          clear HC33
                          by_cases c41 : t194 = true
                          · subst c41
                            have H1 : (winnowerlaw04_FrameMore.j3 k3 l0 a2 a4 l3 x12_2 (t191 != (wrap64 ((x12_2.length : Int) + (x13_3.length : Int))))) = some r := by rw [if_pos rfl] at H; exact H
                            clear H
                            have H := H1
                            clear H1
                            have H' := Aside0.mk H
                            clear H
                            go_wp2
                            go_meet
                            case rel => exact ⟨_, ((t191 != (wrap64 ((x12_2.length : Int) + (x13_3.length : Int))))), (by first | rfl | (simp; done) | (simp [*]; done)), H', ⟨by have := HJ9.out; have := HK2.out; have := HK3.out; first | omega | exact Nat.le_refl _⟩, ⟨by (with_reducible repeat (first | apply Kd.R_alloc | apply Kd.R_drewN | apply Kd.R_drew)); exact Kd.R_mono HO_12.out (fun _ hk => trivial)⟩, ⟨by repeat (first | (with_reducible first | exact HB.out | apply below_alloc | apply pw_below_drewN | apply below_drew1) | exact HB.out)⟩⟩
                          · replace c41 := Bool.eq_false_iff.mpr c41
                            subst c41
                            have H1 : (winnowerlaw04_FrameMore.j3 k3 l0 a2 a4 l3 x12_2 true) = some r := by rw [if_neg (show ¬ (false = true) by decide)] at H; exact H
                            clear H
                            have H := H1
                            clear H1
                            have H' := Aside0.mk H
                            clear H
                            go_wp2
                            go_meet
                            case rel => exact ⟨_, (true), (by first | rfl | (simp; done) | (simp [*]; done)), H', ⟨by have := HJ9.out; have := HK2.out; have := HK3.out; first | omega | exact Nat.le_refl _⟩, ⟨by (with_reducible repeat (first | apply Kd.R_alloc | apply Kd.R_drewN | apply Kd.R_drew)); exact Kd.R_mono HO_12.out (fun _ hk => trivial)⟩, ⟨by repeat (first | (with_reducible first | exact HB.out | apply below_alloc | apply pw_below_drewN | apply below_drew1) | exact HB.out)⟩⟩
                        case rest =>
                          clear HC33
                          try clear c1
                          try clear p1
                          try clear q1
                          try clear hx1
                          try clear c2
                          try clear p2
                          try clear c3
                          try clear c4
                          try clear c5
                          try clear c6
                          try clear p6
                          try clear c8
                          try clear c9
                          try clear c12
                          try clear c13
                          try clear c14
                          try clear c15
                          try clear c15b0
                          try clear c16
                          try clear c16b0
                          try clear p16
                          try clear q16
                          try clear hx16
                          try clear c17
                          try clear p17
                          try clear q17
                          try clear hx17
                          try clear c18
                          try clear c22
                          try clear c22b0
                          try clear c23
                          try clear c23b0
                          try clear c25
                          try clear c29
                          try clear c30
                          try clear c41
                          try clear hx168_0
                          try clear hx176_0
                          try clear p1
                          try clear p16
                          try clear p168
                          try clear p176
                          try clear p2
                          try clear p6
                          try clear q1
                          try clear q16
                          try clear q168
                          try clear q176
                          obtain ⟨kq, x101_32, rfl, HA, HJ32, HO_12, HB⟩ := hcut
                          cases kq with
                          | zero => exact absurd HA.out (by simp [winnowerlaw04_FrameMore.j3])
                          | succ kj32 =>
                            have H := HA.out
                            clear HA
                            simp only [winnowerlaw04_FrameMore.j3] at H
                            by_cases c42 : x101_32 = true
                            · subst c42
                              have H1 : (some false) = some r := by rw [if_pos rfl] at H; exact H
                              clear H
                              have H := H1
                              clear H1
                              exact absurd (HTRUE.out.symm.trans (Option.some.inj H).symm) (by decide)
                            · replace c42 := Bool.eq_false_iff.mpr c42
                              subst c42
                              have H1 : (if (l0.length : Int) = 0 then (winnowerlaw04_FrameMore.j4 kj32 l0 a2 l3 x12_2 true) else (if a2 < 0 then (winnowerlaw04_FrameMore.j4 kj32 l0 a2 l3 x12_2 true) else (if 0 < (l0.length : Int) then (if a2 > ((rd_L1 l0 0).length : Int) then (winnowerlaw04_FrameMore.j4 kj32 l0 a2 l3 x12_2 true) else (winnowerlaw04_FrameMore.j4 kj32 l0 a2 l3 x12_2 a4)) else (none)))) = some r := by rw [if_neg (show ¬ (false = true) by decide)] at H; exact H
                              clear H
                              have H := H1
                              clear H1
                              have HC43 := Aside0.mk H
                              clear H
                              go_upto_region 22 with (fail)
                              go_cut [121] (fun v121 wc => ∃ (kq : Nat) (x121_42 : Bool), v121 = .bool x121_42 ∧ Aside0 (winnowerlaw04_FrameMore.j4 kq l0 a2 l3 x12_2 x121_42 = some r) ∧ Aside0 (kq ≤ kj32) ∧ Aside0 (Kd.R (Kd.int .u8) 5 wc w.heap.size (fun _ => True) (.slice Ao35 x12_2.length co35) x12_2) ∧ Aside0 (Below w.heap.size w wc))
                              case first =>
                                have H := HC43.out
                                clear HC43
                                by_cases c44 : (l0.length : Int) = 0
                                · rw [if_pos c44] at H
                                  have c44b0 : ((l0.length : Int) == 0) = true := beq_iff_eq.mpr c44
                                  have c44b0y0 := c44b0
                                  (try simp only [hl12_6] at c44b0y0)
                                  have c44b0y1 := c44b0
                                  (try simp only [hl168_0] at c44b0y1)
                                  have c44b0y2 := c44b0
                                  (try simp only [hl176_0] at c44b0y2)
                                  have c44b0y3 := c44b0
                                  (try simp only [hl195_0] at c44b0y3)
                                  have c44b0y4 := c44b0
                                  (try simp only [hl196_0] at c44b0y4)
                                  have c44b1 : ((l0.length : Int) != 0) = false := bne_eq_false_iff_eq.mpr c44
                                  have c44b1y0 := c44b1
                                  (try simp only [hl12_6] at c44b1y0)
                                  have c44b1y1 := c44b1
                                  (try simp only [hl168_0] at c44b1y1)
                                  have c44b1y2 := c44b1
                                  (try simp only [hl176_0] at c44b1y2)
                                  have c44b1y3 := c44b1
                                  (try simp only [hl195_0] at c44b1y3)
                                  have c44b1y4 := c44b1
                                  (try simp only [hl196_0] at c44b1y4)
                                  clear c44
                                  (first | rw [c44b0] | (simp only [i64_w, i32_w]; rw [c44b0]) | skip)
                                  have H' := Aside0.mk H
                                  clear H
                                  go_wp2
                                  go_meet
                                  case rel => exact ⟨_, (true), (by first | rfl | (simp; done) | (simp [*]; done)), H', ⟨by have := HJ9.out; have := HK2.out; have := HK3.out; have := HJ32.out; first | omega | exact Nat.le_refl _⟩, ⟨by (with_reducible repeat (first | apply Kd.R_alloc | apply Kd.R_drewN | apply Kd.R_drew)); exact HO_12.out⟩, ⟨by repeat (first | (with_reducible first | exact HB.out | apply below_alloc | apply pw_below_drewN | apply below_drew1) | exact HB.out)⟩⟩
                                · rw [if_neg c44] at H
                                  have c44b0 : ((l0.length : Int) == 0) = false := beq_eq_false_iff_ne.mpr c44
                                  have c44b0y0 := c44b0
                                  (try simp only [hl12_6] at c44b0y0)
                                  have c44b0y1 := c44b0
                                  (try simp only [hl168_0] at c44b0y1)
                                  have c44b0y2 := c44b0
                                  (try simp only [hl176_0] at c44b0y2)
                                  have c44b0y3 := c44b0
                                  (try simp only [hl195_0] at c44b0y3)
                                  have c44b0y4 := c44b0
                                  (try simp only [hl196_0] at c44b0y4)
                                  have c44b1 : ((l0.length : Int) != 0) = true := bne_iff_ne.mpr c44
                                  have c44b1y0 := c44b1
                                  (try simp only [hl12_6] at c44b1y0)
                                  have c44b1y1 := c44b1
                                  (try simp only [hl168_0] at c44b1y1)
                                  have c44b1y2 := c44b1
                                  (try simp only [hl176_0] at c44b1y2)
                                  have c44b1y3 := c44b1
                                  (try simp only [hl195_0] at c44b1y3)
                                  have c44b1y4 := c44b1
                                  (try simp only [hl196_0] at c44b1y4)
                                  have c44b2 : ¬ (l0 = []) := fun h_ => c44 (by rw [h_]; rfl)
                                  (first | rw [c44b0] | (simp only [i64_w, i32_w]; rw [c44b0]) | skip)
                                  by_cases c45 : a2 < 0
                                  · rw [if_pos c45] at H
                                    have c45b0 : decide (a2 < 0) = true := decide_eq_true c45
                                    clear c45
                                    have H' := Aside0.mk H
                                    clear H
                                    go_wp2
                                    go_meet
                                    case rel => exact ⟨_, (true), (by first | rfl | (simp; done) | (simp [*]; done)), H', ⟨by have := HJ9.out; have := HK2.out; have := HK3.out; have := HJ32.out; first | omega | exact Nat.le_refl _⟩, ⟨by (with_reducible repeat (first | apply Kd.R_alloc | apply Kd.R_drewN | apply Kd.R_drew)); exact HO_12.out⟩, ⟨by repeat (first | (with_reducible first | exact HB.out | apply below_alloc | apply pw_below_drewN | apply below_drew1) | exact HB.out)⟩⟩
                                  · rw [if_neg c45] at H
                                    have c45b0 : decide (a2 < 0) = false := decide_eq_false c45
                                    clear c45
                                    by_cases c46 : 0 < (l0.length : Int)
                                    · rw [if_pos c46] at H
                                      have c46b0 : decide (0 < (l0.length : Int)) = true := decide_eq_true c46
                                      have c46b0y0 := c46b0
                                      (try simp only [hl12_6] at c46b0y0)
                                      have c46b0y1 := c46b0
                                      (try simp only [hl168_0] at c46b0y1)
                                      have c46b0y2 := c46b0
                                      (try simp only [hl176_0] at c46b0y2)
                                      have c46b0y3 := c46b0
                                      (try simp only [hl195_0] at c46b0y3)
                                      have c46b0y4 := c46b0
                                      (try simp only [hl196_0] at c46b0y4)
                                      have c46b1 : decide (0 < l0.length) = true := decide_eq_true (by omega)
                                      have c46b1y0 := c46b1
                                      (try simp only [hl12_6] at c46b1y0)
                                      have c46b1y1 := c46b1
                                      (try simp only [hl168_0] at c46b1y1)
                                      have c46b1y2 := c46b1
                                      (try simp only [hl176_0] at c46b1y2)
                                      have c46b1y3 := c46b1
                                      (try simp only [hl195_0] at c46b1y3)
                                      have c46b1y4 := c46b1
                                      (try simp only [hl196_0] at c46b1y4)
                                      clear c46
                                      by_cases c47 : a2 > ((rd_L1 l0 0).length : Int)
                                      · rw [if_pos c47] at H
                                        have c47b0 : decide (((rd_L1 l0 0).length : Int) < a2) = true := decide_eq_true c47
                                        have c47b0y0 := c47b0
                                        (try simp only [hl12_6] at c47b0y0)
                                        have c47b0y1 := c47b0
                                        (try simp only [hl168_0] at c47b0y1)
                                        have c47b0y2 := c47b0
                                        (try simp only [hl176_0] at c47b0y2)
                                        have c47b0y3 := c47b0
                                        (try simp only [hl195_0] at c47b0y3)
                                        have c47b0y4 := c47b0
                                        (try simp only [hl196_0] at c47b0y4)
                                        clear c47
                                        have H' := Aside0.mk H
                                        clear H
                                        have p195 : 0 ≤ (0 : Int) := (by omega)
                                        have q195 : 0 < (l0.length : Int) := of_decide_eq_true (by first | (with_reducible assumption) | assumption)
                                        obtain ⟨ad195, A195_0, c195_0, e195, hx195_0, hl195_0, hi195_0⟩ := at_L1 HR0.out 0 p195 q195
                                        cases e195
                                        have qi195 : (0 < l0.length) = True := eq_true (by omega)
                                        (try rw [show ((0 : Int)).toNat = 0 from rfl] at hx195_0)
                                        (try rw [Addr.add_zero'] at hx195_0)
                                        replace hx195_0 := (HB.out.cell (World.block_lt_of_cell? w _ hx195_0)).trans hx195_0
                                        have HR195_0 := Aside0.mk hi195_0
                                        have HC195_0 := Aside0.mk hl195_0
                                        clear hi195_0 hl195_0
                                        replace p195 := eq_true p195
                                        replace q195 := eq_true q195
                                        go_wp2
                                        go_meet
                                        case rel => exact ⟨_, (true), (by first | rfl | (simp; done) | (simp [*]; done)), H', ⟨by have := HJ9.out; have := HK2.out; have := HK3.out; have := HJ32.out; first | omega | exact Nat.le_refl _⟩, ⟨by (with_reducible repeat (first | apply Kd.R_alloc | apply Kd.R_drewN | apply Kd.R_drew)); exact HO_12.out⟩, ⟨by repeat (first | (with_reducible first | exact HB.out | apply below_alloc | apply pw_below_drewN | apply below_drew1) | exact HB.out)⟩⟩
                                      · rw [if_neg c47] at H
                                        have c47b0 : decide (((rd_L1 l0 0).length : Int) < a2) = false := decide_eq_false c47
                                        have c47b0y0 := c47b0
                                        (try simp only [hl12_6] at c47b0y0)
                                        have c47b0y1 := c47b0
                                        (try simp only [hl168_0] at c47b0y1)
                                        have c47b0y2 := c47b0
                                        (try simp only [hl176_0] at c47b0y2)
                                        have c47b0y3 := c47b0
                                        (try simp only [hl195_0] at c47b0y3)
                                        have c47b0y4 := c47b0
                                        (try simp only [hl196_0] at c47b0y4)
                                        clear c47
                                        have H' := Aside0.mk H
                                        clear H
                                        have p195 : 0 ≤ (0 : Int) := (by omega)
                                        have q195 : 0 < (l0.length : Int) := of_decide_eq_true (by first | (with_reducible assumption) | assumption)
                                        obtain ⟨ad195, A195_0, c195_0, e195, hx195_0, hl195_0, hi195_0⟩ := at_L1 HR0.out 0 p195 q195
                                        cases e195
                                        have qi195 : (0 < l0.length) = True := eq_true (by omega)
                                        (try rw [show ((0 : Int)).toNat = 0 from rfl] at hx195_0)
                                        (try rw [Addr.add_zero'] at hx195_0)
                                        replace hx195_0 := (HB.out.cell (World.block_lt_of_cell? w _ hx195_0)).trans hx195_0
                                        have HR195_0 := Aside0.mk hi195_0
                                        have HC195_0 := Aside0.mk hl195_0
                                        clear hi195_0 hl195_0
                                        replace p195 := eq_true p195
                                        replace q195 := eq_true q195
                                        go_wp2_with (first | ((with_reducible refine gate_dst (N := 118) rfl ?_); (try (refine gate_guard (by rfl) ?_; dsimp only)); go_loud (refine wpList_load_row rfl 38 (.tmp 7) rfl gA rfl 38 (four b0 b1 b2 b3) (0, 0) _ (((by repeat (first | (with_reducible first | exact HB.out | apply below_alloc | apply pw_below_drewN | apply below_drew1) | exact HB.out)) : Below w.heap.size w _).block gA (blk_lt BX.out) |>.trans BX.out) underlying38 rfl size38 ?_)) | ((with_reducible refine gate_dst (N := 120) rfl ?_); (try (refine gate_guard (by rfl) ?_; dsimp only)); go_loud (refine Kd.event_run rfl (eql_run rfl rfl rfl) ?_); rw [← H4.out]))
                                        go_meet
                                        case rel => exact ⟨_, (a4), (by first | rfl | (simp; done) | (simp [*]; done)), H', ⟨by have := HJ9.out; have := HK2.out; have := HK3.out; have := HJ32.out; first | omega | exact Nat.le_refl _⟩, ⟨by (with_reducible repeat (first | apply Kd.R_alloc | apply Kd.R_drewN | apply Kd.R_drew)); exact HO_12.out⟩, ⟨by repeat (first | (with_reducible first | exact HB.out | apply below_alloc | apply pw_below_drewN | apply below_drew1) | exact HB.out)⟩⟩
                                    · rw [if_neg c46] at H
                                      exact absurd H (by simp)
                              case rest =>
                                clear HC43
                                try clear c1
                                try clear p1
                                try clear q1
                                try clear hx1
                                try clear qi1
                                try clear c2
                                try clear p2
                                try clear c3
                                try clear c4
                                try clear c5
                                try clear c6
                                try clear p6
                                try clear c8
                                try clear c9
                                try clear c12
                                try clear c13
                                try clear c14
                                try clear c15
                                try clear c15b0
                                try clear c16
                                try clear c16b0
                                try clear p16
                                try clear q16
                                try clear hx16
                                try clear c17
                                try clear p17
                                try clear q17
                                try clear hx17
                                try clear c18
                                try clear c19
                                try clear p19
                                try clear q19
                                try clear hx19
                                try clear qi19
                                try clear c22
                                try clear c22b0
                                try clear c23
                                try clear c23b0
                                try clear c25
                                try clear c29
                                try clear c30
                                try clear c41
                                try clear c42
                                try clear c44
                                try clear c44b0
                                try clear c44b1
                                try clear c44b2
                                try clear c45
                                try clear c45b0
                                try clear c46
                                try clear c46b0
                                try clear c46b1
                                try clear c47
                                try clear c47b0
                                try clear hx168_0
                                try clear hx176_0
                                try clear hx195_0
                                try clear p1
                                try clear p16
                                try clear p168
                                try clear p17
                                try clear p176
                                try clear p195
                                try clear p2
                                try clear p6
                                try clear q1
                                try clear q16
                                try clear q168
                                try clear q17
                                try clear q176
                                try clear q195
                                obtain ⟨kq, x121_42, rfl, HA, HJ42, HO_12, HB⟩ := hcut
                                cases kq with
                                | zero => exact absurd HA.out (by simp [winnowerlaw04_FrameMore.j4])
                                | succ kj42 =>
                                  have H := HA.out
                                  clear HA
                                  simp only [winnowerlaw04_FrameMore.j4] at H
                                  by_cases c48 : x121_42 = true
                                  · subst c48
                                    have H1 : (some true) = some r := by rw [if_pos rfl] at H; exact H
                                    clear H
                                    have H := H1
                                    clear H1
                                    obtain rfl := Option.some.inj H
                                    go_wp2
                                    go_ret
                                    exact ⟨by first | rfl | (simp [errW_none, errW_some] <;> rfl) | (refine congrArg (fun b_ : Bool => Ending.returned (Value.bool b_)) ?_; simp; done) | (simp [*, errW_none, errW_some] <;> rfl), below_step HBZ.out (by repeat (first | (with_reducible first | exact HB.out | apply below_alloc | apply pw_below_drewN | apply below_drew1) | exact HB.out))⟩
                                  · replace c48 := Bool.eq_false_iff.mpr c48
                                    subst c48
                                    have H1 : (if 0 < (l0.length : Int) then ((winnowerref01_PutLen.f ((rd_L1 l0 0).length : Int)).bind fun t197 => (if (x12_2.length : Int) < (wrap64 ((wrap64 ((t197.length : Int) + a2)) + 4)) then (some false) else (winnowerlaw04_FrameMore.l2 kj42 a2 l3 x12_2 (t197.length : Int) 0))) else (none)) = some r := by rw [if_neg (show ¬ (false = true) by decide)] at H; exact H
                                    clear H
                                    have H := H1
                                    clear H1
                                    by_cases c49 : 0 < (l0.length : Int)
                                    · rw [if_pos c49] at H
                                      have c49b0 : decide (0 < (l0.length : Int)) = true := decide_eq_true c49
                                      have c49b0y0 := c49b0
                                      (try simp only [hl12_6] at c49b0y0)
                                      have c49b0y1 := c49b0
                                      (try simp only [hl168_0] at c49b0y1)
                                      have c49b0y2 := c49b0
                                      (try simp only [hl176_0] at c49b0y2)
                                      have c49b0y3 := c49b0
                                      (try simp only [hl195_0] at c49b0y3)
                                      have c49b0y4 := c49b0
                                      (try simp only [hl196_0] at c49b0y4)
                                      have c49b1 : decide (0 < l0.length) = true := decide_eq_true (by omega)
                                      have c49b1y0 := c49b1
                                      (try simp only [hl12_6] at c49b1y0)
                                      have c49b1y1 := c49b1
                                      (try simp only [hl168_0] at c49b1y1)
                                      have c49b1y2 := c49b1
                                      (try simp only [hl176_0] at c49b1y2)
                                      have c49b1y3 := c49b1
                                      (try simp only [hl195_0] at c49b1y3)
                                      have c49b1y4 := c49b1
                                      (try simp only [hl196_0] at c49b1y4)
                                      clear c49
                                      replace H := Option.bind_eq_some_iff.mp H
                                      obtain ⟨t197, A500, H⟩ := H
                                      replace H : (if (x12_2.length : Int) < (wrap64 ((wrap64 ((t197.length : Int) + a2)) + 4)) then (some false) else (winnowerlaw04_FrameMore.l2 kj42 a2 l3 x12_2 (t197.length : Int) 0)) = some r := H
                                      have A50 := Aside0.mk A500
                                      clear A500
                                      by_cases c51 : (x12_2.length : Int) < (wrap64 ((wrap64 ((t197.length : Int) + a2)) + 4))
                                      · rw [if_pos c51] at H
                                        have c51b0 : decide ((x12_2.length : Int) < (wrap64 ((wrap64 ((t197.length : Int) + a2)) + 4))) = true := decide_eq_true c51
                                        have c51b0y0 := c51b0
                                        (try simp only [hl12_6] at c51b0y0)
                                        have c51b0y1 := c51b0
                                        (try simp only [hl168_0] at c51b0y1)
                                        have c51b0y2 := c51b0
                                        (try simp only [hl176_0] at c51b0y2)
                                        have c51b0y3 := c51b0
                                        (try simp only [hl195_0] at c51b0y3)
                                        have c51b0y4 := c51b0
                                        (try simp only [hl196_0] at c51b0y4)
                                        clear c51
                                        exact absurd (HTRUE.out.symm.trans (Option.some.inj H).symm) (by decide)
                                      · rw [if_neg c51] at H
                                        have c51b0 : decide ((x12_2.length : Int) < (wrap64 ((wrap64 ((t197.length : Int) + a2)) + 4))) = false := decide_eq_false c51
                                        have c51b0y0 := c51b0
                                        (try simp only [hl12_6] at c51b0y0)
                                        have c51b0y1 := c51b0
                                        (try simp only [hl168_0] at c51b0y1)
                                        have c51b0y2 := c51b0
                                        (try simp only [hl176_0] at c51b0y2)
                                        have c51b0y3 := c51b0
                                        (try simp only [hl195_0] at c51b0y3)
                                        have c51b0y4 := c51b0
                                        (try simp only [hl196_0] at c51b0y4)
                                        clear c51
                                        have H' := Aside0.mk H
                                        clear H
                                        have p196 : 0 ≤ (0 : Int) := (by omega)
                                        have q196 : 0 < (l0.length : Int) := of_decide_eq_true (by first | (with_reducible assumption) | assumption)
                                        obtain ⟨ad196, A196_0, c196_0, e196, hx196_0, hl196_0, hi196_0⟩ := at_L1 HR0.out 0 p196 q196
                                        cases e196
                                        have qi196 : (0 < l0.length) = True := eq_true (by omega)
                                        (try rw [show ((0 : Int)).toNat = 0 from rfl] at hx196_0)
                                        (try rw [Addr.add_zero'] at hx196_0)
                                        replace hx196_0 := (HB.out.cell (World.block_lt_of_cell? w _ hx196_0)).trans hx196_0
                                        have HR196_0 := Aside0.mk hi196_0
                                        have HC196_0 := Aside0.mk hl196_0
                                        clear hi196_0 hl196_0
                                        replace p196 := eq_true p196
                                        replace q196 := eq_true q196
                                        go_wp2_with (first | ((with_reducible refine gate_callee (f := 18) rfl ?_); refine goesL_ (some 126) rfl rfl Try.func18 (by kernel_rfl) rfl #[.int .i64 ((rd_L1 l0 0).length : Int)] rfl (by (try simp only [List.map_toArray, List.map_cons, List.map_nil]); first | done | rfl | (simp only [List.length_drop, List.length_take]; rfl)) ?_; (with_reducible refine (winnowerref01_PutLen.calls ((rd_L1 l0 0).length : Int) t197 _ A50.out).mono ?_); rintro e w52 ⟨v198, rfl, ho0, hb⟩; refine ⟨_, rfl, ?_⟩; have n0_ := Aside0.mk (Kd.R_elder' (by (with_reducible repeat (first | apply Kd.R_alloc | apply Kd.R_drewN | apply Kd.R_drew)); exact HO_12.out) (Kd.R_base ho0) hb); have n1_ := Aside0.mk (Kd.R_lower (Kd.R_new' ho0 (Kd.R_lt (by (with_reducible repeat (first | apply Kd.R_alloc | apply Kd.R_drewN | apply Kd.R_drew)); exact HO_12.out))) (below_size (by repeat (first | (with_reducible first | exact HB.out | apply below_alloc | apply pw_below_drewN | apply below_drew1) | exact HB.out)))); have n2_ := Aside0.mk (below_step (by repeat (first | (with_reducible first | exact HB.out | apply below_alloc | apply pw_below_drewN | apply below_drew1) | exact HB.out)) hb); clear HO_12; clear HB; have HO_12 := n0_; have HO199 := n1_; have HB := n2_; clear n0_ n1_ n2_; (try clear hb); (try clear hb2); (try clear hk); (try clear hi); (try clear ho0); obtain ⟨Ao53, co53, eo53⟩ := Kd.R_slice HO199.out; subst eo53))
                                        go_loopg [24] kj42 (fun kq v24 w' => ∃ (x12_6 : List Int) (x24_6 : Int), v24 = .int .i64 x24_6 ∧ Aside0 (winnowerlaw04_FrameMore.l2 kq a2 l3 x12_6 (t197.length : Int) x24_6 = some r) ∧ Aside0 (kq ≤ kj42) ∧ Aside0 (Kd.R (Kd.int .u8) 5 w' w.heap.size (fun _ => True) (.slice Ao35 x12_2.length co35) x12_6) ∧ Aside0 (Below w.heap.size w w'))
                                        case atStart => exact ⟨(x12_2), (0), (by first | rfl | (simp; done) | (simp [*]; done)), H', ⟨Nat.le_refl _⟩, ⟨by (with_reducible repeat (first | apply Kd.R_alloc | apply Kd.R_drewN | apply Kd.R_drew)); exact Kd.R_mono HO_12.out (fun _ hk => trivial)⟩, ⟨by repeat (first | (with_reducible first | exact HB.out | apply below_alloc | apply pw_below_drewN | apply below_drew1) | exact HB.out)⟩⟩
                                        case round =>
                                          clear H'
                                          try clear c1
                                          try clear p1
                                          try clear q1
                                          try clear hx1
                                          try clear qi1
                                          try clear c2
                                          try clear p2
                                          try clear c3
                                          try clear c4
                                          try clear c5
                                          try clear c6
                                          try clear p6
                                          try clear c8
                                          try clear c9
                                          try clear c12
                                          try clear c13
                                          try clear c14
                                          try clear c15
                                          try clear c15b0
                                          try clear c16
                                          try clear c16b0
                                          try clear p16
                                          try clear q16
                                          try clear hx16
                                          try clear c17
                                          try clear p17
                                          try clear q17
                                          try clear hx17
                                          try clear c18
                                          try clear c19
                                          try clear p19
                                          try clear q19
                                          try clear hx19
                                          try clear qi19
                                          try clear c22
                                          try clear c22b0
                                          try clear c23
                                          try clear c23b0
                                          try clear c25
                                          try clear c29
                                          try clear c30
                                          try clear c41
                                          try clear c42
                                          try clear c44
                                          try clear c44b0
                                          try clear c44b1
                                          try clear c44b2
                                          try clear c45
                                          try clear c45b0
                                          try clear c46
                                          try clear c46b0
                                          try clear c46b1
                                          try clear c47
                                          try clear c47b0
                                          try clear c48
                                          try clear c49
                                          try clear c49b0
                                          try clear c49b1
                                          try clear c51
                                          try clear c51b0
                                          try clear hx168_0
                                          try clear hx176_0
                                          try clear hx195_0
                                          try clear hx196_0
                                          try clear p1
                                          try clear p16
                                          try clear p168
                                          try clear p17
                                          try clear p176
                                          try clear p19
                                          try clear p195
                                          try clear p196
                                          try clear p2
                                          try clear p6
                                          try clear q1
                                          try clear q16
                                          try clear q168
                                          try clear q17
                                          try clear q176
                                          try clear q19
                                          try clear q195
                                          try clear q196
                                          obtain ⟨x12_6, x24_6, rfl, HA, HK6, HO_12, HB⟩ := hrel
                                          have hl12_6 := (Kd.R_reads' HO_12.out).1
                                          rw [hl12_6] at HO_12
                                          (try simp only [hl12_6])
                                          cases gk with
                                          | zero => exact absurd HA.out (by simp [winnowerlaw04_FrameMore.l2])
                                          | succ k6 =>
                                            have H := HA.out
                                            clear HA
                                            simp only [winnowerlaw04_FrameMore.l2] at H
                                            by_cases c54 : x24_6 < 4
                                            · rw [if_pos c54] at H
                                              have c54b0 : decide (x24_6 < 4) = true := decide_eq_true c54
                                              clear c54
                                              obtain ⟨ji55, hji55⟩ : ∃ j_ : Int, (wrap64 ((wrap64 ((t197.length : Int) + a2)) + x24_6)) = j_ := ⟨_, rfl⟩
                                              replace H : (if 0 ≤ (ji55) then (if (ji55) < (x12_6.length : Int) then (if 0 ≤ x24_6 then (if x24_6 < (l3.length : Int) then (winnowerlaw04_FrameMore.l2 k6 a2 l3 (x12_6.set ((ji55) : Int).toNat (Go.bits .xor .u8 (rd x12_6 (ji55)) (rd l3 x24_6))) (t197.length : Int) (wrap64 (x24_6 + 1))) else (none)) else (none)) else (none)) else (none)) = some r := by first | (rw [hji55] at H; exact H) | (simp only [hji55] at H ⊢; exact H)
                                              have hji55w : (IntKind.i64.wrap ((wrap64 ((t197.length : Int) + a2)) + x24_6)) = ji55 := (i64_w _).trans hji55
                                              by_cases c56 : 0 ≤ (ji55)
                                              · rw [if_pos c56] at H
                                                have c56b0 : decide (0 ≤ (ji55)) = true := decide_eq_true c56
                                                clear c56
                                                by_cases c57 : (ji55) < (x12_6.length : Int)
                                                · rw [if_pos c57] at H
                                                  have c57b0 : decide ((ji55) < (x12_6.length : Int)) = true := decide_eq_true c57
                                                  have c57b0y0 := c57b0
                                                  (try simp only [hl12_6] at c57b0y0)
                                                  have c57b0y1 := c57b0
                                                  (try simp only [hl168_0] at c57b0y1)
                                                  have c57b0y2 := c57b0
                                                  (try simp only [hl176_0] at c57b0y2)
                                                  have c57b0y3 := c57b0
                                                  (try simp only [hl195_0] at c57b0y3)
                                                  have c57b0y4 := c57b0
                                                  (try simp only [hl196_0] at c57b0y4)
                                                  clear c57
                                                  by_cases c58 : 0 ≤ x24_6
                                                  · rw [if_pos c58] at H
                                                    have c58b0 : decide (0 ≤ x24_6) = true := decide_eq_true c58
                                                    clear c58
                                                    by_cases c59 : x24_6 < (l3.length : Int)
                                                    · rw [if_pos c59] at H
                                                      have c59b0 : decide (x24_6 < (l3.length : Int)) = true := decide_eq_true c59
                                                      have c59b0y0 := c59b0
                                                      (try simp only [hl12_6] at c59b0y0)
                                                      have c59b0y1 := c59b0
                                                      (try simp only [hl168_0] at c59b0y1)
                                                      have c59b0y2 := c59b0
                                                      (try simp only [hl176_0] at c59b0y2)
                                                      have c59b0y3 := c59b0
                                                      (try simp only [hl195_0] at c59b0y3)
                                                      have c59b0y4 := c59b0
                                                      (try simp only [hl196_0] at c59b0y4)
                                                      clear c59
                                                      obtain ⟨y202, hy202⟩ : ∃ y_ : List Int, y_ = (x12_6.set ((ji55) : Int).toNat (Go.bits .xor .u8 (rd x12_6 (ji55)) (rd l3 x24_6))) := ⟨_, rfl⟩
                                                      replace H : (winnowerlaw04_FrameMore.l2 k6 a2 l3 y202 (t197.length : Int) (wrap64 (x24_6 + 1))) = some r := by first | (rw [hy202]; with_reducible exact H) | (have H2_ := (Option.bind_some _ _).symm.trans H; rw [hy202]; with_reducible exact H2_) | (have H2_ := (Option.bind_some _ _).symm.trans H; with_reducible exact H2_) | with_reducible exact H | (rw [hy202]; exact H) | exact H
                                                      have Ny202 := Aside0.mk hy202
                                                      clear hy202
                                                      have H' := Aside0.mk H
                                                      clear H
                                                      try go_wp2
                                                      have n0_ := Aside0.mk (Kd.R_drew HO_12.out); have n1_ := Aside0.mk (below_drew1 HB.out); clear HO_12; clear HB; have HO_12 := n0_; have HB := n1_; clear n0_ n1_
                                                      have p200 : 0 ≤ ((ji55) : Int) := of_decide_eq_true (by first | (with_reducible assumption) | assumption)
                                                      have q200 : (ji55) < (x12_6.length : Int) := of_decide_eq_true (by first | (with_reducible assumption) | assumption)
                                                      obtain ⟨ad200, e200, hx200_0⟩ := Kd.at_int (Kd.R_reads' HO_12.out).2.2 (ji55) p200 q200
                                                      cases e200
                                                      replace p200 := eq_true p200
                                                      replace q200 := eq_true q200
                                                      have p201 : 0 ≤ (x24_6 : Int) := of_decide_eq_true (by first | (with_reducible assumption) | assumption)
                                                      have q201 : x24_6 < (l3.length : Int) := of_decide_eq_true (by first | (with_reducible assumption) | assumption)
                                                      obtain ⟨ad201, e201, hx201_0⟩ := Kd.at_int HR3.out x24_6 p201 q201
                                                      cases e201
                                                      simp only [add_plain] at hx201_0
                                                      have hw201_0 := hx201_0
                                                      replace hx201_0 := (HB.out.cell (World.block_lt_of_cell? w _ hx201_0)).trans hx201_0
                                                      replace p201 := eq_true p201
                                                      replace q201 := eq_true q201
                                                      have q201b : (x24_6 < 4) = True := eq_true (of_decide_eq_true c54b0)
                                                      have p60 : 0 ≤ ((ji55) : Int) := of_decide_eq_true (by first | (with_reducible assumption) | assumption)
                                                      have q60 : ((ji55) : Int) < ((x12_6.length : Int) : Int) := of_decide_eq_true (by first | (with_reducible assumption) | assumption)
                                                      obtain ⟨go60, co60, eo60, gb60, gl60, cl60, HG60⟩ := Kd.R_form HO_12.out (by omega)
                                                      (first | cases eo60 | (injection eo60 with ea_ en_ ec_; (first | subst ea_ | (injection ea_ with ea_; subst ea_)); subst ec_; clear en_))
                                                      have GB60 := Aside0.mk gb60
                                                      have GG60 := Aside0.mk HG60
                                                      clear gb60 gl60 HG60
                                                      (first | simp only [add_plain] at hx200_0 | skip)
                                                      obtain ⟨hx60_0, hf60_0⟩ := Kd.R_celln 0 HO_12.out ((ji55) : Int) p60 q60
                                                      replace p60 := eq_true p60
                                                      replace q60 := eq_true q60
                                                      have HP62 := Kd.R_putn HO_12.out ((ji55) : Int) (Go.bits .xor .u8 (rd x12_6 (ji55)) (rd l3 x24_6))
                                                      rw [← Ny202.out] at HP62
                                                      have HQ62 := Aside0.mk HP62
                                                      clear HP62
                                                      refine start_ (n := 20) (S := fun w' => w'.cell? ⟨go60, ((ji55)).toNat, none⟩ = some (.int .u8 (rd x12_6 (ji55))) ∧ w'.cell? ⟨gA, (x24_6).toNat, none⟩ = some (.int .u8 (rd l3 x24_6))) (ds := [19]) #[false, false, false, false, false, false, false, false, false, false, false, false, false, false, false, false, false, false, false, false] (by kernel_rfl) rfl rfl ⟨hx200_0, ((HB.out.cell (World.block_lt_of_cell? w _ hw201_0)).trans hw201_0)⟩ (fun hHeld => ?_); refine with_tabW winnowerlaw04_FrameMore.tab30 winnowerlaw04_FrameMore.bits30 (fun HT_ HW_ => ?_)
                                                      generalize wr.drew = w61 at HO_12 HB GG60 HQ62 hf60_0 hx200_0 hx201_0 hx60_0 hHeld ⊢
                                                      refine pure_ (i := 0) (N := some 139) (v := ?_) (a' := ?_) #[true, false, false, false, false, false, false, false, false, false, false, false, false, false, false, false, false, false, false, false] rfl rfl (any_of HT_.out (by kernel_rfl)) (fun _ _ _ h => h) (Or.inl ⟨by rfl, ?_⟩) ?_ ?_
                                                      rotate_left
                                                      · intro w'
                                                        go_simp
                                                        with_reducible rfl
                                                      rotate_left
                                                      · simp only [Act.put, List.setIfInBounds_toArray, List.set_cons_zero, List.set_cons_succ, i64_w, i32_w]
                                                        rfl
                                                      refine pure_ (i := 1) (N := some 140) (v := ?_) (a' := ?_) #[true, true, false, false, false, false, false, false, false, false, false, false, false, false, false, false, false, false, false, false] rfl rfl (any_of HT_.out (by kernel_rfl)) (fun _ _ _ h => h) (Or.inl ⟨by rfl, ?_⟩) ?_ ?_
                                                      rotate_left
                                                      · intro w'
                                                        go_simp
                                                        with_reducible rfl
                                                      rotate_left
                                                      · simp only [Act.put, List.setIfInBounds_toArray, List.set_cons_zero, List.set_cons_succ, i64_w, i32_w]
                                                        rfl
                                                      refine pure_ (i := 2) (N := some 141) (v := ?_) (a' := ?_) #[true, true, true, false, false, false, false, false, false, false, false, false, false, false, false, false, false, false, false, false] rfl rfl (any_of HT_.out (by kernel_rfl)) (fun _ _ _ h => h) (Or.inl ⟨by rfl, ?_⟩) ?_ ?_
                                                      rotate_left
                                                      · intro w'
                                                        go_simp
                                                        with_reducible rfl
                                                      rotate_left
                                                      · simp only [Act.put, List.setIfInBounds_toArray, List.set_cons_zero, List.set_cons_succ, i64_w, i32_w]
                                                        rfl
                                                      refine pure_ (i := 3) (N := some 142) (v := ?_) (a' := ?_) #[true, true, true, true, false, false, false, false, false, false, false, false, false, false, false, false, false, false, false, false] rfl rfl (any_of HT_.out (by kernel_rfl)) (fun _ _ _ h => h) (Or.inl ⟨by rfl, ?_⟩) ?_ ?_
                                                      rotate_left
                                                      · intro w'
                                                        go_simp
                                                        with_reducible rfl
                                                      rotate_left
                                                      · simp only [Act.put, List.setIfInBounds_toArray, List.set_cons_zero, List.set_cons_succ, i64_w, i32_w]
                                                        rfl
                                                      refine pure_ (i := 4) (N := some 143) (v := ?_) (a' := ?_) #[true, true, true, true, true, false, false, false, false, false, false, false, false, false, false, false, false, false, false, false] rfl rfl (any_of HT_.out (by kernel_rfl)) (fun _ _ _ h => h) (Or.inl ⟨by rfl, ?_⟩) ?_ ?_
                                                      rotate_left
                                                      · intro w'
                                                        go_simp
                                                        with_reducible rfl
                                                      rotate_left
                                                      · simp only [Act.put, List.setIfInBounds_toArray, List.set_cons_zero, List.set_cons_succ, i64_w, i32_w]
                                                        rfl
                                                      refine pure_ (i := 5) (N := some 144) (v := ?_) (a' := ?_) #[true, true, true, true, true, true, false, false, false, false, false, false, false, false, false, false, false, false, false, false] rfl rfl (any_of HT_.out (by kernel_rfl)) (fun _ _ _ h => h) (Or.inl ⟨by rfl, ?_⟩) ?_ ?_
                                                      rotate_left
                                                      · intro w'
                                                        go_simp
                                                        with_reducible rfl
                                                      rotate_left
                                                      · simp only [Act.put, List.setIfInBounds_toArray, List.set_cons_zero, List.set_cons_succ, i64_w, i32_w]
                                                        rfl
                                                      refine pure_ (i := 6) (N := some 145) (v := ?_) (a' := ?_) #[true, true, true, true, true, true, true, false, false, false, false, false, false, false, false, false, false, false, false, false] rfl rfl (any_of HT_.out (by kernel_rfl)) (fun _ _ _ h => h) (Or.inl ⟨by rfl, ?_⟩) ?_ ?_
                                                      rotate_left
                                                      · intro w'
                                                        go_simp
                                                        with_reducible rfl
                                                      rotate_left
                                                      · simp only [Act.put, List.setIfInBounds_toArray, List.set_cons_zero, List.set_cons_succ, i64_w, i32_w]
                                                        rfl
                                                      refine pure_ (i := 7) (N := some 146) (v := ?_) (a' := ?_) #[true, true, true, true, true, true, true, true, false, false, false, false, false, false, false, false, false, false, false, false] rfl rfl (any_of HT_.out (by kernel_rfl)) (fun _ _ _ h => h) (Or.inl ⟨by rfl, ?_⟩) ?_ ?_
                                                      rotate_left
                                                      · intro w'
                                                        go_simp
                                                        with_reducible rfl
                                                      rotate_left
                                                      · simp only [Act.put, List.setIfInBounds_toArray, List.set_cons_zero, List.set_cons_succ, i64_w, i32_w]
                                                        rfl
                                                      refine pure_ (i := 8) (N := some 147) (v := ?_) (a' := ?_) #[true, true, true, true, true, true, true, true, true, false, false, false, false, false, false, false, false, false, false, false] rfl rfl (any_of HT_.out (by kernel_rfl)) (fun _ _ _ h => h) (Or.inl ⟨by rfl, ?_⟩) ?_ ?_
                                                      rotate_left
                                                      · intro w'
                                                        go_simp
                                                        with_reducible rfl
                                                      rotate_left
                                                      · simp only [Act.put, List.setIfInBounds_toArray, List.set_cons_zero, List.set_cons_succ, i64_w, i32_w]
                                                        rfl
                                                      refine pure_ (i := 9) (N := some 148) (v := ?_) (a' := ?_) #[true, true, true, true, true, true, true, true, true, true, false, false, false, false, false, false, false, false, false, false] rfl rfl (any_of HT_.out (by kernel_rfl)) (fun _ _ _ h => h) (Or.inl ⟨by rfl, ?_⟩) ?_ ?_
                                                      rotate_left
                                                      · intro w'
                                                        go_simp
                                                        with_reducible rfl
                                                      rotate_left
                                                      · simp only [Act.put, List.setIfInBounds_toArray, List.set_cons_zero, List.set_cons_succ, i64_w, i32_w]
                                                        rfl
                                                      refine pure_ (i := 10) (N := some 149) (v := ?_) (a' := ?_) #[true, true, true, true, true, true, true, true, true, true, true, false, false, false, false, false, false, false, false, false] rfl rfl (any_of HT_.out (by kernel_rfl)) (fun _ _ _ h => h) (Or.inl ⟨by rfl, ?_⟩) ?_ ?_
                                                      rotate_left
                                                      · intro w'
                                                        go_simp
                                                        with_reducible rfl
                                                      rotate_left
                                                      · simp only [Act.put, List.setIfInBounds_toArray, List.set_cons_zero, List.set_cons_succ, i64_w, i32_w]
                                                        rfl
                                                      refine pure_ (i := 11) (N := some 150) (v := ?_) (a' := ?_) #[true, true, true, true, true, true, true, true, true, true, true, true, false, false, false, false, false, false, false, false] rfl rfl (any_of HT_.out (by kernel_rfl)) (fun _ _ _ h => h) (Or.inl ⟨by rfl, ?_⟩) ?_ ?_
                                                      rotate_left
                                                      · intro w'
                                                        go_simp
                                                        with_reducible rfl
                                                      rotate_left
                                                      · simp only [Act.put, List.setIfInBounds_toArray, List.set_cons_zero, List.set_cons_succ, i64_w, i32_w]
                                                        rfl
                                                      refine pure_ (i := 12) (N := some 151) (v := ?_) (a' := ?_) #[true, true, true, true, true, true, true, true, true, true, true, true, true, false, false, false, false, false, false, false] rfl rfl (any_of HT_.out (by kernel_rfl)) (fun _ _ _ h => h) (Or.inl ⟨by rfl, ?_⟩) ?_ ?_
                                                      rotate_left
                                                      · intro w'
                                                        go_simp
                                                        with_reducible rfl
                                                      rotate_left
                                                      · simp only [Act.put, List.setIfInBounds_toArray, List.set_cons_zero, List.set_cons_succ, i64_w, i32_w]
                                                        rfl
                                                      refine pure_ (i := 14) (N := some 153) (v := ?_) (a' := ?_) #[true, true, true, true, true, true, true, true, true, true, true, true, true, false, true, false, false, false, false, false] rfl rfl (any_of HT_.out (by kernel_rfl)) (fun _ _ _ h => h) (Or.inl ⟨by rfl, ?_⟩) ?_ ?_
                                                      rotate_left
                                                      · intro w'
                                                        go_simp
                                                        with_reducible rfl
                                                      rotate_left
                                                      · simp only [Act.put, List.setIfInBounds_toArray, List.set_cons_zero, List.set_cons_succ, i64_w, i32_w]
                                                        rfl
                                                      refine pure_ (i := 15) (N := some 154) (v := ?_) (a' := ?_) #[true, true, true, true, true, true, true, true, true, true, true, true, true, false, true, true, false, false, false, false] rfl rfl (any_of HT_.out (by kernel_rfl)) (fun _ _ _ h => h) (Or.inl ⟨by rfl, ?_⟩) ?_ ?_
                                                      rotate_left
                                                      · intro w'
                                                        go_simp
                                                        with_reducible rfl
                                                      rotate_left
                                                      · simp only [Act.put, List.setIfInBounds_toArray, List.set_cons_zero, List.set_cons_succ, i64_w, i32_w]
                                                        rfl
                                                      refine take_ (i := 13) (N := some 152) (v := ?_) (a' := ?_) #[true, true, true, true, true, true, true, true, true, true, true, true, true, true, true, true, false, false, false, false] rfl rfl (take_ofW HT_.out HW_.out (by kernel_rfl)) (fun _ _ _ h => h) (Or.inl ⟨by rfl, ?_⟩) hHeld ?_ ?_
                                                      rotate_left
                                                      · rintro w' ⟨s0, s1⟩
                                                        go_simp
                                                        with_reducible rfl
                                                      rotate_left
                                                      · simp only [Act.put, List.setIfInBounds_toArray, List.set_cons_zero, List.set_cons_succ, i64_w, i32_w]
                                                        rfl
                                                      refine take_ (i := 16) (N := some 155) (v := ?_) (a' := ?_) #[true, true, true, true, true, true, true, true, true, true, true, true, true, true, true, true, true, false, false, false] rfl rfl (take_ofW HT_.out HW_.out (by kernel_rfl)) (fun _ _ _ h => h) (Or.inl ⟨by rfl, ?_⟩) hHeld ?_ ?_
                                                      rotate_left
                                                      · rintro w' ⟨s0, s1⟩
                                                        go_simp
                                                        with_reducible rfl
                                                      rotate_left
                                                      · simp only [Act.put, List.setIfInBounds_toArray, List.set_cons_zero, List.set_cons_succ, i64_w, i32_w]
                                                        rfl
                                                      refine pure_ (i := 17) (N := some 156) (v := ?_) (a' := ?_) #[true, true, true, true, true, true, true, true, true, true, true, true, true, true, true, true, true, true, false, false] rfl rfl (any_of HT_.out (by kernel_rfl)) (fun _ _ _ h => h) (Or.inl ⟨by rfl, ?_⟩) ?_ ?_
                                                      rotate_left
                                                      · intro w'
                                                        go_simp
                                                        with_reducible rfl
                                                      rotate_left
                                                      · simp only [Act.put, List.setIfInBounds_toArray, List.set_cons_zero, List.set_cons_succ, i64_w, i32_w]
                                                        rfl
                                                      refine pure_ (i := 18) (N := some 157) (v := ?_) (a' := ?_) #[true, true, true, true, true, true, true, true, true, true, true, true, true, true, true, true, true, true, true, false] rfl rfl (any_of HT_.out (by kernel_rfl)) (fun _ _ _ h => h) (Or.inl ⟨by rfl, ?_⟩) ?_ ?_
                                                      rotate_left
                                                      · intro w'
                                                        go_simp
                                                        with_reducible rfl
                                                      rotate_left
                                                      · simp only [Act.put, List.setIfInBounds_toArray, List.set_cons_zero, List.set_cons_succ, i64_w, i32_w]
                                                        rfl
                                                      refine last_ (i := 19) (N := none) #[true, true, true, true, true, true, true, true, true, true, true, true, true, true, true, true, true, true, true, true] rfl rfl (one_of HT_.out (by kernel_rfl)) (by decide) (fun K hK => ?_)
                                                      refine skip_ (w1 := ?_) (by rfl) rfl ?_ ?_
                                                      rotate_left
                                                      · go_simp
                                                        rfl
                                                      refine hK.out _ _ ?_
                                                      clear hK K
                                                      refine done_ (done_of HT_.out (by kernel_rfl)) ?_
                                                      try go_wp2
                                                      (try simp only [← hl12_6])
                                                      go_roundg k6
                                                      case measure => have := HJ9.out; have := HK2.out; have := HK3.out; have := HJ32.out; have := HJ42.out; have := HK6.out; omega
                                                      case rel => exact ⟨(y202), (wrap64 (x24_6 + 1)), (by first | rfl | (simp; done) | (simp [*]; done)), H', ⟨by have := HJ9.out; have := HK2.out; have := HK3.out; have := HJ32.out; have := HJ42.out; have := HK6.out; omega⟩, ⟨by (try simp only [hl12_6]); (with_reducible repeat (first | apply Kd.R_alloc | apply Kd.R_drewN | apply Kd.R_drew)); exact HQ62.out⟩, ⟨by repeat (first | (with_reducible first | exact HB.out | apply below_alloc | apply pw_below_drewN | apply below_drew1 | refine below_set ?_ GB60.out) | exact HB.out)⟩⟩
                                                    · rw [if_neg c59] at H
                                                      exact absurd H (by simp)
                                                  · rw [if_neg c58] at H
                                                    exact absurd H (by simp)
                                                · rw [if_neg c57] at H
                                                  exact absurd H (by simp)
                                              · rw [if_neg c56] at H
                                                exact absurd H (by simp)
                                            · rw [if_neg c54] at H
                                              have c54b0 : decide (x24_6 < 4) = false := decide_eq_false c54
                                              clear c54
                                              replace H := Option.bind_eq_some_iff.mp H
                                              obtain ⟨⟨t203, t204⟩, A630, H⟩ := H
                                              replace H : (if (t203.length : Int) = 0 then (some (t204 == 0)) else (some false)) = some r := H
                                              have A63 := Aside0.mk A630
                                              clear A630
                                              by_cases c64 : (t203.length : Int) = 0
                                              · rw [if_pos c64] at H
                                                have c64b0 : ((t203.length : Int) == 0) = true := beq_iff_eq.mpr c64
                                                have c64b0y0 := c64b0
                                                (try simp only [hl12_6] at c64b0y0)
                                                have c64b0y1 := c64b0
                                                (try simp only [hl168_0] at c64b0y1)
                                                have c64b0y2 := c64b0
                                                (try simp only [hl176_0] at c64b0y2)
                                                have c64b0y3 := c64b0
                                                (try simp only [hl195_0] at c64b0y3)
                                                have c64b0y4 := c64b0
                                                (try simp only [hl196_0] at c64b0y4)
                                                have c64b1 : ((t203.length : Int) != 0) = false := bne_eq_false_iff_eq.mpr c64
                                                have c64b1y0 := c64b1
                                                (try simp only [hl12_6] at c64b1y0)
                                                have c64b1y1 := c64b1
                                                (try simp only [hl168_0] at c64b1y1)
                                                have c64b1y2 := c64b1
                                                (try simp only [hl176_0] at c64b1y2)
                                                have c64b1y3 := c64b1
                                                (try simp only [hl195_0] at c64b1y3)
                                                have c64b1y4 := c64b1
                                                (try simp only [hl196_0] at c64b1y4)
                                                clear c64
                                                obtain rfl := Option.some.inj H
                                                go_wp2_with (first | ((with_reducible refine gate_callee (f := 14) rfl ?_); refine goesL_ (some 160) rfl rfl Try.func14 (by kernel_rfl) rfl #[.slice Ao35 x12_6.length co35] rfl (by (try simp only [List.map_toArray, List.map_cons, List.map_nil]); first | done | rfl | (simp only [List.length_drop, List.length_take]; rfl)) ?_; (with_reducible refine (frame_Read.calls _ _ x12_6 t203 t204 _ ?side1 ?side2 A63.out).mono ?_); (case side1 => repeat (first | exact (Kd.R_reads' HO_12.out).2.2 | (with_reducible refine Kd.C_alloc ?_ _) | (with_reducible refine Kd.C_drewN ?_ _) | (with_reducible refine Kd.C_drew ?_))); (case side2 => exact (Kd.R_reads' HO_12.out).2.1); rintro e w65 ⟨v205, rfl, ho0, hb⟩; refine ⟨_, rfl, ?_⟩; have n1_ := Aside0.mk (Kd.S_lower (Kd.S_new' ho0 (Kd.R_lt (by (with_reducible repeat (first | apply Kd.R_alloc | apply Kd.R_drewN | apply Kd.R_drew)); exact HO_12.out))) (below_size (by repeat (first | (with_reducible first | exact HB.out | apply below_alloc | apply pw_below_drewN | apply below_drew1) | exact HB.out)))); have n2_ := Aside0.mk (below_step (by repeat (first | (with_reducible first | exact HB.out | apply below_alloc | apply pw_below_drewN | apply below_drew1) | exact HB.out)) hb); clear HO_12; clear HB; have HO206 := n1_; have HB := n2_; clear n1_ n2_; (try clear hb); (try clear hb2); (try clear hk); (try clear hi); (try clear ho0); obtain ⟨Ao66, co66, eo66⟩ := Kd.S_slice HO206.out; subst eo66))
                                                go_ret
                                                exact ⟨by first | rfl | (simp [errW_none, errW_some] <;> rfl) | (refine congrArg (fun b_ : Bool => Ending.returned (Value.bool b_)) ?_; simp; done) | (simp [*, errW_none, errW_some] <;> rfl), below_step HBZ.out (by repeat (first | (with_reducible first | exact HB.out | apply below_alloc | apply pw_below_drewN | apply below_drew1) | exact HB.out))⟩
                                              · rw [if_neg c64] at H
                                                have c64b0 : ((t203.length : Int) == 0) = false := beq_eq_false_iff_ne.mpr c64
                                                have c64b0y0 := c64b0
                                                (try simp only [hl12_6] at c64b0y0)
                                                have c64b0y1 := c64b0
                                                (try simp only [hl168_0] at c64b0y1)
                                                have c64b0y2 := c64b0
                                                (try simp only [hl176_0] at c64b0y2)
                                                have c64b0y3 := c64b0
                                                (try simp only [hl195_0] at c64b0y3)
                                                have c64b0y4 := c64b0
                                                (try simp only [hl196_0] at c64b0y4)
                                                have c64b1 : ((t203.length : Int) != 0) = true := bne_iff_ne.mpr c64
                                                have c64b1y0 := c64b1
                                                (try simp only [hl12_6] at c64b1y0)
                                                have c64b1y1 := c64b1
                                                (try simp only [hl168_0] at c64b1y1)
                                                have c64b1y2 := c64b1
                                                (try simp only [hl176_0] at c64b1y2)
                                                have c64b1y3 := c64b1
                                                (try simp only [hl195_0] at c64b1y3)
                                                have c64b1y4 := c64b1
                                                (try simp only [hl196_0] at c64b1y4)
                                                have c64b2 : ¬ (t203 = []) := fun h_ => c64 (by rw [h_]; rfl)
                                                exact absurd (HTRUE.out.symm.trans (Option.some.inj H).symm) (by decide)
                                    · rw [if_neg c49] at H
                                      exact absurd H (by simp)
                      · rw [if_neg c30] at H
                        exact absurd H (by simp)
                    · rw [if_neg c29] at H
                      exact absurd H (by simp)



end Go.Proofs.Ytafljcblglielaa.M
