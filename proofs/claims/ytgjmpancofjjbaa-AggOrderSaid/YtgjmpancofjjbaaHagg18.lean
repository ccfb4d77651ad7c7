/- Aggregates by hand (chapter 18): sums of 128 bits, a map keyed by values, what an aggregate is told, and what values come to (told). Numbers are those of seat law18 (Ytgjmpancofjjbaa). -/
import Derived.Laws.Rows
import Derived.Deep.MidRow
import Derived.Deep.WholeRow
import Derived.Deep.RegionHeld3
import Derived.Deep.RegionLaw
import Derived.Laws.Externs
import Derived.MapKept
import Derived.Test.YtgjmpancofjjbaaHstep
import Derived.Test.YtgjmpancofjjbaaHmapint
import Derived.Test.YtgjmpancofjjbaaHlate
import Derived.Test.YtgjmpancofjjbaaHval
import Derived.Test.YtgjmpancofjjbaaHvalord
import Derived.Test.YtgjmpancofjjbaaQx0
import Derived.Test.YtgjmpancofjjbaaQx4
import Derived.Test.YtgjmpancofjjbaaQx5
namespace Go.Proofs.Ytgjmpancofjjbaa.Q
open Go.RowKit Go.Proofs.YtgjmpancofjjbaaW.PrintWords Go.Proofs.YtgjmpancofjjbaaW.PrintLast Go.Proofs.YtgjmpancofjjbaaW.PrintMore
attribute [local go_sem] max2_int min2_int max_two min_two max_three min_three max_four min_four   -- for this text's walks alone
set_option linter.unusedVariables false
set_option linter.unusedSimpArgs false

-- SAYS Aggregates by hand (chapter 18): sums of 128 bits, a map keyed by values, what an aggregate is told, and what values come to (told). Numbers are those of seat law18 (Ytgjmpancofjjbaa).
-- FUNCS winnower/winnowerlaw18.told
-- NEEDS value_May.calls value_Order.calls agg_number.calls agg_of.calls agg_wide_number.calls winnowerlaw18_n.calls value_May.f
-- IMPORT Derived.Laws.Rows
-- IMPORT Derived.Deep.MidRow
-- IMPORT Derived.Deep.WholeRow
-- IMPORT Derived.Deep.RegionHeld3
-- IMPORT Derived.Deep.RegionLaw
-- IMPORT Derived.Laws.Externs
-- IMPORT Derived.MapKept
-- IMPORT Derived.Test.YtgjmpancofjjbaaHstep
-- IMPORT Derived.Test.YtgjmpancofjjbaaHmapint
-- IMPORT Derived.Test.YtgjmpancofjjbaaHlate
-- IMPORT Derived.Test.YtgjmpancofjjbaaHval
-- IMPORT Derived.Test.YtgjmpancofjjbaaHvalord
open Go.Proofs.Ytgjmpancofjjbaa.Hstep Go.Proofs.Ytgjmpancofjjbaa.Hmapint Go.Proofs.Ytgjmpancofjjbaa.Hlate Go.Proofs.Ytgjmpancofjjbaa.Hval
attribute [local go_sem high] eqV_
set_option maxHeartbeats 8000000
set_option maxRecDepth 100000
theorem wpList_extern {P : Program} {w : World} {ops : Array Oper} {rest : List Oper} {o : Oper} {a : Act} {Q : Exit → Act → World → Prop} (hgd : o.guard = none) (f : FuncId) (xs : Array Operand) (ats : Array TypeId) (ho : o.op = .call { callee := .value (.func f), args := xs, argTypes := ats }) (args : Array Value) (hargs : xs.map a.eval = args) (v : Value)
    (hrun : (callFunc f args).run P w = .ok (.value v) w) (h : wpList P ops Q rest (a.put o.dst v) w) : wpList P ops Q (o :: rest) a w := by
  refine wpList_plain hgd fun K hK => ?_
  obtain ⟨dst, op, ty, pos, aft, gd⟩ := o
  simp only at ho
  subst ho
  unfold Oper.wp
  rw [execOp_call_go, Array.empty_append, Array.append_empty, hargs, hrun]
  exact hK _ _ h
theorem run_Add64 (x y c : Int) (hx : 0 ≤ x) (hy : 0 ≤ y) (h0 : 0 ≤ c) (h1 : c ≤ 1) (w : World) :
    (callFunc 41 #[.int .u64 x, .int .u64 y, .int .u64 c]).run Try.prog w = .ok (.value (.tuple #[.int .u64 ((x + y + c) % 18446744073709551616), .int .u64 ((x + y + c) / 18446744073709551616)])) w := by
  rw [run_callFunc_extern Try.func41 (by kernel_rfl) (by kernel_rfl) (by kernel_rfl) (e := add64Entry) (by kernel_rfl), run_add64 x y c hx hy h0 h1]
  rfl
theorem run_Add64_0 (x y : Int) (hx : 0 ≤ x) (hy : 0 ≤ y) (w : World) :
    (callFunc 41 #[.int .u64 x, .int .u64 y, .int .u64 0]).run Try.prog w = .ok (.value (.tuple #[.int .u64 ((x + y) % 18446744073709551616), .int .u64 ((x + y) / 18446744073709551616)])) w := by
  have h := run_Add64 x y 0 hx hy (by decide) (by decide) w
  rw [Int.add_zero] at h
  exact h
/-- A sum as two halves of 128 bits. -/
abbrev loW (t : Int) : Int := t % 18446744073709551616
abbrev hiW (t : Int) : Int := (t / 18446744073709551616) % 18446744073709551616
theorem size50 : (Try.prog.info? 50).map (·.size) = some 2 := by kernel_rfl
theorem size26 : (Try.prog.info? 26).map (·.size) = some 4 := by kernel_rfl
theorem size52 : (Try.prog.info? 52).map (·.size) = some 13 := by kernel_rfl
theorem plus_lo (s t : Int) : (loW s + loW t) % 18446744073709551616 = loW (s + t) := by unfold loW; omega
theorem plus_hi (s t : Int) : (hiW s + hiW t + (loW s + loW t) / 18446744073709551616) % 18446744073709551616 = hiW (s + t) := by unfold hiW loW; omega
theorem carry_le (s t : Int) : 0 ≤ (loW s + loW t) / 18446744073709551616 ∧ (loW s + loW t) / 18446744073709551616 ≤ 1 := by unfold loW; omega

theorem agg_plus.calls (s t : Int) (w : World) :
    Calls Try.prog 32 #[.agg #[.int .u64 (hiW s), .int .u64 (loW s)], .agg #[.int .u64 (hiW t), .int .u64 (loW t)]] w fun e w' => e = .returned (.agg #[.int .u64 (hiW (s + t)), .int .u64 (loW (s + t))]) ∧ Below w.heap.size w w' := by
  have HB := Aside0.mk (Below.refl w.heap.size w)
  have hu50 := Try.underlying50
  have HL := Aside0.mk (plus_lo s t)
  have HH := Aside0.mk (plus_hi s t)
  have HC := Aside0.mk (carry_le s t)
  have p1 : 0 ≤ hiW s := by unfold hiW; omega
  have p2 : 0 ≤ hiW t := by unfold hiW; omega
  have p3 : 0 ≤ loW s := by unfold loW; omega
  have p4 : 0 ≤ loW t := by unfold loW; omega
  have HP := Aside0.mk (And.intro p1 (And.intro p2 (And.intro p3 p4)))
  clear p1 p2 p3 p4
  generalize hiW (s + t) = rh at HH ⊢
  generalize loW (s + t) = rl at HL ⊢
  generalize hiW s = sh at HH HP ⊢
  generalize hiW t = th at HH HP ⊢
  generalize loW s = sl at HL HH HC HP ⊢
  generalize loW t = tl at HL HH HC HP ⊢
  go_enter Try.func32, Try.ntmps32
  go_wp2_with (first
    | ((with_reducible refine gate_dst (N := 2) rfl ?_); refine box_event ?hg (N := 2) ?hd (cs := #[.int .u64 sh, .int .u64 sl]) (t := 50) ?hr ?_; (case hd => rfl); (case hg => rfl); (case hr => first | (go_simp; done) | (go_simp; rfl)); intro g2 hg w1 hbox hb; have B2 := Aside0.mk hbox; have GEB2 := Aside0.mk ((by rw [hg]; exact (below_size HB.out)) : w.heap.size ≤ g2); have b_HB := Aside0.mk (below_step HB.out hb); clear HB ; have HB := b_HB; clear b_HB ; clear hbox hg hb; have ha0 : w1.cell? ⟨g2, 0, none⟩ = some (.int .u64 sh) := (blk_cell B2.out 0).trans rfl; have ha1 : w1.cell? ⟨g2, 1, none⟩ = some (.int .u64 sl) := (blk_cell B2.out 1).trans rfl)
    | ((with_reducible refine gate_dst (N := 3) rfl ?_); refine box_event ?hg (N := 3) ?hd (cs := #[.int .u64 th, .int .u64 tl]) (t := 50) ?hr ?_; (case hd => rfl); (case hg => rfl); (case hr => first | (go_simp; done) | (go_simp; rfl)); intro g3 hg w2 hbox hb; have B3 := Aside0.mk hbox; have GEB3 := Aside0.mk ((by rw [hg]; exact (below_size HB.out)) : w.heap.size ≤ g3); have NB2B3 := Aside0.mk ((by rw [hg]; exact Nat.ne_of_lt (blk_lt B2.out)) : g2 ≠ g3); have b_B2 := Aside0.mk (blk_below B2.out hb); have b_HB := Aside0.mk (below_step HB.out hb); clear HB B2; have HB := b_HB; have B2 := b_B2; clear b_HB b_B2; clear hbox hg hb; have ha0 : w2.cell? ⟨g2, 0, none⟩ = some (.int .u64 sh) := (blk_cell B2.out 0).trans rfl; have ha1 : w2.cell? ⟨g2, 1, none⟩ = some (.int .u64 sl) := (blk_cell B2.out 1).trans rfl; have hc0 : w2.cell? ⟨g3, 0, none⟩ = some (.int .u64 th) := (blk_cell B3.out 0).trans rfl; have hc1 : w2.cell? ⟨g3, 1, none⟩ = some (.int .u64 tl) := (blk_cell B3.out 1).trans rfl)
    | ((with_reducible refine gate_dst (N := 4) rfl ?_); refine box_event ?hg (N := 4) ?hd (cs := #[.int .u64 0, .int .u64 0]) (t := 50) ?hr ?_; (case hd => rfl); (case hg => rfl); (case hr => first | (go_simp; done) | (go_simp; rfl)); intro g4 hg w3 hbox hb; have B4 := Aside0.mk hbox; have GEB4 := Aside0.mk ((by rw [hg]; exact (below_size HB.out)) : w.heap.size ≤ g4); have NB2B4 := Aside0.mk ((by rw [hg]; exact Nat.ne_of_lt (blk_lt B2.out)) : g2 ≠ g4); have NB3B4 := Aside0.mk ((by rw [hg]; exact Nat.ne_of_lt (blk_lt B3.out)) : g3 ≠ g4); have b_B2 := Aside0.mk (blk_below B2.out hb); have b_B3 := Aside0.mk (blk_below B3.out hb); have b_HB := Aside0.mk (below_step HB.out hb); clear HB B2 B3; have HB := b_HB; have B2 := b_B2; have B3 := b_B3; clear b_HB b_B2 b_B3; clear hbox hg hb; have ha0 : w3.cell? ⟨g2, 0, none⟩ = some (.int .u64 sh) := (blk_cell B2.out 0).trans rfl; have ha1 : w3.cell? ⟨g2, 1, none⟩ = some (.int .u64 sl) := (blk_cell B2.out 1).trans rfl; have hc0 : w3.cell? ⟨g3, 0, none⟩ = some (.int .u64 th) := (blk_cell B3.out 0).trans rfl; have hc1 : w3.cell? ⟨g3, 1, none⟩ = some (.int .u64 tl) := (blk_cell B3.out 1).trans rfl)
    | ((with_reducible refine gate_callee (f := 41) rfl ?_); go_loud (refine wpList_extern rfl 41 _ _ rfl #[.int .u64 sl, .int .u64 tl, .int .u64 0] (by (try simp only [List.map_toArray, List.map_cons, List.map_nil]); first | done | rfl) _ (run_Add64_0 sl tl HP.out.2.2.1 HP.out.2.2.2 _) ?_))
    | ((with_reducible refine gate_callee (f := 41) rfl ?_); go_loud (refine wpList_extern rfl 41 _ _ rfl #[.int .u64 sh, .int .u64 th, .int .u64 ((sl + tl) / 18446744073709551616)] (by (try simp only [List.map_toArray, List.map_cons, List.map_nil]); first | done | rfl) _ (run_Add64 sh th ((sl + tl) / 18446744073709551616) HP.out.1 HP.out.2.1 HC.out.1 HC.out.2 _) ?_))
    | ((with_reducible refine gate_ (.store 50 (.tmp 4) (.tmp 28)) rfl ?_); go_loud (refine wpList_storeR rfl rfl 50 (.tmp 4) (.tmp 28) rfl g4 (0) rfl (.agg #[.int .u64 ((sh + th + ((sl + tl) / 18446744073709551616)) % 18446744073709551616), .int .u64 ((sl + tl) % 18446744073709551616)]) rfl [.int .u64 ((sh + th + ((sl + tl) / 18446744073709551616)) % 18446744073709551616), .int .u64 ((sl + tl) % 18446744073709551616)] rfl #[.int .u64 0, .int .u64 0] 50 B4.out size50 (by simp) (by simp [Value.oneCell']) #[.int .u64 ((sh + th + ((sl + tl) / 18446744073709551616)) % 18446744073709551616), .int .u64 ((sl + tl) % 18446744073709551616)] rfl ?_); intro w4 hs st; have b_B2 := Aside0.mk (Step.blk st B2.out (NB2B4.out)); have b_B3 := Aside0.mk (Step.blk st B3.out (NB3B4.out)); have b_HB := Aside0.mk (Step.fresh st HB.out GEB4.out); clear HB B2 B3; have HB := b_HB; have B2 := b_B2; have B3 := b_B3; clear b_HB b_B2 b_B3; clear B4; have B4 := Aside0.mk hs; clear hs st))
  (try simp only [Exit.inBlock, Exit.then])
  refine bodyPost_ret (results_cell_row rfl _ _ g4 50 #[.int .u64 ((sh + th + ((sl + tl) / 18446744073709551616)) % 18446744073709551616), .int .u64 ((sl + tl) % 18446744073709551616)] (0, 0) _ rfl B4.out Try.underlying50 rfl size50) rfl ?_
  exact ⟨by rw [HL.out, HH.out], HB.out⟩

abbrev vc (v : S26) : Array Value := #[.int .i64 v.f0, .int .i64 v.f1, .string v.f2, .bool v.f3]
def eqb (v u : S26) : Bool := v.f0 == u.f0 && (v.f1 == u.f1 && (v.f2.toList == u.f2.toList && (v.f3 == u.f3)))
theorem bytes_ext {a b : ByteArray} (h : a.toList = b.toList) : a = b := by
  have h2 : a.data.toList = b.data.toList := by
    have e : ∀ x : ByteArray, x.toList = x.data.toList := fun x => by
      first | exact ByteArray.toList_eq _ | exact ByteArray.toList_data _ | simp [ByteArray.toList_eq_toList_data]
    rw [e, e] at h
    exact h
  exact ByteArray.ext (Array.ext' h2)
theorem eqb_iff {v u : S26} : eqb v u = true ↔ v = u := by
  unfold eqb
  constructor
  · intro h
    simp only [Bool.and_eq_true, beq_iff_eq] at h
    obtain ⟨h0, h1, h2, h3⟩ := h
    obtain ⟨a, b, c, d⟩ := v
    obtain ⟨a', b', c', d'⟩ := u
    simp only at h0 h1 h2 h3
    subst h0 h1 h3
    rw [bytes_ext h2]
  · rintro rfl
    simp
theorem run_equal26 (v u : S26) (W : World) : (Op.equal 26 (.agg (vc v)) (.agg (vc u))).run Try.prog W = .ok (eqb v u) W := eqV_ (Op.maxDepth - 2) W v.f0 u.f0 v.f1 u.f1 v.f2 u.f2 v.f3 u.f3
def findV (v : S26) : List S26 → Nat → Option Nat
  | [], _ => none
  | u :: t, i => if eqb v u = true then some i else findV v t (i + 1)
theorem findV_none {v : S26} : ∀ {l : List S26} {i : Nat}, findV v l i = none ↔ v ∉ l
  | [], i => by simp [findV]
  | u :: t, i => by
    unfold findV
    by_cases h : eqb v u = true
    · rw [if_pos h]
      simp [eqb_iff.1 h]
    · rw [if_neg h, findV_none (l := t)]
      simp only [List.mem_cons, not_or]
      exact ⟨fun h2 => ⟨fun e => h (eqb_iff.2 e), h2⟩, fun h2 => h2.2⟩
theorem findV_some {v : S26} : ∀ {l : List S26} {i j : Nat}, findV v l i = some j → i ≤ j ∧ l[j - i]? = some v
  | [], i, j, h => by simp [findV] at h
  | u :: t, i, j, h => by
    unfold findV at h
    by_cases hq : eqb v u = true
    · rw [if_pos hq] at h
      obtain rfl := Option.some.inj h
      rw [Nat.sub_self]
      exact ⟨Nat.le_refl _, by rw [eqb_iff.1 hq]; rfl⟩
    · rw [if_neg hq] at h
      obtain ⟨h1, h2⟩ := findV_some h
      refine ⟨by omega, ?_⟩
      rw [show j - i = (j - (i + 1)) + 1 from by omega, List.getElem?_cons_succ]
      exact h2
/-- A map's entries, keyed by the values of l. -/
def Seen (es : List MapEntry) (l : List S26) : Prop := es.map (·.key) = l.map (fun v => Value.agg (vc v))
theorem run_findAsking26 (v : S26) (W : World) : ∀ (es : List MapEntry) (l : List S26) (i : Nat), Seen es l → ∃ r, (Instr.findAsking 26 (.agg (vc v)) es i).run Try.prog W = .ok r W ∧ (findV v l i = none → r = none) ∧ ∀ j, findV v l i = some j → ∃ x, r = some (j, x)
  | [], l, i, h => by
    have : l = [] := by cases l with
      | nil => rfl
      | cons a t => simp [Seen] at h
    subst this
    exact ⟨none, rfl, fun _ => rfl, fun j hj => by simp [findV] at hj⟩
  | e :: es, [], i, h => by simp [Seen] at h
  | e :: es, u :: l, i, h => by
    simp only [Seen, List.map_cons, List.cons.injEq] at h
    obtain ⟨r, hr, h1, h2⟩ := run_findAsking26 v W es l (i + 1) h.2
    unfold Instr.findAsking findV
    simp only [Sem.run_bind, h.1, run_equal26, Result.andThen_ok]
    by_cases hq : eqb v u = true
    · simp only [if_pos hq]
      exact ⟨_, rfl, fun h => by simp at h, fun j hj => ⟨_, by rw [Option.some.inj hj]⟩⟩
    · simp only [if_neg hq]
      exact ⟨r, hr, h1, h2⟩
theorem run_findKey26 (v : S26) (W : World) (es : List MapEntry) (l : List S26) (h : Seen es l) : ∃ r, (Instr.findKey 26 (.agg (vc v)) es).run Try.prog W = .ok r W ∧ (findV v l 0 = none → r = none) ∧ ∀ j, findV v l 0 = some j → ∃ x, r = some (j, x) := by
  have hu := Try.underlying26
  unfold Instr.findKey
  simp only [Sem.run_bind, run_underlying hu, Result.andThen_ok]
  cases es with
  | nil =>
    have : l = [] := by cases l with
      | nil => rfl
      | cons a t => simp [Seen] at h
    subst this
    exact ⟨none, rfl, fun _ => rfl, fun j hj => by simp [findV] at hj⟩
  | cons e es =>
    have hk : ∃ u, e.key = .agg (vc u) := by
      cases l with
      | nil => simp [Seen] at h
      | cons u t =>
        simp only [Seen, List.map_cons, List.cons.injEq] at h
        exact ⟨u, h.1⟩
    obtain ⟨u, hk⟩ := hk
    obtain ⟨r, hr, h1, h2⟩ := run_findAsking26 v W (e :: es) l 0 h
    refine ⟨r, ?_, h1, h2⟩
    rw [← hr]
    simp only [Instr.findNow, hk, Instr.sameNow]
theorem run_checkKey26 (v : S26) (W : World) : (Instr.checkKey false 10000 26 (.agg (vc v))).run Try.prog W = .ok () W := by
  have hu := Try.underlying26
  have h3 := Try.underlying3
  have h9 := Try.underlying9
  have h4 := Try.underlying4
  have e3 : ∀ (x : Int) (W : World), (Instr.checkKey false 9999 3 (.int .i64 x)).run Try.prog W = .ok () W := fun x W => MapKept.run_checkKey h3 (k := .int .i64 x) rfl false 9998
  have e9 : ∀ (x : ByteArray) (W : World), (Instr.checkKey false 9999 9 (.string x)).run Try.prog W = .ok () W := fun x W => MapKept.run_checkKey h9 (k := .string x) trivial false 9998
  have e4 : ∀ (x : Bool) (W : World), (Instr.checkKey false 9999 4 (.bool x)).run Try.prog W = .ok () W := fun x W => MapKept.run_checkKey h4 (k := .bool x) trivial false 9998
  unfold Instr.checkKey
  go_simp
/-- Two blocks, g and m, and nothing else, were written. -/
structure Step2 (g m : Nat) (w w' : World) : Prop where
  os : w'.os = w.os
  tape : w'.tape = w.tape
  output : w'.output = w.output
  size : w.heap.size ≤ w'.heap.size
  block : ∀ k, k < w.heap.size → k ≠ g → k ≠ m → w'.heap[k]? = w.heap[k]?
theorem Step2.of_below {g m : Nat} {w w' : World} (h : Below w.heap.size w w') : Step2 g m w w' := ⟨h.os, h.tape, h.output, h.size, fun k hk _ _ => h.block k hk⟩
theorem Step2.trans {g m : Nat} {w w1 w2 : World} (h : Step2 g m w w1) (h2 : Step2 g m w1 w2) : Step2 g m w w2 := ⟨h2.os.trans h.os, h2.tape.trans h.tape, h2.output.trans h.output, Nat.le_trans h.size h2.size, fun k hk h3 h4 => (h2.block k (Nat.lt_of_lt_of_le hk h.size) h3 h4).trans (h.block k hk h3 h4)⟩
theorem Step2.low {g m : Nat} {w0 w w1 : World} (h : Step2 g m w w1) (hb : Below w0.heap.size w0 w) (hg : w0.heap.size ≤ g) (hm : w0.heap.size ≤ m) : Below w0.heap.size w0 w1 :=
  ⟨h.os.trans hb.os, h.tape.trans hb.tape, h.output.trans hb.output, Nat.le_trans hb.size h.size, fun k hk => (h.block k (Nat.lt_of_lt_of_le hk hb.size) (by omega) (by omega)).trans (hb.block k hk)⟩
theorem Step2.blk {g m k : Nat} {w w1 : World} {o : Obj} (h : Step2 g m w w1) (hb : w.heap[k]? = some o) (h1 : k ≠ g) (h2 : k ≠ m) : w1.heap[k]? = some o := (h.block k (blk_lt hb) h1 h2).trans hb
theorem Step.two {g m x : Nat} {w w1 : World} (h : Step x w w1) (hx : x = g ∨ x = m ∨ w.heap.size ≤ x) : Step2 g m w w1 := by
  have h0 := h.2 { w with heap := #[] } (Nat.zero_le _) ⟨rfl, rfl, rfl, Nat.zero_le _, fun k hk => absurd hk (Nat.not_lt_zero _)⟩
  exact ⟨h0.os, h0.tape, h0.output, h.1.1, fun k hk h1 h2 => h.1.2 k hk (by rcases hx with hx | hx | hx <;> omega) (by simp)⟩
/-- m[v] = true: the entries behind it. -/
def addV (l : List S26) (v : S26) : List S26 := if (findV v l 0).isNone = true then l ++ [v] else l
theorem sameBits_vc (v : S26) : Instr.sameBits 10000 (.agg (vc v)) (.agg (vc v)) = true := by
  simp [Instr.sameBits, MapKept.bytes_beq]
theorem run_mapUpdate26 (v : S26) (u : Value) (l : List S26) (m : Nat) (es : Array MapEntry) (clock : Nat) (W : World) (hb : W.heap[m]? = some (.map es clock)) (hs : Seen es.toList l) :
    ∃ es' clock', (Instr.mapUpdate 47 (.map (some m)) (.agg (vc v)) u).run Try.prog W = .ok () { W with heap := W.heap.setIfInBounds m (.map es' clock') } ∧ Seen es'.toList (addV l v) := by
  have hu := Try.underlying47
  obtain ⟨r, hr, h1, h2⟩ := run_findKey26 v W es.toList l hs
  cases hf : findV v l 0 with
  | none =>
    rw [h1 hf] at hr
    refine ⟨es.push { key := .agg (vc v), val := u, born := clock }, clock + 1, ?_, ?_⟩
    · simp [Instr.mapUpdate, run_underlying hu, MapKept.run_getObj_map hb, run_checkKey26, hr, MapKept.run_setObj_map _ hb, Result.andThen]
    · unfold addV
      rw [hf, if_pos (by rfl)]
      simp only [Seen, Array.toList_push, List.map_append, List.map_cons, List.map_nil] at hs ⊢
      rw [hs]
  | some j =>
    obtain ⟨x, hx⟩ := h2 j hf
    rw [hx] at hr
    obtain ⟨_, hj⟩ := findV_some hf
    rw [Nat.sub_zero] at hj
    have hk : ∃ e, es[j]? = some e ∧ e.key = .agg (vc v) := by
      have : (es.toList.map (·.key))[j]? = some (Value.agg (vc v)) := by rw [hs, List.getElem?_map, hj]; rfl
      rw [List.getElem?_map] at this
      obtain ⟨e, he, hk⟩ := Option.map_eq_some_iff.1 this
      exact ⟨e, by simpa using he, hk⟩
    obtain ⟨e, he, hk⟩ := hk
    refine ⟨es.modify j fun e => { e with key := .agg (vc v), val := u }, clock, ?_, ?_⟩
    · simp [Instr.mapUpdate, run_underlying hu, MapKept.run_getObj_map hb, run_checkKey26, hr, he, hk, Instr.keyThatStays, sameBits_vc, MapKept.run_setObj_map _ hb, Result.andThen]
    · unfold addV
      rw [hf, if_neg (by simp)]
      unfold Seen at hs ⊢
      rw [← hs]
      apply List.ext_getElem?
      intro i
      rw [List.getElem?_map, List.getElem?_map]
      by_cases hij : i = j
      · subst hij
        simp [Array.getElem?_modify, he, hk]
      · simp [Array.getElem?_modify, Ne.symm hij]

/-- What an aggregate is told: its function, how many, their sum, the least and the greatest, the different ones. -/
structure Acc18 where
  fn : Int
  n : Int
  tot : Int
  lo : S26
  hi : S26
  seen : List S26
abbrev acells (s : Acc18) (m : Nat) : Array Value := #[.int .i64 s.fn, .int .i64 s.n, .int .u64 (hiW s.tot), .int .u64 (loW s.tot), .int .i64 s.lo.f0, .int .i64 s.lo.f1, .string s.lo.f2, .bool s.lo.f3, .int .i64 s.hi.f0, .int .i64 s.hi.f1, .string s.hi.f2, .bool s.hi.f3, .map (some m)]
theorem acc_facts {w : World} {g m : Nat} {s : Acc18} (h : w.heap[g]? = some (.cells (acells s m) 52 (0, 0))) : w.cell? ⟨g, 0, none⟩ = some (.int .i64 s.fn) ∧ w.cell? ⟨g, 1, none⟩ = some (.int .i64 s.n) ∧ w.cell? ⟨g, 2, none⟩ = some (.int .u64 (hiW s.tot)) ∧ w.cell? ⟨g, 3, none⟩ = some (.int .u64 (loW s.tot)) ∧ w.cell? ⟨g, 4, none⟩ = some (.int .i64 s.lo.f0) ∧ w.cell? ⟨g, 5, none⟩ = some (.int .i64 s.lo.f1) ∧ w.cell? ⟨g, 6, none⟩ = some (.string s.lo.f2) ∧ w.cell? ⟨g, 7, none⟩ = some (.bool s.lo.f3) ∧ w.cell? ⟨g, 8, none⟩ = some (.int .i64 s.hi.f0) ∧ w.cell? ⟨g, 9, none⟩ = some (.int .i64 s.hi.f1) ∧ w.cell? ⟨g, 10, none⟩ = some (.string s.hi.f2) ∧ w.cell? ⟨g, 11, none⟩ = some (.bool s.hi.f3) ∧ w.cell? ⟨g, 12, none⟩ = some (.map (some m)) :=
  ⟨(blk_cell h 0).trans rfl, (blk_cell h 1).trans rfl, (blk_cell h 2).trans rfl, (blk_cell h 3).trans rfl, (blk_cell h 4).trans rfl, (blk_cell h 5).trans rfl, (blk_cell h 6).trans rfl, (blk_cell h 7).trans rfl, (blk_cell h 8).trans rfl, (blk_cell h 9).trans rfl, (blk_cell h 10).trans rfl, (blk_cell h 11).trans rfl, (blk_cell h 12).trans rfl⟩
theorem size3 : (Try.prog.info? 3).map (·.size) = some 1 := by kernel_rfl
theorem wrapI {x : Int} (h1 : -9223372036854775808 ≤ x) (h2 : x ≤ 9223372036854775807) : wrap64 x = x := by unfold wrap64; omega
def wn (n : Int) : Int := wrap64 n

theorem agg_count.calls (g m : Nat) (s : Acc18) (w : World) (hg : w.heap[g]? = some (.cells (acells s m) 52 (0, 0))) (v : S26) :
    Calls Try.prog 27 #[.pointer (some ⟨g, 0, none⟩), .agg (vc v)] w fun e w' => e = .returned (.tuple #[]) ∧ Step g w w' ∧ w'.heap[g]? = some (.cells (acells { s with n := wrap64 (s.n + 1) } m) 52 (0, 0)) := by
  have HB := Aside0.mk (Below.refl w.heap.size w)
  have BG := Aside0.mk hg
  clear hg
  have hu52 := Try.underlying52
  have hu26 := Try.underlying26
  have hu50 := Try.underlying50
  go_enter Try.func27, Try.ntmps27
  go_wp2_with (first
    | ((with_reducible refine gate_dst (N := 3) rfl ?_); refine box_event ?hg (N := 3) ?hd (cs := (vc v)) (t := 26) ?hr ?_; (case hd => rfl); (case hg => rfl); (case hr => first | (go_simp; done) | (go_simp; rfl)); intro gv hg w1 hbox hb; have BV := Aside0.mk hbox; have GEBV := Aside0.mk ((by rw [hg]; exact (below_size HB.out)) : w.heap.size ≤ gv); have NBGBV := Aside0.mk ((by rw [hg]; exact Nat.ne_of_lt (blk_lt BG.out)) : g ≠ gv); have b_BG := Aside0.mk (blk_below BG.out hb); have b_HB := Aside0.mk (below_step HB.out hb); clear HB BG; have HB := b_HB; have BG := b_BG; clear b_HB b_BG; clear hbox hg hb; obtain ⟨ha0, ha1, ha2, ha3, ha4, ha5, ha6, ha7, ha8, ha9, ha10, ha11, ha12⟩ := acc_facts BG.out; have hv0 : w1.cell? ⟨gv, 0, none⟩ = some (.int .i64 v.f0) := (blk_cell BV.out 0).trans rfl; have hv1 : w1.cell? ⟨gv, 1, none⟩ = some (.int .i64 v.f1) := (blk_cell BV.out 1).trans rfl; have hv2 : w1.cell? ⟨gv, 2, none⟩ = some (.string v.f2) := (blk_cell BV.out 2).trans rfl; have hv3 : w1.cell? ⟨gv, 3, none⟩ = some (.bool v.f3) := (blk_cell BV.out 3).trans rfl; have NBV := Aside0.mk (show gv ≠ g from NBGBV.out.symm); have ST := Aside0.mk (Step.of_below (g := g) HB.out))
    | ((with_reducible refine gate_ (.store 3 (.tmp 10) (.tmp 8)) rfl ?_); go_loud (refine wpList_storeR rfl rfl 3 (.tmp 10) (.tmp 8) rfl g 1 rfl (.int .i64 (wrap64 (s.n + 1))) rfl [.int .i64 (wrap64 (s.n + 1))] rfl (acells s m) 52 BG.out size3 (by simp) (by simp [Value.oneCell']) (acells { s with n := wrap64 (s.n + 1) } m) rfl ?_); intro w2 hs st; have ST2 := Aside0.mk (Step.trans ST.out st); have BV2 := Aside0.mk (st.blk BV.out NBV.out); clear ST BG BV; have ST := ST2; have BV := BV2; have BG := Aside0.mk hs; clear ST2 BV2 hs st))
  go_end0
  exact ⟨rfl, ST.out, BG.out⟩

theorem of_tell {n : Int} (h1 : -9223372036854775808 ≤ n) (h2 : n ≤ 9223372036854775807) : agg_of.f n = some (hiW n, loW n) := by
  unfold agg_of.f hiW loW
  rw [IntKind.wrap_u64, IntKind.wrap_u64]
  congr 2
  omega

theorem agg_sum.other (g m : Nat) (s : Acc18) (w : World) (hg : w.heap[g]? = some (.cells (acells s m) 52 (0, 0))) (v : S26) (hv : (v.f0 == 1) = false) :
    Calls Try.prog 31 #[.pointer (some ⟨g, 0, none⟩), .agg (vc v)] w fun e w' => e = .returned (.tuple #[]) ∧ Step g w w' ∧ w'.heap[g]? = some (.cells (acells s m) 52 (0, 0)) := by
  have HB := Aside0.mk (Below.refl w.heap.size w)
  have BG := Aside0.mk hg
  clear hg
  have hu52 := Try.underlying52
  have hu26 := Try.underlying26
  have hu50 := Try.underlying50
  go_enter Try.func31, Try.ntmps31
  go_wp2_with (first
    | ((with_reducible refine gate_dst (N := 3) rfl ?_); refine box_event ?hg (N := 3) ?hd (cs := (vc v)) (t := 26) ?hr ?_; (case hd => rfl); (case hg => rfl); (case hr => first | (go_simp; done) | (go_simp; rfl)); intro gv hg w1 hbox hb; have BV := Aside0.mk hbox; have GEBV := Aside0.mk ((by rw [hg]; exact (below_size HB.out)) : w.heap.size ≤ gv); have NBGBV := Aside0.mk ((by rw [hg]; exact Nat.ne_of_lt (blk_lt BG.out)) : g ≠ gv); have b_BG := Aside0.mk (blk_below BG.out hb); have b_HB := Aside0.mk (below_step HB.out hb); clear HB BG; have HB := b_HB; have BG := b_BG; clear b_HB b_BG; clear hbox hg hb; obtain ⟨ha0, ha1, ha2, ha3, ha4, ha5, ha6, ha7, ha8, ha9, ha10, ha11, ha12⟩ := acc_facts BG.out; have hv0 : w1.cell? ⟨gv, 0, none⟩ = some (.int .i64 v.f0) := (blk_cell BV.out 0).trans rfl; have hv1 : w1.cell? ⟨gv, 1, none⟩ = some (.int .i64 v.f1) := (blk_cell BV.out 1).trans rfl; have hv2 : w1.cell? ⟨gv, 2, none⟩ = some (.string v.f2) := (blk_cell BV.out 2).trans rfl; have hv3 : w1.cell? ⟨gv, 3, none⟩ = some (.bool v.f3) := (blk_cell BV.out 3).trans rfl))
  go_end0
  exact ⟨rfl, Step.of_below HB.out, BG.out⟩
theorem agg_sum.yes (g m : Nat) (s : Acc18) (w : World) (hg : w.heap[g]? = some (.cells (acells s m) 52 (0, 0))) (v : S26) (hv : (v.f0 == 1) = true) (h1 : -9223372036854775808 ≤ v.f1) (h2 : v.f1 ≤ 9223372036854775807) :
    Calls Try.prog 31 #[.pointer (some ⟨g, 0, none⟩), .agg (vc v)] w fun e w' => e = .returned (.tuple #[]) ∧ Step g w w' ∧ w'.heap[g]? = some (.cells (acells { s with n := wrap64 (s.n + 1), tot := s.tot + v.f1 } m) 52 (0, 0)) := by
  have HB := Aside0.mk (Below.refl w.heap.size w)
  have BG := Aside0.mk hg
  clear hg
  have hu52 := Try.underlying52
  have hu26 := Try.underlying26
  have hu50 := Try.underlying50
  have HOF := Aside0.mk (of_tell h1 h2)
  clear h1 h2
  go_enter Try.func31, Try.ntmps31
  go_wp2_with (first
    | ((with_reducible refine gate_dst (N := 3) rfl ?_); refine box_event ?hg (N := 3) ?hd (cs := (vc v)) (t := 26) ?hr ?_; (case hd => rfl); (case hg => rfl); (case hr => first | (go_simp; done) | (go_simp; rfl)); intro gv hg w1 hbox hb; have BV := Aside0.mk hbox; have GEBV := Aside0.mk ((by rw [hg]; exact (below_size HB.out)) : w.heap.size ≤ gv); have NBGBV := Aside0.mk ((by rw [hg]; exact Nat.ne_of_lt (blk_lt BG.out)) : g ≠ gv); have b_BG := Aside0.mk (blk_below BG.out hb); have b_HB := Aside0.mk (below_step HB.out hb); clear HB BG; have HB := b_HB; have BG := b_BG; clear b_HB b_BG; clear hbox hg hb; obtain ⟨ha0, ha1, ha2, ha3, ha4, ha5, ha6, ha7, ha8, ha9, ha10, ha11, ha12⟩ := acc_facts BG.out; have hv0 : w1.cell? ⟨gv, 0, none⟩ = some (.int .i64 v.f0) := (blk_cell BV.out 0).trans rfl; have hv1 : w1.cell? ⟨gv, 1, none⟩ = some (.int .i64 v.f1) := (blk_cell BV.out 1).trans rfl; have hv2 : w1.cell? ⟨gv, 2, none⟩ = some (.string v.f2) := (blk_cell BV.out 2).trans rfl; have hv3 : w1.cell? ⟨gv, 3, none⟩ = some (.bool v.f3) := (blk_cell BV.out 3).trans rfl))
  clear ha0 ha4 ha5 ha6 ha7 ha8 ha9 ha10 ha11 ha12 hv0 hv2 hv3 hv hu26
  have hu26 := Try.underlying26
  refine wp_region_late 17 (fun W : World => W.cell? ⟨g, 1, none⟩ = some (.int .i64 s.n) ∧ W.cell? ⟨g, 2, none⟩ = some (.int .u64 (hiW s.tot)) ∧ W.cell? ⟨g, 3, none⟩ = some (.int .u64 (loW s.tot)) ∧ W.cell? ⟨gv, 1, none⟩ = some (.int .i64 v.f1)) (by kernel_rfl) ?_
  have HS : (fun W : World => W.cell? ⟨g, 1, none⟩ = some (.int .i64 s.n) ∧ W.cell? ⟨g, 2, none⟩ = some (.int .u64 (hiW s.tot)) ∧ W.cell? ⟨g, 3, none⟩ = some (.int .u64 (loW s.tot)) ∧ W.cell? ⟨gv, 1, none⟩ = some (.int .i64 v.f1)) w1.drew := ⟨ha1, ha2, ha3, hv1⟩
  clear ha1 ha2 ha3 hv1
  refine wpAnyT_take (i := 0) (oi := ({ dst := some 7, op := Op.move (Operand.tmp 0), type := 35, pos := "agg.go:96", after := #[], guard := none } : Oper)) (v := ?_) rfl (by kernel_rfl) (by kernel_rfl) (by kernel_rfl) (by kernel_rfl) (by kernel_rfl) (fun _ _ _ h => h) (Or.inl ⟨by rfl, ?_⟩) (fun _ => HS) ?_
  rotate_left
  · intro w_ _; go_simp; (try (with_reducible rfl))
  (try simp only [Act.put, List.setIfInBounds_toArray, List.set_cons_zero, List.set_cons_succ])
  refine wpAnyT_take (i := 1) (oi := ({ dst := some 8, op := Op.move (Operand.tmp 0), type := 35, pos := "agg.go:96", after := #[{ on := 17, ground := Ground.gcOnly Departure.lateStores }], guard := none } : Oper)) (v := ?_) rfl (by kernel_rfl) (by kernel_rfl) (by kernel_rfl) (by kernel_rfl) (by kernel_rfl) (fun _ _ _ h => h) (Or.inl ⟨by rfl, ?_⟩) (fun _ => HS) ?_
  rotate_left
  · intro w_ _; go_simp; (try (with_reducible rfl))
  (try simp only [Act.put, List.setIfInBounds_toArray, List.set_cons_zero, List.set_cons_succ])
  refine wpAnyT_take (i := 2) (oi := ({ dst := some 9, op := Op.move (Operand.tmp 0), type := 35, pos := "agg.go:96", after := #[], guard := none } : Oper)) (v := ?_) rfl (by kernel_rfl) (by kernel_rfl) (by kernel_rfl) (by kernel_rfl) (by kernel_rfl) (fun _ _ _ h => h) (Or.inl ⟨by rfl, ?_⟩) (fun _ => HS) ?_
  rotate_left
  · intro w_ _; go_simp; (try (with_reducible rfl))
  (try simp only [Act.put, List.setIfInBounds_toArray, List.set_cons_zero, List.set_cons_succ])
  refine wpAnyT_take (i := 3) (oi := ({ dst := some 10, op := Op.nilCheck (Operand.tmp 9), type := 0, pos := "agg.go:96", after := #[{ on := 2, ground := Ground.data }], guard := none } : Oper)) (v := ?_) rfl (by kernel_rfl) (by kernel_rfl) (by kernel_rfl) (by kernel_rfl) (by kernel_rfl) (fun _ _ _ h => h) (Or.inl ⟨by rfl, ?_⟩) (fun _ => HS) ?_
  rotate_left
  · intro w_ _; go_simp; (try (with_reducible rfl))
  (try simp only [Act.put, List.setIfInBounds_toArray, List.set_cons_zero, List.set_cons_succ])
  refine wpAnyT_take (i := 4) (oi := ({ dst := some 11, op := Op.fieldAddr 52 (Operand.tmp 10) 1, type := 0, pos := "agg.go:96", after := #[{ on := 3, ground := Ground.data }], guard := none } : Oper)) (v := ?_) rfl (by kernel_rfl) (by kernel_rfl) (by kernel_rfl) (by kernel_rfl) (by kernel_rfl) (fun _ _ _ h => h) (Or.inl ⟨by rfl, ?_⟩) (fun _ => HS) ?_
  rotate_left
  · intro w_ _; go_simp; (try (with_reducible rfl))
  (try simp only [Act.put, List.setIfInBounds_toArray, List.set_cons_zero, List.set_cons_succ])
  refine wpAnyT_load (i := 5) (oi := ({ dst := some 12, op := Op.load 3 (Operand.tmp 11), type := 3, pos := "agg.go:96", after := #[{ on := 4, ground := Ground.data }], guard := none } : Oper)) (v := ?_) rfl (by kernel_rfl) (by kernel_rfl) (by kernel_rfl) (by kernel_rfl) (by kernel_rfl) [6, 17] (by kernel_rfl) rfl (fun _ _ _ h => h) (Or.inl ⟨by rfl, ?_⟩) (fun _ => HS) ?_
  rotate_left
  · intro w_ hS_; obtain ⟨s1_, s2_, s3_, s4_⟩ := hS_; go_simp; (try (with_reducible rfl))
  (try simp only [Act.put, List.setIfInBounds_toArray, List.set_cons_zero, List.set_cons_succ])
  refine wpAnyT_take (i := 6) (oi := ({ dst := some 13, op := Op.binOp BinOp.add 3 (Operand.tmp 12) (Operand.const (Value.int IntKind.i64 1)) 3, type := 3, pos := "agg.go:96", after := #[{ on := 5, ground := Ground.data }], guard := none } : Oper)) (v := ?_) rfl (by kernel_rfl) (by kernel_rfl) (by kernel_rfl) (by kernel_rfl) (by kernel_rfl) (fun _ _ _ h => h) (Or.inl ⟨by rfl, ?_⟩) (fun _ => HS) ?_
  rotate_left
  · intro w_ _; go_simp; (try (with_reducible rfl))
  (try simp only [Act.put, List.setIfInBounds_toArray, List.set_cons_zero, List.set_cons_succ])
  refine wpAnyT_take (i := 7) (oi := ({ dst := some 14, op := Op.move (Operand.tmp 0), type := 35, pos := "agg.go:96", after := #[], guard := none } : Oper)) (v := ?_) rfl (by kernel_rfl) (by kernel_rfl) (by kernel_rfl) (by kernel_rfl) (by kernel_rfl) (fun _ _ _ h => h) (Or.inl ⟨by rfl, ?_⟩) (fun _ => HS) ?_
  rotate_left
  · intro w_ _; go_simp; (try (with_reducible rfl))
  (try simp only [Act.put, List.setIfInBounds_toArray, List.set_cons_zero, List.set_cons_succ])
  refine wpAnyT_take (i := 8) (oi := ({ dst := some 15, op := Op.nilCheck (Operand.tmp 14), type := 0, pos := "agg.go:96", after := #[{ on := 7, ground := Ground.data }], guard := none } : Oper)) (v := ?_) rfl (by kernel_rfl) (by kernel_rfl) (by kernel_rfl) (by kernel_rfl) (by kernel_rfl) (fun _ _ _ h => h) (Or.inl ⟨by rfl, ?_⟩) (fun _ => HS) ?_
  rotate_left
  · intro w_ _; go_simp; (try (with_reducible rfl))
  (try simp only [Act.put, List.setIfInBounds_toArray, List.set_cons_zero, List.set_cons_succ])
  refine wpAnyT_take (i := 9) (oi := ({ dst := some 16, op := Op.fieldAddr 52 (Operand.tmp 15) 2, type := 0, pos := "agg.go:96", after := #[{ on := 8, ground := Ground.data }], guard := none } : Oper)) (v := ?_) rfl (by kernel_rfl) (by kernel_rfl) (by kernel_rfl) (by kernel_rfl) (by kernel_rfl) (fun _ _ _ h => h) (Or.inl ⟨by rfl, ?_⟩) (fun _ => HS) ?_
  rotate_left
  · intro w_ _; go_simp; (try (with_reducible rfl))
  (try simp only [Act.put, List.setIfInBounds_toArray, List.set_cons_zero, List.set_cons_succ])
  refine wpAnyT_load (i := 10) (oi := ({ dst := some 17, op := Op.load 50 (Operand.tmp 16), type := 50, pos := "agg.go:96", after := #[{ on := 9, ground := Ground.data }], guard := none } : Oper)) (v := ?_) rfl (by kernel_rfl) (by kernel_rfl) (by kernel_rfl) (by kernel_rfl) (by kernel_rfl) [14, 17] (by kernel_rfl) rfl (fun _ _ _ h => h) (Or.inl ⟨by rfl, ?_⟩) (fun _ => HS) ?_
  rotate_left
  · intro w_ hS_; obtain ⟨s1_, s2_, s3_, s4_⟩ := hS_; go_simp; (try (with_reducible rfl))
  (try simp only [Act.put, List.setIfInBounds_toArray, List.set_cons_zero, List.set_cons_succ])
  refine wpAnyT_take (i := 11) (oi := ({ dst := some 18, op := Op.fieldAddr 26 (Operand.tmp 3) 1, type := 0, pos := "agg.go:96", after := #[], guard := none } : Oper)) (v := ?_) rfl (by kernel_rfl) (by kernel_rfl) (by kernel_rfl) (by kernel_rfl) (by kernel_rfl) (fun _ _ _ h => h) (Or.inl ⟨by rfl, ?_⟩) (fun _ => HS) ?_
  rotate_left
  · intro w_ _; go_simp; (try (with_reducible rfl))
  (try simp only [Act.put, List.setIfInBounds_toArray, List.set_cons_zero, List.set_cons_succ])
  refine wpAnyT_load (i := 12) (oi := ({ dst := some 19, op := Op.load 3 (Operand.tmp 18), type := 3, pos := "agg.go:96", after := #[{ on := 11, ground := Ground.data }], guard := none } : Oper)) (v := ?_) rfl (by kernel_rfl) (by kernel_rfl) (by kernel_rfl) (by kernel_rfl) (by kernel_rfl) [13, 14, 17] (by kernel_rfl) rfl (fun _ _ _ h => h) (Or.inl ⟨by rfl, ?_⟩) (fun _ => HS) ?_
  rotate_left
  · intro w_ hS_; obtain ⟨s1_, s2_, s3_, s4_⟩ := hS_; go_simp; (try (with_reducible rfl))
  (try simp only [Act.put, List.setIfInBounds_toArray, List.set_cons_zero, List.set_cons_succ])
  refine wpAnyT_one (i := 13) (by kernel_rfl) (o := ({ dst := some 20, op := Op.call { callee := Callee.value (Operand.func 33), args := #[Operand.tmp 19], argTypes := #[3] }, type := 50, pos := "agg.go:96", after := #[{ on := 12, ground := Ground.data }], guard := none } : Oper)) rfl (fun K hK => ?_)
  go_simp; go_at_call 33; refine (agg_of.calls v.f1 (hiW v.f1) (loW v.f1) _ HOF.out).mono ?_; rintro e w3 ⟨rfl, hb⟩; have b_BG := Aside0.mk (blk_below (by (with_reducible repeat (first | refine blk_drewN ?_ _ | refine blk_drew ?_ | refine blk_alloc ?_ _)); exact BG.out) hb); have b_BV := Aside0.mk (blk_below (by (with_reducible repeat (first | refine blk_drewN ?_ _ | refine blk_drew ?_ | refine blk_alloc ?_ _)); exact BV.out) hb); have b_HB := Aside0.mk (below_step (by repeat (first | (with_reducible first | exact HB.out | apply below_alloc | apply pw_below_drewN | apply below_drew1) | exact HB.out)) hb); clear HB BG BV HS; have HB := b_HB; have BG := b_BG; have BV := b_BV; clear b_HB b_BG b_BV hb; have HS : (fun W : World => W.cell? ⟨g, 1, none⟩ = some (.int .i64 s.n) ∧ W.cell? ⟨g, 2, none⟩ = some (.int .u64 (hiW s.tot)) ∧ W.cell? ⟨g, 3, none⟩ = some (.int .u64 (loW s.tot)) ∧ W.cell? ⟨gv, 1, none⟩ = some (.int .i64 v.f1)) w3 := ⟨(blk_cell BG.out 1).trans rfl, (blk_cell BG.out 2).trans rfl, (blk_cell BG.out 3).trans rfl, (blk_cell BV.out 1).trans rfl⟩; dsimp only
  refine hK.out _ _ (fun _ _ => HS) ?_; clear hK K
  (try simp only [Act.put, List.setIfInBounds_toArray, List.set_cons_zero, List.set_cons_succ])
  refine wpAnyT_one (i := 14) (by kernel_rfl) (o := ({ dst := some 21, op := Op.call { callee := Callee.value (Operand.func 32), args := #[Operand.tmp 17, Operand.tmp 20], argTypes := #[50, 50] }, type := 50, pos := "agg.go:96", after := #[{ on := 10, ground := Ground.data }, { on := 13, ground := Ground.data }, { on := 13, ground := Ground.chain }], guard := none } : Oper)) rfl (fun K hK => ?_)
  go_simp; go_at_call 32; refine (agg_plus.calls s.tot v.f1 _).mono ?_; rintro e w4 ⟨rfl, hb⟩; have b_BG := Aside0.mk (blk_below (by (with_reducible repeat (first | refine blk_drewN ?_ _ | refine blk_drew ?_ | refine blk_alloc ?_ _)); exact BG.out) hb); have b_BV := Aside0.mk (blk_below (by (with_reducible repeat (first | refine blk_drewN ?_ _ | refine blk_drew ?_ | refine blk_alloc ?_ _)); exact BV.out) hb); have b_HB := Aside0.mk (below_step (by repeat (first | (with_reducible first | exact HB.out | apply below_alloc | apply pw_below_drewN | apply below_drew1) | exact HB.out)) hb); clear HB BG BV HS; have HB := b_HB; have BG := b_BG; have BV := b_BV; clear b_HB b_BG b_BV hb; have HS : (fun W : World => W.cell? ⟨g, 1, none⟩ = some (.int .i64 s.n) ∧ W.cell? ⟨g, 2, none⟩ = some (.int .u64 (hiW s.tot)) ∧ W.cell? ⟨g, 3, none⟩ = some (.int .u64 (loW s.tot)) ∧ W.cell? ⟨gv, 1, none⟩ = some (.int .i64 v.f1)) w4 := ⟨(blk_cell BG.out 1).trans rfl, (blk_cell BG.out 2).trans rfl, (blk_cell BG.out 3).trans rfl, (blk_cell BV.out 1).trans rfl⟩; dsimp only
  refine hK.out _ _ (fun _ _ => HS) ?_; clear hK K
  (try simp only [Act.put, List.setIfInBounds_toArray, List.set_cons_zero, List.set_cons_succ])
  refine wpAnyT_take (i := 15) (oi := ({ dst := some 22, op := Op.nilCheck (Operand.tmp 7), type := 0, pos := "agg.go:96", after := #[{ on := 0, ground := Ground.data }, { on := 0, ground := Ground.phase }, { on := 1, ground := Ground.textOnly Departure.lateStores }, { on := 2, ground := Ground.phase }, { on := 3, ground := Ground.phase }, { on := 4, ground := Ground.phase }, { on := 5, ground := Ground.phase }, { on := 6, ground := Ground.phase }, { on := 7, ground := Ground.textOnly Departure.lateStores }, { on := 8, ground := Ground.textOnly Departure.lateStoresUnsure }, { on := 9, ground := Ground.textOnly Departure.lateStoresUnsure }, { on := 10, ground := Ground.phase }, { on := 11, ground := Ground.textOnly Departure.lateStores }, { on := 12, ground := Ground.textOnly Departure.lateStores }, { on := 13, ground := Ground.phase }, { on := 14, ground := Ground.phase }], guard := none } : Oper)) (v := ?_) rfl (by kernel_rfl) (by kernel_rfl) (by kernel_rfl) (by kernel_rfl) (by kernel_rfl) (fun _ _ _ h => h) (Or.inl ⟨by rfl, ?_⟩) (fun _ => HS) ?_
  rotate_left
  · intro w_ _; go_simp; (try (with_reducible rfl))
  (try simp only [Act.put, List.setIfInBounds_toArray, List.set_cons_zero, List.set_cons_succ])
  refine wpAnyT_take (i := 16) (oi := ({ dst := some 23, op := Op.fieldAddr 52 (Operand.tmp 22) 1, type := 0, pos := "agg.go:96", after := #[{ on := 15, ground := Ground.data }, { on := 0, ground := Ground.phase }, { on := 1, ground := Ground.textOnly Departure.lateStores }, { on := 2, ground := Ground.phase }, { on := 3, ground := Ground.phase }, { on := 4, ground := Ground.phase }, { on := 5, ground := Ground.phase }, { on := 6, ground := Ground.phase }, { on := 7, ground := Ground.textOnly Departure.lateStores }, { on := 8, ground := Ground.textOnly Departure.lateStoresUnsure }, { on := 9, ground := Ground.textOnly Departure.lateStoresUnsure }, { on := 10, ground := Ground.phase }, { on := 11, ground := Ground.textOnly Departure.lateStores }, { on := 12, ground := Ground.textOnly Departure.lateStores }, { on := 13, ground := Ground.phase }, { on := 14, ground := Ground.phase }], guard := none } : Oper)) (v := ?_) rfl (by kernel_rfl) (by kernel_rfl) (by kernel_rfl) (by kernel_rfl) (by kernel_rfl) (fun _ _ _ h => h) (Or.inl ⟨by rfl, ?_⟩) (fun _ => HS) ?_
  rotate_left
  · intro w_ _; go_simp; (try (with_reducible rfl))
  (try simp only [Act.put, List.setIfInBounds_toArray, List.set_cons_zero, List.set_cons_succ])
  obtain ⟨ha1, ha2, ha3, hv1⟩ := HS
  have fz1 := blk_frozen BG.out 1
  have fz2 := blk_frozen BG.out 2
  have fz3 := blk_frozen BG.out 3
  refine wpAnyT_one (i := 17) (by kernel_rfl) (o := ({ dst := none, op := Op.store 3 (Operand.tmp 23) (Operand.tmp 13), type := 0, pos := "agg.go:96", after := #[{ on := 16, ground := Ground.data }, { on := 6, ground := Ground.data }, { on := 14, ground := Ground.chain }, { on := 0, ground := Ground.phase }, { on := 1, ground := Ground.textOnly Departure.lateStores }, { on := 2, ground := Ground.phase }, { on := 3, ground := Ground.phase }, { on := 4, ground := Ground.phase }, { on := 5, ground := Ground.phase }, { on := 6, ground := Ground.phase }, { on := 7, ground := Ground.textOnly Departure.lateStores }, { on := 8, ground := Ground.textOnly Departure.lateStoresUnsure }, { on := 9, ground := Ground.textOnly Departure.lateStoresUnsure }, { on := 10, ground := Ground.phase }, { on := 11, ground := Ground.textOnly Departure.lateStores }, { on := 12, ground := Ground.textOnly Departure.lateStores }, { on := 13, ground := Ground.phase }, { on := 14, ground := Ground.phase }], guard := none } : Oper)) rfl (fun K hK => ?_)
  go_simp
  refine hK.out _ _ (fun h => absurd rfl h) ?_; clear hK K
  (try simp only [Act.put, List.setIfInBounds_toArray, List.set_cons_zero, List.set_cons_succ])
  refine wpAnyT_take (i := 18) (oi := ({ dst := some 24, op := Op.nilCheck (Operand.tmp 8), type := 0, pos := "agg.go:96", after := #[{ on := 1, ground := Ground.data }, { on := 0, ground := Ground.phase }, { on := 1, ground := Ground.phase }, { on := 2, ground := Ground.phase }, { on := 3, ground := Ground.phase }, { on := 4, ground := Ground.phase }, { on := 5, ground := Ground.phase }, { on := 6, ground := Ground.phase }, { on := 7, ground := Ground.phase }, { on := 8, ground := Ground.phase }, { on := 9, ground := Ground.phase }, { on := 10, ground := Ground.phase }, { on := 11, ground := Ground.phase }, { on := 12, ground := Ground.phase }, { on := 13, ground := Ground.phase }, { on := 14, ground := Ground.phase }, { on := 15, ground := Ground.phase }, { on := 16, ground := Ground.phase }, { on := 17, ground := Ground.phase }], guard := none } : Oper)) (v := ?_) rfl (by kernel_rfl) (by kernel_rfl) (by kernel_rfl) (by kernel_rfl) (by kernel_rfl) (fun _ _ _ h => h) (Or.inl ⟨by rfl, ?_⟩) (fun h => absurd h (by decide)) ?_
  rotate_left
  · intro w_ _; go_simp; (try (with_reducible rfl))
  (try simp only [Act.put, List.setIfInBounds_toArray, List.set_cons_zero, List.set_cons_succ])
  refine wpAnyT_take (i := 19) (oi := ({ dst := some 25, op := Op.fieldAddr 52 (Operand.tmp 24) 2, type := 0, pos := "agg.go:96", after := #[{ on := 18, ground := Ground.data }, { on := 0, ground := Ground.phase }, { on := 1, ground := Ground.phase }, { on := 2, ground := Ground.phase }, { on := 3, ground := Ground.phase }, { on := 4, ground := Ground.phase }, { on := 5, ground := Ground.phase }, { on := 6, ground := Ground.phase }, { on := 7, ground := Ground.phase }, { on := 8, ground := Ground.phase }, { on := 9, ground := Ground.phase }, { on := 10, ground := Ground.phase }, { on := 11, ground := Ground.phase }, { on := 12, ground := Ground.phase }, { on := 13, ground := Ground.phase }, { on := 14, ground := Ground.phase }, { on := 15, ground := Ground.phase }, { on := 16, ground := Ground.phase }, { on := 17, ground := Ground.phase }], guard := none } : Oper)) (v := ?_) rfl (by kernel_rfl) (by kernel_rfl) (by kernel_rfl) (by kernel_rfl) (by kernel_rfl) (fun _ _ _ h => h) (Or.inl ⟨by rfl, ?_⟩) (fun h => absurd h (by decide)) ?_
  rotate_left
  · intro w_ _; go_simp; (try (with_reducible rfl))
  (try simp only [Act.put, List.setIfInBounds_toArray, List.set_cons_zero, List.set_cons_succ])
  refine wpAnyT_one (i := 20) (by kernel_rfl) (o := ({ dst := none, op := Op.store 50 (Operand.tmp 25) (Operand.tmp 21), type := 0, pos := "agg.go:96", after := #[{ on := 19, ground := Ground.data }, { on := 14, ground := Ground.data }, { on := 17, ground := Ground.chain }, { on := 0, ground := Ground.phase }, { on := 1, ground := Ground.phase }, { on := 2, ground := Ground.phase }, { on := 3, ground := Ground.phase }, { on := 4, ground := Ground.phase }, { on := 5, ground := Ground.phase }, { on := 6, ground := Ground.phase }, { on := 7, ground := Ground.phase }, { on := 8, ground := Ground.phase }, { on := 9, ground := Ground.phase }, { on := 10, ground := Ground.phase }, { on := 11, ground := Ground.phase }, { on := 12, ground := Ground.phase }, { on := 13, ground := Ground.phase }, { on := 14, ground := Ground.phase }, { on := 15, ground := Ground.phase }, { on := 16, ground := Ground.phase }, { on := 17, ground := Ground.phase }], guard := none } : Oper)) rfl (fun K hK => ?_)
  go_simp
  refine hK.out _ _ (fun _ h => absurd h (by decide)) ?_; clear hK K
  (try simp only [Act.put, List.setIfInBounds_toArray, List.set_cons_zero, List.set_cons_succ])
  refine wpAnyT_done (by kernel_rfl) ?_ _
  all_goals go_wp2
  all_goals go_end0
  have ew : wrap64 (s.n + 1) = IntKind.i64.wrap (s.n + 1) := (i64_w (s.n + 1)).symm
  rw [ew]
  unfold acells
  dsimp only
  generalize IntKind.i64.wrap (s.n + 1) = nn_
  generalize hiW (s.tot + v.f1) = hh_
  generalize loW (s.tot + v.f1) = ll_
  refine ⟨rfl, (((Step.of_below HB.out).set_ 1 _).set_ 2 _).set_ 3 _, ?_⟩
  have h_ := blk_set (blk_set (blk_set BG.out 1 (.int .i64 nn_)) 2 (.int .u64 hh_)) 3 (.int .u64 ll_)
  simp only [List.setIfInBounds_toArray, List.set_cons_zero, List.set_cons_succ] at h_
  exact h_

theorem agg_spread.first (v : S26) (g m : Nat) (s : Acc18) (w : World) (hg : w.heap[g]? = some (.cells (acells s m) 52 (0, 0))) (q0 : (s.n == 0) = true) :
    Calls Try.prog 36 #[.pointer (some ⟨g, 0, none⟩), .agg (vc v)] w fun e w' => e = .returned (.tuple #[]) ∧ Step g w w' ∧ w'.heap[g]? = some (.cells (acells { s with n := wrap64 (s.n + 1), lo := v, hi := v } m) 52 (0, 0)) := by
  have HB := Aside0.mk (Below.refl w.heap.size w)
  have BG := Aside0.mk hg
  clear hg
  have hu52 := Try.underlying52
  have hu26 := Try.underlying26
  have hu50 := Try.underlying50
  go_enter Try.func36, Try.ntmps36
  go_wp2_with (first
    | ((with_reducible refine gate_dst (N := 3) rfl ?_); refine box_event ?hg (N := 3) ?hd (cs := (vc v)) (t := 26) ?hr ?_; (case hd => rfl); (case hg => rfl); (case hr => first | (go_simp; done) | (go_simp; rfl)); intro gv hg w1 hbox hb; have BV := Aside0.mk hbox; have GEBV := Aside0.mk ((by rw [hg]; exact (below_size HB.out)) : w.heap.size ≤ gv); have NBGBV := Aside0.mk ((by rw [hg]; exact Nat.ne_of_lt (blk_lt BG.out)) : g ≠ gv); have b_BG := Aside0.mk (blk_below BG.out hb); have b_HB := Aside0.mk (below_step HB.out hb); clear HB BG; have HB := b_HB; have BG := b_BG; clear b_HB b_BG; clear hbox hg hb; obtain ⟨ha0, ha1, ha2, ha3, ha4, ha5, ha6, ha7, ha8, ha9, ha10, ha11, ha12⟩ := acc_facts BG.out; have hv0 : w1.cell? ⟨gv, 0, none⟩ = some (.int .i64 v.f0) := (blk_cell BV.out 0).trans rfl; have hv1 : w1.cell? ⟨gv, 1, none⟩ = some (.int .i64 v.f1) := (blk_cell BV.out 1).trans rfl; have hv2 : w1.cell? ⟨gv, 2, none⟩ = some (.string v.f2) := (blk_cell BV.out 2).trans rfl; have hv3 : w1.cell? ⟨gv, 3, none⟩ = some (.bool v.f3) := (blk_cell BV.out 3).trans rfl; have NBV := Aside0.mk (show gv ≠ g from NBGBV.out.symm); have ST := Aside0.mk (Step.of_below (g := g) HB.out)))
  go_quiet (fail)
  have ST1 := Aside0.mk (ST.out.drewN nq)
  clear ST
  have ST := ST1
  clear ST1
  have BG1 := Aside0.mk (show (w1.drewN nq).heap[g]? = some (.cells (acells s m) 52 (0, 0)) from BG.out)
  have BV1 := Aside0.mk (show (w1.drewN nq).heap[gv]? = some (.cells (vc v) 26 (0, 0)) from BV.out)
  clear BG BV
  have BG := BG1
  have BV := BV1
  clear BG1 BV1
  go_wp2_with (first | ((with_reducible refine gate_ (.store 26 (.tmp 21) (.tmp 19)) rfl ?_); go_loud (refine wpList_storeR rfl rfl 26 (.tmp 21) (.tmp 19) rfl g 4 rfl (.agg (vc v)) rfl (vc v).toList rfl (acells s m) 52 BG.out size26 (by simp) (by simp [Value.oneCell']) (acells { s with lo := v } m) rfl ?_); intro w5 hs st; have ST2 := Aside0.mk (Step.trans ST.out st); have BV2 := Aside0.mk (st.blk BV.out NBV.out); clear ST BG BV; have ST := ST2; have BV := BV2; have BG := Aside0.mk hs; clear ST2 BV2 hs st; have ha0 : w5.cell? ⟨g, 0, none⟩ = some (.int .i64 s.fn) := (blk_cell BG.out 0).trans rfl; have ha1 : w5.cell? ⟨g, 1, none⟩ = some (.int .i64 s.n) := (blk_cell BG.out 1).trans rfl; have ha2 : w5.cell? ⟨g, 2, none⟩ = some (.int .u64 (hiW s.tot)) := (blk_cell BG.out 2).trans rfl; have ha3 : w5.cell? ⟨g, 3, none⟩ = some (.int .u64 (loW s.tot)) := (blk_cell BG.out 3).trans rfl; have ha4 : w5.cell? ⟨g, 4, none⟩ = some (.int .i64 v.f0) := (blk_cell BG.out 4).trans rfl; have ha5 : w5.cell? ⟨g, 5, none⟩ = some (.int .i64 v.f1) := (blk_cell BG.out 5).trans rfl; have ha6 : w5.cell? ⟨g, 6, none⟩ = some (.string v.f2) := (blk_cell BG.out 6).trans rfl; have ha7 : w5.cell? ⟨g, 7, none⟩ = some (.bool v.f3) := (blk_cell BG.out 7).trans rfl; have ha8 : w5.cell? ⟨g, 8, none⟩ = some (.int .i64 s.hi.f0) := (blk_cell BG.out 8).trans rfl; have ha9 : w5.cell? ⟨g, 9, none⟩ = some (.int .i64 s.hi.f1) := (blk_cell BG.out 9).trans rfl; have ha10 : w5.cell? ⟨g, 10, none⟩ = some (.string s.hi.f2) := (blk_cell BG.out 10).trans rfl; have ha11 : w5.cell? ⟨g, 11, none⟩ = some (.bool s.hi.f3) := (blk_cell BG.out 11).trans rfl; have hv0 : w5.cell? ⟨gv, 0, none⟩ = some (.int .i64 v.f0) := (blk_cell BV.out 0).trans rfl; have hv1 : w5.cell? ⟨gv, 1, none⟩ = some (.int .i64 v.f1) := (blk_cell BV.out 1).trans rfl; have hv2 : w5.cell? ⟨gv, 2, none⟩ = some (.string v.f2) := (blk_cell BV.out 2).trans rfl; have hv3 : w5.cell? ⟨gv, 3, none⟩ = some (.bool v.f3) := (blk_cell BV.out 3).trans rfl))
  go_quiet (fail)
  have ST1 := Aside0.mk (ST.out.drewN nq)
  clear ST
  have ST := ST1
  clear ST1
  have BG1 := Aside0.mk (show (w5.drewN nq).heap[g]? = some (.cells (acells { s with lo := v } m) 52 (0, 0)) from BG.out)
  have BV1 := Aside0.mk (show (w5.drewN nq).heap[gv]? = some (.cells (vc v) 26 (0, 0)) from BV.out)
  clear BG BV
  have BG := BG1
  have BV := BV1
  clear BG1 BV1
  go_wp2_with (first
    | ((with_reducible refine gate_ (.store 26 (.tmp 39) (.tmp 37)) rfl ?_); go_loud (refine wpList_storeR rfl rfl 26 (.tmp 39) (.tmp 37) rfl g 8 rfl (.agg (vc v)) rfl (vc v).toList rfl (acells { s with lo := v } m) 52 BG.out size26 (by simp) (by simp [Value.oneCell']) (acells { s with lo := v, hi := v } m) rfl ?_); intro w6 hs st; have ST2 := Aside0.mk (Step.trans ST.out st); have BV2 := Aside0.mk (st.blk BV.out NBV.out); clear ST BG BV; have ST := ST2; have BV := BV2; have BG := Aside0.mk hs; clear ST2 BV2 hs st; have ha0 : w6.cell? ⟨g, 0, none⟩ = some (.int .i64 s.fn) := (blk_cell BG.out 0).trans rfl; have ha1 : w6.cell? ⟨g, 1, none⟩ = some (.int .i64 s.n) := (blk_cell BG.out 1).trans rfl; have ha2 : w6.cell? ⟨g, 2, none⟩ = some (.int .u64 (hiW s.tot)) := (blk_cell BG.out 2).trans rfl; have ha3 : w6.cell? ⟨g, 3, none⟩ = some (.int .u64 (loW s.tot)) := (blk_cell BG.out 3).trans rfl; have ha4 : w6.cell? ⟨g, 4, none⟩ = some (.int .i64 v.f0) := (blk_cell BG.out 4).trans rfl; have ha5 : w6.cell? ⟨g, 5, none⟩ = some (.int .i64 v.f1) := (blk_cell BG.out 5).trans rfl; have ha6 : w6.cell? ⟨g, 6, none⟩ = some (.string v.f2) := (blk_cell BG.out 6).trans rfl; have ha7 : w6.cell? ⟨g, 7, none⟩ = some (.bool v.f3) := (blk_cell BG.out 7).trans rfl; have ha8 : w6.cell? ⟨g, 8, none⟩ = some (.int .i64 v.f0) := (blk_cell BG.out 8).trans rfl; have ha9 : w6.cell? ⟨g, 9, none⟩ = some (.int .i64 v.f1) := (blk_cell BG.out 9).trans rfl; have ha10 : w6.cell? ⟨g, 10, none⟩ = some (.string v.f2) := (blk_cell BG.out 10).trans rfl; have ha11 : w6.cell? ⟨g, 11, none⟩ = some (.bool v.f3) := (blk_cell BG.out 11).trans rfl; have hv0 : w6.cell? ⟨gv, 0, none⟩ = some (.int .i64 v.f0) := (blk_cell BV.out 0).trans rfl; have hv1 : w6.cell? ⟨gv, 1, none⟩ = some (.int .i64 v.f1) := (blk_cell BV.out 1).trans rfl; have hv2 : w6.cell? ⟨gv, 2, none⟩ = some (.string v.f2) := (blk_cell BV.out 2).trans rfl; have hv3 : w6.cell? ⟨gv, 3, none⟩ = some (.bool v.f3) := (blk_cell BV.out 3).trans rfl)
    | ((with_reducible refine gate_ (.store 3 (.tmp 46) (.tmp 44)) rfl ?_); go_loud (refine wpList_storeR rfl rfl 3 (.tmp 46) (.tmp 44) rfl g 1 rfl (.int .i64 (wrap64 (s.n + 1))) rfl [.int .i64 (wrap64 (s.n + 1))] rfl (acells { s with lo := v, hi := v } m) 52 BG.out size3 (by simp) (by simp [Value.oneCell']) (acells { s with n := wrap64 (s.n + 1), lo := v, hi := v } m) rfl ?_); intro w7 hs st; have ST2 := Aside0.mk (Step.trans ST.out st); have BV2 := Aside0.mk (st.blk BV.out NBV.out); clear ST BG BV; have ST := ST2; have BV := BV2; have BG := Aside0.mk hs; clear ST2 BV2 hs st))
  go_end0
  exact ⟨rfl, ST.out, BG.out⟩
theorem agg_spread.nn (v : S26) (g m : Nat) (s : Acc18) (w : World) (hg : w.heap[g]? = some (.cells (acells s m) 52 (0, 0))) (q0 : (s.n == 0) = false) (o1 o2 : Int) (hO1 : value_Order.f v.f0 v.f1 v.f2 v.f3 s.lo.f0 s.lo.f1 s.lo.f2 s.lo.f3 = some o1) (hO2 : value_Order.f v.f0 v.f1 v.f2 v.f3 s.hi.f0 s.hi.f1 s.hi.f2 s.hi.f3 = some o2) (d1 : decide (o1 < 0) = false) (d2 : decide (0 < o2) = false) :
    Calls Try.prog 36 #[.pointer (some ⟨g, 0, none⟩), .agg (vc v)] w fun e w' => e = .returned (.tuple #[]) ∧ Step g w w' ∧ w'.heap[g]? = some (.cells (acells { s with n := wrap64 (s.n + 1) } m) 52 (0, 0)) := by
  have HB := Aside0.mk (Below.refl w.heap.size w)
  have BG := Aside0.mk hg
  clear hg
  have hu52 := Try.underlying52
  have hu26 := Try.underlying26
  have hu50 := Try.underlying50
  have HO1 := Aside0.mk hO1
  have HO2 := Aside0.mk hO2
  clear hO1 hO2
  go_enter Try.func36, Try.ntmps36
  go_wp2_with (first
    | ((with_reducible refine gate_dst (N := 3) rfl ?_); refine box_event ?hg (N := 3) ?hd (cs := (vc v)) (t := 26) ?hr ?_; (case hd => rfl); (case hg => rfl); (case hr => first | (go_simp; done) | (go_simp; rfl)); intro gv hg w1 hbox hb; have BV := Aside0.mk hbox; have GEBV := Aside0.mk ((by rw [hg]; exact (below_size HB.out)) : w.heap.size ≤ gv); have NBGBV := Aside0.mk ((by rw [hg]; exact Nat.ne_of_lt (blk_lt BG.out)) : g ≠ gv); have b_BG := Aside0.mk (blk_below BG.out hb); have b_HB := Aside0.mk (below_step HB.out hb); clear HB BG; have HB := b_HB; have BG := b_BG; clear b_HB b_BG; clear hbox hg hb; obtain ⟨ha0, ha1, ha2, ha3, ha4, ha5, ha6, ha7, ha8, ha9, ha10, ha11, ha12⟩ := acc_facts BG.out; have hv0 : w1.cell? ⟨gv, 0, none⟩ = some (.int .i64 v.f0) := (blk_cell BV.out 0).trans rfl; have hv1 : w1.cell? ⟨gv, 1, none⟩ = some (.int .i64 v.f1) := (blk_cell BV.out 1).trans rfl; have hv2 : w1.cell? ⟨gv, 2, none⟩ = some (.string v.f2) := (blk_cell BV.out 2).trans rfl; have hv3 : w1.cell? ⟨gv, 3, none⟩ = some (.bool v.f3) := (blk_cell BV.out 3).trans rfl; have NBV := Aside0.mk (show gv ≠ g from NBGBV.out.symm); have ST := Aside0.mk (Step.of_below (g := g) HB.out)))
  have HSS1 : Aside0 (∀ W0 : World, Below w1.heap.size w1 W0 → (W0.cell? ⟨g, 1, none⟩ = some (.int .i64 s.n) ∧ W0.cell? ⟨g, 4, none⟩ = some (.int .i64 s.lo.f0) ∧ W0.cell? ⟨g, 5, none⟩ = some (.int .i64 s.lo.f1) ∧ W0.cell? ⟨g, 6, none⟩ = some (.string s.lo.f2) ∧ W0.cell? ⟨g, 7, none⟩ = some (.bool s.lo.f3) ∧ W0.cell? ⟨gv, 0, none⟩ = some (.int .i64 v.f0) ∧ W0.cell? ⟨gv, 1, none⟩ = some (.int .i64 v.f1) ∧ W0.cell? ⟨gv, 2, none⟩ = some (.string v.f2) ∧ W0.cell? ⟨gv, 3, none⟩ = some (.bool v.f3) ∧ Below w1.heap.size w1 W0)) := Aside0.mk (fun W0 hbq => ⟨(blk_cell (blk_below BG.out hbq) 1).trans rfl, (blk_cell (blk_below BG.out hbq) 4).trans rfl, (blk_cell (blk_below BG.out hbq) 5).trans rfl, (blk_cell (blk_below BG.out hbq) 6).trans rfl, (blk_cell (blk_below BG.out hbq) 7).trans rfl, (blk_cell (blk_below BV.out hbq) 0).trans rfl, (blk_cell (blk_below BV.out hbq) 1).trans rfl, (blk_cell (blk_below BV.out hbq) 2).trans rfl, (blk_cell (blk_below BV.out hbq) 3).trans rfl, hbq⟩)
  go_region_held3 (fun W0 : World => W0.cell? ⟨g, 1, none⟩ = some (.int .i64 s.n) ∧ W0.cell? ⟨g, 4, none⟩ = some (.int .i64 s.lo.f0) ∧ W0.cell? ⟨g, 5, none⟩ = some (.int .i64 s.lo.f1) ∧ W0.cell? ⟨g, 6, none⟩ = some (.string s.lo.f2) ∧ W0.cell? ⟨g, 7, none⟩ = some (.bool s.lo.f3) ∧ W0.cell? ⟨gv, 0, none⟩ = some (.int .i64 v.f0) ∧ W0.cell? ⟨gv, 1, none⟩ = some (.int .i64 v.f1) ∧ W0.cell? ⟨gv, 2, none⟩ = some (.string v.f2) ∧ W0.cell? ⟨gv, 3, none⟩ = some (.bool v.f3) ∧ Below w1.heap.size w1 W0) (exact HSS1.out _ (by repeat (first | (with_reducible exact HBX.out) | (with_reducible exact Below.refl _ _) | (with_reducible apply below_drew1) | (with_reducible apply pw_below_drewN)))) (first
    | (go_at_call 43; refine (value_Order.calls v.f0 v.f1 v.f2 v.f3 s.lo.f0 s.lo.f1 s.lo.f2 s.lo.f3 o1 _ HO1.out).mono ?_; rintro e w41 ⟨rfl, hbn⟩; have HBX := Aside0.mk (show Below w1.heap.size w1 w41 from below_step (by go_split_ands; assumption) hbn); clear hbn))
  have ST1 := Aside0.mk (Step.below ST.out HBX.out)
  have BG1 := Aside0.mk (blk_below BG.out HBX.out)
  have BV1 := Aside0.mk (blk_below BV.out HBX.out)
  clear ST BG BV HBX
  have ST := ST1
  have BG := BG1
  have BV := BV1
  clear ST1 BG1 BV1
  have ha0 : w41.cell? ⟨g, 0, none⟩ = some (.int .i64 s.fn) := (blk_cell BG.out 0).trans rfl
  have ha1 : w41.cell? ⟨g, 1, none⟩ = some (.int .i64 s.n) := (blk_cell BG.out 1).trans rfl
  have ha2 : w41.cell? ⟨g, 2, none⟩ = some (.int .u64 (hiW s.tot)) := (blk_cell BG.out 2).trans rfl
  have ha3 : w41.cell? ⟨g, 3, none⟩ = some (.int .u64 (loW s.tot)) := (blk_cell BG.out 3).trans rfl
  have ha4 : w41.cell? ⟨g, 4, none⟩ = some (.int .i64 s.lo.f0) := (blk_cell BG.out 4).trans rfl
  have ha5 : w41.cell? ⟨g, 5, none⟩ = some (.int .i64 s.lo.f1) := (blk_cell BG.out 5).trans rfl
  have ha6 : w41.cell? ⟨g, 6, none⟩ = some (.string s.lo.f2) := (blk_cell BG.out 6).trans rfl
  have ha7 : w41.cell? ⟨g, 7, none⟩ = some (.bool s.lo.f3) := (blk_cell BG.out 7).trans rfl
  have ha8 : w41.cell? ⟨g, 8, none⟩ = some (.int .i64 s.hi.f0) := (blk_cell BG.out 8).trans rfl
  have ha9 : w41.cell? ⟨g, 9, none⟩ = some (.int .i64 s.hi.f1) := (blk_cell BG.out 9).trans rfl
  have ha10 : w41.cell? ⟨g, 10, none⟩ = some (.string s.hi.f2) := (blk_cell BG.out 10).trans rfl
  have ha11 : w41.cell? ⟨g, 11, none⟩ = some (.bool s.hi.f3) := (blk_cell BG.out 11).trans rfl
  have hv0 : w41.cell? ⟨gv, 0, none⟩ = some (.int .i64 v.f0) := (blk_cell BV.out 0).trans rfl
  have hv1 : w41.cell? ⟨gv, 1, none⟩ = some (.int .i64 v.f1) := (blk_cell BV.out 1).trans rfl
  have hv2 : w41.cell? ⟨gv, 2, none⟩ = some (.string v.f2) := (blk_cell BV.out 2).trans rfl
  have hv3 : w41.cell? ⟨gv, 3, none⟩ = some (.bool v.f3) := (blk_cell BV.out 3).trans rfl
  go_wp2_with fail
  have HSS2 : Aside0 (∀ W0 : World, Below w41.heap.size w41 W0 → (W0.cell? ⟨g, 1, none⟩ = some (.int .i64 s.n) ∧ W0.cell? ⟨g, 8, none⟩ = some (.int .i64 s.hi.f0) ∧ W0.cell? ⟨g, 9, none⟩ = some (.int .i64 s.hi.f1) ∧ W0.cell? ⟨g, 10, none⟩ = some (.string s.hi.f2) ∧ W0.cell? ⟨g, 11, none⟩ = some (.bool s.hi.f3) ∧ W0.cell? ⟨gv, 0, none⟩ = some (.int .i64 v.f0) ∧ W0.cell? ⟨gv, 1, none⟩ = some (.int .i64 v.f1) ∧ W0.cell? ⟨gv, 2, none⟩ = some (.string v.f2) ∧ W0.cell? ⟨gv, 3, none⟩ = some (.bool v.f3) ∧ Below w41.heap.size w41 W0)) := Aside0.mk (fun W0 hbq => ⟨(blk_cell (blk_below BG.out hbq) 1).trans rfl, (blk_cell (blk_below BG.out hbq) 8).trans rfl, (blk_cell (blk_below BG.out hbq) 9).trans rfl, (blk_cell (blk_below BG.out hbq) 10).trans rfl, (blk_cell (blk_below BG.out hbq) 11).trans rfl, (blk_cell (blk_below BV.out hbq) 0).trans rfl, (blk_cell (blk_below BV.out hbq) 1).trans rfl, (blk_cell (blk_below BV.out hbq) 2).trans rfl, (blk_cell (blk_below BV.out hbq) 3).trans rfl, hbq⟩)
  go_region_held3 (fun W0 : World => W0.cell? ⟨g, 1, none⟩ = some (.int .i64 s.n) ∧ W0.cell? ⟨g, 8, none⟩ = some (.int .i64 s.hi.f0) ∧ W0.cell? ⟨g, 9, none⟩ = some (.int .i64 s.hi.f1) ∧ W0.cell? ⟨g, 10, none⟩ = some (.string s.hi.f2) ∧ W0.cell? ⟨g, 11, none⟩ = some (.bool s.hi.f3) ∧ W0.cell? ⟨gv, 0, none⟩ = some (.int .i64 v.f0) ∧ W0.cell? ⟨gv, 1, none⟩ = some (.int .i64 v.f1) ∧ W0.cell? ⟨gv, 2, none⟩ = some (.string v.f2) ∧ W0.cell? ⟨gv, 3, none⟩ = some (.bool v.f3) ∧ Below w41.heap.size w41 W0) (exact HSS2.out _ (by repeat (first | (with_reducible exact HBX.out) | (with_reducible exact Below.refl _ _) | (with_reducible apply below_drew1) | (with_reducible apply pw_below_drewN)))) (first
    | (go_at_call 43; refine (value_Order.calls v.f0 v.f1 v.f2 v.f3 s.hi.f0 s.hi.f1 s.hi.f2 s.hi.f3 o2 _ HO2.out).mono ?_; rintro e w42 ⟨rfl, hbn⟩; have HBX := Aside0.mk (show Below w41.heap.size w41 w42 from below_step (by go_split_ands; assumption) hbn); clear hbn))
  have ST1 := Aside0.mk (Step.below ST.out HBX.out)
  have BG1 := Aside0.mk (blk_below BG.out HBX.out)
  have BV1 := Aside0.mk (blk_below BV.out HBX.out)
  clear ST BG BV HBX
  have ST := ST1
  have BG := BG1
  have BV := BV1
  clear ST1 BG1 BV1
  have ha0 : w42.cell? ⟨g, 0, none⟩ = some (.int .i64 s.fn) := (blk_cell BG.out 0).trans rfl
  have ha1 : w42.cell? ⟨g, 1, none⟩ = some (.int .i64 s.n) := (blk_cell BG.out 1).trans rfl
  have ha2 : w42.cell? ⟨g, 2, none⟩ = some (.int .u64 (hiW s.tot)) := (blk_cell BG.out 2).trans rfl
  have ha3 : w42.cell? ⟨g, 3, none⟩ = some (.int .u64 (loW s.tot)) := (blk_cell BG.out 3).trans rfl
  have ha4 : w42.cell? ⟨g, 4, none⟩ = some (.int .i64 s.lo.f0) := (blk_cell BG.out 4).trans rfl
  have ha5 : w42.cell? ⟨g, 5, none⟩ = some (.int .i64 s.lo.f1) := (blk_cell BG.out 5).trans rfl
  have ha6 : w42.cell? ⟨g, 6, none⟩ = some (.string s.lo.f2) := (blk_cell BG.out 6).trans rfl
  have ha7 : w42.cell? ⟨g, 7, none⟩ = some (.bool s.lo.f3) := (blk_cell BG.out 7).trans rfl
  have ha8 : w42.cell? ⟨g, 8, none⟩ = some (.int .i64 s.hi.f0) := (blk_cell BG.out 8).trans rfl
  have ha9 : w42.cell? ⟨g, 9, none⟩ = some (.int .i64 s.hi.f1) := (blk_cell BG.out 9).trans rfl
  have ha10 : w42.cell? ⟨g, 10, none⟩ = some (.string s.hi.f2) := (blk_cell BG.out 10).trans rfl
  have ha11 : w42.cell? ⟨g, 11, none⟩ = some (.bool s.hi.f3) := (blk_cell BG.out 11).trans rfl
  have hv0 : w42.cell? ⟨gv, 0, none⟩ = some (.int .i64 v.f0) := (blk_cell BV.out 0).trans rfl
  have hv1 : w42.cell? ⟨gv, 1, none⟩ = some (.int .i64 v.f1) := (blk_cell BV.out 1).trans rfl
  have hv2 : w42.cell? ⟨gv, 2, none⟩ = some (.string v.f2) := (blk_cell BV.out 2).trans rfl
  have hv3 : w42.cell? ⟨gv, 3, none⟩ = some (.bool v.f3) := (blk_cell BV.out 3).trans rfl
  go_wp2_with (first
    | ((with_reducible refine gate_ (.store 3 (.tmp 46) (.tmp 44)) rfl ?_); go_loud (refine wpList_storeR rfl rfl 3 (.tmp 46) (.tmp 44) rfl g 1 rfl (.int .i64 (wrap64 (s.n + 1))) rfl [.int .i64 (wrap64 (s.n + 1))] rfl (acells s m) 52 BG.out size3 (by simp) (by simp [Value.oneCell']) (acells { s with n := wrap64 (s.n + 1) } m) rfl ?_); intro w7 hs st; have ST2 := Aside0.mk (Step.trans ST.out st); have BV2 := Aside0.mk (st.blk BV.out NBV.out); clear ST BG BV; have ST := ST2; have BV := BV2; have BG := Aside0.mk hs; clear ST2 BV2 hs st))
  go_end0
  exact ⟨rfl, ST.out, BG.out⟩
theorem agg_spread.yn (v : S26) (g m : Nat) (s : Acc18) (w : World) (hg : w.heap[g]? = some (.cells (acells s m) 52 (0, 0))) (q0 : (s.n == 0) = false) (o1 o2 : Int) (hO1 : value_Order.f v.f0 v.f1 v.f2 v.f3 s.lo.f0 s.lo.f1 s.lo.f2 s.lo.f3 = some o1) (hO2 : value_Order.f v.f0 v.f1 v.f2 v.f3 s.hi.f0 s.hi.f1 s.hi.f2 s.hi.f3 = some o2) (d1 : decide (o1 < 0) = true) (d2 : decide (0 < o2) = false) :
    Calls Try.prog 36 #[.pointer (some ⟨g, 0, none⟩), .agg (vc v)] w fun e w' => e = .returned (.tuple #[]) ∧ Step g w w' ∧ w'.heap[g]? = some (.cells (acells { s with n := wrap64 (s.n + 1), lo := v } m) 52 (0, 0)) := by
  have HB := Aside0.mk (Below.refl w.heap.size w)
  have BG := Aside0.mk hg
  clear hg
  have hu52 := Try.underlying52
  have hu26 := Try.underlying26
  have hu50 := Try.underlying50
  have HO1 := Aside0.mk hO1
  have HO2 := Aside0.mk hO2
  clear hO1 hO2
  go_enter Try.func36, Try.ntmps36
  go_wp2_with (first
    | ((with_reducible refine gate_dst (N := 3) rfl ?_); refine box_event ?hg (N := 3) ?hd (cs := (vc v)) (t := 26) ?hr ?_; (case hd => rfl); (case hg => rfl); (case hr => first | (go_simp; done) | (go_simp; rfl)); intro gv hg w1 hbox hb; have BV := Aside0.mk hbox; have GEBV := Aside0.mk ((by rw [hg]; exact (below_size HB.out)) : w.heap.size ≤ gv); have NBGBV := Aside0.mk ((by rw [hg]; exact Nat.ne_of_lt (blk_lt BG.out)) : g ≠ gv); have b_BG := Aside0.mk (blk_below BG.out hb); have b_HB := Aside0.mk (below_step HB.out hb); clear HB BG; have HB := b_HB; have BG := b_BG; clear b_HB b_BG; clear hbox hg hb; obtain ⟨ha0, ha1, ha2, ha3, ha4, ha5, ha6, ha7, ha8, ha9, ha10, ha11, ha12⟩ := acc_facts BG.out; have hv0 : w1.cell? ⟨gv, 0, none⟩ = some (.int .i64 v.f0) := (blk_cell BV.out 0).trans rfl; have hv1 : w1.cell? ⟨gv, 1, none⟩ = some (.int .i64 v.f1) := (blk_cell BV.out 1).trans rfl; have hv2 : w1.cell? ⟨gv, 2, none⟩ = some (.string v.f2) := (blk_cell BV.out 2).trans rfl; have hv3 : w1.cell? ⟨gv, 3, none⟩ = some (.bool v.f3) := (blk_cell BV.out 3).trans rfl; have NBV := Aside0.mk (show gv ≠ g from NBGBV.out.symm); have ST := Aside0.mk (Step.of_below (g := g) HB.out)))
  have HSS1 : Aside0 (∀ W0 : World, Below w1.heap.size w1 W0 → (W0.cell? ⟨g, 1, none⟩ = some (.int .i64 s.n) ∧ W0.cell? ⟨g, 4, none⟩ = some (.int .i64 s.lo.f0) ∧ W0.cell? ⟨g, 5, none⟩ = some (.int .i64 s.lo.f1) ∧ W0.cell? ⟨g, 6, none⟩ = some (.string s.lo.f2) ∧ W0.cell? ⟨g, 7, none⟩ = some (.bool s.lo.f3) ∧ W0.cell? ⟨gv, 0, none⟩ = some (.int .i64 v.f0) ∧ W0.cell? ⟨gv, 1, none⟩ = some (.int .i64 v.f1) ∧ W0.cell? ⟨gv, 2, none⟩ = some (.string v.f2) ∧ W0.cell? ⟨gv, 3, none⟩ = some (.bool v.f3) ∧ Below w1.heap.size w1 W0)) := Aside0.mk (fun W0 hbq => ⟨(blk_cell (blk_below BG.out hbq) 1).trans rfl, (blk_cell (blk_below BG.out hbq) 4).trans rfl, (blk_cell (blk_below BG.out hbq) 5).trans rfl, (blk_cell (blk_below BG.out hbq) 6).trans rfl, (blk_cell (blk_below BG.out hbq) 7).trans rfl, (blk_cell (blk_below BV.out hbq) 0).trans rfl, (blk_cell (blk_below BV.out hbq) 1).trans rfl, (blk_cell (blk_below BV.out hbq) 2).trans rfl, (blk_cell (blk_below BV.out hbq) 3).trans rfl, hbq⟩)
  go_region_held3 (fun W0 : World => W0.cell? ⟨g, 1, none⟩ = some (.int .i64 s.n) ∧ W0.cell? ⟨g, 4, none⟩ = some (.int .i64 s.lo.f0) ∧ W0.cell? ⟨g, 5, none⟩ = some (.int .i64 s.lo.f1) ∧ W0.cell? ⟨g, 6, none⟩ = some (.string s.lo.f2) ∧ W0.cell? ⟨g, 7, none⟩ = some (.bool s.lo.f3) ∧ W0.cell? ⟨gv, 0, none⟩ = some (.int .i64 v.f0) ∧ W0.cell? ⟨gv, 1, none⟩ = some (.int .i64 v.f1) ∧ W0.cell? ⟨gv, 2, none⟩ = some (.string v.f2) ∧ W0.cell? ⟨gv, 3, none⟩ = some (.bool v.f3) ∧ Below w1.heap.size w1 W0) (exact HSS1.out _ (by repeat (first | (with_reducible exact HBX.out) | (with_reducible exact Below.refl _ _) | (with_reducible apply below_drew1) | (with_reducible apply pw_below_drewN)))) (first
    | (go_at_call 43; refine (value_Order.calls v.f0 v.f1 v.f2 v.f3 s.lo.f0 s.lo.f1 s.lo.f2 s.lo.f3 o1 _ HO1.out).mono ?_; rintro e w41 ⟨rfl, hbn⟩; have HBX := Aside0.mk (show Below w1.heap.size w1 w41 from below_step (by go_split_ands; assumption) hbn); clear hbn))
  have ST1 := Aside0.mk (Step.below ST.out HBX.out)
  have BG1 := Aside0.mk (blk_below BG.out HBX.out)
  have BV1 := Aside0.mk (blk_below BV.out HBX.out)
  clear ST BG BV HBX
  have ST := ST1
  have BG := BG1
  have BV := BV1
  clear ST1 BG1 BV1
  have ha0 : w41.cell? ⟨g, 0, none⟩ = some (.int .i64 s.fn) := (blk_cell BG.out 0).trans rfl
  have ha1 : w41.cell? ⟨g, 1, none⟩ = some (.int .i64 s.n) := (blk_cell BG.out 1).trans rfl
  have ha2 : w41.cell? ⟨g, 2, none⟩ = some (.int .u64 (hiW s.tot)) := (blk_cell BG.out 2).trans rfl
  have ha3 : w41.cell? ⟨g, 3, none⟩ = some (.int .u64 (loW s.tot)) := (blk_cell BG.out 3).trans rfl
  have ha4 : w41.cell? ⟨g, 4, none⟩ = some (.int .i64 s.lo.f0) := (blk_cell BG.out 4).trans rfl
  have ha5 : w41.cell? ⟨g, 5, none⟩ = some (.int .i64 s.lo.f1) := (blk_cell BG.out 5).trans rfl
  have ha6 : w41.cell? ⟨g, 6, none⟩ = some (.string s.lo.f2) := (blk_cell BG.out 6).trans rfl
  have ha7 : w41.cell? ⟨g, 7, none⟩ = some (.bool s.lo.f3) := (blk_cell BG.out 7).trans rfl
  have ha8 : w41.cell? ⟨g, 8, none⟩ = some (.int .i64 s.hi.f0) := (blk_cell BG.out 8).trans rfl
  have ha9 : w41.cell? ⟨g, 9, none⟩ = some (.int .i64 s.hi.f1) := (blk_cell BG.out 9).trans rfl
  have ha10 : w41.cell? ⟨g, 10, none⟩ = some (.string s.hi.f2) := (blk_cell BG.out 10).trans rfl
  have ha11 : w41.cell? ⟨g, 11, none⟩ = some (.bool s.hi.f3) := (blk_cell BG.out 11).trans rfl
  have hv0 : w41.cell? ⟨gv, 0, none⟩ = some (.int .i64 v.f0) := (blk_cell BV.out 0).trans rfl
  have hv1 : w41.cell? ⟨gv, 1, none⟩ = some (.int .i64 v.f1) := (blk_cell BV.out 1).trans rfl
  have hv2 : w41.cell? ⟨gv, 2, none⟩ = some (.string v.f2) := (blk_cell BV.out 2).trans rfl
  have hv3 : w41.cell? ⟨gv, 3, none⟩ = some (.bool v.f3) := (blk_cell BV.out 3).trans rfl
  go_wp2_with (first | ((with_reducible refine gate_ (.store 26 (.tmp 21) (.tmp 19)) rfl ?_); go_loud (refine wpList_storeR rfl rfl 26 (.tmp 21) (.tmp 19) rfl g 4 rfl (.agg (vc v)) rfl (vc v).toList rfl (acells s m) 52 BG.out size26 (by simp) (by simp [Value.oneCell']) (acells { s with lo := v } m) rfl ?_); intro w5 hs st; have ST2 := Aside0.mk (Step.trans ST.out st); have BV2 := Aside0.mk (st.blk BV.out NBV.out); clear ST BG BV; have ST := ST2; have BV := BV2; have BG := Aside0.mk hs; clear ST2 BV2 hs st; have ha0 : w5.cell? ⟨g, 0, none⟩ = some (.int .i64 s.fn) := (blk_cell BG.out 0).trans rfl; have ha1 : w5.cell? ⟨g, 1, none⟩ = some (.int .i64 s.n) := (blk_cell BG.out 1).trans rfl; have ha2 : w5.cell? ⟨g, 2, none⟩ = some (.int .u64 (hiW s.tot)) := (blk_cell BG.out 2).trans rfl; have ha3 : w5.cell? ⟨g, 3, none⟩ = some (.int .u64 (loW s.tot)) := (blk_cell BG.out 3).trans rfl; have ha4 : w5.cell? ⟨g, 4, none⟩ = some (.int .i64 v.f0) := (blk_cell BG.out 4).trans rfl; have ha5 : w5.cell? ⟨g, 5, none⟩ = some (.int .i64 v.f1) := (blk_cell BG.out 5).trans rfl; have ha6 : w5.cell? ⟨g, 6, none⟩ = some (.string v.f2) := (blk_cell BG.out 6).trans rfl; have ha7 : w5.cell? ⟨g, 7, none⟩ = some (.bool v.f3) := (blk_cell BG.out 7).trans rfl; have ha8 : w5.cell? ⟨g, 8, none⟩ = some (.int .i64 s.hi.f0) := (blk_cell BG.out 8).trans rfl; have ha9 : w5.cell? ⟨g, 9, none⟩ = some (.int .i64 s.hi.f1) := (blk_cell BG.out 9).trans rfl; have ha10 : w5.cell? ⟨g, 10, none⟩ = some (.string s.hi.f2) := (blk_cell BG.out 10).trans rfl; have ha11 : w5.cell? ⟨g, 11, none⟩ = some (.bool s.hi.f3) := (blk_cell BG.out 11).trans rfl; have hv0 : w5.cell? ⟨gv, 0, none⟩ = some (.int .i64 v.f0) := (blk_cell BV.out 0).trans rfl; have hv1 : w5.cell? ⟨gv, 1, none⟩ = some (.int .i64 v.f1) := (blk_cell BV.out 1).trans rfl; have hv2 : w5.cell? ⟨gv, 2, none⟩ = some (.string v.f2) := (blk_cell BV.out 2).trans rfl; have hv3 : w5.cell? ⟨gv, 3, none⟩ = some (.bool v.f3) := (blk_cell BV.out 3).trans rfl))
  have HSS2 : Aside0 (∀ W0 : World, Below w5.heap.size w5 W0 → (W0.cell? ⟨g, 1, none⟩ = some (.int .i64 s.n) ∧ W0.cell? ⟨g, 8, none⟩ = some (.int .i64 s.hi.f0) ∧ W0.cell? ⟨g, 9, none⟩ = some (.int .i64 s.hi.f1) ∧ W0.cell? ⟨g, 10, none⟩ = some (.string s.hi.f2) ∧ W0.cell? ⟨g, 11, none⟩ = some (.bool s.hi.f3) ∧ W0.cell? ⟨gv, 0, none⟩ = some (.int .i64 v.f0) ∧ W0.cell? ⟨gv, 1, none⟩ = some (.int .i64 v.f1) ∧ W0.cell? ⟨gv, 2, none⟩ = some (.string v.f2) ∧ W0.cell? ⟨gv, 3, none⟩ = some (.bool v.f3) ∧ Below w5.heap.size w5 W0)) := Aside0.mk (fun W0 hbq => ⟨(blk_cell (blk_below BG.out hbq) 1).trans rfl, (blk_cell (blk_below BG.out hbq) 8).trans rfl, (blk_cell (blk_below BG.out hbq) 9).trans rfl, (blk_cell (blk_below BG.out hbq) 10).trans rfl, (blk_cell (blk_below BG.out hbq) 11).trans rfl, (blk_cell (blk_below BV.out hbq) 0).trans rfl, (blk_cell (blk_below BV.out hbq) 1).trans rfl, (blk_cell (blk_below BV.out hbq) 2).trans rfl, (blk_cell (blk_below BV.out hbq) 3).trans rfl, hbq⟩)
  go_region_held3 (fun W0 : World => W0.cell? ⟨g, 1, none⟩ = some (.int .i64 s.n) ∧ W0.cell? ⟨g, 8, none⟩ = some (.int .i64 s.hi.f0) ∧ W0.cell? ⟨g, 9, none⟩ = some (.int .i64 s.hi.f1) ∧ W0.cell? ⟨g, 10, none⟩ = some (.string s.hi.f2) ∧ W0.cell? ⟨g, 11, none⟩ = some (.bool s.hi.f3) ∧ W0.cell? ⟨gv, 0, none⟩ = some (.int .i64 v.f0) ∧ W0.cell? ⟨gv, 1, none⟩ = some (.int .i64 v.f1) ∧ W0.cell? ⟨gv, 2, none⟩ = some (.string v.f2) ∧ W0.cell? ⟨gv, 3, none⟩ = some (.bool v.f3) ∧ Below w5.heap.size w5 W0) (exact HSS2.out _ (by repeat (first | (with_reducible exact HBX.out) | (with_reducible exact Below.refl _ _) | (with_reducible apply below_drew1) | (with_reducible apply pw_below_drewN)))) (first
    | (go_at_call 43; refine (value_Order.calls v.f0 v.f1 v.f2 v.f3 s.hi.f0 s.hi.f1 s.hi.f2 s.hi.f3 o2 _ HO2.out).mono ?_; rintro e w42 ⟨rfl, hbn⟩; have HBX := Aside0.mk (show Below w5.heap.size w5 w42 from below_step (by go_split_ands; assumption) hbn); clear hbn))
  have ST1 := Aside0.mk (Step.below ST.out HBX.out)
  have BG1 := Aside0.mk (blk_below BG.out HBX.out)
  have BV1 := Aside0.mk (blk_below BV.out HBX.out)
  clear ST BG BV HBX
  have ST := ST1
  have BG := BG1
  have BV := BV1
  clear ST1 BG1 BV1
  have ha0 : w42.cell? ⟨g, 0, none⟩ = some (.int .i64 s.fn) := (blk_cell BG.out 0).trans rfl
  have ha1 : w42.cell? ⟨g, 1, none⟩ = some (.int .i64 s.n) := (blk_cell BG.out 1).trans rfl
  have ha2 : w42.cell? ⟨g, 2, none⟩ = some (.int .u64 (hiW s.tot)) := (blk_cell BG.out 2).trans rfl
  have ha3 : w42.cell? ⟨g, 3, none⟩ = some (.int .u64 (loW s.tot)) := (blk_cell BG.out 3).trans rfl
  have ha4 : w42.cell? ⟨g, 4, none⟩ = some (.int .i64 v.f0) := (blk_cell BG.out 4).trans rfl
  have ha5 : w42.cell? ⟨g, 5, none⟩ = some (.int .i64 v.f1) := (blk_cell BG.out 5).trans rfl
  have ha6 : w42.cell? ⟨g, 6, none⟩ = some (.string v.f2) := (blk_cell BG.out 6).trans rfl
  have ha7 : w42.cell? ⟨g, 7, none⟩ = some (.bool v.f3) := (blk_cell BG.out 7).trans rfl
  have ha8 : w42.cell? ⟨g, 8, none⟩ = some (.int .i64 s.hi.f0) := (blk_cell BG.out 8).trans rfl
  have ha9 : w42.cell? ⟨g, 9, none⟩ = some (.int .i64 s.hi.f1) := (blk_cell BG.out 9).trans rfl
  have ha10 : w42.cell? ⟨g, 10, none⟩ = some (.string s.hi.f2) := (blk_cell BG.out 10).trans rfl
  have ha11 : w42.cell? ⟨g, 11, none⟩ = some (.bool s.hi.f3) := (blk_cell BG.out 11).trans rfl
  have hv0 : w42.cell? ⟨gv, 0, none⟩ = some (.int .i64 v.f0) := (blk_cell BV.out 0).trans rfl
  have hv1 : w42.cell? ⟨gv, 1, none⟩ = some (.int .i64 v.f1) := (blk_cell BV.out 1).trans rfl
  have hv2 : w42.cell? ⟨gv, 2, none⟩ = some (.string v.f2) := (blk_cell BV.out 2).trans rfl
  have hv3 : w42.cell? ⟨gv, 3, none⟩ = some (.bool v.f3) := (blk_cell BV.out 3).trans rfl
  go_wp2_with (first
    | ((with_reducible refine gate_ (.store 3 (.tmp 46) (.tmp 44)) rfl ?_); go_loud (refine wpList_storeR rfl rfl 3 (.tmp 46) (.tmp 44) rfl g 1 rfl (.int .i64 (wrap64 (s.n + 1))) rfl [.int .i64 (wrap64 (s.n + 1))] rfl (acells { s with lo := v } m) 52 BG.out size3 (by simp) (by simp [Value.oneCell']) (acells { s with n := wrap64 (s.n + 1), lo := v } m) rfl ?_); intro w7 hs st; have ST2 := Aside0.mk (Step.trans ST.out st); have BV2 := Aside0.mk (st.blk BV.out NBV.out); clear ST BG BV; have ST := ST2; have BV := BV2; have BG := Aside0.mk hs; clear ST2 BV2 hs st))
  go_end0
  exact ⟨rfl, ST.out, BG.out⟩
theorem agg_spread.ny (v : S26) (g m : Nat) (s : Acc18) (w : World) (hg : w.heap[g]? = some (.cells (acells s m) 52 (0, 0))) (q0 : (s.n == 0) = false) (o1 o2 : Int) (hO1 : value_Order.f v.f0 v.f1 v.f2 v.f3 s.lo.f0 s.lo.f1 s.lo.f2 s.lo.f3 = some o1) (hO2 : value_Order.f v.f0 v.f1 v.f2 v.f3 s.hi.f0 s.hi.f1 s.hi.f2 s.hi.f3 = some o2) (d1 : decide (o1 < 0) = false) (d2 : decide (0 < o2) = true) :
    Calls Try.prog 36 #[.pointer (some ⟨g, 0, none⟩), .agg (vc v)] w fun e w' => e = .returned (.tuple #[]) ∧ Step g w w' ∧ w'.heap[g]? = some (.cells (acells { s with n := wrap64 (s.n + 1), hi := v } m) 52 (0, 0)) := by
  have HB := Aside0.mk (Below.refl w.heap.size w)
  have BG := Aside0.mk hg
  clear hg
  have hu52 := Try.underlying52
  have hu26 := Try.underlying26
  have hu50 := Try.underlying50
  have HO1 := Aside0.mk hO1
  have HO2 := Aside0.mk hO2
  clear hO1 hO2
  go_enter Try.func36, Try.ntmps36
  go_wp2_with (first
    | ((with_reducible refine gate_dst (N := 3) rfl ?_); refine box_event ?hg (N := 3) ?hd (cs := (vc v)) (t := 26) ?hr ?_; (case hd => rfl); (case hg => rfl); (case hr => first | (go_simp; done) | (go_simp; rfl)); intro gv hg w1 hbox hb; have BV := Aside0.mk hbox; have GEBV := Aside0.mk ((by rw [hg]; exact (below_size HB.out)) : w.heap.size ≤ gv); have NBGBV := Aside0.mk ((by rw [hg]; exact Nat.ne_of_lt (blk_lt BG.out)) : g ≠ gv); have b_BG := Aside0.mk (blk_below BG.out hb); have b_HB := Aside0.mk (below_step HB.out hb); clear HB BG; have HB := b_HB; have BG := b_BG; clear b_HB b_BG; clear hbox hg hb; obtain ⟨ha0, ha1, ha2, ha3, ha4, ha5, ha6, ha7, ha8, ha9, ha10, ha11, ha12⟩ := acc_facts BG.out; have hv0 : w1.cell? ⟨gv, 0, none⟩ = some (.int .i64 v.f0) := (blk_cell BV.out 0).trans rfl; have hv1 : w1.cell? ⟨gv, 1, none⟩ = some (.int .i64 v.f1) := (blk_cell BV.out 1).trans rfl; have hv2 : w1.cell? ⟨gv, 2, none⟩ = some (.string v.f2) := (blk_cell BV.out 2).trans rfl; have hv3 : w1.cell? ⟨gv, 3, none⟩ = some (.bool v.f3) := (blk_cell BV.out 3).trans rfl; have NBV := Aside0.mk (show gv ≠ g from NBGBV.out.symm); have ST := Aside0.mk (Step.of_below (g := g) HB.out)))
  have HSS1 : Aside0 (∀ W0 : World, Below w1.heap.size w1 W0 → (W0.cell? ⟨g, 1, none⟩ = some (.int .i64 s.n) ∧ W0.cell? ⟨g, 4, none⟩ = some (.int .i64 s.lo.f0) ∧ W0.cell? ⟨g, 5, none⟩ = some (.int .i64 s.lo.f1) ∧ W0.cell? ⟨g, 6, none⟩ = some (.string s.lo.f2) ∧ W0.cell? ⟨g, 7, none⟩ = some (.bool s.lo.f3) ∧ W0.cell? ⟨gv, 0, none⟩ = some (.int .i64 v.f0) ∧ W0.cell? ⟨gv, 1, none⟩ = some (.int .i64 v.f1) ∧ W0.cell? ⟨gv, 2, none⟩ = some (.string v.f2) ∧ W0.cell? ⟨gv, 3, none⟩ = some (.bool v.f3) ∧ Below w1.heap.size w1 W0)) := Aside0.mk (fun W0 hbq => ⟨(blk_cell (blk_below BG.out hbq) 1).trans rfl, (blk_cell (blk_below BG.out hbq) 4).trans rfl, (blk_cell (blk_below BG.out hbq) 5).trans rfl, (blk_cell (blk_below BG.out hbq) 6).trans rfl, (blk_cell (blk_below BG.out hbq) 7).trans rfl, (blk_cell (blk_below BV.out hbq) 0).trans rfl, (blk_cell (blk_below BV.out hbq) 1).trans rfl, (blk_cell (blk_below BV.out hbq) 2).trans rfl, (blk_cell (blk_below BV.out hbq) 3).trans rfl, hbq⟩)
  go_region_held3 (fun W0 : World => W0.cell? ⟨g, 1, none⟩ = some (.int .i64 s.n) ∧ W0.cell? ⟨g, 4, none⟩ = some (.int .i64 s.lo.f0) ∧ W0.cell? ⟨g, 5, none⟩ = some (.int .i64 s.lo.f1) ∧ W0.cell? ⟨g, 6, none⟩ = some (.string s.lo.f2) ∧ W0.cell? ⟨g, 7, none⟩ = some (.bool s.lo.f3) ∧ W0.cell? ⟨gv, 0, none⟩ = some (.int .i64 v.f0) ∧ W0.cell? ⟨gv, 1, none⟩ = some (.int .i64 v.f1) ∧ W0.cell? ⟨gv, 2, none⟩ = some (.string v.f2) ∧ W0.cell? ⟨gv, 3, none⟩ = some (.bool v.f3) ∧ Below w1.heap.size w1 W0) (exact HSS1.out _ (by repeat (first | (with_reducible exact HBX.out) | (with_reducible exact Below.refl _ _) | (with_reducible apply below_drew1) | (with_reducible apply pw_below_drewN)))) (first
    | (go_at_call 43; refine (value_Order.calls v.f0 v.f1 v.f2 v.f3 s.lo.f0 s.lo.f1 s.lo.f2 s.lo.f3 o1 _ HO1.out).mono ?_; rintro e w41 ⟨rfl, hbn⟩; have HBX := Aside0.mk (show Below w1.heap.size w1 w41 from below_step (by go_split_ands; assumption) hbn); clear hbn))
  have ST1 := Aside0.mk (Step.below ST.out HBX.out)
  have BG1 := Aside0.mk (blk_below BG.out HBX.out)
  have BV1 := Aside0.mk (blk_below BV.out HBX.out)
  clear ST BG BV HBX
  have ST := ST1
  have BG := BG1
  have BV := BV1
  clear ST1 BG1 BV1
  have ha0 : w41.cell? ⟨g, 0, none⟩ = some (.int .i64 s.fn) := (blk_cell BG.out 0).trans rfl
  have ha1 : w41.cell? ⟨g, 1, none⟩ = some (.int .i64 s.n) := (blk_cell BG.out 1).trans rfl
  have ha2 : w41.cell? ⟨g, 2, none⟩ = some (.int .u64 (hiW s.tot)) := (blk_cell BG.out 2).trans rfl
  have ha3 : w41.cell? ⟨g, 3, none⟩ = some (.int .u64 (loW s.tot)) := (blk_cell BG.out 3).trans rfl
  have ha4 : w41.cell? ⟨g, 4, none⟩ = some (.int .i64 s.lo.f0) := (blk_cell BG.out 4).trans rfl
  have ha5 : w41.cell? ⟨g, 5, none⟩ = some (.int .i64 s.lo.f1) := (blk_cell BG.out 5).trans rfl
  have ha6 : w41.cell? ⟨g, 6, none⟩ = some (.string s.lo.f2) := (blk_cell BG.out 6).trans rfl
  have ha7 : w41.cell? ⟨g, 7, none⟩ = some (.bool s.lo.f3) := (blk_cell BG.out 7).trans rfl
  have ha8 : w41.cell? ⟨g, 8, none⟩ = some (.int .i64 s.hi.f0) := (blk_cell BG.out 8).trans rfl
  have ha9 : w41.cell? ⟨g, 9, none⟩ = some (.int .i64 s.hi.f1) := (blk_cell BG.out 9).trans rfl
  have ha10 : w41.cell? ⟨g, 10, none⟩ = some (.string s.hi.f2) := (blk_cell BG.out 10).trans rfl
  have ha11 : w41.cell? ⟨g, 11, none⟩ = some (.bool s.hi.f3) := (blk_cell BG.out 11).trans rfl
  have hv0 : w41.cell? ⟨gv, 0, none⟩ = some (.int .i64 v.f0) := (blk_cell BV.out 0).trans rfl
  have hv1 : w41.cell? ⟨gv, 1, none⟩ = some (.int .i64 v.f1) := (blk_cell BV.out 1).trans rfl
  have hv2 : w41.cell? ⟨gv, 2, none⟩ = some (.string v.f2) := (blk_cell BV.out 2).trans rfl
  have hv3 : w41.cell? ⟨gv, 3, none⟩ = some (.bool v.f3) := (blk_cell BV.out 3).trans rfl
  go_wp2_with fail
  have HSS2 : Aside0 (∀ W0 : World, Below w41.heap.size w41 W0 → (W0.cell? ⟨g, 1, none⟩ = some (.int .i64 s.n) ∧ W0.cell? ⟨g, 8, none⟩ = some (.int .i64 s.hi.f0) ∧ W0.cell? ⟨g, 9, none⟩ = some (.int .i64 s.hi.f1) ∧ W0.cell? ⟨g, 10, none⟩ = some (.string s.hi.f2) ∧ W0.cell? ⟨g, 11, none⟩ = some (.bool s.hi.f3) ∧ W0.cell? ⟨gv, 0, none⟩ = some (.int .i64 v.f0) ∧ W0.cell? ⟨gv, 1, none⟩ = some (.int .i64 v.f1) ∧ W0.cell? ⟨gv, 2, none⟩ = some (.string v.f2) ∧ W0.cell? ⟨gv, 3, none⟩ = some (.bool v.f3) ∧ Below w41.heap.size w41 W0)) := Aside0.mk (fun W0 hbq => ⟨(blk_cell (blk_below BG.out hbq) 1).trans rfl, (blk_cell (blk_below BG.out hbq) 8).trans rfl, (blk_cell (blk_below BG.out hbq) 9).trans rfl, (blk_cell (blk_below BG.out hbq) 10).trans rfl, (blk_cell (blk_below BG.out hbq) 11).trans rfl, (blk_cell (blk_below BV.out hbq) 0).trans rfl, (blk_cell (blk_below BV.out hbq) 1).trans rfl, (blk_cell (blk_below BV.out hbq) 2).trans rfl, (blk_cell (blk_below BV.out hbq) 3).trans rfl, hbq⟩)
  go_region_held3 (fun W0 : World => W0.cell? ⟨g, 1, none⟩ = some (.int .i64 s.n) ∧ W0.cell? ⟨g, 8, none⟩ = some (.int .i64 s.hi.f0) ∧ W0.cell? ⟨g, 9, none⟩ = some (.int .i64 s.hi.f1) ∧ W0.cell? ⟨g, 10, none⟩ = some (.string s.hi.f2) ∧ W0.cell? ⟨g, 11, none⟩ = some (.bool s.hi.f3) ∧ W0.cell? ⟨gv, 0, none⟩ = some (.int .i64 v.f0) ∧ W0.cell? ⟨gv, 1, none⟩ = some (.int .i64 v.f1) ∧ W0.cell? ⟨gv, 2, none⟩ = some (.string v.f2) ∧ W0.cell? ⟨gv, 3, none⟩ = some (.bool v.f3) ∧ Below w41.heap.size w41 W0) (exact HSS2.out _ (by repeat (first | (with_reducible exact HBX.out) | (with_reducible exact Below.refl _ _) | (with_reducible apply below_drew1) | (with_reducible apply pw_below_drewN)))) (first
    | (go_at_call 43; refine (value_Order.calls v.f0 v.f1 v.f2 v.f3 s.hi.f0 s.hi.f1 s.hi.f2 s.hi.f3 o2 _ HO2.out).mono ?_; rintro e w42 ⟨rfl, hbn⟩; have HBX := Aside0.mk (show Below w41.heap.size w41 w42 from below_step (by go_split_ands; assumption) hbn); clear hbn))
  have ST1 := Aside0.mk (Step.below ST.out HBX.out)
  have BG1 := Aside0.mk (blk_below BG.out HBX.out)
  have BV1 := Aside0.mk (blk_below BV.out HBX.out)
  clear ST BG BV HBX
  have ST := ST1
  have BG := BG1
  have BV := BV1
  clear ST1 BG1 BV1
  have ha0 : w42.cell? ⟨g, 0, none⟩ = some (.int .i64 s.fn) := (blk_cell BG.out 0).trans rfl
  have ha1 : w42.cell? ⟨g, 1, none⟩ = some (.int .i64 s.n) := (blk_cell BG.out 1).trans rfl
  have ha2 : w42.cell? ⟨g, 2, none⟩ = some (.int .u64 (hiW s.tot)) := (blk_cell BG.out 2).trans rfl
  have ha3 : w42.cell? ⟨g, 3, none⟩ = some (.int .u64 (loW s.tot)) := (blk_cell BG.out 3).trans rfl
  have ha4 : w42.cell? ⟨g, 4, none⟩ = some (.int .i64 s.lo.f0) := (blk_cell BG.out 4).trans rfl
  have ha5 : w42.cell? ⟨g, 5, none⟩ = some (.int .i64 s.lo.f1) := (blk_cell BG.out 5).trans rfl
  have ha6 : w42.cell? ⟨g, 6, none⟩ = some (.string s.lo.f2) := (blk_cell BG.out 6).trans rfl
  have ha7 : w42.cell? ⟨g, 7, none⟩ = some (.bool s.lo.f3) := (blk_cell BG.out 7).trans rfl
  have ha8 : w42.cell? ⟨g, 8, none⟩ = some (.int .i64 s.hi.f0) := (blk_cell BG.out 8).trans rfl
  have ha9 : w42.cell? ⟨g, 9, none⟩ = some (.int .i64 s.hi.f1) := (blk_cell BG.out 9).trans rfl
  have ha10 : w42.cell? ⟨g, 10, none⟩ = some (.string s.hi.f2) := (blk_cell BG.out 10).trans rfl
  have ha11 : w42.cell? ⟨g, 11, none⟩ = some (.bool s.hi.f3) := (blk_cell BG.out 11).trans rfl
  have hv0 : w42.cell? ⟨gv, 0, none⟩ = some (.int .i64 v.f0) := (blk_cell BV.out 0).trans rfl
  have hv1 : w42.cell? ⟨gv, 1, none⟩ = some (.int .i64 v.f1) := (blk_cell BV.out 1).trans rfl
  have hv2 : w42.cell? ⟨gv, 2, none⟩ = some (.string v.f2) := (blk_cell BV.out 2).trans rfl
  have hv3 : w42.cell? ⟨gv, 3, none⟩ = some (.bool v.f3) := (blk_cell BV.out 3).trans rfl
  go_wp2_with (first
    | ((with_reducible refine gate_ (.store 26 (.tmp 39) (.tmp 37)) rfl ?_); go_loud (refine wpList_storeR rfl rfl 26 (.tmp 39) (.tmp 37) rfl g 8 rfl (.agg (vc v)) rfl (vc v).toList rfl (acells s m) 52 BG.out size26 (by simp) (by simp [Value.oneCell']) (acells { s with hi := v } m) rfl ?_); intro w6 hs st; have ST2 := Aside0.mk (Step.trans ST.out st); have BV2 := Aside0.mk (st.blk BV.out NBV.out); clear ST BG BV; have ST := ST2; have BV := BV2; have BG := Aside0.mk hs; clear ST2 BV2 hs st; have ha0 : w6.cell? ⟨g, 0, none⟩ = some (.int .i64 s.fn) := (blk_cell BG.out 0).trans rfl; have ha1 : w6.cell? ⟨g, 1, none⟩ = some (.int .i64 s.n) := (blk_cell BG.out 1).trans rfl; have ha2 : w6.cell? ⟨g, 2, none⟩ = some (.int .u64 (hiW s.tot)) := (blk_cell BG.out 2).trans rfl; have ha3 : w6.cell? ⟨g, 3, none⟩ = some (.int .u64 (loW s.tot)) := (blk_cell BG.out 3).trans rfl; have ha4 : w6.cell? ⟨g, 4, none⟩ = some (.int .i64 s.lo.f0) := (blk_cell BG.out 4).trans rfl; have ha5 : w6.cell? ⟨g, 5, none⟩ = some (.int .i64 s.lo.f1) := (blk_cell BG.out 5).trans rfl; have ha6 : w6.cell? ⟨g, 6, none⟩ = some (.string s.lo.f2) := (blk_cell BG.out 6).trans rfl; have ha7 : w6.cell? ⟨g, 7, none⟩ = some (.bool s.lo.f3) := (blk_cell BG.out 7).trans rfl; have ha8 : w6.cell? ⟨g, 8, none⟩ = some (.int .i64 v.f0) := (blk_cell BG.out 8).trans rfl; have ha9 : w6.cell? ⟨g, 9, none⟩ = some (.int .i64 v.f1) := (blk_cell BG.out 9).trans rfl; have ha10 : w6.cell? ⟨g, 10, none⟩ = some (.string v.f2) := (blk_cell BG.out 10).trans rfl; have ha11 : w6.cell? ⟨g, 11, none⟩ = some (.bool v.f3) := (blk_cell BG.out 11).trans rfl; have hv0 : w6.cell? ⟨gv, 0, none⟩ = some (.int .i64 v.f0) := (blk_cell BV.out 0).trans rfl; have hv1 : w6.cell? ⟨gv, 1, none⟩ = some (.int .i64 v.f1) := (blk_cell BV.out 1).trans rfl; have hv2 : w6.cell? ⟨gv, 2, none⟩ = some (.string v.f2) := (blk_cell BV.out 2).trans rfl; have hv3 : w6.cell? ⟨gv, 3, none⟩ = some (.bool v.f3) := (blk_cell BV.out 3).trans rfl)
    | ((with_reducible refine gate_ (.store 3 (.tmp 46) (.tmp 44)) rfl ?_); go_loud (refine wpList_storeR rfl rfl 3 (.tmp 46) (.tmp 44) rfl g 1 rfl (.int .i64 (wrap64 (s.n + 1))) rfl [.int .i64 (wrap64 (s.n + 1))] rfl (acells { s with hi := v } m) 52 BG.out size3 (by simp) (by simp [Value.oneCell']) (acells { s with n := wrap64 (s.n + 1), hi := v } m) rfl ?_); intro w7 hs st; have ST2 := Aside0.mk (Step.trans ST.out st); have BV2 := Aside0.mk (st.blk BV.out NBV.out); clear ST BG BV; have ST := ST2; have BV := BV2; have BG := Aside0.mk hs; clear ST2 BV2 hs st))
  go_end0
  exact ⟨rfl, ST.out, BG.out⟩
theorem agg_spread.yy (v : S26) (g m : Nat) (s : Acc18) (w : World) (hg : w.heap[g]? = some (.cells (acells s m) 52 (0, 0))) (q0 : (s.n == 0) = false) (o1 o2 : Int) (hO1 : value_Order.f v.f0 v.f1 v.f2 v.f3 s.lo.f0 s.lo.f1 s.lo.f2 s.lo.f3 = some o1) (hO2 : value_Order.f v.f0 v.f1 v.f2 v.f3 s.hi.f0 s.hi.f1 s.hi.f2 s.hi.f3 = some o2) (d1 : decide (o1 < 0) = true) (d2 : decide (0 < o2) = true) :
    Calls Try.prog 36 #[.pointer (some ⟨g, 0, none⟩), .agg (vc v)] w fun e w' => e = .returned (.tuple #[]) ∧ Step g w w' ∧ w'.heap[g]? = some (.cells (acells { s with n := wrap64 (s.n + 1), lo := v, hi := v } m) 52 (0, 0)) := by
  have HB := Aside0.mk (Below.refl w.heap.size w)
  have BG := Aside0.mk hg
  clear hg
  have hu52 := Try.underlying52
  have hu26 := Try.underlying26
  have hu50 := Try.underlying50
  have HO1 := Aside0.mk hO1
  have HO2 := Aside0.mk hO2
  clear hO1 hO2
  go_enter Try.func36, Try.ntmps36
  go_wp2_with (first
    | ((with_reducible refine gate_dst (N := 3) rfl ?_); refine box_event ?hg (N := 3) ?hd (cs := (vc v)) (t := 26) ?hr ?_; (case hd => rfl); (case hg => rfl); (case hr => first | (go_simp; done) | (go_simp; rfl)); intro gv hg w1 hbox hb; have BV := Aside0.mk hbox; have GEBV := Aside0.mk ((by rw [hg]; exact (below_size HB.out)) : w.heap.size ≤ gv); have NBGBV := Aside0.mk ((by rw [hg]; exact Nat.ne_of_lt (blk_lt BG.out)) : g ≠ gv); have b_BG := Aside0.mk (blk_below BG.out hb); have b_HB := Aside0.mk (below_step HB.out hb); clear HB BG; have HB := b_HB; have BG := b_BG; clear b_HB b_BG; clear hbox hg hb; obtain ⟨ha0, ha1, ha2, ha3, ha4, ha5, ha6, ha7, ha8, ha9, ha10, ha11, ha12⟩ := acc_facts BG.out; have hv0 : w1.cell? ⟨gv, 0, none⟩ = some (.int .i64 v.f0) := (blk_cell BV.out 0).trans rfl; have hv1 : w1.cell? ⟨gv, 1, none⟩ = some (.int .i64 v.f1) := (blk_cell BV.out 1).trans rfl; have hv2 : w1.cell? ⟨gv, 2, none⟩ = some (.string v.f2) := (blk_cell BV.out 2).trans rfl; have hv3 : w1.cell? ⟨gv, 3, none⟩ = some (.bool v.f3) := (blk_cell BV.out 3).trans rfl; have NBV := Aside0.mk (show gv ≠ g from NBGBV.out.symm); have ST := Aside0.mk (Step.of_below (g := g) HB.out)))
  have HSS1 : Aside0 (∀ W0 : World, Below w1.heap.size w1 W0 → (W0.cell? ⟨g, 1, none⟩ = some (.int .i64 s.n) ∧ W0.cell? ⟨g, 4, none⟩ = some (.int .i64 s.lo.f0) ∧ W0.cell? ⟨g, 5, none⟩ = some (.int .i64 s.lo.f1) ∧ W0.cell? ⟨g, 6, none⟩ = some (.string s.lo.f2) ∧ W0.cell? ⟨g, 7, none⟩ = some (.bool s.lo.f3) ∧ W0.cell? ⟨gv, 0, none⟩ = some (.int .i64 v.f0) ∧ W0.cell? ⟨gv, 1, none⟩ = some (.int .i64 v.f1) ∧ W0.cell? ⟨gv, 2, none⟩ = some (.string v.f2) ∧ W0.cell? ⟨gv, 3, none⟩ = some (.bool v.f3) ∧ Below w1.heap.size w1 W0)) := Aside0.mk (fun W0 hbq => ⟨(blk_cell (blk_below BG.out hbq) 1).trans rfl, (blk_cell (blk_below BG.out hbq) 4).trans rfl, (blk_cell (blk_below BG.out hbq) 5).trans rfl, (blk_cell (blk_below BG.out hbq) 6).trans rfl, (blk_cell (blk_below BG.out hbq) 7).trans rfl, (blk_cell (blk_below BV.out hbq) 0).trans rfl, (blk_cell (blk_below BV.out hbq) 1).trans rfl, (blk_cell (blk_below BV.out hbq) 2).trans rfl, (blk_cell (blk_below BV.out hbq) 3).trans rfl, hbq⟩)
  go_region_held3 (fun W0 : World => W0.cell? ⟨g, 1, none⟩ = some (.int .i64 s.n) ∧ W0.cell? ⟨g, 4, none⟩ = some (.int .i64 s.lo.f0) ∧ W0.cell? ⟨g, 5, none⟩ = some (.int .i64 s.lo.f1) ∧ W0.cell? ⟨g, 6, none⟩ = some (.string s.lo.f2) ∧ W0.cell? ⟨g, 7, none⟩ = some (.bool s.lo.f3) ∧ W0.cell? ⟨gv, 0, none⟩ = some (.int .i64 v.f0) ∧ W0.cell? ⟨gv, 1, none⟩ = some (.int .i64 v.f1) ∧ W0.cell? ⟨gv, 2, none⟩ = some (.string v.f2) ∧ W0.cell? ⟨gv, 3, none⟩ = some (.bool v.f3) ∧ Below w1.heap.size w1 W0) (exact HSS1.out _ (by repeat (first | (with_reducible exact HBX.out) | (with_reducible exact Below.refl _ _) | (with_reducible apply below_drew1) | (with_reducible apply pw_below_drewN)))) (first
    | (go_at_call 43; refine (value_Order.calls v.f0 v.f1 v.f2 v.f3 s.lo.f0 s.lo.f1 s.lo.f2 s.lo.f3 o1 _ HO1.out).mono ?_; rintro e w41 ⟨rfl, hbn⟩; have HBX := Aside0.mk (show Below w1.heap.size w1 w41 from below_step (by go_split_ands; assumption) hbn); clear hbn))
  have ST1 := Aside0.mk (Step.below ST.out HBX.out)
  have BG1 := Aside0.mk (blk_below BG.out HBX.out)
  have BV1 := Aside0.mk (blk_below BV.out HBX.out)
  clear ST BG BV HBX
  have ST := ST1
  have BG := BG1
  have BV := BV1
  clear ST1 BG1 BV1
  have ha0 : w41.cell? ⟨g, 0, none⟩ = some (.int .i64 s.fn) := (blk_cell BG.out 0).trans rfl
  have ha1 : w41.cell? ⟨g, 1, none⟩ = some (.int .i64 s.n) := (blk_cell BG.out 1).trans rfl
  have ha2 : w41.cell? ⟨g, 2, none⟩ = some (.int .u64 (hiW s.tot)) := (blk_cell BG.out 2).trans rfl
  have ha3 : w41.cell? ⟨g, 3, none⟩ = some (.int .u64 (loW s.tot)) := (blk_cell BG.out 3).trans rfl
  have ha4 : w41.cell? ⟨g, 4, none⟩ = some (.int .i64 s.lo.f0) := (blk_cell BG.out 4).trans rfl
  have ha5 : w41.cell? ⟨g, 5, none⟩ = some (.int .i64 s.lo.f1) := (blk_cell BG.out 5).trans rfl
  have ha6 : w41.cell? ⟨g, 6, none⟩ = some (.string s.lo.f2) := (blk_cell BG.out 6).trans rfl
  have ha7 : w41.cell? ⟨g, 7, none⟩ = some (.bool s.lo.f3) := (blk_cell BG.out 7).trans rfl
  have ha8 : w41.cell? ⟨g, 8, none⟩ = some (.int .i64 s.hi.f0) := (blk_cell BG.out 8).trans rfl
  have ha9 : w41.cell? ⟨g, 9, none⟩ = some (.int .i64 s.hi.f1) := (blk_cell BG.out 9).trans rfl
  have ha10 : w41.cell? ⟨g, 10, none⟩ = some (.string s.hi.f2) := (blk_cell BG.out 10).trans rfl
  have ha11 : w41.cell? ⟨g, 11, none⟩ = some (.bool s.hi.f3) := (blk_cell BG.out 11).trans rfl
  have hv0 : w41.cell? ⟨gv, 0, none⟩ = some (.int .i64 v.f0) := (blk_cell BV.out 0).trans rfl
  have hv1 : w41.cell? ⟨gv, 1, none⟩ = some (.int .i64 v.f1) := (blk_cell BV.out 1).trans rfl
  have hv2 : w41.cell? ⟨gv, 2, none⟩ = some (.string v.f2) := (blk_cell BV.out 2).trans rfl
  have hv3 : w41.cell? ⟨gv, 3, none⟩ = some (.bool v.f3) := (blk_cell BV.out 3).trans rfl
  go_wp2_with (first | ((with_reducible refine gate_ (.store 26 (.tmp 21) (.tmp 19)) rfl ?_); go_loud (refine wpList_storeR rfl rfl 26 (.tmp 21) (.tmp 19) rfl g 4 rfl (.agg (vc v)) rfl (vc v).toList rfl (acells s m) 52 BG.out size26 (by simp) (by simp [Value.oneCell']) (acells { s with lo := v } m) rfl ?_); intro w5 hs st; have ST2 := Aside0.mk (Step.trans ST.out st); have BV2 := Aside0.mk (st.blk BV.out NBV.out); clear ST BG BV; have ST := ST2; have BV := BV2; have BG := Aside0.mk hs; clear ST2 BV2 hs st; have ha0 : w5.cell? ⟨g, 0, none⟩ = some (.int .i64 s.fn) := (blk_cell BG.out 0).trans rfl; have ha1 : w5.cell? ⟨g, 1, none⟩ = some (.int .i64 s.n) := (blk_cell BG.out 1).trans rfl; have ha2 : w5.cell? ⟨g, 2, none⟩ = some (.int .u64 (hiW s.tot)) := (blk_cell BG.out 2).trans rfl; have ha3 : w5.cell? ⟨g, 3, none⟩ = some (.int .u64 (loW s.tot)) := (blk_cell BG.out 3).trans rfl; have ha4 : w5.cell? ⟨g, 4, none⟩ = some (.int .i64 v.f0) := (blk_cell BG.out 4).trans rfl; have ha5 : w5.cell? ⟨g, 5, none⟩ = some (.int .i64 v.f1) := (blk_cell BG.out 5).trans rfl; have ha6 : w5.cell? ⟨g, 6, none⟩ = some (.string v.f2) := (blk_cell BG.out 6).trans rfl; have ha7 : w5.cell? ⟨g, 7, none⟩ = some (.bool v.f3) := (blk_cell BG.out 7).trans rfl; have ha8 : w5.cell? ⟨g, 8, none⟩ = some (.int .i64 s.hi.f0) := (blk_cell BG.out 8).trans rfl; have ha9 : w5.cell? ⟨g, 9, none⟩ = some (.int .i64 s.hi.f1) := (blk_cell BG.out 9).trans rfl; have ha10 : w5.cell? ⟨g, 10, none⟩ = some (.string s.hi.f2) := (blk_cell BG.out 10).trans rfl; have ha11 : w5.cell? ⟨g, 11, none⟩ = some (.bool s.hi.f3) := (blk_cell BG.out 11).trans rfl; have hv0 : w5.cell? ⟨gv, 0, none⟩ = some (.int .i64 v.f0) := (blk_cell BV.out 0).trans rfl; have hv1 : w5.cell? ⟨gv, 1, none⟩ = some (.int .i64 v.f1) := (blk_cell BV.out 1).trans rfl; have hv2 : w5.cell? ⟨gv, 2, none⟩ = some (.string v.f2) := (blk_cell BV.out 2).trans rfl; have hv3 : w5.cell? ⟨gv, 3, none⟩ = some (.bool v.f3) := (blk_cell BV.out 3).trans rfl))
  have HSS2 : Aside0 (∀ W0 : World, Below w5.heap.size w5 W0 → (W0.cell? ⟨g, 1, none⟩ = some (.int .i64 s.n) ∧ W0.cell? ⟨g, 8, none⟩ = some (.int .i64 s.hi.f0) ∧ W0.cell? ⟨g, 9, none⟩ = some (.int .i64 s.hi.f1) ∧ W0.cell? ⟨g, 10, none⟩ = some (.string s.hi.f2) ∧ W0.cell? ⟨g, 11, none⟩ = some (.bool s.hi.f3) ∧ W0.cell? ⟨gv, 0, none⟩ = some (.int .i64 v.f0) ∧ W0.cell? ⟨gv, 1, none⟩ = some (.int .i64 v.f1) ∧ W0.cell? ⟨gv, 2, none⟩ = some (.string v.f2) ∧ W0.cell? ⟨gv, 3, none⟩ = some (.bool v.f3) ∧ Below w5.heap.size w5 W0)) := Aside0.mk (fun W0 hbq => ⟨(blk_cell (blk_below BG.out hbq) 1).trans rfl, (blk_cell (blk_below BG.out hbq) 8).trans rfl, (blk_cell (blk_below BG.out hbq) 9).trans rfl, (blk_cell (blk_below BG.out hbq) 10).trans rfl, (blk_cell (blk_below BG.out hbq) 11).trans rfl, (blk_cell (blk_below BV.out hbq) 0).trans rfl, (blk_cell (blk_below BV.out hbq) 1).trans rfl, (blk_cell (blk_below BV.out hbq) 2).trans rfl, (blk_cell (blk_below BV.out hbq) 3).trans rfl, hbq⟩)
  go_region_held3 (fun W0 : World => W0.cell? ⟨g, 1, none⟩ = some (.int .i64 s.n) ∧ W0.cell? ⟨g, 8, none⟩ = some (.int .i64 s.hi.f0) ∧ W0.cell? ⟨g, 9, none⟩ = some (.int .i64 s.hi.f1) ∧ W0.cell? ⟨g, 10, none⟩ = some (.string s.hi.f2) ∧ W0.cell? ⟨g, 11, none⟩ = some (.bool s.hi.f3) ∧ W0.cell? ⟨gv, 0, none⟩ = some (.int .i64 v.f0) ∧ W0.cell? ⟨gv, 1, none⟩ = some (.int .i64 v.f1) ∧ W0.cell? ⟨gv, 2, none⟩ = some (.string v.f2) ∧ W0.cell? ⟨gv, 3, none⟩ = some (.bool v.f3) ∧ Below w5.heap.size w5 W0) (exact HSS2.out _ (by repeat (first | (with_reducible exact HBX.out) | (with_reducible exact Below.refl _ _) | (with_reducible apply below_drew1) | (with_reducible apply pw_below_drewN)))) (first
    | (go_at_call 43; refine (value_Order.calls v.f0 v.f1 v.f2 v.f3 s.hi.f0 s.hi.f1 s.hi.f2 s.hi.f3 o2 _ HO2.out).mono ?_; rintro e w42 ⟨rfl, hbn⟩; have HBX := Aside0.mk (show Below w5.heap.size w5 w42 from below_step (by go_split_ands; assumption) hbn); clear hbn))
  have ST1 := Aside0.mk (Step.below ST.out HBX.out)
  have BG1 := Aside0.mk (blk_below BG.out HBX.out)
  have BV1 := Aside0.mk (blk_below BV.out HBX.out)
  clear ST BG BV HBX
  have ST := ST1
  have BG := BG1
  have BV := BV1
  clear ST1 BG1 BV1
  have ha0 : w42.cell? ⟨g, 0, none⟩ = some (.int .i64 s.fn) := (blk_cell BG.out 0).trans rfl
  have ha1 : w42.cell? ⟨g, 1, none⟩ = some (.int .i64 s.n) := (blk_cell BG.out 1).trans rfl
  have ha2 : w42.cell? ⟨g, 2, none⟩ = some (.int .u64 (hiW s.tot)) := (blk_cell BG.out 2).trans rfl
  have ha3 : w42.cell? ⟨g, 3, none⟩ = some (.int .u64 (loW s.tot)) := (blk_cell BG.out 3).trans rfl
  have ha4 : w42.cell? ⟨g, 4, none⟩ = some (.int .i64 v.f0) := (blk_cell BG.out 4).trans rfl
  have ha5 : w42.cell? ⟨g, 5, none⟩ = some (.int .i64 v.f1) := (blk_cell BG.out 5).trans rfl
  have ha6 : w42.cell? ⟨g, 6, none⟩ = some (.string v.f2) := (blk_cell BG.out 6).trans rfl
  have ha7 : w42.cell? ⟨g, 7, none⟩ = some (.bool v.f3) := (blk_cell BG.out 7).trans rfl
  have ha8 : w42.cell? ⟨g, 8, none⟩ = some (.int .i64 s.hi.f0) := (blk_cell BG.out 8).trans rfl
  have ha9 : w42.cell? ⟨g, 9, none⟩ = some (.int .i64 s.hi.f1) := (blk_cell BG.out 9).trans rfl
  have ha10 : w42.cell? ⟨g, 10, none⟩ = some (.string s.hi.f2) := (blk_cell BG.out 10).trans rfl
  have ha11 : w42.cell? ⟨g, 11, none⟩ = some (.bool s.hi.f3) := (blk_cell BG.out 11).trans rfl
  have hv0 : w42.cell? ⟨gv, 0, none⟩ = some (.int .i64 v.f0) := (blk_cell BV.out 0).trans rfl
  have hv1 : w42.cell? ⟨gv, 1, none⟩ = some (.int .i64 v.f1) := (blk_cell BV.out 1).trans rfl
  have hv2 : w42.cell? ⟨gv, 2, none⟩ = some (.string v.f2) := (blk_cell BV.out 2).trans rfl
  have hv3 : w42.cell? ⟨gv, 3, none⟩ = some (.bool v.f3) := (blk_cell BV.out 3).trans rfl
  go_wp2_with (first
    | ((with_reducible refine gate_ (.store 26 (.tmp 39) (.tmp 37)) rfl ?_); go_loud (refine wpList_storeR rfl rfl 26 (.tmp 39) (.tmp 37) rfl g 8 rfl (.agg (vc v)) rfl (vc v).toList rfl (acells { s with lo := v } m) 52 BG.out size26 (by simp) (by simp [Value.oneCell']) (acells { s with lo := v, hi := v } m) rfl ?_); intro w6 hs st; have ST2 := Aside0.mk (Step.trans ST.out st); have BV2 := Aside0.mk (st.blk BV.out NBV.out); clear ST BG BV; have ST := ST2; have BV := BV2; have BG := Aside0.mk hs; clear ST2 BV2 hs st; have ha0 : w6.cell? ⟨g, 0, none⟩ = some (.int .i64 s.fn) := (blk_cell BG.out 0).trans rfl; have ha1 : w6.cell? ⟨g, 1, none⟩ = some (.int .i64 s.n) := (blk_cell BG.out 1).trans rfl; have ha2 : w6.cell? ⟨g, 2, none⟩ = some (.int .u64 (hiW s.tot)) := (blk_cell BG.out 2).trans rfl; have ha3 : w6.cell? ⟨g, 3, none⟩ = some (.int .u64 (loW s.tot)) := (blk_cell BG.out 3).trans rfl; have ha4 : w6.cell? ⟨g, 4, none⟩ = some (.int .i64 v.f0) := (blk_cell BG.out 4).trans rfl; have ha5 : w6.cell? ⟨g, 5, none⟩ = some (.int .i64 v.f1) := (blk_cell BG.out 5).trans rfl; have ha6 : w6.cell? ⟨g, 6, none⟩ = some (.string v.f2) := (blk_cell BG.out 6).trans rfl; have ha7 : w6.cell? ⟨g, 7, none⟩ = some (.bool v.f3) := (blk_cell BG.out 7).trans rfl; have ha8 : w6.cell? ⟨g, 8, none⟩ = some (.int .i64 v.f0) := (blk_cell BG.out 8).trans rfl; have ha9 : w6.cell? ⟨g, 9, none⟩ = some (.int .i64 v.f1) := (blk_cell BG.out 9).trans rfl; have ha10 : w6.cell? ⟨g, 10, none⟩ = some (.string v.f2) := (blk_cell BG.out 10).trans rfl; have ha11 : w6.cell? ⟨g, 11, none⟩ = some (.bool v.f3) := (blk_cell BG.out 11).trans rfl; have hv0 : w6.cell? ⟨gv, 0, none⟩ = some (.int .i64 v.f0) := (blk_cell BV.out 0).trans rfl; have hv1 : w6.cell? ⟨gv, 1, none⟩ = some (.int .i64 v.f1) := (blk_cell BV.out 1).trans rfl; have hv2 : w6.cell? ⟨gv, 2, none⟩ = some (.string v.f2) := (blk_cell BV.out 2).trans rfl; have hv3 : w6.cell? ⟨gv, 3, none⟩ = some (.bool v.f3) := (blk_cell BV.out 3).trans rfl)
    | ((with_reducible refine gate_ (.store 3 (.tmp 46) (.tmp 44)) rfl ?_); go_loud (refine wpList_storeR rfl rfl 3 (.tmp 46) (.tmp 44) rfl g 1 rfl (.int .i64 (wrap64 (s.n + 1))) rfl [.int .i64 (wrap64 (s.n + 1))] rfl (acells { s with lo := v, hi := v } m) 52 BG.out size3 (by simp) (by simp [Value.oneCell']) (acells { s with n := wrap64 (s.n + 1), lo := v, hi := v } m) rfl ?_); intro w7 hs st; have ST2 := Aside0.mk (Step.trans ST.out st); have BV2 := Aside0.mk (st.blk BV.out NBV.out); clear ST BG BV; have ST := ST2; have BV := BV2; have BG := Aside0.mk hs; clear ST2 BV2 hs st))
  go_end0
  exact ⟨rfl, ST.out, BG.out⟩

/-- Two results, the first a variable of the function's own that holds a row. -/
theorem results_row_tmp {P : Program} {fn : Func} {p q : Tmp} {ty : TypeId} (h : fn.results = #[.cell p ty, .tmp q]) (tmps : Array Value) (w : World) (g : Nat) (t : TypeId) (cs : Array Value) (fr : Nat × Nat) (d : TypeDesc) (v : Value)
    (hp : tmps.getD p undef = .pointer (some ⟨g, 0, none⟩)) (hv : tmps.getD q undef = v) (hg : w.heap[g]? = some (.cells cs t fr))
    (hu : P.underlying ty = some d) (hd : (match d with | .struct _ | .array _ _ => true | _ => false) = true) (hi : (P.info? ty).map (·.size) = some cs.size) :
    (results fn tmps).run P w = .ok (.tuple #[.agg cs, v]) w := by
  have hp' : tmps[p]?.getD undef = .pointer (some ⟨g, 0, none⟩) := by simpa using hp
  have hv' : tmps[q]?.getD undef = v := by simpa using hv
  simp [results, h, hp', hv', asAddr, run_loadVar_row w g t ty cs fr d hg hu hd hi, Result.andThen]

theorem agg_distinct.calls (g m : Nat) (s : Acc18) (w : World) (hg : w.heap[g]? = some (.cells (acells s m) 52 (0, 0))) (v : S26) (es : Array MapEntry) (clock : Nat) (hm : w.heap[m]? = some (.map es clock)) (hs : Seen es.toList s.seen) :
    Calls Try.prog 38 #[.pointer (some ⟨g, 0, none⟩), .agg (vc v)] w fun e w' => e = .returned (.tuple #[]) ∧ Step m w w' ∧ ∃ es' clock', w'.heap[m]? = some (.map es' clock') ∧ Seen es'.toList (addV s.seen v) := by
  have HNM := Aside0.mk (show m ≠ g from fun e => by subst e; rw [hm] at hg; injection hg with h; cases h)
  have HB := Aside0.mk (Below.refl w.heap.size w)
  have BG := Aside0.mk hg
  clear hg
  have hu52 := Try.underlying52
  have hu26 := Try.underlying26
  have hu50 := Try.underlying50
  have BM := Aside0.mk hm
  have HS := Aside0.mk hs
  clear hm hs
  go_enter Try.func38, Try.ntmps38
  go_wp2_with (first
    | ((with_reducible refine gate_dst (N := 3) rfl ?_); refine box_event ?hg (N := 3) ?hd (cs := (vc v)) (t := 26) ?hr ?_; (case hd => rfl); (case hg => rfl); (case hr => first | (go_simp; done) | (go_simp; rfl)); intro gv hg w1 hbox hb; have BV := Aside0.mk hbox; have GEBV := Aside0.mk ((by rw [hg]; exact (below_size HB.out)) : w.heap.size ≤ gv); have NBGBV := Aside0.mk ((by rw [hg]; exact Nat.ne_of_lt (blk_lt BG.out)) : g ≠ gv); have NBMBV := Aside0.mk ((by rw [hg]; exact Nat.ne_of_lt (blk_lt BM.out)) : m ≠ gv); have b_BG := Aside0.mk (blk_below BG.out hb); have b_BM := Aside0.mk (blk_below BM.out hb); have b_HB := Aside0.mk (below_step HB.out hb); clear HB BG BM; have HB := b_HB; have BG := b_BG; have BM := b_BM; clear b_HB b_BG b_BM; clear hbox hg hb; have hn_ := blk_lt BM.out; have ha12 : w1.cell? ⟨g, 12, none⟩ = some (.map (some m)) := (blk_cell BG.out 12).trans rfl; have hv0 : w1.cell? ⟨gv, 0, none⟩ = some (.int .i64 v.f0) := (blk_cell BV.out 0).trans rfl; have hv1 : w1.cell? ⟨gv, 1, none⟩ = some (.int .i64 v.f1) := (blk_cell BV.out 1).trans rfl; have hv2 : w1.cell? ⟨gv, 2, none⟩ = some (.string v.f2) := (blk_cell BV.out 2).trans rfl; have hv3 : w1.cell? ⟨gv, 3, none⟩ = some (.bool v.f3) := (blk_cell BV.out 3).trans rfl))
  clear hn_
  obtain ⟨es', clock', hrun, hs'⟩ := run_mapUpdate26 v (.bool true) s.seen m es clock w1.drew BM.out HS.out
  have HS2 := Aside0.mk hs'
  have ST := Aside0.mk (show Step m w { w1.drew with heap := w1.drew.heap.setIfInBounds m (.map es' clock') } from Step.trans ((Step.of_below HB.out).drew) (step_setMap (w := w1.drew) BM.out _))
  have BM2 := Aside0.mk (show ({ w1.drew with heap := w1.drew.heap.setIfInBounds m (.map es' clock') } : World).heap[m]? = some (.map es' clock') from (MapKept.heap_set BM.out).1)
  clear hs'
  generalize ({ w1.drew with heap := w1.drew.heap.setIfInBounds m (.map es' clock') } : World) = W2 at hrun ST BM2
  go_region_law (fail)
  all_goals go_wp2
  all_goals go_end0
  all_goals exact ⟨rfl, ST.out, es', clock', BM2.out, HS2.out⟩
theorem run_len47 (m : Nat) (es : Array MapEntry) (clock : Nat) (W : World) (n : Nat) (hb : W.heap[m]? = some (.map es clock)) (hn : es.size = n) : (Builtin.len_ #[47] 3 #[.map (some m)]).run Try.prog W = .ok (.int .i64 (n : Int)) W := by
  subst hn
  exact run_len_map W 47 3 m es clock (by kernel_rfl) hb
theorem agg_least.calls (g m : Nat) (s : Acc18) (w : World) (hg : w.heap[g]? = some (.cells (acells s m) 52 (0, 0))) :
    Calls Try.prog 25 #[.pointer (some ⟨g, 0, none⟩)] w fun e w' => e = .returned (.tuple #[.agg (vc s.lo), .int .i64 0]) ∧ Below w.heap.size w w' := by
  have HB := Aside0.mk (Below.refl w.heap.size w)
  have BG := Aside0.mk hg
  clear hg
  have hu52 := Try.underlying52
  have hu26 := Try.underlying26
  have hu50 := Try.underlying50
  go_enter Try.func25, Try.ntmps25
  go_wp2_with (first
    | ((with_reducible refine gate_dst (N := 2) rfl ?_); refine box_event ?hg (N := 2) ?hd (cs := #[.int .i64 0, .int .i64 0, .string ⟨#[]⟩, .bool false]) (t := 26) ?hr ?_; (case hd => rfl); (case hg => rfl); (case hr => first | (go_simp; done) | (go_simp; rfl)); intro g2 hg w1 hbox hb; have B2 := Aside0.mk hbox; have GEB2 := Aside0.mk ((by rw [hg]; exact (below_size HB.out)) : w.heap.size ≤ g2); have NBGB2 := Aside0.mk ((by rw [hg]; exact Nat.ne_of_lt (blk_lt BG.out)) : g ≠ g2); have b_BG := Aside0.mk (blk_below BG.out hb); have b_HB := Aside0.mk (below_step HB.out hb); clear HB BG; have HB := b_HB; have BG := b_BG; clear b_HB b_BG; clear hbox hg hb; obtain ⟨ha0, ha1, ha2, ha3, ha4, ha5, ha6, ha7, ha8, ha9, ha10, ha11, ha12⟩ := acc_facts BG.out)
    | ((with_reducible refine gate_ (.store 26 (.tmp 2) (.tmp 7)) rfl ?_); go_loud (refine wpList_storeR rfl rfl 26 (.tmp 2) (.tmp 7) rfl g2 (0) rfl (.agg (vc s.lo)) rfl (vc s.lo).toList rfl #[.int .i64 0, .int .i64 0, .string ⟨#[]⟩, .bool false] 26 B2.out size26 (by simp) (by simp [Value.oneCell']) (vc s.lo) rfl ?_); intro w2 hs st; have b_BG := Aside0.mk (Step.blk st BG.out (NBGB2.out)); have b_HB := Aside0.mk (Step.fresh st HB.out GEB2.out); clear HB BG; have HB := b_HB; have BG := b_BG; clear b_HB b_BG; clear B2; have B2 := Aside0.mk hs; clear hs st))
  (try simp only [Exit.inBlock, Exit.then])
  refine bodyPost_ret (results_row_tmp rfl _ _ g2 26 (vc s.lo) (0, 0) _ (.int .i64 0) rfl rfl B2.out Try.underlying26 rfl size26) rfl ?_
  exact ⟨rfl, HB.out⟩
theorem agg_greatest.calls (g m : Nat) (s : Acc18) (w : World) (hg : w.heap[g]? = some (.cells (acells s m) 52 (0, 0))) :
    Calls Try.prog 26 #[.pointer (some ⟨g, 0, none⟩)] w fun e w' => e = .returned (.tuple #[.agg (vc s.hi), .int .i64 0]) ∧ Below w.heap.size w w' := by
  have HB := Aside0.mk (Below.refl w.heap.size w)
  have BG := Aside0.mk hg
  clear hg
  have hu52 := Try.underlying52
  have hu26 := Try.underlying26
  have hu50 := Try.underlying50
  go_enter Try.func26, Try.ntmps26
  go_wp2_with (first
    | ((with_reducible refine gate_dst (N := 2) rfl ?_); refine box_event ?hg (N := 2) ?hd (cs := #[.int .i64 0, .int .i64 0, .string ⟨#[]⟩, .bool false]) (t := 26) ?hr ?_; (case hd => rfl); (case hg => rfl); (case hr => first | (go_simp; done) | (go_simp; rfl)); intro g2 hg w1 hbox hb; have B2 := Aside0.mk hbox; have GEB2 := Aside0.mk ((by rw [hg]; exact (below_size HB.out)) : w.heap.size ≤ g2); have NBGB2 := Aside0.mk ((by rw [hg]; exact Nat.ne_of_lt (blk_lt BG.out)) : g ≠ g2); have b_BG := Aside0.mk (blk_below BG.out hb); have b_HB := Aside0.mk (below_step HB.out hb); clear HB BG; have HB := b_HB; have BG := b_BG; clear b_HB b_BG; clear hbox hg hb; obtain ⟨ha0, ha1, ha2, ha3, ha4, ha5, ha6, ha7, ha8, ha9, ha10, ha11, ha12⟩ := acc_facts BG.out)
    | ((with_reducible refine gate_ (.store 26 (.tmp 2) (.tmp 7)) rfl ?_); go_loud (refine wpList_storeR rfl rfl 26 (.tmp 2) (.tmp 7) rfl g2 (0) rfl (.agg (vc s.hi)) rfl (vc s.hi).toList rfl #[.int .i64 0, .int .i64 0, .string ⟨#[]⟩, .bool false] 26 B2.out size26 (by simp) (by simp [Value.oneCell']) (vc s.hi) rfl ?_); intro w2 hs st; have b_BG := Aside0.mk (Step.blk st BG.out (NBGB2.out)); have b_HB := Aside0.mk (Step.fresh st HB.out GEB2.out); clear HB BG; have HB := b_HB; have BG := b_BG; clear b_HB b_BG; clear B2; have B2 := Aside0.mk hs; clear hs st))
  (try simp only [Exit.inBlock, Exit.then])
  refine bodyPost_ret (results_row_tmp rfl _ _ g2 26 (vc s.hi) (0, 0) _ (.int .i64 0) rfl rfl B2.out Try.underlying26 rfl size26) rfl ?_
  exact ⟨rfl, HB.out⟩
theorem agg_counted.calls (g m : Nat) (s : Acc18) (w : World) (hg : w.heap[g]? = some (.cells (acells s m) 52 (0, 0))) :
    Calls Try.prog 29 #[.pointer (some ⟨g, 0, none⟩)] w fun e w' => e = .returned (.tuple #[.agg #[.int .i64 1, .int .i64 s.n, .string ⟨#[]⟩, .bool false], .int .i64 0]) ∧ Below w.heap.size w w' := by
  have HB := Aside0.mk (Below.refl w.heap.size w)
  have BG := Aside0.mk hg
  clear hg
  have hu52 := Try.underlying52
  have hu26 := Try.underlying26
  have hu50 := Try.underlying50
  go_enter Try.func29, Try.ntmps29
  go_wp2_with (first
    | ((with_reducible refine gate_dst (N := 2) rfl ?_); refine box_event ?hg (N := 2) ?hd (cs := #[.int .i64 0, .int .i64 0, .string ⟨#[]⟩, .bool false]) (t := 26) ?hr ?_; (case hd => rfl); (case hg => rfl); (case hr => first | (go_simp; done) | (go_simp; rfl)); intro g2 hg w1 hbox hb; have B2 := Aside0.mk hbox; have GEB2 := Aside0.mk ((by rw [hg]; exact (below_size HB.out)) : w.heap.size ≤ g2); have NBGB2 := Aside0.mk ((by rw [hg]; exact Nat.ne_of_lt (blk_lt BG.out)) : g ≠ g2); have b_BG := Aside0.mk (blk_below BG.out hb); have b_HB := Aside0.mk (below_step HB.out hb); clear HB BG; have HB := b_HB; have BG := b_BG; clear b_HB b_BG; clear hbox hg hb; obtain ⟨ha0, ha1, ha2, ha3, ha4, ha5, ha6, ha7, ha8, ha9, ha10, ha11, ha12⟩ := acc_facts BG.out)
    | ((with_reducible refine gate_callee (f := 30) rfl ?_); refine goesL_ (some 8) rfl rfl Try.func30 (by kernel_rfl) rfl #[.int .i64 s.n] rfl (by (try simp only [List.map_toArray, List.map_cons, List.map_nil]); first | done | rfl) ?_; go_loud (refine (agg_number.calls s.n 1 s.n ⟨#[]⟩ false 0 _ rfl).mono ?_); rintro e w2 ⟨rfl, hb⟩; refine ⟨_, rfl, ?_⟩; have b_BG := Aside0.mk (blk_below BG.out hb); have b_B2 := Aside0.mk (blk_below B2.out hb); have b_HB := Aside0.mk (below_step HB.out hb); clear HB BG B2; have HB := b_HB; have BG := b_BG; have B2 := b_B2; clear b_HB b_BG b_B2; clear hb)
    | ((with_reducible refine gate_ (.store 26 (.tmp 2) (.tmp 9)) rfl ?_); go_loud (refine wpList_storeR rfl rfl 26 (.tmp 2) (.tmp 9) rfl g2 (0) rfl (.agg #[.int .i64 1, .int .i64 s.n, .string ⟨#[]⟩, .bool false]) rfl [.int .i64 1, .int .i64 s.n, .string ⟨#[]⟩, .bool false] rfl #[.int .i64 0, .int .i64 0, .string ⟨#[]⟩, .bool false] 26 B2.out size26 (by simp) (by simp [Value.oneCell']) #[.int .i64 1, .int .i64 s.n, .string ⟨#[]⟩, .bool false] rfl ?_); intro w3 hs st; have b_BG := Aside0.mk (Step.blk st BG.out (NBGB2.out)); have b_HB := Aside0.mk (Step.fresh st HB.out GEB2.out); clear HB BG; have HB := b_HB; have BG := b_BG; clear b_HB b_BG; clear B2; have B2 := Aside0.mk hs; clear hs st))
  (try simp only [Exit.inBlock, Exit.then])
  refine bodyPost_ret (results_row_tmp rfl _ _ g2 26 #[.int .i64 1, .int .i64 s.n, .string ⟨#[]⟩, .bool false] (0, 0) _ (.int .i64 0) rfl rfl B2.out Try.underlying26 rfl size26) rfl ?_
  exact ⟨rfl, HB.out⟩
theorem agg_differ.calls (g m : Nat) (s : Acc18) (w : World) (hg : w.heap[g]? = some (.cells (acells s m) 52 (0, 0))) (es : Array MapEntry) (clock : Nat) (hm : w.heap[m]? = some (.map es clock)) (hs : Seen es.toList s.seen) :
    Calls Try.prog 40 #[.pointer (some ⟨g, 0, none⟩)] w fun e w' => e = .returned (.tuple #[.agg #[.int .i64 1, .int .i64 (s.seen.length : Int), .string ⟨#[]⟩, .bool false], .int .i64 0]) ∧ Below w.heap.size w w' := by
  have HB := Aside0.mk (Below.refl w.heap.size w)
  have BG := Aside0.mk hg
  clear hg
  have hu52 := Try.underlying52
  have hu26 := Try.underlying26
  have hu50 := Try.underlying50
  have BM := Aside0.mk hm
  have hsz : es.size = s.seen.length := by
    have h_ := congrArg List.length hs
    simpa using h_
  have HSZ := Aside0.mk hsz
  clear hm hs hsz
  go_enter Try.func40, Try.ntmps40
  go_wp2_with (first
    | ((with_reducible refine gate_dst (N := 2) rfl ?_); refine box_event ?hg (N := 2) ?hd (cs := #[.int .i64 0, .int .i64 0, .string ⟨#[]⟩, .bool false]) (t := 26) ?hr ?_; (case hd => rfl); (case hg => rfl); (case hr => first | (go_simp; done) | (go_simp; rfl)); intro g2 hg w1 hbox hb; have B2 := Aside0.mk hbox; have GEB2 := Aside0.mk ((by rw [hg]; exact (below_size HB.out)) : w.heap.size ≤ g2); have NBGB2 := Aside0.mk ((by rw [hg]; exact Nat.ne_of_lt (blk_lt BG.out)) : g ≠ g2); have NBMB2 := Aside0.mk ((by rw [hg]; exact Nat.ne_of_lt (blk_lt BM.out)) : m ≠ g2); have b_BG := Aside0.mk (blk_below BG.out hb); have b_BM := Aside0.mk (blk_below BM.out hb); have b_HB := Aside0.mk (below_step HB.out hb); clear HB BG BM; have HB := b_HB; have BG := b_BG; have BM := b_BM; clear b_HB b_BG b_BM; clear hbox hg hb; have ha12 : w1.cell? ⟨g, 12, none⟩ = some (.map (some m)) := (blk_cell BG.out 12).trans rfl; have hlen := run_len47 m es clock w1 s.seen.length BM.out HSZ.out)
    | ((with_reducible refine gate_callee (f := 30) rfl ?_); refine goesL_ (some 9) rfl rfl Try.func30 (by kernel_rfl) rfl #[.int .i64 (s.seen.length : Int)] rfl (by (try simp only [List.map_toArray, List.map_cons, List.map_nil]); first | done | rfl) ?_; go_loud (refine (agg_number.calls (s.seen.length : Int) 1 (s.seen.length : Int) ⟨#[]⟩ false 0 _ rfl).mono ?_); rintro e w2 ⟨rfl, hb⟩; refine ⟨_, rfl, ?_⟩; have b_BG := Aside0.mk (blk_below BG.out hb); have b_B2 := Aside0.mk (blk_below B2.out hb); have b_HB := Aside0.mk (below_step HB.out hb); clear HB BG B2; have HB := b_HB; have BG := b_BG; have B2 := b_B2; clear b_HB b_BG b_B2; clear hb)
    | ((with_reducible refine gate_ (.store 26 (.tmp 2) (.tmp 10)) rfl ?_); go_loud (refine wpList_storeR rfl rfl 26 (.tmp 2) (.tmp 10) rfl g2 (0) rfl (.agg #[.int .i64 1, .int .i64 (s.seen.length : Int), .string ⟨#[]⟩, .bool false]) rfl [.int .i64 1, .int .i64 (s.seen.length : Int), .string ⟨#[]⟩, .bool false] rfl #[.int .i64 0, .int .i64 0, .string ⟨#[]⟩, .bool false] 26 B2.out size26 (by simp) (by simp [Value.oneCell']) #[.int .i64 1, .int .i64 (s.seen.length : Int), .string ⟨#[]⟩, .bool false] rfl ?_); intro w3 hs st; have b_BG := Aside0.mk (Step.blk st BG.out (NBGB2.out)); have b_HB := Aside0.mk (Step.fresh st HB.out GEB2.out); clear HB BG; have HB := b_HB; have BG := b_BG; clear b_HB b_BG; clear B2; have B2 := Aside0.mk hs; clear hs st))
  (try simp only [Exit.inBlock, Exit.then])
  refine bodyPost_ret (results_row_tmp rfl _ _ g2 26 #[.int .i64 1, .int .i64 (s.seen.length : Int), .string ⟨#[]⟩, .bool false] (0, 0) _ (.int .i64 0) rfl rfl B2.out Try.underlying26 rfl size26) rfl ?_
  exact ⟨rfl, HB.out⟩

theorem agg_total.zero_ (g m : Nat) (s : Acc18) (w : World) (hg : w.heap[g]? = some (.cells (acells s m) 52 (0, 0))) (q0 : (s.n == 0) = true) :
    Calls Try.prog 35 #[.pointer (some ⟨g, 0, none⟩)] w fun e w' => e = .returned (.tuple #[.agg #[.int .i64 0, .int .i64 0, .string ⟨#[]⟩, .bool false], .int .i64 0]) ∧ Below w.heap.size w w' := by
  have HB := Aside0.mk (Below.refl w.heap.size w)
  have BG := Aside0.mk hg
  clear hg
  have hu52 := Try.underlying52
  have hu26 := Try.underlying26
  have hu50 := Try.underlying50
  go_enter Try.func35, Try.ntmps35
  go_wp2_with (first
    | ((with_reducible refine gate_dst (N := 2) rfl ?_); refine box_event ?hg (N := 2) ?hd (cs := #[.int .i64 0, .int .i64 0, .string ⟨#[]⟩, .bool false]) (t := 26) ?hr ?_; (case hd => rfl); (case hg => rfl); (case hr => first | (go_simp; done) | (go_simp; rfl)); intro g2 hg w1 hbox hb; have B2 := Aside0.mk hbox; have GEB2 := Aside0.mk ((by rw [hg]; exact (below_size HB.out)) : w.heap.size ≤ g2); have NBGB2 := Aside0.mk ((by rw [hg]; exact Nat.ne_of_lt (blk_lt BG.out)) : g ≠ g2); have b_BG := Aside0.mk (blk_below BG.out hb); have b_HB := Aside0.mk (below_step HB.out hb); clear HB BG; have HB := b_HB; have BG := b_BG; clear b_HB b_BG; clear hbox hg hb; obtain ⟨ha0, ha1, ha2, ha3, ha4, ha5, ha6, ha7, ha8, ha9, ha10, ha11, ha12⟩ := acc_facts BG.out)
    | ((with_reducible refine gate_ (.store 26 (.tmp 2) (.tmp 11)) rfl ?_); go_loud (refine wpList_storeR rfl rfl 26 (.tmp 2) (.tmp 11) rfl g2 (0) rfl (.agg #[.int .i64 0, .int .i64 0, .string ⟨#[]⟩, .bool false]) rfl [.int .i64 0, .int .i64 0, .string ⟨#[]⟩, .bool false] rfl #[.int .i64 0, .int .i64 0, .string ⟨#[]⟩, .bool false] 26 B2.out size26 (by simp) (by simp [Value.oneCell']) #[.int .i64 0, .int .i64 0, .string ⟨#[]⟩, .bool false] rfl ?_); intro w3 hs st; have b_BG := Aside0.mk (Step.blk st BG.out (NBGB2.out)); have b_HB := Aside0.mk (Step.fresh st HB.out GEB2.out); clear HB BG; have HB := b_HB; have BG := b_BG; clear b_HB b_BG; clear B2; have B2 := Aside0.mk hs; clear hs st))
  (try simp only [Exit.inBlock, Exit.then])
  refine bodyPost_ret (results_row_tmp rfl _ _ g2 26 #[.int .i64 0, .int .i64 0, .string ⟨#[]⟩, .bool false] (0, 0) _ (.int .i64 0) rfl rfl B2.out Try.underlying26 rfl size26) rfl ?_
  exact ⟨rfl, HB.out⟩
theorem agg_total.over_ (g m : Nat) (s : Acc18) (w : World) (hg : w.heap[g]? = some (.cells (acells s m) 52 (0, 0))) (q0 : (s.n == 0) = false) (r1 : Int) (hN : agg_wide_number.f (hiW s.tot) (loW s.tot) = some (r1, false)) :
    Calls Try.prog 35 #[.pointer (some ⟨g, 0, none⟩)] w fun e w' => e = .returned (.tuple #[.agg #[.int .i64 0, .int .i64 0, .string ⟨#[]⟩, .bool false], .int .i64 10]) ∧ Below w.heap.size w w' := by
  have HB := Aside0.mk (Below.refl w.heap.size w)
  have BG := Aside0.mk hg
  clear hg
  have hu52 := Try.underlying52
  have hu26 := Try.underlying26
  have hu50 := Try.underlying50
  have HN := Aside0.mk hN
  clear hN
  go_enter Try.func35, Try.ntmps35
  go_wp2_with (first
    | ((with_reducible refine gate_dst (N := 2) rfl ?_); refine box_event ?hg (N := 2) ?hd (cs := #[.int .i64 0, .int .i64 0, .string ⟨#[]⟩, .bool false]) (t := 26) ?hr ?_; (case hd => rfl); (case hg => rfl); (case hr => first | (go_simp; done) | (go_simp; rfl)); intro g2 hg w1 hbox hb; have B2 := Aside0.mk hbox; have GEB2 := Aside0.mk ((by rw [hg]; exact (below_size HB.out)) : w.heap.size ≤ g2); have NBGB2 := Aside0.mk ((by rw [hg]; exact Nat.ne_of_lt (blk_lt BG.out)) : g ≠ g2); have b_BG := Aside0.mk (blk_below BG.out hb); have b_HB := Aside0.mk (below_step HB.out hb); clear HB BG; have HB := b_HB; have BG := b_BG; clear b_HB b_BG; clear hbox hg hb; obtain ⟨ha0, ha1, ha2, ha3, ha4, ha5, ha6, ha7, ha8, ha9, ha10, ha11, ha12⟩ := acc_facts BG.out)
    | ((with_reducible refine gate_callee (f := 42) rfl ?_); refine goesL_ (some 17) rfl rfl Try.func42 (by kernel_rfl) rfl #[.agg #[.int .u64 (hiW s.tot), .int .u64 (loW s.tot)]] rfl (by (try simp only [List.map_toArray, List.map_cons, List.map_nil]); first | done | rfl) ?_; go_loud (refine (agg_wide_number.calls (hiW s.tot) (loW s.tot) r1 false _ HN.out).mono ?_); rintro e w2 ⟨rfl, hb⟩; refine ⟨_, rfl, ?_⟩; have b_BG := Aside0.mk (blk_below BG.out hb); have b_B2 := Aside0.mk (blk_below B2.out hb); have b_HB := Aside0.mk (below_step HB.out hb); clear HB BG B2; have HB := b_HB; have BG := b_BG; have B2 := b_B2; clear b_HB b_BG b_B2; clear hb)
    | ((with_reducible refine gate_ (.store 26 (.tmp 2) (.tmp 22)) rfl ?_); go_loud (refine wpList_storeR rfl rfl 26 (.tmp 2) (.tmp 22) rfl g2 (0) rfl (.agg #[.int .i64 0, .int .i64 0, .string ⟨#[]⟩, .bool false]) rfl [.int .i64 0, .int .i64 0, .string ⟨#[]⟩, .bool false] rfl #[.int .i64 0, .int .i64 0, .string ⟨#[]⟩, .bool false] 26 B2.out size26 (by simp) (by simp [Value.oneCell']) #[.int .i64 0, .int .i64 0, .string ⟨#[]⟩, .bool false] rfl ?_); intro w3 hs st; have b_BG := Aside0.mk (Step.blk st BG.out (NBGB2.out)); have b_HB := Aside0.mk (Step.fresh st HB.out GEB2.out); clear HB BG; have HB := b_HB; have BG := b_BG; clear b_HB b_BG; clear B2; have B2 := Aside0.mk hs; clear hs st))
  (try simp only [Exit.inBlock, Exit.then])
  refine bodyPost_ret (results_row_tmp rfl _ _ g2 26 #[.int .i64 0, .int .i64 0, .string ⟨#[]⟩, .bool false] (0, 0) _ (.int .i64 10) rfl rfl B2.out Try.underlying26 rfl size26) rfl ?_
  exact ⟨rfl, HB.out⟩
theorem agg_total.sum_ (g m : Nat) (s : Acc18) (w : World) (hg : w.heap[g]? = some (.cells (acells s m) 52 (0, 0))) (q0 : (s.n == 0) = false) (r1 : Int) (hN : agg_wide_number.f (hiW s.tot) (loW s.tot) = some (r1, true)) :
    Calls Try.prog 35 #[.pointer (some ⟨g, 0, none⟩)] w fun e w' => e = .returned (.tuple #[.agg #[.int .i64 1, .int .i64 r1, .string ⟨#[]⟩, .bool false], .int .i64 0]) ∧ Below w.heap.size w w' := by
  have HB := Aside0.mk (Below.refl w.heap.size w)
  have BG := Aside0.mk hg
  clear hg
  have hu52 := Try.underlying52
  have hu26 := Try.underlying26
  have hu50 := Try.underlying50
  have HN := Aside0.mk hN
  clear hN
  go_enter Try.func35, Try.ntmps35
  go_wp2_with (first
    | ((with_reducible refine gate_dst (N := 2) rfl ?_); refine box_event ?hg (N := 2) ?hd (cs := #[.int .i64 0, .int .i64 0, .string ⟨#[]⟩, .bool false]) (t := 26) ?hr ?_; (case hd => rfl); (case hg => rfl); (case hr => first | (go_simp; done) | (go_simp; rfl)); intro g2 hg w1 hbox hb; have B2 := Aside0.mk hbox; have GEB2 := Aside0.mk ((by rw [hg]; exact (below_size HB.out)) : w.heap.size ≤ g2); have NBGB2 := Aside0.mk ((by rw [hg]; exact Nat.ne_of_lt (blk_lt BG.out)) : g ≠ g2); have b_BG := Aside0.mk (blk_below BG.out hb); have b_HB := Aside0.mk (below_step HB.out hb); clear HB BG; have HB := b_HB; have BG := b_BG; clear b_HB b_BG; clear hbox hg hb; obtain ⟨ha0, ha1, ha2, ha3, ha4, ha5, ha6, ha7, ha8, ha9, ha10, ha11, ha12⟩ := acc_facts BG.out)
    | ((with_reducible refine gate_callee (f := 42) rfl ?_); refine goesL_ (some 17) rfl rfl Try.func42 (by kernel_rfl) rfl #[.agg #[.int .u64 (hiW s.tot), .int .u64 (loW s.tot)]] rfl (by (try simp only [List.map_toArray, List.map_cons, List.map_nil]); first | done | rfl) ?_; go_loud (refine (agg_wide_number.calls (hiW s.tot) (loW s.tot) r1 true _ HN.out).mono ?_); rintro e w2 ⟨rfl, hb⟩; refine ⟨_, rfl, ?_⟩; have b_BG := Aside0.mk (blk_below BG.out hb); have b_B2 := Aside0.mk (blk_below B2.out hb); have b_HB := Aside0.mk (below_step HB.out hb); clear HB BG B2; have HB := b_HB; have BG := b_BG; have B2 := b_B2; clear b_HB b_BG b_B2; clear hb)
    | ((with_reducible refine gate_callee (f := 30) rfl ?_); refine goesL_ (some 24) rfl rfl Try.func30 (by kernel_rfl) rfl #[.int .i64 r1] rfl (by (try simp only [List.map_toArray, List.map_cons, List.map_nil]); first | done | rfl) ?_; go_loud (refine (agg_number.calls r1 1 r1 ⟨#[]⟩ false 0 _ rfl).mono ?_); rintro e w3 ⟨rfl, hb⟩; refine ⟨_, rfl, ?_⟩; have b_BG := Aside0.mk (blk_below BG.out hb); have b_B2 := Aside0.mk (blk_below B2.out hb); have b_HB := Aside0.mk (below_step HB.out hb); clear HB BG B2; have HB := b_HB; have BG := b_BG; have B2 := b_B2; clear b_HB b_BG b_B2; clear hb)
    | ((with_reducible refine gate_ (.store 26 (.tmp 2) (.tmp 25)) rfl ?_); go_loud (refine wpList_storeR rfl rfl 26 (.tmp 2) (.tmp 25) rfl g2 (0) rfl (.agg #[.int .i64 1, .int .i64 r1, .string ⟨#[]⟩, .bool false]) rfl [.int .i64 1, .int .i64 r1, .string ⟨#[]⟩, .bool false] rfl #[.int .i64 0, .int .i64 0, .string ⟨#[]⟩, .bool false] 26 B2.out size26 (by simp) (by simp [Value.oneCell']) #[.int .i64 1, .int .i64 r1, .string ⟨#[]⟩, .bool false] rfl ?_); intro w4 hs st; have b_BG := Aside0.mk (Step.blk st BG.out (NBGB2.out)); have b_HB := Aside0.mk (Step.fresh st HB.out GEB2.out); clear HB BG; have HB := b_HB; have BG := b_BG; clear b_HB b_BG; clear B2; have B2 := Aside0.mk hs; clear hs st))
  (try simp only [Exit.inBlock, Exit.then])
  refine bodyPost_ret (results_row_tmp rfl _ _ g2 26 #[.int .i64 1, .int .i64 r1, .string ⟨#[]⟩, .bool false] (0, 0) _ (.int .i64 0) rfl rfl B2.out Try.underlying26 rfl size26) rfl ?_
  exact ⟨rfl, HB.out⟩
theorem agg_none.calls (g m : Nat) (s : Acc18) (w : World) (hg : w.heap[g]? = some (.cells (acells s m) 52 (0, 0))) (q0 : (s.fn == 0) = false) :
    Calls Try.prog 21 #[.pointer (some ⟨g, 0, none⟩)] w fun e w' => e = .returned (.bool false) ∧ w' = w := by
  have ha0 : w.cell? ⟨g, 0, none⟩ = some (.int .i64 s.fn) := (blk_cell hg 0).trans rfl
  have hu52 := Try.underlying52
  clear hg
  go_enter Try.func21, Try.ntmps21
  go_wp2
  go_ret
  exact ⟨rfl, rfl⟩
abbrev kindsM : Array MapEntry := #[{ key := .int .i64 1, val := .agg #[.func (.func 27) #[] #[], .func (.func 28) #[] #[], .func (.func 29) #[] #[]], born := 0 }, { key := .int .i64 2, val := .agg #[.func (.func 31) #[] #[], .func (.func 34) #[] #[], .func (.func 35) #[] #[]], born := 1 }, { key := .int .i64 3, val := .agg #[.func (.func 36) #[] #[], .func (.func 37) #[] #[], .func (.func 25) #[] #[]], born := 2 }, { key := .int .i64 4, val := .agg #[.func (.func 36) #[] #[], .func (.func 37) #[] #[], .func (.func 26) #[] #[]], born := 3 }, { key := .int .i64 5, val := .agg #[.func (.func 38) #[] #[], .func (.func 39) #[] #[], .func (.func 40) #[] #[]], born := 4 }]
theorem agg_kinds.calls (w : World) :
    Calls Try.prog 23 #[] w fun e w' => ∃ gk, e = .returned (.map (some gk)) ∧ w'.heap[gk]? = some (.map kindsM 5) ∧ Below w.heap.size w w' := by
  have HB := Aside0.mk (Below.refl w.heap.size w)
  go_enter Try.func23, Try.ntmps23
  go_wp2_with (first
    | ((with_reducible refine gate_dst (N := 3) rfl ?_); go_loud (refine wpList_makeMapF rfl 59 rfl ?_); intro w1 gk hg hbm hb; have BM := Aside0.mk hbm; have GEM := Aside0.mk ((by rw [hg]; exact (below_size HB.out)) : w.heap.size ≤ gk); have b_HB := Aside0.mk (below_step HB.out hb); clear HB hg hbm hb; have HB := b_HB; clear b_HB)
    | ((with_reducible refine gate_ (.insert 59 (.tmp 3) (.const (.int .i64 1)) (.tmp 4)) rfl ?_); go_loud (refine wpList_insertF rfl rfl 59 (.tmp 3) (.const (.int .i64 1)) (.tmp 4) rfl gk rfl (.int .i64 1) (.agg #[.func (.func 27) #[] #[], .func (.func 28) #[] #[], .func (.func 29) #[] #[]]) rfl rfl 3 58 Try.underlying59 (.int .i64) Try.underlying3 rfl #[] 0 BM.out rfl ?_); intro w2 hs st; have b_HB := Aside0.mk (st.fresh HB.out GEM.out); clear HB BM; have HB := b_HB; have BM := Aside0.mk hs; clear hs st b_HB)
    | ((with_reducible refine gate_ (.insert 59 (.tmp 3) (.const (.int .i64 2)) (.tmp 5)) rfl ?_); go_loud (refine wpList_insertF rfl rfl 59 (.tmp 3) (.const (.int .i64 2)) (.tmp 5) rfl gk rfl (.int .i64 2) (.agg #[.func (.func 31) #[] #[], .func (.func 34) #[] #[], .func (.func 35) #[] #[]]) rfl rfl 3 58 Try.underlying59 (.int .i64) Try.underlying3 rfl #[{ key := .int .i64 1, val := .agg #[.func (.func 27) #[] #[], .func (.func 28) #[] #[], .func (.func 29) #[] #[]], born := 0 }] 1 BM.out rfl ?_); intro w2 hs st; have b_HB := Aside0.mk (st.fresh HB.out GEM.out); clear HB BM; have HB := b_HB; have BM := Aside0.mk hs; clear hs st b_HB)
    | ((with_reducible refine gate_ (.insert 59 (.tmp 3) (.const (.int .i64 3)) (.tmp 7)) rfl ?_); go_loud (refine wpList_insertF rfl rfl 59 (.tmp 3) (.const (.int .i64 3)) (.tmp 7) rfl gk rfl (.int .i64 3) (.agg #[.func (.func 36) #[] #[], .func (.func 37) #[] #[], .func (.func 25) #[] #[]]) rfl rfl 3 58 Try.underlying59 (.int .i64) Try.underlying3 rfl #[{ key := .int .i64 1, val := .agg #[.func (.func 27) #[] #[], .func (.func 28) #[] #[], .func (.func 29) #[] #[]], born := 0 }, { key := .int .i64 2, val := .agg #[.func (.func 31) #[] #[], .func (.func 34) #[] #[], .func (.func 35) #[] #[]], born := 1 }] 2 BM.out rfl ?_); intro w2 hs st; have b_HB := Aside0.mk (st.fresh HB.out GEM.out); clear HB BM; have HB := b_HB; have BM := Aside0.mk hs; clear hs st b_HB)
    | ((with_reducible refine gate_ (.insert 59 (.tmp 3) (.const (.int .i64 4)) (.tmp 9)) rfl ?_); go_loud (refine wpList_insertF rfl rfl 59 (.tmp 3) (.const (.int .i64 4)) (.tmp 9) rfl gk rfl (.int .i64 4) (.agg #[.func (.func 36) #[] #[], .func (.func 37) #[] #[], .func (.func 26) #[] #[]]) rfl rfl 3 58 Try.underlying59 (.int .i64) Try.underlying3 rfl #[{ key := .int .i64 1, val := .agg #[.func (.func 27) #[] #[], .func (.func 28) #[] #[], .func (.func 29) #[] #[]], born := 0 }, { key := .int .i64 2, val := .agg #[.func (.func 31) #[] #[], .func (.func 34) #[] #[], .func (.func 35) #[] #[]], born := 1 }, { key := .int .i64 3, val := .agg #[.func (.func 36) #[] #[], .func (.func 37) #[] #[], .func (.func 25) #[] #[]], born := 2 }] 3 BM.out rfl ?_); intro w2 hs st; have b_HB := Aside0.mk (st.fresh HB.out GEM.out); clear HB BM; have HB := b_HB; have BM := Aside0.mk hs; clear hs st b_HB)
    | ((with_reducible refine gate_ (.insert 59 (.tmp 3) (.const (.int .i64 5)) (.tmp 10)) rfl ?_); go_loud (refine wpList_insertF rfl rfl 59 (.tmp 3) (.const (.int .i64 5)) (.tmp 10) rfl gk rfl (.int .i64 5) (.agg #[.func (.func 38) #[] #[], .func (.func 39) #[] #[], .func (.func 40) #[] #[]]) rfl rfl 3 58 Try.underlying59 (.int .i64) Try.underlying3 rfl #[{ key := .int .i64 1, val := .agg #[.func (.func 27) #[] #[], .func (.func 28) #[] #[], .func (.func 29) #[] #[]], born := 0 }, { key := .int .i64 2, val := .agg #[.func (.func 31) #[] #[], .func (.func 34) #[] #[], .func (.func 35) #[] #[]], born := 1 }, { key := .int .i64 3, val := .agg #[.func (.func 36) #[] #[], .func (.func 37) #[] #[], .func (.func 25) #[] #[]], born := 2 }, { key := .int .i64 4, val := .agg #[.func (.func 36) #[] #[], .func (.func 37) #[] #[], .func (.func 26) #[] #[]], born := 3 }] 4 BM.out rfl ?_); intro w2 hs st; have b_HB := Aside0.mk (st.fresh HB.out GEM.out); clear HB BM; have HB := b_HB; have BM := Aside0.mk hs; clear hs st b_HB))
  go_ret
  exact ⟨gk, rfl, BM.out, HB.out⟩
theorem agg_New.not_ (fn : Int) (w : World) (h : fn < 1 ∨ 6 ≤ fn) :
    Calls Try.prog 13 #[.int .i64 fn] w fun e w' => e = .returned (.tuple #[.pointer none, .int .i64 1]) ∧ Below w.heap.size w w' := by
  by_cases h1 : fn < 1
  · have d1 : decide (fn < 1) = true := decide_eq_true h1
    clear h h1
    go_enter Try.func13, Try.ntmps13
    go_wp2
    go_ret2
    exact ⟨rfl, Below.refl _ _⟩
  · have d1 : decide (fn < 1) = false := decide_eq_false h1
    have d2 : decide (6 ≤ fn) = true := decide_eq_true (by omega)
    clear h h1
    go_enter Try.func13, Try.ntmps13
    go_wp2
    go_ret2
    exact ⟨rfl, Below.refl _ _⟩
def new18 (fn : Int) : Acc18 := ⟨fn, 0, 0, z26, z26, []⟩
theorem agg_New.calls (fn : Int) (w : World) (h1 : 1 ≤ fn) (h2 : fn < 6) :
    Calls Try.prog 13 #[.int .i64 fn] w fun e w' => ∃ g m, e = .returned (.tuple #[.pointer (some ⟨g, 0, none⟩), .int .i64 0]) ∧ w.heap.size ≤ g ∧ w.heap.size ≤ m ∧ w'.heap[g]? = some (.cells (acells (new18 fn) m) 52 (0, 0)) ∧ w'.heap[m]? = some (.map #[] 0) ∧ Below w.heap.size w w' := by
  have HB := Aside0.mk (Below.refl w.heap.size w)
  have d1 : decide (fn < 1) = false := decide_eq_false (by omega)
  have d2 : decide (6 ≤ fn) = false := decide_eq_false (by omega)
  clear h1 h2
  go_enter Try.func13, Try.ntmps13
  go_wp2_with (first
    | ((with_reducible refine gate_dst (N := 11) rfl ?_); go_loud (refine wpList_makeMapF rfl 47 rfl ?_); intro w1 m hg hbm hb; have BM := Aside0.mk hbm; have GEM := Aside0.mk ((by rw [hg]; exact (below_size HB.out)) : w.heap.size ≤ m); have b_HB := Aside0.mk (below_step HB.out hb); clear HB hg hbm hb; have HB := b_HB; clear b_HB)
    | ((with_reducible refine gate_dst (N := 13) rfl ?_); refine box_event ?hg (N := 13) ?hd (cs := (acells (new18 fn) m)) (t := 52) ?hr ?_; (case hd => rfl); (case hg => rfl); (case hr => first | (go_simp; done) | (go_simp; rfl)); intro g hg w2 hbox hb; have BG := Aside0.mk hbox; have GEBG := Aside0.mk ((by rw [hg]; exact (below_size HB.out)) : w.heap.size ≤ g); have NBMBG := Aside0.mk ((by rw [hg]; exact Nat.ne_of_lt (blk_lt BM.out)) : m ≠ g); have b_BM := Aside0.mk (blk_below BM.out hb); have b_HB := Aside0.mk (below_step HB.out hb); clear HB BM; have HB := b_HB; have BM := b_BM; clear b_HB b_BM; clear hbox hg hb))
  go_ret2
  exact ⟨g, m, rfl, GEBG.out, GEM.out, BG.out, BM.out, HB.out⟩

theorem run_field58_0 (a b c : Value) (W : World) : (Instr.field 58 (.agg #[a, b, c]) 0).run Try.prog W = .ok a W := by
  have hu58 := Try.underlying58
  have hu54 := Try.underlying54
  unfold Instr.field
  go_simp
  rfl
theorem run_field58_1 (a b c : Value) (W : World) : (Instr.field 58 (.agg #[a, b, c]) 1).run Try.prog W = .ok b W := by
  have hu58 := Try.underlying58
  have hu55 := Try.underlying55
  unfold Instr.field
  go_simp
  rfl
theorem run_field58_2 (a b c : Value) (W : World) : (Instr.field 58 (.agg #[a, b, c]) 2).run Try.prog W = .ok c W := by
  have hu58 := Try.underlying58
  have hu56 := Try.underlying56
  unfold Instr.field
  go_simp
  rfl
theorem agg_Add.not_ (g m : Nat) (s : Acc18) (v : S26) (es : Array MapEntry) (clock : Nat) (w : World) (hg : w.heap[g]? = some (.cells (acells s m) 52 (0, 0))) (hm : w.heap[m]? = some (.map es clock)) (hfn : (s.fn == 0) = false) (hM : value_May.f v.f0 v.f1 v.f2 v.f3 = some false)  :
    Calls Try.prog 14 #[.pointer (some ⟨g, 0, none⟩), .agg (vc v)] w fun e w' => e = .returned (.tuple #[]) ∧ Below w.heap.size w w' := by
  have HNM := Aside0.mk (show m ≠ g from fun e => by subst e; rw [hm] at hg; injection hg with h; cases h)
  have HB := Aside0.mk (Below.refl w.heap.size w)
  have BG := Aside0.mk hg
  clear hg
  have hu52 := Try.underlying52
  have hu26 := Try.underlying26
  have hu50 := Try.underlying50
  have BM := Aside0.mk hm
  have HM := Aside0.mk hM
  clear hm hM
  have QN := Aside0.mk hfn
  clear hfn
  go_enter Try.func14, Try.ntmps14
  go_wp2_with (first
    | ((with_reducible refine gate_dst (N := 3) rfl ?_); refine box_event ?hg (N := 3) ?hd (cs := (vc v)) (t := 26) ?hr ?_; (case hd => rfl); (case hg => rfl); (case hr => first | (go_simp; done) | (go_simp; rfl)); intro gv hg w1 hbox hb; have BV := Aside0.mk hbox; have GEBV := Aside0.mk ((by rw [hg]; exact (below_size HB.out)) : w.heap.size ≤ gv); have NBGBV := Aside0.mk ((by rw [hg]; exact Nat.ne_of_lt (blk_lt BG.out)) : g ≠ gv); have NBMBV := Aside0.mk ((by rw [hg]; exact Nat.ne_of_lt (blk_lt BM.out)) : m ≠ gv); have b_BG := Aside0.mk (blk_below BG.out hb); have b_BM := Aside0.mk (blk_below BM.out hb); have b_HB := Aside0.mk (below_step HB.out hb); clear HB BG BM; have HB := b_HB; have BG := b_BG; have BM := b_BM; clear b_HB b_BG b_BM; clear hbox hg hb; have hv0 : w1.cell? ⟨gv, 0, none⟩ = some (.int .i64 v.f0) := (blk_cell BV.out 0).trans rfl; have hv1 : w1.cell? ⟨gv, 1, none⟩ = some (.int .i64 v.f1) := (blk_cell BV.out 1).trans rfl; have hv2 : w1.cell? ⟨gv, 2, none⟩ = some (.string v.f2) := (blk_cell BV.out 2).trans rfl; have hv3 : w1.cell? ⟨gv, 3, none⟩ = some (.bool v.f3) := (blk_cell BV.out 3).trans rfl)
    | ((with_reducible refine gate_callee (f := 21) rfl ?_); refine goesL_ (some 5) rfl rfl Try.func21 (by kernel_rfl) rfl #[.pointer (some ⟨g, 0, none⟩)] rfl (by (try simp only [List.map_toArray, List.map_cons, List.map_nil]); first | done | rfl) ?_; go_loud (refine (agg_none.calls g m s _ BG.out QN.out).mono ?_); rintro e w' ⟨rfl, rfl⟩; refine ⟨_, rfl, ?_⟩)
    | (go_at_call 22; go_loud (refine (value_May.calls v.f0 v.f1 v.f2 v.f3 false _ HM.out).mono ?_); rintro e w2 ⟨rfl, hb⟩; have b_BG := Aside0.mk (blk_below (by (with_reducible repeat (first | refine blk_drewN ?_ _ | refine blk_drew ?_ | refine blk_alloc ?_ _)); exact BG.out) hb); have b_BM := Aside0.mk (blk_below (by (with_reducible repeat (first | refine blk_drewN ?_ _ | refine blk_drew ?_ | refine blk_alloc ?_ _)); exact BM.out) hb); have b_BV := Aside0.mk (blk_below (by (with_reducible repeat (first | refine blk_drewN ?_ _ | refine blk_drew ?_ | refine blk_alloc ?_ _)); exact BV.out) hb); have b_HB := Aside0.mk (below_step (by repeat (first | (with_reducible first | exact HB.out | apply below_alloc | apply pw_below_drewN | apply below_drew1) | exact HB.out)) hb); clear HB BG BM BV; have HB := b_HB; have BG := b_BG; have BM := b_BM; have BV := b_BV; clear b_HB b_BG b_BM b_BV; clear hb; skip; have hv0 : w2.cell? ⟨gv, 0, none⟩ = some (.int .i64 v.f0) := (blk_cell BV.out 0).trans rfl; have hv1 : w2.cell? ⟨gv, 1, none⟩ = some (.int .i64 v.f1) := (blk_cell BV.out 1).trans rfl; have hv2 : w2.cell? ⟨gv, 2, none⟩ = some (.string v.f2) := (blk_cell BV.out 2).trans rfl; have hv3 : w2.cell? ⟨gv, 3, none⟩ = some (.bool v.f3) := (blk_cell BV.out 3).trans rfl))
  go_end0
  exact ⟨rfl, HB.out⟩
theorem agg_Add.null_ (g m : Nat) (s : Acc18) (v : S26) (es : Array MapEntry) (clock : Nat) (w : World) (hg : w.heap[g]? = some (.cells (acells s m) 52 (0, 0))) (hm : w.heap[m]? = some (.map es clock)) (hfn : (s.fn == 0) = false) (hM : value_May.f v.f0 v.f1 v.f2 v.f3 = some true) (q0 : (v.f0 != 0) = false) :
    Calls Try.prog 14 #[.pointer (some ⟨g, 0, none⟩), .agg (vc v)] w fun e w' => e = .returned (.tuple #[]) ∧ Below w.heap.size w w' := by
  have HNM := Aside0.mk (show m ≠ g from fun e => by subst e; rw [hm] at hg; injection hg with h; cases h)
  have HB := Aside0.mk (Below.refl w.heap.size w)
  have BG := Aside0.mk hg
  clear hg
  have hu52 := Try.underlying52
  have hu26 := Try.underlying26
  have hu50 := Try.underlying50
  have BM := Aside0.mk hm
  have HM := Aside0.mk hM
  clear hm hM
  have QN := Aside0.mk hfn
  clear hfn
  go_enter Try.func14, Try.ntmps14
  go_wp2_with (first
    | ((with_reducible refine gate_dst (N := 3) rfl ?_); refine box_event ?hg (N := 3) ?hd (cs := (vc v)) (t := 26) ?hr ?_; (case hd => rfl); (case hg => rfl); (case hr => first | (go_simp; done) | (go_simp; rfl)); intro gv hg w1 hbox hb; have BV := Aside0.mk hbox; have GEBV := Aside0.mk ((by rw [hg]; exact (below_size HB.out)) : w.heap.size ≤ gv); have NBGBV := Aside0.mk ((by rw [hg]; exact Nat.ne_of_lt (blk_lt BG.out)) : g ≠ gv); have NBMBV := Aside0.mk ((by rw [hg]; exact Nat.ne_of_lt (blk_lt BM.out)) : m ≠ gv); have b_BG := Aside0.mk (blk_below BG.out hb); have b_BM := Aside0.mk (blk_below BM.out hb); have b_HB := Aside0.mk (below_step HB.out hb); clear HB BG BM; have HB := b_HB; have BG := b_BG; have BM := b_BM; clear b_HB b_BG b_BM; clear hbox hg hb; have hv0 : w1.cell? ⟨gv, 0, none⟩ = some (.int .i64 v.f0) := (blk_cell BV.out 0).trans rfl; have hv1 : w1.cell? ⟨gv, 1, none⟩ = some (.int .i64 v.f1) := (blk_cell BV.out 1).trans rfl; have hv2 : w1.cell? ⟨gv, 2, none⟩ = some (.string v.f2) := (blk_cell BV.out 2).trans rfl; have hv3 : w1.cell? ⟨gv, 3, none⟩ = some (.bool v.f3) := (blk_cell BV.out 3).trans rfl)
    | ((with_reducible refine gate_callee (f := 21) rfl ?_); refine goesL_ (some 5) rfl rfl Try.func21 (by kernel_rfl) rfl #[.pointer (some ⟨g, 0, none⟩)] rfl (by (try simp only [List.map_toArray, List.map_cons, List.map_nil]); first | done | rfl) ?_; go_loud (refine (agg_none.calls g m s _ BG.out QN.out).mono ?_); rintro e w' ⟨rfl, rfl⟩; refine ⟨_, rfl, ?_⟩)
    | (go_at_call 22; go_loud (refine (value_May.calls v.f0 v.f1 v.f2 v.f3 true _ HM.out).mono ?_); rintro e w2 ⟨rfl, hb⟩; have b_BG := Aside0.mk (blk_below (by (with_reducible repeat (first | refine blk_drewN ?_ _ | refine blk_drew ?_ | refine blk_alloc ?_ _)); exact BG.out) hb); have b_BM := Aside0.mk (blk_below (by (with_reducible repeat (first | refine blk_drewN ?_ _ | refine blk_drew ?_ | refine blk_alloc ?_ _)); exact BM.out) hb); have b_BV := Aside0.mk (blk_below (by (with_reducible repeat (first | refine blk_drewN ?_ _ | refine blk_drew ?_ | refine blk_alloc ?_ _)); exact BV.out) hb); have b_HB := Aside0.mk (below_step (by repeat (first | (with_reducible first | exact HB.out | apply below_alloc | apply pw_below_drewN | apply below_drew1) | exact HB.out)) hb); clear HB BG BM BV; have HB := b_HB; have BG := b_BG; have BM := b_BM; have BV := b_BV; clear b_HB b_BG b_BM b_BV; clear hb; skip; have hv0 : w2.cell? ⟨gv, 0, none⟩ = some (.int .i64 v.f0) := (blk_cell BV.out 0).trans rfl; have hv1 : w2.cell? ⟨gv, 1, none⟩ = some (.int .i64 v.f1) := (blk_cell BV.out 1).trans rfl; have hv2 : w2.cell? ⟨gv, 2, none⟩ = some (.string v.f2) := (blk_cell BV.out 2).trans rfl; have hv3 : w2.cell? ⟨gv, 3, none⟩ = some (.bool v.f3) := (blk_cell BV.out 3).trans rfl))
  go_end0
  exact ⟨rfl, HB.out⟩
theorem run_lookupI {gk : Nat} {es : Array MapEntry} {clock : Nat} {W : World} (hb : W.heap[gk]? = some (.map es clock)) {n : Int} {v : Value} (i : Nat) (hf : Instr.findNow (.int .i64) (.int .i64 n) es.toList 0 = some (some (i, v))) : (Instr.lookup 59 (.map (some gk)) (.int .i64 n) false).run Try.prog W = .ok v W := by
  simp [Instr.lookup, run_underlying Try.underlying59, MapKept.run_getObj_map hb, MapKept.run_checkKey Try.underlying3 (k := .int .i64 n) rfl, MapKept.run_findKey Try.underlying3 hf, Result.andThen]
theorem agg_Add.do1 (s' : Acc18) (g m : Nat) (s : Acc18) (v : S26) (es : Array MapEntry) (clock : Nat) (w : World) (hg : w.heap[g]? = some (.cells (acells s m) 52 (0, 0))) (hm : w.heap[m]? = some (.map es clock)) (hfn : s.fn = 1) (hfn' : s'.fn = 1) (hM : value_May.f v.f0 v.f1 v.f2 v.f3 = some true) (q0 : (v.f0 != 0) = true)
    (HADD : ∀ W : World, W.heap[g]? = some (.cells (acells s m) 52 (0, 0)) → W.heap[m]? = some (.map es clock) → Calls Try.prog 27 #[.pointer (some ⟨g, 0, none⟩), .agg (vc v)] W fun e w' => e = .returned (.tuple #[]) ∧ Step2 g m W w' ∧ w'.heap[g]? = some (.cells (acells s' m) 52 (0, 0)) ∧ ∃ es' clock', w'.heap[m]? = some (.map es' clock') ∧ Seen es'.toList s'.seen) :
    Calls Try.prog 14 #[.pointer (some ⟨g, 0, none⟩), .agg (vc v)] w fun e w' => e = .returned (.tuple #[]) ∧ Step2 g m w w' ∧ w'.heap[g]? = some (.cells (acells s' m) 52 (0, 0)) ∧ ∃ es' clock', w'.heap[m]? = some (.map es' clock') ∧ Seen es'.toList s'.seen := by
  have HNM := Aside0.mk (show m ≠ g from fun e => by subst e; rw [hm] at hg; injection hg with h; cases h)
  have HB := Aside0.mk (Below.refl w.heap.size w)
  have BG := Aside0.mk hg
  clear hg
  have hu52 := Try.underlying52
  have hu26 := Try.underlying26
  have hu50 := Try.underlying50
  have BM := Aside0.mk hm
  have HM := Aside0.mk hM
  clear hm hM
  have HFN := Aside0.mk hfn
  have HFN2 := Aside0.mk hfn'
  have HAD := Aside0.mk HADD
  have QN := Aside0.mk (show (s.fn == 0) = false by rw [hfn]; rfl)
  have hfd := run_field58_0
  clear hfn hfn' HADD
  go_enter Try.func14, Try.ntmps14
  go_wp2_with (first
    | ((with_reducible refine gate_dst (N := 3) rfl ?_); refine box_event ?hg (N := 3) ?hd (cs := (vc v)) (t := 26) ?hr ?_; (case hd => rfl); (case hg => rfl); (case hr => first | (go_simp; done) | (go_simp; rfl)); intro gv hg w1 hbox hb; have BV := Aside0.mk hbox; have GEBV := Aside0.mk ((by rw [hg]; exact (below_size HB.out)) : w.heap.size ≤ gv); have NBGBV := Aside0.mk ((by rw [hg]; exact Nat.ne_of_lt (blk_lt BG.out)) : g ≠ gv); have NBMBV := Aside0.mk ((by rw [hg]; exact Nat.ne_of_lt (blk_lt BM.out)) : m ≠ gv); have b_BG := Aside0.mk (blk_below BG.out hb); have b_BM := Aside0.mk (blk_below BM.out hb); have b_HB := Aside0.mk (below_step HB.out hb); clear HB BG BM; have HB := b_HB; have BG := b_BG; have BM := b_BM; clear b_HB b_BG b_BM; clear hbox hg hb; have ha0 : w1.cell? ⟨g, 0, none⟩ = some (.int .i64 1) := (blk_cell BG.out 0).trans (congrArg (fun z => some (Value.int .i64 z)) HFN.out); have hv0 : w1.cell? ⟨gv, 0, none⟩ = some (.int .i64 v.f0) := (blk_cell BV.out 0).trans rfl; have hv1 : w1.cell? ⟨gv, 1, none⟩ = some (.int .i64 v.f1) := (blk_cell BV.out 1).trans rfl; have hv2 : w1.cell? ⟨gv, 2, none⟩ = some (.string v.f2) := (blk_cell BV.out 2).trans rfl; have hv3 : w1.cell? ⟨gv, 3, none⟩ = some (.bool v.f3) := (blk_cell BV.out 3).trans rfl)
    | ((with_reducible refine gate_callee (f := 21) rfl ?_); refine goesL_ (some 5) rfl rfl Try.func21 (by kernel_rfl) rfl #[.pointer (some ⟨g, 0, none⟩)] rfl (by (try simp only [List.map_toArray, List.map_cons, List.map_nil]); first | done | rfl) ?_; go_loud (refine (agg_none.calls g m s _ BG.out QN.out).mono ?_); rintro e w' ⟨rfl, rfl⟩; refine ⟨_, rfl, ?_⟩)
    | (go_at_call 22; go_loud (refine (value_May.calls v.f0 v.f1 v.f2 v.f3 true _ HM.out).mono ?_); rintro e w2 ⟨rfl, hb⟩; have b_BG := Aside0.mk (blk_below (by (with_reducible repeat (first | refine blk_drewN ?_ _ | refine blk_drew ?_ | refine blk_alloc ?_ _)); exact BG.out) hb); have b_BM := Aside0.mk (blk_below (by (with_reducible repeat (first | refine blk_drewN ?_ _ | refine blk_drew ?_ | refine blk_alloc ?_ _)); exact BM.out) hb); have b_BV := Aside0.mk (blk_below (by (with_reducible repeat (first | refine blk_drewN ?_ _ | refine blk_drew ?_ | refine blk_alloc ?_ _)); exact BV.out) hb); have b_HB := Aside0.mk (below_step (by repeat (first | (with_reducible first | exact HB.out | apply below_alloc | apply pw_below_drewN | apply below_drew1) | exact HB.out)) hb); clear HB BG BM BV; have HB := b_HB; have BG := b_BG; have BM := b_BM; have BV := b_BV; clear b_HB b_BG b_BM b_BV; clear hb; have ha0 : w2.cell? ⟨g, 0, none⟩ = some (.int .i64 1) := (blk_cell BG.out 0).trans (congrArg (fun z => some (Value.int .i64 z)) HFN.out); have hv0 : w2.cell? ⟨gv, 0, none⟩ = some (.int .i64 v.f0) := (blk_cell BV.out 0).trans rfl; have hv1 : w2.cell? ⟨gv, 1, none⟩ = some (.int .i64 v.f1) := (blk_cell BV.out 1).trans rfl; have hv2 : w2.cell? ⟨gv, 2, none⟩ = some (.string v.f2) := (blk_cell BV.out 2).trans rfl; have hv3 : w2.cell? ⟨gv, 3, none⟩ = some (.bool v.f3) := (blk_cell BV.out 3).trans rfl))
  have HS0 := Aside0.mk (show w2.drew.cell? ⟨g, 0, none⟩ = some (.int .i64 1) ∧ w2.drew.cell? ⟨gv, 0, none⟩ = some (.int .i64 v.f0) ∧ w2.drew.cell? ⟨gv, 1, none⟩ = some (.int .i64 v.f1) ∧ w2.drew.cell? ⟨gv, 2, none⟩ = some (.string v.f2) ∧ w2.drew.cell? ⟨gv, 3, none⟩ = some (.bool v.f3) ∧ Step2 g m w w2.drew from ⟨(blk_cell BG.out 0).trans (congrArg (fun z => some (Value.int .i64 z)) HFN.out), (blk_cell BV.out 0).trans rfl, (blk_cell BV.out 1).trans rfl, (blk_cell BV.out 2).trans rfl, (blk_cell BV.out 3).trans rfl, (Step2.of_below HB.out).trans (Step2.of_below (below_drew1 (Below.refl _ _)))⟩)
  go_region_held3 (fun W0 : World => W0.cell? ⟨g, 0, none⟩ = some (.int .i64 1) ∧ W0.cell? ⟨gv, 0, none⟩ = some (.int .i64 v.f0) ∧ W0.cell? ⟨gv, 1, none⟩ = some (.int .i64 v.f1) ∧ W0.cell? ⟨gv, 2, none⟩ = some (.string v.f2) ∧ W0.cell? ⟨gv, 3, none⟩ = some (.bool v.f3) ∧ Step2 g m w W0) (first | exact HS0.out | exact HSX.out) (first
    | (go_at_call 23; refine (agg_kinds.calls _).mono ?_; rintro e w3 ⟨gk, rfl, hk, hb⟩; have BGX := Aside0.mk (blk_below (o := .cells (acells s m) 52 (0, 0)) (g := g) (by (with_reducible repeat (first | refine blk_drewN ?_ _ | refine blk_drew ?_ | refine blk_alloc ?_ _)); exact BG.out) hb); have BMX := Aside0.mk (blk_below (o := .map es clock) (g := m) (by (with_reducible repeat (first | refine blk_drewN ?_ _ | refine blk_drew ?_ | refine blk_alloc ?_ _)); exact BM.out) hb); have BV_ := Aside0.mk (blk_below (o := .cells (vc v) 26 (0, 0)) (g := gv) (by (with_reducible repeat (first | refine blk_drewN ?_ _ | refine blk_drew ?_ | refine blk_alloc ?_ _)); exact BV.out) hb); have STX := Aside0.mk (show Step2 g m w w3 from Step2.trans (by go_split_ands; assumption) (Step2.of_below hb)); have hlk : (Instr.lookup 59 (.map (some gk)) (.int .i64 1) false).run Try.prog w3 = .ok (.agg #[.func (.func 27) #[] #[], .func (.func 28) #[] #[], .func (.func 29) #[] #[]]) w3 := run_lookupI hk _ (by rfl); have HSX := Aside0.mk (show w3.cell? ⟨g, 0, none⟩ = some (.int .i64 1) ∧ w3.cell? ⟨gv, 0, none⟩ = some (.int .i64 v.f0) ∧ w3.cell? ⟨gv, 1, none⟩ = some (.int .i64 v.f1) ∧ w3.cell? ⟨gv, 2, none⟩ = some (.string v.f2) ∧ w3.cell? ⟨gv, 3, none⟩ = some (.bool v.f3) ∧ Step2 g m w w3 from ⟨(blk_cell BGX.out 0).trans (congrArg (fun z => some (Value.int .i64 z)) HFN.out), (blk_cell BV_.out 0).trans rfl, (blk_cell BV_.out 1).trans rfl, (blk_cell BV_.out 2).trans rfl, (blk_cell BV_.out 3).trans rfl, STX.out⟩); clear hk hb)
    | (go_at_call 27; refine (HAD.out _ BGX.out BMX.out).mono ?_; rintro e w4 ⟨rfl, st4, hg4, hm4⟩; have BV4 := Aside0.mk (st4.blk BV_.out NBGBV.out.symm NBMBV.out.symm); have STY := Aside0.mk (STX.out.trans st4); have BGY := Aside0.mk hg4; have BMY := Aside0.mk hm4; clear BV_; have BV_ := BV4; have HSX := Aside0.mk (show w4.cell? ⟨g, 0, none⟩ = some (.int .i64 1) ∧ w4.cell? ⟨gv, 0, none⟩ = some (.int .i64 v.f0) ∧ w4.cell? ⟨gv, 1, none⟩ = some (.int .i64 v.f1) ∧ w4.cell? ⟨gv, 2, none⟩ = some (.string v.f2) ∧ w4.cell? ⟨gv, 3, none⟩ = some (.bool v.f3) ∧ Step2 g m w w4 from ⟨(blk_cell BGY.out 0).trans (congrArg (fun z => some (Value.int .i64 z)) HFN2.out), (blk_cell BV_.out 0).trans rfl, (blk_cell BV_.out 1).trans rfl, (blk_cell BV_.out 2).trans rfl, (blk_cell BV_.out 3).trans rfl, STY.out⟩); clear st4 hg4 hm4))
  all_goals go_wp2
  all_goals go_end0
  all_goals exact ⟨rfl, STY.out, BGY.out, BMY.out⟩
theorem agg_Add.do2 (s' : Acc18) (g m : Nat) (s : Acc18) (v : S26) (es : Array MapEntry) (clock : Nat) (w : World) (hg : w.heap[g]? = some (.cells (acells s m) 52 (0, 0))) (hm : w.heap[m]? = some (.map es clock)) (hfn : s.fn = 2) (hfn' : s'.fn = 2) (hM : value_May.f v.f0 v.f1 v.f2 v.f3 = some true) (q0 : (v.f0 != 0) = true)
    (HADD : ∀ W : World, W.heap[g]? = some (.cells (acells s m) 52 (0, 0)) → W.heap[m]? = some (.map es clock) → Calls Try.prog 31 #[.pointer (some ⟨g, 0, none⟩), .agg (vc v)] W fun e w' => e = .returned (.tuple #[]) ∧ Step2 g m W w' ∧ w'.heap[g]? = some (.cells (acells s' m) 52 (0, 0)) ∧ ∃ es' clock', w'.heap[m]? = some (.map es' clock') ∧ Seen es'.toList s'.seen) :
    Calls Try.prog 14 #[.pointer (some ⟨g, 0, none⟩), .agg (vc v)] w fun e w' => e = .returned (.tuple #[]) ∧ Step2 g m w w' ∧ w'.heap[g]? = some (.cells (acells s' m) 52 (0, 0)) ∧ ∃ es' clock', w'.heap[m]? = some (.map es' clock') ∧ Seen es'.toList s'.seen := by
  have HNM := Aside0.mk (show m ≠ g from fun e => by subst e; rw [hm] at hg; injection hg with h; cases h)
  have HB := Aside0.mk (Below.refl w.heap.size w)
  have BG := Aside0.mk hg
  clear hg
  have hu52 := Try.underlying52
  have hu26 := Try.underlying26
  have hu50 := Try.underlying50
  have BM := Aside0.mk hm
  have HM := Aside0.mk hM
  clear hm hM
  have HFN := Aside0.mk hfn
  have HFN2 := Aside0.mk hfn'
  have HAD := Aside0.mk HADD
  have QN := Aside0.mk (show (s.fn == 0) = false by rw [hfn]; rfl)
  have hfd := run_field58_0
  clear hfn hfn' HADD
  go_enter Try.func14, Try.ntmps14
  go_wp2_with (first
    | ((with_reducible refine gate_dst (N := 3) rfl ?_); refine box_event ?hg (N := 3) ?hd (cs := (vc v)) (t := 26) ?hr ?_; (case hd => rfl); (case hg => rfl); (case hr => first | (go_simp; done) | (go_simp; rfl)); intro gv hg w1 hbox hb; have BV := Aside0.mk hbox; have GEBV := Aside0.mk ((by rw [hg]; exact (below_size HB.out)) : w.heap.size ≤ gv); have NBGBV := Aside0.mk ((by rw [hg]; exact Nat.ne_of_lt (blk_lt BG.out)) : g ≠ gv); have NBMBV := Aside0.mk ((by rw [hg]; exact Nat.ne_of_lt (blk_lt BM.out)) : m ≠ gv); have b_BG := Aside0.mk (blk_below BG.out hb); have b_BM := Aside0.mk (blk_below BM.out hb); have b_HB := Aside0.mk (below_step HB.out hb); clear HB BG BM; have HB := b_HB; have BG := b_BG; have BM := b_BM; clear b_HB b_BG b_BM; clear hbox hg hb; have ha0 : w1.cell? ⟨g, 0, none⟩ = some (.int .i64 2) := (blk_cell BG.out 0).trans (congrArg (fun z => some (Value.int .i64 z)) HFN.out); have hv0 : w1.cell? ⟨gv, 0, none⟩ = some (.int .i64 v.f0) := (blk_cell BV.out 0).trans rfl; have hv1 : w1.cell? ⟨gv, 1, none⟩ = some (.int .i64 v.f1) := (blk_cell BV.out 1).trans rfl; have hv2 : w1.cell? ⟨gv, 2, none⟩ = some (.string v.f2) := (blk_cell BV.out 2).trans rfl; have hv3 : w1.cell? ⟨gv, 3, none⟩ = some (.bool v.f3) := (blk_cell BV.out 3).trans rfl)
    | ((with_reducible refine gate_callee (f := 21) rfl ?_); refine goesL_ (some 5) rfl rfl Try.func21 (by kernel_rfl) rfl #[.pointer (some ⟨g, 0, none⟩)] rfl (by (try simp only [List.map_toArray, List.map_cons, List.map_nil]); first | done | rfl) ?_; go_loud (refine (agg_none.calls g m s _ BG.out QN.out).mono ?_); rintro e w' ⟨rfl, rfl⟩; refine ⟨_, rfl, ?_⟩)
    | (go_at_call 22; go_loud (refine (value_May.calls v.f0 v.f1 v.f2 v.f3 true _ HM.out).mono ?_); rintro e w2 ⟨rfl, hb⟩; have b_BG := Aside0.mk (blk_below (by (with_reducible repeat (first | refine blk_drewN ?_ _ | refine blk_drew ?_ | refine blk_alloc ?_ _)); exact BG.out) hb); have b_BM := Aside0.mk (blk_below (by (with_reducible repeat (first | refine blk_drewN ?_ _ | refine blk_drew ?_ | refine blk_alloc ?_ _)); exact BM.out) hb); have b_BV := Aside0.mk (blk_below (by (with_reducible repeat (first | refine blk_drewN ?_ _ | refine blk_drew ?_ | refine blk_alloc ?_ _)); exact BV.out) hb); have b_HB := Aside0.mk (below_step (by repeat (first | (with_reducible first | exact HB.out | apply below_alloc | apply pw_below_drewN | apply below_drew1) | exact HB.out)) hb); clear HB BG BM BV; have HB := b_HB; have BG := b_BG; have BM := b_BM; have BV := b_BV; clear b_HB b_BG b_BM b_BV; clear hb; have ha0 : w2.cell? ⟨g, 0, none⟩ = some (.int .i64 2) := (blk_cell BG.out 0).trans (congrArg (fun z => some (Value.int .i64 z)) HFN.out); have hv0 : w2.cell? ⟨gv, 0, none⟩ = some (.int .i64 v.f0) := (blk_cell BV.out 0).trans rfl; have hv1 : w2.cell? ⟨gv, 1, none⟩ = some (.int .i64 v.f1) := (blk_cell BV.out 1).trans rfl; have hv2 : w2.cell? ⟨gv, 2, none⟩ = some (.string v.f2) := (blk_cell BV.out 2).trans rfl; have hv3 : w2.cell? ⟨gv, 3, none⟩ = some (.bool v.f3) := (blk_cell BV.out 3).trans rfl))
  have HS0 := Aside0.mk (show w2.drew.cell? ⟨g, 0, none⟩ = some (.int .i64 2) ∧ w2.drew.cell? ⟨gv, 0, none⟩ = some (.int .i64 v.f0) ∧ w2.drew.cell? ⟨gv, 1, none⟩ = some (.int .i64 v.f1) ∧ w2.drew.cell? ⟨gv, 2, none⟩ = some (.string v.f2) ∧ w2.drew.cell? ⟨gv, 3, none⟩ = some (.bool v.f3) ∧ Step2 g m w w2.drew from ⟨(blk_cell BG.out 0).trans (congrArg (fun z => some (Value.int .i64 z)) HFN.out), (blk_cell BV.out 0).trans rfl, (blk_cell BV.out 1).trans rfl, (blk_cell BV.out 2).trans rfl, (blk_cell BV.out 3).trans rfl, (Step2.of_below HB.out).trans (Step2.of_below (below_drew1 (Below.refl _ _)))⟩)
  go_region_held3 (fun W0 : World => W0.cell? ⟨g, 0, none⟩ = some (.int .i64 2) ∧ W0.cell? ⟨gv, 0, none⟩ = some (.int .i64 v.f0) ∧ W0.cell? ⟨gv, 1, none⟩ = some (.int .i64 v.f1) ∧ W0.cell? ⟨gv, 2, none⟩ = some (.string v.f2) ∧ W0.cell? ⟨gv, 3, none⟩ = some (.bool v.f3) ∧ Step2 g m w W0) (first | exact HS0.out | exact HSX.out) (first
    | (go_at_call 23; refine (agg_kinds.calls _).mono ?_; rintro e w3 ⟨gk, rfl, hk, hb⟩; have BGX := Aside0.mk (blk_below (o := .cells (acells s m) 52 (0, 0)) (g := g) (by (with_reducible repeat (first | refine blk_drewN ?_ _ | refine blk_drew ?_ | refine blk_alloc ?_ _)); exact BG.out) hb); have BMX := Aside0.mk (blk_below (o := .map es clock) (g := m) (by (with_reducible repeat (first | refine blk_drewN ?_ _ | refine blk_drew ?_ | refine blk_alloc ?_ _)); exact BM.out) hb); have BV_ := Aside0.mk (blk_below (o := .cells (vc v) 26 (0, 0)) (g := gv) (by (with_reducible repeat (first | refine blk_drewN ?_ _ | refine blk_drew ?_ | refine blk_alloc ?_ _)); exact BV.out) hb); have STX := Aside0.mk (show Step2 g m w w3 from Step2.trans (by go_split_ands; assumption) (Step2.of_below hb)); have hlk : (Instr.lookup 59 (.map (some gk)) (.int .i64 2) false).run Try.prog w3 = .ok (.agg #[.func (.func 31) #[] #[], .func (.func 34) #[] #[], .func (.func 35) #[] #[]]) w3 := run_lookupI hk _ (by rfl); have HSX := Aside0.mk (show w3.cell? ⟨g, 0, none⟩ = some (.int .i64 2) ∧ w3.cell? ⟨gv, 0, none⟩ = some (.int .i64 v.f0) ∧ w3.cell? ⟨gv, 1, none⟩ = some (.int .i64 v.f1) ∧ w3.cell? ⟨gv, 2, none⟩ = some (.string v.f2) ∧ w3.cell? ⟨gv, 3, none⟩ = some (.bool v.f3) ∧ Step2 g m w w3 from ⟨(blk_cell BGX.out 0).trans (congrArg (fun z => some (Value.int .i64 z)) HFN.out), (blk_cell BV_.out 0).trans rfl, (blk_cell BV_.out 1).trans rfl, (blk_cell BV_.out 2).trans rfl, (blk_cell BV_.out 3).trans rfl, STX.out⟩); clear hk hb)
    | (go_at_call 31; refine (HAD.out _ BGX.out BMX.out).mono ?_; rintro e w4 ⟨rfl, st4, hg4, hm4⟩; have BV4 := Aside0.mk (st4.blk BV_.out NBGBV.out.symm NBMBV.out.symm); have STY := Aside0.mk (STX.out.trans st4); have BGY := Aside0.mk hg4; have BMY := Aside0.mk hm4; clear BV_; have BV_ := BV4; have HSX := Aside0.mk (show w4.cell? ⟨g, 0, none⟩ = some (.int .i64 2) ∧ w4.cell? ⟨gv, 0, none⟩ = some (.int .i64 v.f0) ∧ w4.cell? ⟨gv, 1, none⟩ = some (.int .i64 v.f1) ∧ w4.cell? ⟨gv, 2, none⟩ = some (.string v.f2) ∧ w4.cell? ⟨gv, 3, none⟩ = some (.bool v.f3) ∧ Step2 g m w w4 from ⟨(blk_cell BGY.out 0).trans (congrArg (fun z => some (Value.int .i64 z)) HFN2.out), (blk_cell BV_.out 0).trans rfl, (blk_cell BV_.out 1).trans rfl, (blk_cell BV_.out 2).trans rfl, (blk_cell BV_.out 3).trans rfl, STY.out⟩); clear st4 hg4 hm4))
  all_goals go_wp2
  all_goals go_end0
  all_goals exact ⟨rfl, STY.out, BGY.out, BMY.out⟩
theorem agg_Add.do3 (s' : Acc18) (g m : Nat) (s : Acc18) (v : S26) (es : Array MapEntry) (clock : Nat) (w : World) (hg : w.heap[g]? = some (.cells (acells s m) 52 (0, 0))) (hm : w.heap[m]? = some (.map es clock)) (hfn : s.fn = 3) (hfn' : s'.fn = 3) (hM : value_May.f v.f0 v.f1 v.f2 v.f3 = some true) (q0 : (v.f0 != 0) = true)
    (HADD : ∀ W : World, W.heap[g]? = some (.cells (acells s m) 52 (0, 0)) → W.heap[m]? = some (.map es clock) → Calls Try.prog 36 #[.pointer (some ⟨g, 0, none⟩), .agg (vc v)] W fun e w' => e = .returned (.tuple #[]) ∧ Step2 g m W w' ∧ w'.heap[g]? = some (.cells (acells s' m) 52 (0, 0)) ∧ ∃ es' clock', w'.heap[m]? = some (.map es' clock') ∧ Seen es'.toList s'.seen) :
    Calls Try.prog 14 #[.pointer (some ⟨g, 0, none⟩), .agg (vc v)] w fun e w' => e = .returned (.tuple #[]) ∧ Step2 g m w w' ∧ w'.heap[g]? = some (.cells (acells s' m) 52 (0, 0)) ∧ ∃ es' clock', w'.heap[m]? = some (.map es' clock') ∧ Seen es'.toList s'.seen := by
  have HNM := Aside0.mk (show m ≠ g from fun e => by subst e; rw [hm] at hg; injection hg with h; cases h)
  have HB := Aside0.mk (Below.refl w.heap.size w)
  have BG := Aside0.mk hg
  clear hg
  have hu52 := Try.underlying52
  have hu26 := Try.underlying26
  have hu50 := Try.underlying50
  have BM := Aside0.mk hm
  have HM := Aside0.mk hM
  clear hm hM
  have HFN := Aside0.mk hfn
  have HFN2 := Aside0.mk hfn'
  have HAD := Aside0.mk HADD
  have QN := Aside0.mk (show (s.fn == 0) = false by rw [hfn]; rfl)
  have hfd := run_field58_0
  clear hfn hfn' HADD
  go_enter Try.func14, Try.ntmps14
  go_wp2_with (first
    | ((with_reducible refine gate_dst (N := 3) rfl ?_); refine box_event ?hg (N := 3) ?hd (cs := (vc v)) (t := 26) ?hr ?_; (case hd => rfl); (case hg => rfl); (case hr => first | (go_simp; done) | (go_simp; rfl)); intro gv hg w1 hbox hb; have BV := Aside0.mk hbox; have GEBV := Aside0.mk ((by rw [hg]; exact (below_size HB.out)) : w.heap.size ≤ gv); have NBGBV := Aside0.mk ((by rw [hg]; exact Nat.ne_of_lt (blk_lt BG.out)) : g ≠ gv); have NBMBV := Aside0.mk ((by rw [hg]; exact Nat.ne_of_lt (blk_lt BM.out)) : m ≠ gv); have b_BG := Aside0.mk (blk_below BG.out hb); have b_BM := Aside0.mk (blk_below BM.out hb); have b_HB := Aside0.mk (below_step HB.out hb); clear HB BG BM; have HB := b_HB; have BG := b_BG; have BM := b_BM; clear b_HB b_BG b_BM; clear hbox hg hb; have ha0 : w1.cell? ⟨g, 0, none⟩ = some (.int .i64 3) := (blk_cell BG.out 0).trans (congrArg (fun z => some (Value.int .i64 z)) HFN.out); have hv0 : w1.cell? ⟨gv, 0, none⟩ = some (.int .i64 v.f0) := (blk_cell BV.out 0).trans rfl; have hv1 : w1.cell? ⟨gv, 1, none⟩ = some (.int .i64 v.f1) := (blk_cell BV.out 1).trans rfl; have hv2 : w1.cell? ⟨gv, 2, none⟩ = some (.string v.f2) := (blk_cell BV.out 2).trans rfl; have hv3 : w1.cell? ⟨gv, 3, none⟩ = some (.bool v.f3) := (blk_cell BV.out 3).trans rfl)
    | ((with_reducible refine gate_callee (f := 21) rfl ?_); refine goesL_ (some 5) rfl rfl Try.func21 (by kernel_rfl) rfl #[.pointer (some ⟨g, 0, none⟩)] rfl (by (try simp only [List.map_toArray, List.map_cons, List.map_nil]); first | done | rfl) ?_; go_loud (refine (agg_none.calls g m s _ BG.out QN.out).mono ?_); rintro e w' ⟨rfl, rfl⟩; refine ⟨_, rfl, ?_⟩)
    | (go_at_call 22; go_loud (refine (value_May.calls v.f0 v.f1 v.f2 v.f3 true _ HM.out).mono ?_); rintro e w2 ⟨rfl, hb⟩; have b_BG := Aside0.mk (blk_below (by (with_reducible repeat (first | refine blk_drewN ?_ _ | refine blk_drew ?_ | refine blk_alloc ?_ _)); exact BG.out) hb); have b_BM := Aside0.mk (blk_below (by (with_reducible repeat (first | refine blk_drewN ?_ _ | refine blk_drew ?_ | refine blk_alloc ?_ _)); exact BM.out) hb); have b_BV := Aside0.mk (blk_below (by (with_reducible repeat (first | refine blk_drewN ?_ _ | refine blk_drew ?_ | refine blk_alloc ?_ _)); exact BV.out) hb); have b_HB := Aside0.mk (below_step (by repeat (first | (with_reducible first | exact HB.out | apply below_alloc | apply pw_below_drewN | apply below_drew1) | exact HB.out)) hb); clear HB BG BM BV; have HB := b_HB; have BG := b_BG; have BM := b_BM; have BV := b_BV; clear b_HB b_BG b_BM b_BV; clear hb; have ha0 : w2.cell? ⟨g, 0, none⟩ = some (.int .i64 3) := (blk_cell BG.out 0).trans (congrArg (fun z => some (Value.int .i64 z)) HFN.out); have hv0 : w2.cell? ⟨gv, 0, none⟩ = some (.int .i64 v.f0) := (blk_cell BV.out 0).trans rfl; have hv1 : w2.cell? ⟨gv, 1, none⟩ = some (.int .i64 v.f1) := (blk_cell BV.out 1).trans rfl; have hv2 : w2.cell? ⟨gv, 2, none⟩ = some (.string v.f2) := (blk_cell BV.out 2).trans rfl; have hv3 : w2.cell? ⟨gv, 3, none⟩ = some (.bool v.f3) := (blk_cell BV.out 3).trans rfl))
  have HS0 := Aside0.mk (show w2.drew.cell? ⟨g, 0, none⟩ = some (.int .i64 3) ∧ w2.drew.cell? ⟨gv, 0, none⟩ = some (.int .i64 v.f0) ∧ w2.drew.cell? ⟨gv, 1, none⟩ = some (.int .i64 v.f1) ∧ w2.drew.cell? ⟨gv, 2, none⟩ = some (.string v.f2) ∧ w2.drew.cell? ⟨gv, 3, none⟩ = some (.bool v.f3) ∧ Step2 g m w w2.drew from ⟨(blk_cell BG.out 0).trans (congrArg (fun z => some (Value.int .i64 z)) HFN.out), (blk_cell BV.out 0).trans rfl, (blk_cell BV.out 1).trans rfl, (blk_cell BV.out 2).trans rfl, (blk_cell BV.out 3).trans rfl, (Step2.of_below HB.out).trans (Step2.of_below (below_drew1 (Below.refl _ _)))⟩)
  go_region_held3 (fun W0 : World => W0.cell? ⟨g, 0, none⟩ = some (.int .i64 3) ∧ W0.cell? ⟨gv, 0, none⟩ = some (.int .i64 v.f0) ∧ W0.cell? ⟨gv, 1, none⟩ = some (.int .i64 v.f1) ∧ W0.cell? ⟨gv, 2, none⟩ = some (.string v.f2) ∧ W0.cell? ⟨gv, 3, none⟩ = some (.bool v.f3) ∧ Step2 g m w W0) (first | exact HS0.out | exact HSX.out) (first
    | (go_at_call 23; refine (agg_kinds.calls _).mono ?_; rintro e w3 ⟨gk, rfl, hk, hb⟩; have BGX := Aside0.mk (blk_below (o := .cells (acells s m) 52 (0, 0)) (g := g) (by (with_reducible repeat (first | refine blk_drewN ?_ _ | refine blk_drew ?_ | refine blk_alloc ?_ _)); exact BG.out) hb); have BMX := Aside0.mk (blk_below (o := .map es clock) (g := m) (by (with_reducible repeat (first | refine blk_drewN ?_ _ | refine blk_drew ?_ | refine blk_alloc ?_ _)); exact BM.out) hb); have BV_ := Aside0.mk (blk_below (o := .cells (vc v) 26 (0, 0)) (g := gv) (by (with_reducible repeat (first | refine blk_drewN ?_ _ | refine blk_drew ?_ | refine blk_alloc ?_ _)); exact BV.out) hb); have STX := Aside0.mk (show Step2 g m w w3 from Step2.trans (by go_split_ands; assumption) (Step2.of_below hb)); have hlk : (Instr.lookup 59 (.map (some gk)) (.int .i64 3) false).run Try.prog w3 = .ok (.agg #[.func (.func 36) #[] #[], .func (.func 37) #[] #[], .func (.func 25) #[] #[]]) w3 := run_lookupI hk _ (by rfl); have HSX := Aside0.mk (show w3.cell? ⟨g, 0, none⟩ = some (.int .i64 3) ∧ w3.cell? ⟨gv, 0, none⟩ = some (.int .i64 v.f0) ∧ w3.cell? ⟨gv, 1, none⟩ = some (.int .i64 v.f1) ∧ w3.cell? ⟨gv, 2, none⟩ = some (.string v.f2) ∧ w3.cell? ⟨gv, 3, none⟩ = some (.bool v.f3) ∧ Step2 g m w w3 from ⟨(blk_cell BGX.out 0).trans (congrArg (fun z => some (Value.int .i64 z)) HFN.out), (blk_cell BV_.out 0).trans rfl, (blk_cell BV_.out 1).trans rfl, (blk_cell BV_.out 2).trans rfl, (blk_cell BV_.out 3).trans rfl, STX.out⟩); clear hk hb)
    | (go_at_call 36; refine (HAD.out _ BGX.out BMX.out).mono ?_; rintro e w4 ⟨rfl, st4, hg4, hm4⟩; have BV4 := Aside0.mk (st4.blk BV_.out NBGBV.out.symm NBMBV.out.symm); have STY := Aside0.mk (STX.out.trans st4); have BGY := Aside0.mk hg4; have BMY := Aside0.mk hm4; clear BV_; have BV_ := BV4; have HSX := Aside0.mk (show w4.cell? ⟨g, 0, none⟩ = some (.int .i64 3) ∧ w4.cell? ⟨gv, 0, none⟩ = some (.int .i64 v.f0) ∧ w4.cell? ⟨gv, 1, none⟩ = some (.int .i64 v.f1) ∧ w4.cell? ⟨gv, 2, none⟩ = some (.string v.f2) ∧ w4.cell? ⟨gv, 3, none⟩ = some (.bool v.f3) ∧ Step2 g m w w4 from ⟨(blk_cell BGY.out 0).trans (congrArg (fun z => some (Value.int .i64 z)) HFN2.out), (blk_cell BV_.out 0).trans rfl, (blk_cell BV_.out 1).trans rfl, (blk_cell BV_.out 2).trans rfl, (blk_cell BV_.out 3).trans rfl, STY.out⟩); clear st4 hg4 hm4))
  all_goals go_wp2
  all_goals go_end0
  all_goals exact ⟨rfl, STY.out, BGY.out, BMY.out⟩
theorem agg_Add.do4 (s' : Acc18) (g m : Nat) (s : Acc18) (v : S26) (es : Array MapEntry) (clock : Nat) (w : World) (hg : w.heap[g]? = some (.cells (acells s m) 52 (0, 0))) (hm : w.heap[m]? = some (.map es clock)) (hfn : s.fn = 4) (hfn' : s'.fn = 4) (hM : value_May.f v.f0 v.f1 v.f2 v.f3 = some true) (q0 : (v.f0 != 0) = true)
    (HADD : ∀ W : World, W.heap[g]? = some (.cells (acells s m) 52 (0, 0)) → W.heap[m]? = some (.map es clock) → Calls Try.prog 36 #[.pointer (some ⟨g, 0, none⟩), .agg (vc v)] W fun e w' => e = .returned (.tuple #[]) ∧ Step2 g m W w' ∧ w'.heap[g]? = some (.cells (acells s' m) 52 (0, 0)) ∧ ∃ es' clock', w'.heap[m]? = some (.map es' clock') ∧ Seen es'.toList s'.seen) :
    Calls Try.prog 14 #[.pointer (some ⟨g, 0, none⟩), .agg (vc v)] w fun e w' => e = .returned (.tuple #[]) ∧ Step2 g m w w' ∧ w'.heap[g]? = some (.cells (acells s' m) 52 (0, 0)) ∧ ∃ es' clock', w'.heap[m]? = some (.map es' clock') ∧ Seen es'.toList s'.seen := by
  have HNM := Aside0.mk (show m ≠ g from fun e => by subst e; rw [hm] at hg; injection hg with h; cases h)
  have HB := Aside0.mk (Below.refl w.heap.size w)
  have BG := Aside0.mk hg
  clear hg
  have hu52 := Try.underlying52
  have hu26 := Try.underlying26
  have hu50 := Try.underlying50
  have BM := Aside0.mk hm
  have HM := Aside0.mk hM
  clear hm hM
  have HFN := Aside0.mk hfn
  have HFN2 := Aside0.mk hfn'
  have HAD := Aside0.mk HADD
  have QN := Aside0.mk (show (s.fn == 0) = false by rw [hfn]; rfl)
  have hfd := run_field58_0
  clear hfn hfn' HADD
  go_enter Try.func14, Try.ntmps14
  go_wp2_with (first
    | ((with_reducible refine gate_dst (N := 3) rfl ?_); refine box_event ?hg (N := 3) ?hd (cs := (vc v)) (t := 26) ?hr ?_; (case hd => rfl); (case hg => rfl); (case hr => first | (go_simp; done) | (go_simp; rfl)); intro gv hg w1 hbox hb; have BV := Aside0.mk hbox; have GEBV := Aside0.mk ((by rw [hg]; exact (below_size HB.out)) : w.heap.size ≤ gv); have NBGBV := Aside0.mk ((by rw [hg]; exact Nat.ne_of_lt (blk_lt BG.out)) : g ≠ gv); have NBMBV := Aside0.mk ((by rw [hg]; exact Nat.ne_of_lt (blk_lt BM.out)) : m ≠ gv); have b_BG := Aside0.mk (blk_below BG.out hb); have b_BM := Aside0.mk (blk_below BM.out hb); have b_HB := Aside0.mk (below_step HB.out hb); clear HB BG BM; have HB := b_HB; have BG := b_BG; have BM := b_BM; clear b_HB b_BG b_BM; clear hbox hg hb; have ha0 : w1.cell? ⟨g, 0, none⟩ = some (.int .i64 4) := (blk_cell BG.out 0).trans (congrArg (fun z => some (Value.int .i64 z)) HFN.out); have hv0 : w1.cell? ⟨gv, 0, none⟩ = some (.int .i64 v.f0) := (blk_cell BV.out 0).trans rfl; have hv1 : w1.cell? ⟨gv, 1, none⟩ = some (.int .i64 v.f1) := (blk_cell BV.out 1).trans rfl; have hv2 : w1.cell? ⟨gv, 2, none⟩ = some (.string v.f2) := (blk_cell BV.out 2).trans rfl; have hv3 : w1.cell? ⟨gv, 3, none⟩ = some (.bool v.f3) := (blk_cell BV.out 3).trans rfl)
    | ((with_reducible refine gate_callee (f := 21) rfl ?_); refine goesL_ (some 5) rfl rfl Try.func21 (by kernel_rfl) rfl #[.pointer (some ⟨g, 0, none⟩)] rfl (by (try simp only [List.map_toArray, List.map_cons, List.map_nil]); first | done | rfl) ?_; go_loud (refine (agg_none.calls g m s _ BG.out QN.out).mono ?_); rintro e w' ⟨rfl, rfl⟩; refine ⟨_, rfl, ?_⟩)
    | (go_at_call 22; go_loud (refine (value_May.calls v.f0 v.f1 v.f2 v.f3 true _ HM.out).mono ?_); rintro e w2 ⟨rfl, hb⟩; have b_BG := Aside0.mk (blk_below (by (with_reducible repeat (first | refine blk_drewN ?_ _ | refine blk_drew ?_ | refine blk_alloc ?_ _)); exact BG.out) hb); have b_BM := Aside0.mk (blk_below (by (with_reducible repeat (first | refine blk_drewN ?_ _ | refine blk_drew ?_ | refine blk_alloc ?_ _)); exact BM.out) hb); have b_BV := Aside0.mk (blk_below (by (with_reducible repeat (first | refine blk_drewN ?_ _ | refine blk_drew ?_ | refine blk_alloc ?_ _)); exact BV.out) hb); have b_HB := Aside0.mk (below_step (by repeat (first | (with_reducible first | exact HB.out | apply below_alloc | apply pw_below_drewN | apply below_drew1) | exact HB.out)) hb); clear HB BG BM BV; have HB := b_HB; have BG := b_BG; have BM := b_BM; have BV := b_BV; clear b_HB b_BG b_BM b_BV; clear hb; have ha0 : w2.cell? ⟨g, 0, none⟩ = some (.int .i64 4) := (blk_cell BG.out 0).trans (congrArg (fun z => some (Value.int .i64 z)) HFN.out); have hv0 : w2.cell? ⟨gv, 0, none⟩ = some (.int .i64 v.f0) := (blk_cell BV.out 0).trans rfl; have hv1 : w2.cell? ⟨gv, 1, none⟩ = some (.int .i64 v.f1) := (blk_cell BV.out 1).trans rfl; have hv2 : w2.cell? ⟨gv, 2, none⟩ = some (.string v.f2) := (blk_cell BV.out 2).trans rfl; have hv3 : w2.cell? ⟨gv, 3, none⟩ = some (.bool v.f3) := (blk_cell BV.out 3).trans rfl))
  have HS0 := Aside0.mk (show w2.drew.cell? ⟨g, 0, none⟩ = some (.int .i64 4) ∧ w2.drew.cell? ⟨gv, 0, none⟩ = some (.int .i64 v.f0) ∧ w2.drew.cell? ⟨gv, 1, none⟩ = some (.int .i64 v.f1) ∧ w2.drew.cell? ⟨gv, 2, none⟩ = some (.string v.f2) ∧ w2.drew.cell? ⟨gv, 3, none⟩ = some (.bool v.f3) ∧ Step2 g m w w2.drew from ⟨(blk_cell BG.out 0).trans (congrArg (fun z => some (Value.int .i64 z)) HFN.out), (blk_cell BV.out 0).trans rfl, (blk_cell BV.out 1).trans rfl, (blk_cell BV.out 2).trans rfl, (blk_cell BV.out 3).trans rfl, (Step2.of_below HB.out).trans (Step2.of_below (below_drew1 (Below.refl _ _)))⟩)
  go_region_held3 (fun W0 : World => W0.cell? ⟨g, 0, none⟩ = some (.int .i64 4) ∧ W0.cell? ⟨gv, 0, none⟩ = some (.int .i64 v.f0) ∧ W0.cell? ⟨gv, 1, none⟩ = some (.int .i64 v.f1) ∧ W0.cell? ⟨gv, 2, none⟩ = some (.string v.f2) ∧ W0.cell? ⟨gv, 3, none⟩ = some (.bool v.f3) ∧ Step2 g m w W0) (first | exact HS0.out | exact HSX.out) (first
    | (go_at_call 23; refine (agg_kinds.calls _).mono ?_; rintro e w3 ⟨gk, rfl, hk, hb⟩; have BGX := Aside0.mk (blk_below (o := .cells (acells s m) 52 (0, 0)) (g := g) (by (with_reducible repeat (first | refine blk_drewN ?_ _ | refine blk_drew ?_ | refine blk_alloc ?_ _)); exact BG.out) hb); have BMX := Aside0.mk (blk_below (o := .map es clock) (g := m) (by (with_reducible repeat (first | refine blk_drewN ?_ _ | refine blk_drew ?_ | refine blk_alloc ?_ _)); exact BM.out) hb); have BV_ := Aside0.mk (blk_below (o := .cells (vc v) 26 (0, 0)) (g := gv) (by (with_reducible repeat (first | refine blk_drewN ?_ _ | refine blk_drew ?_ | refine blk_alloc ?_ _)); exact BV.out) hb); have STX := Aside0.mk (show Step2 g m w w3 from Step2.trans (by go_split_ands; assumption) (Step2.of_below hb)); have hlk : (Instr.lookup 59 (.map (some gk)) (.int .i64 4) false).run Try.prog w3 = .ok (.agg #[.func (.func 36) #[] #[], .func (.func 37) #[] #[], .func (.func 26) #[] #[]]) w3 := run_lookupI hk _ (by rfl); have HSX := Aside0.mk (show w3.cell? ⟨g, 0, none⟩ = some (.int .i64 4) ∧ w3.cell? ⟨gv, 0, none⟩ = some (.int .i64 v.f0) ∧ w3.cell? ⟨gv, 1, none⟩ = some (.int .i64 v.f1) ∧ w3.cell? ⟨gv, 2, none⟩ = some (.string v.f2) ∧ w3.cell? ⟨gv, 3, none⟩ = some (.bool v.f3) ∧ Step2 g m w w3 from ⟨(blk_cell BGX.out 0).trans (congrArg (fun z => some (Value.int .i64 z)) HFN.out), (blk_cell BV_.out 0).trans rfl, (blk_cell BV_.out 1).trans rfl, (blk_cell BV_.out 2).trans rfl, (blk_cell BV_.out 3).trans rfl, STX.out⟩); clear hk hb)
    | (go_at_call 36; refine (HAD.out _ BGX.out BMX.out).mono ?_; rintro e w4 ⟨rfl, st4, hg4, hm4⟩; have BV4 := Aside0.mk (st4.blk BV_.out NBGBV.out.symm NBMBV.out.symm); have STY := Aside0.mk (STX.out.trans st4); have BGY := Aside0.mk hg4; have BMY := Aside0.mk hm4; clear BV_; have BV_ := BV4; have HSX := Aside0.mk (show w4.cell? ⟨g, 0, none⟩ = some (.int .i64 4) ∧ w4.cell? ⟨gv, 0, none⟩ = some (.int .i64 v.f0) ∧ w4.cell? ⟨gv, 1, none⟩ = some (.int .i64 v.f1) ∧ w4.cell? ⟨gv, 2, none⟩ = some (.string v.f2) ∧ w4.cell? ⟨gv, 3, none⟩ = some (.bool v.f3) ∧ Step2 g m w w4 from ⟨(blk_cell BGY.out 0).trans (congrArg (fun z => some (Value.int .i64 z)) HFN2.out), (blk_cell BV_.out 0).trans rfl, (blk_cell BV_.out 1).trans rfl, (blk_cell BV_.out 2).trans rfl, (blk_cell BV_.out 3).trans rfl, STY.out⟩); clear st4 hg4 hm4))
  all_goals go_wp2
  all_goals go_end0
  all_goals exact ⟨rfl, STY.out, BGY.out, BMY.out⟩
theorem agg_Add.do5 (s' : Acc18) (g m : Nat) (s : Acc18) (v : S26) (es : Array MapEntry) (clock : Nat) (w : World) (hg : w.heap[g]? = some (.cells (acells s m) 52 (0, 0))) (hm : w.heap[m]? = some (.map es clock)) (hfn : s.fn = 5) (hfn' : s'.fn = 5) (hM : value_May.f v.f0 v.f1 v.f2 v.f3 = some true) (q0 : (v.f0 != 0) = true)
    (HADD : ∀ W : World, W.heap[g]? = some (.cells (acells s m) 52 (0, 0)) → W.heap[m]? = some (.map es clock) → Calls Try.prog 38 #[.pointer (some ⟨g, 0, none⟩), .agg (vc v)] W fun e w' => e = .returned (.tuple #[]) ∧ Step2 g m W w' ∧ w'.heap[g]? = some (.cells (acells s' m) 52 (0, 0)) ∧ ∃ es' clock', w'.heap[m]? = some (.map es' clock') ∧ Seen es'.toList s'.seen) :
    Calls Try.prog 14 #[.pointer (some ⟨g, 0, none⟩), .agg (vc v)] w fun e w' => e = .returned (.tuple #[]) ∧ Step2 g m w w' ∧ w'.heap[g]? = some (.cells (acells s' m) 52 (0, 0)) ∧ ∃ es' clock', w'.heap[m]? = some (.map es' clock') ∧ Seen es'.toList s'.seen := by
  have HNM := Aside0.mk (show m ≠ g from fun e => by subst e; rw [hm] at hg; injection hg with h; cases h)
  have HB := Aside0.mk (Below.refl w.heap.size w)
  have BG := Aside0.mk hg
  clear hg
  have hu52 := Try.underlying52
  have hu26 := Try.underlying26
  have hu50 := Try.underlying50
  have BM := Aside0.mk hm
  have HM := Aside0.mk hM
  clear hm hM
  have HFN := Aside0.mk hfn
  have HFN2 := Aside0.mk hfn'
  have HAD := Aside0.mk HADD
  have QN := Aside0.mk (show (s.fn == 0) = false by rw [hfn]; rfl)
  have hfd := run_field58_0
  clear hfn hfn' HADD
  go_enter Try.func14, Try.ntmps14
  go_wp2_with (first
    | ((with_reducible refine gate_dst (N := 3) rfl ?_); refine box_event ?hg (N := 3) ?hd (cs := (vc v)) (t := 26) ?hr ?_; (case hd => rfl); (case hg => rfl); (case hr => first | (go_simp; done) | (go_simp; rfl)); intro gv hg w1 hbox hb; have BV := Aside0.mk hbox; have GEBV := Aside0.mk ((by rw [hg]; exact (below_size HB.out)) : w.heap.size ≤ gv); have NBGBV := Aside0.mk ((by rw [hg]; exact Nat.ne_of_lt (blk_lt BG.out)) : g ≠ gv); have NBMBV := Aside0.mk ((by rw [hg]; exact Nat.ne_of_lt (blk_lt BM.out)) : m ≠ gv); have b_BG := Aside0.mk (blk_below BG.out hb); have b_BM := Aside0.mk (blk_below BM.out hb); have b_HB := Aside0.mk (below_step HB.out hb); clear HB BG BM; have HB := b_HB; have BG := b_BG; have BM := b_BM; clear b_HB b_BG b_BM; clear hbox hg hb; have ha0 : w1.cell? ⟨g, 0, none⟩ = some (.int .i64 5) := (blk_cell BG.out 0).trans (congrArg (fun z => some (Value.int .i64 z)) HFN.out); have hv0 : w1.cell? ⟨gv, 0, none⟩ = some (.int .i64 v.f0) := (blk_cell BV.out 0).trans rfl; have hv1 : w1.cell? ⟨gv, 1, none⟩ = some (.int .i64 v.f1) := (blk_cell BV.out 1).trans rfl; have hv2 : w1.cell? ⟨gv, 2, none⟩ = some (.string v.f2) := (blk_cell BV.out 2).trans rfl; have hv3 : w1.cell? ⟨gv, 3, none⟩ = some (.bool v.f3) := (blk_cell BV.out 3).trans rfl)
    | ((with_reducible refine gate_callee (f := 21) rfl ?_); refine goesL_ (some 5) rfl rfl Try.func21 (by kernel_rfl) rfl #[.pointer (some ⟨g, 0, none⟩)] rfl (by (try simp only [List.map_toArray, List.map_cons, List.map_nil]); first | done | rfl) ?_; go_loud (refine (agg_none.calls g m s _ BG.out QN.out).mono ?_); rintro e w' ⟨rfl, rfl⟩; refine ⟨_, rfl, ?_⟩)
    | (go_at_call 22; go_loud (refine (value_May.calls v.f0 v.f1 v.f2 v.f3 true _ HM.out).mono ?_); rintro e w2 ⟨rfl, hb⟩; have b_BG := Aside0.mk (blk_below (by (with_reducible repeat (first | refine blk_drewN ?_ _ | refine blk_drew ?_ | refine blk_alloc ?_ _)); exact BG.out) hb); have b_BM := Aside0.mk (blk_below (by (with_reducible repeat (first | refine blk_drewN ?_ _ | refine blk_drew ?_ | refine blk_alloc ?_ _)); exact BM.out) hb); have b_BV := Aside0.mk (blk_below (by (with_reducible repeat (first | refine blk_drewN ?_ _ | refine blk_drew ?_ | refine blk_alloc ?_ _)); exact BV.out) hb); have b_HB := Aside0.mk (below_step (by repeat (first | (with_reducible first | exact HB.out | apply below_alloc | apply pw_below_drewN | apply below_drew1) | exact HB.out)) hb); clear HB BG BM BV; have HB := b_HB; have BG := b_BG; have BM := b_BM; have BV := b_BV; clear b_HB b_BG b_BM b_BV; clear hb; have ha0 : w2.cell? ⟨g, 0, none⟩ = some (.int .i64 5) := (blk_cell BG.out 0).trans (congrArg (fun z => some (Value.int .i64 z)) HFN.out); have hv0 : w2.cell? ⟨gv, 0, none⟩ = some (.int .i64 v.f0) := (blk_cell BV.out 0).trans rfl; have hv1 : w2.cell? ⟨gv, 1, none⟩ = some (.int .i64 v.f1) := (blk_cell BV.out 1).trans rfl; have hv2 : w2.cell? ⟨gv, 2, none⟩ = some (.string v.f2) := (blk_cell BV.out 2).trans rfl; have hv3 : w2.cell? ⟨gv, 3, none⟩ = some (.bool v.f3) := (blk_cell BV.out 3).trans rfl))
  have HS0 := Aside0.mk (show w2.drew.cell? ⟨g, 0, none⟩ = some (.int .i64 5) ∧ w2.drew.cell? ⟨gv, 0, none⟩ = some (.int .i64 v.f0) ∧ w2.drew.cell? ⟨gv, 1, none⟩ = some (.int .i64 v.f1) ∧ w2.drew.cell? ⟨gv, 2, none⟩ = some (.string v.f2) ∧ w2.drew.cell? ⟨gv, 3, none⟩ = some (.bool v.f3) ∧ Step2 g m w w2.drew from ⟨(blk_cell BG.out 0).trans (congrArg (fun z => some (Value.int .i64 z)) HFN.out), (blk_cell BV.out 0).trans rfl, (blk_cell BV.out 1).trans rfl, (blk_cell BV.out 2).trans rfl, (blk_cell BV.out 3).trans rfl, (Step2.of_below HB.out).trans (Step2.of_below (below_drew1 (Below.refl _ _)))⟩)
  go_region_held3 (fun W0 : World => W0.cell? ⟨g, 0, none⟩ = some (.int .i64 5) ∧ W0.cell? ⟨gv, 0, none⟩ = some (.int .i64 v.f0) ∧ W0.cell? ⟨gv, 1, none⟩ = some (.int .i64 v.f1) ∧ W0.cell? ⟨gv, 2, none⟩ = some (.string v.f2) ∧ W0.cell? ⟨gv, 3, none⟩ = some (.bool v.f3) ∧ Step2 g m w W0) (first | exact HS0.out | exact HSX.out) (first
    | (go_at_call 23; refine (agg_kinds.calls _).mono ?_; rintro e w3 ⟨gk, rfl, hk, hb⟩; have BGX := Aside0.mk (blk_below (o := .cells (acells s m) 52 (0, 0)) (g := g) (by (with_reducible repeat (first | refine blk_drewN ?_ _ | refine blk_drew ?_ | refine blk_alloc ?_ _)); exact BG.out) hb); have BMX := Aside0.mk (blk_below (o := .map es clock) (g := m) (by (with_reducible repeat (first | refine blk_drewN ?_ _ | refine blk_drew ?_ | refine blk_alloc ?_ _)); exact BM.out) hb); have BV_ := Aside0.mk (blk_below (o := .cells (vc v) 26 (0, 0)) (g := gv) (by (with_reducible repeat (first | refine blk_drewN ?_ _ | refine blk_drew ?_ | refine blk_alloc ?_ _)); exact BV.out) hb); have STX := Aside0.mk (show Step2 g m w w3 from Step2.trans (by go_split_ands; assumption) (Step2.of_below hb)); have hlk : (Instr.lookup 59 (.map (some gk)) (.int .i64 5) false).run Try.prog w3 = .ok (.agg #[.func (.func 38) #[] #[], .func (.func 39) #[] #[], .func (.func 40) #[] #[]]) w3 := run_lookupI hk _ (by rfl); have HSX := Aside0.mk (show w3.cell? ⟨g, 0, none⟩ = some (.int .i64 5) ∧ w3.cell? ⟨gv, 0, none⟩ = some (.int .i64 v.f0) ∧ w3.cell? ⟨gv, 1, none⟩ = some (.int .i64 v.f1) ∧ w3.cell? ⟨gv, 2, none⟩ = some (.string v.f2) ∧ w3.cell? ⟨gv, 3, none⟩ = some (.bool v.f3) ∧ Step2 g m w w3 from ⟨(blk_cell BGX.out 0).trans (congrArg (fun z => some (Value.int .i64 z)) HFN.out), (blk_cell BV_.out 0).trans rfl, (blk_cell BV_.out 1).trans rfl, (blk_cell BV_.out 2).trans rfl, (blk_cell BV_.out 3).trans rfl, STX.out⟩); clear hk hb)
    | (go_at_call 38; refine (HAD.out _ BGX.out BMX.out).mono ?_; rintro e w4 ⟨rfl, st4, hg4, hm4⟩; have BV4 := Aside0.mk (st4.blk BV_.out NBGBV.out.symm NBMBV.out.symm); have STY := Aside0.mk (STX.out.trans st4); have BGY := Aside0.mk hg4; have BMY := Aside0.mk hm4; clear BV_; have BV_ := BV4; have HSX := Aside0.mk (show w4.cell? ⟨g, 0, none⟩ = some (.int .i64 5) ∧ w4.cell? ⟨gv, 0, none⟩ = some (.int .i64 v.f0) ∧ w4.cell? ⟨gv, 1, none⟩ = some (.int .i64 v.f1) ∧ w4.cell? ⟨gv, 2, none⟩ = some (.string v.f2) ∧ w4.cell? ⟨gv, 3, none⟩ = some (.bool v.f3) ∧ Step2 g m w w4 from ⟨(blk_cell BGY.out 0).trans (congrArg (fun z => some (Value.int .i64 z)) HFN2.out), (blk_cell BV_.out 0).trans rfl, (blk_cell BV_.out 1).trans rfl, (blk_cell BV_.out 2).trans rfl, (blk_cell BV_.out 3).trans rfl, STY.out⟩); clear st4 hg4 hm4))
  all_goals go_wp2
  all_goals go_end0
  all_goals exact ⟨rfl, STY.out, BGY.out, BMY.out⟩

theorem nest4 (w : World) (g : Nat) (t : TypeId) (z0 z1 z2 z3 u0 u1 u2 u3 : Value) (h : w.heap[g]? = some (.cells #[z0, z1, z2, z3] t (0, 0))) : ∃ W, W = ((((w.setCell ⟨g, 0, none⟩ u0).setCell ⟨g, 1, none⟩ u1).setCell ⟨g, 2, none⟩ u2).setCell ⟨g, 3, none⟩ u3) ∧ W.heap[g]? = some (.cells #[u0, u1, u2, u3] t (0, 0)) ∧ Step g w W := by
  refine ⟨_, rfl, ?_, (Step.set_ (Step.set_ (Step.set_ (Step.set_ (Step.refl g w) 0 u0) 1 u1) 2 u2) 3 u3)⟩
  have h_ := (blk_set (blk_set (blk_set (blk_set h 0 u0) 1 u1) 2 u2) 3 u3)
  simp only [List.setIfInBounds_toArray, List.set_cons_zero, List.set_cons_succ] at h_
  exact h_
theorem agg_Value.do1 (g m : Nat) (s : Acc18) (es : Array MapEntry) (clock : Nat) (r : S26) (er : Int) (w : World) (hg : w.heap[g]? = some (.cells (acells s m) 52 (0, 0))) (hm : w.heap[m]? = some (.map es clock)) (hfn : s.fn = 1)
    (HVAL : ∀ W : World, W.heap[g]? = some (.cells (acells s m) 52 (0, 0)) → W.heap[m]? = some (.map es clock) → Calls Try.prog 29 #[.pointer (some ⟨g, 0, none⟩)] W fun e w' => e = .returned (.tuple #[.agg (vc r), .int .i64 er]) ∧ Below W.heap.size W w') :
    Calls Try.prog 15 #[.pointer (some ⟨g, 0, none⟩)] w fun e w' => e = .returned (.tuple #[.agg (vc r), .int .i64 er]) ∧ Below w.heap.size w w' := by
  have BGW := Aside0.mk hg
  have HB := Aside0.mk (Below.refl w.heap.size w)
  have BG := Aside0.mk hg
  clear hg
  have hu52 := Try.underlying52
  have hu26 := Try.underlying26
  have hu50 := Try.underlying50
  have BM := Aside0.mk hm
  have HFN := Aside0.mk hfn
  have HVA := Aside0.mk HVAL
  have QN := Aside0.mk (show (s.fn == 0) = false by rw [hfn]; rfl)
  have hfd := run_field58_2
  clear hfn HVAL hm
  go_enter Try.func15, Try.ntmps15
  go_wp2_with (first
    | ((with_reducible refine gate_dst (N := 2) rfl ?_); refine box_event ?hg (N := 2) ?hd (cs := #[.int .i64 0, .int .i64 0, .string ⟨#[]⟩, .bool false]) (t := 26) ?hr ?_; (case hd => rfl); (case hg => rfl); (case hr => first | (go_simp; done) | (go_simp; rfl)); intro g2 hg w1 hbox hb; have B2 := Aside0.mk hbox; have GEB2 := Aside0.mk ((by rw [hg]; exact (below_size HB.out)) : w.heap.size ≤ g2); have NBGB2 := Aside0.mk ((by rw [hg]; exact Nat.ne_of_lt (blk_lt BG.out)) : g ≠ g2); have NBMB2 := Aside0.mk ((by rw [hg]; exact Nat.ne_of_lt (blk_lt BM.out)) : m ≠ g2); have b_BG := Aside0.mk (blk_below BG.out hb); have b_BM := Aside0.mk (blk_below BM.out hb); have b_HB := Aside0.mk (below_step HB.out hb); clear HB BG BM; have HB := b_HB; have BG := b_BG; have BM := b_BM; clear b_HB b_BG b_BM; clear hbox hg hb; have ha0 : w1.cell? ⟨g, 0, none⟩ = some (.int .i64 1) := (blk_cell BG.out 0).trans (congrArg (fun z => some (Value.int .i64 z)) HFN.out))
    | ((with_reducible refine gate_callee (f := 21) rfl ?_); refine goesL_ (some 5) rfl rfl Try.func21 (by kernel_rfl) rfl #[.pointer (some ⟨g, 0, none⟩)] rfl (by (try simp only [List.map_toArray, List.map_cons, List.map_nil]); first | done | rfl) ?_; go_loud (refine (agg_none.calls g m s _ BG.out QN.out).mono ?_); rintro e w' ⟨rfl, rfl⟩; refine ⟨_, rfl, ?_⟩))
  have HSS : Aside0 (∀ W0 : World, Below w.heap.size w W0 → (W0.cell? ⟨g, 0, none⟩ = some (.int .i64 1) ∧ Below w.heap.size w W0)) := Aside0.mk (fun W0 hbq => ⟨(blk_cell (blk_below BGW.out hbq) 0).trans (congrArg (fun z => some (Value.int .i64 z)) HFN.out), hbq⟩)
  go_region_held3 (fun W0 : World => W0.cell? ⟨g, 0, none⟩ = some (.int .i64 1) ∧ Below w.heap.size w W0) (exact HSS.out _ (by repeat (first | (with_reducible exact HBX.out) | (with_reducible exact HB.out) | (with_reducible apply below_drew1) | (with_reducible apply pw_below_drewN) | (with_reducible refine below_set ?_ GEB2.out)))) (first
    | (go_at_call 23; refine (agg_kinds.calls _).mono ?_; rintro e w3 ⟨gk, rfl, hk, hb⟩; have HBX := Aside0.mk (show Below w.heap.size w w3 from below_step (below_drew1 HB.out) hb); have BGX := Aside0.mk (blk_below (o := .cells (acells s m) 52 (0, 0)) (g := g) (by (with_reducible repeat (first | refine blk_drewN ?_ _ | refine blk_drew ?_ | refine blk_alloc ?_ _)); exact BG.out) hb); have BMX := Aside0.mk (blk_below (o := .map es clock) (g := m) (by (with_reducible repeat (first | refine blk_drewN ?_ _ | refine blk_drew ?_ | refine blk_alloc ?_ _)); exact BM.out) hb); have B2X := Aside0.mk (blk_below (o := .cells #[.int .i64 0, .int .i64 0, .string ⟨#[]⟩, .bool false] 26 (0, 0)) (g := g2) (by (with_reducible repeat (first | refine blk_drewN ?_ _ | refine blk_drew ?_ | refine blk_alloc ?_ _)); exact B2.out) hb); have hlk : (Instr.lookup 59 (.map (some gk)) (.int .i64 1) false).run Try.prog w3 = .ok (.agg #[.func (.func 27) #[] #[], .func (.func 28) #[] #[], .func (.func 29) #[] #[]]) w3 := run_lookupI hk _ (by rfl); clear hk hb)
    | (go_at_call 29; refine (HVA.out _ BGX.out BMX.out).mono ?_; rintro e w4 ⟨rfl, hb⟩; have HBY := Aside0.mk (below_step HBX.out hb); have B2Y := Aside0.mk (blk_below B2X.out hb); clear HBX; have HBX := HBY; have hz0 : w4.cell? ⟨g2, 0, none⟩ = some (.int .i64 0) := (blk_cell B2Y.out 0).trans rfl; have fz0 := blk_frozen B2Y.out 0; have hz1 : w4.cell? ⟨g2, 1, none⟩ = some (.int .i64 0) := (blk_cell B2Y.out 1).trans rfl; have fz1 := blk_frozen B2Y.out 1; have hz2 : w4.cell? ⟨g2, 2, none⟩ = some (.string ⟨#[]⟩) := (blk_cell B2Y.out 2).trans rfl; have fz2 := blk_frozen B2Y.out 2; have hz3 : w4.cell? ⟨g2, 3, none⟩ = some (.bool false) := (blk_cell B2Y.out 3).trans rfl; have fz3 := blk_frozen B2Y.out 3; clear hb))
  obtain ⟨W6, hW6, b6, st6⟩ := nest4 w4 g2 26 (.int .i64 0) (.int .i64 0) (.string ⟨#[]⟩) (.bool false) (.int .i64 r.f0) (.int .i64 r.f1) (.string r.f2) (.bool r.f3) B2Y.out
  rw [← hW6]
  have B6 := Aside0.mk b6
  have HB6 := Aside0.mk (st6.fresh HBX.out GEB2.out)
  clear hW6 b6 st6
  go_wp2
  (try simp only [Exit.inBlock, Exit.then])
  refine bodyPost_ret (results_row_tmp rfl _ _ g2 26 (vc r) (0, 0) _ (.int .i64 er) rfl rfl B6.out Try.underlying26 rfl size26) rfl ?_
  exact ⟨rfl, HB6.out⟩
theorem agg_Value.do2 (g m : Nat) (s : Acc18) (es : Array MapEntry) (clock : Nat) (r : S26) (er : Int) (w : World) (hg : w.heap[g]? = some (.cells (acells s m) 52 (0, 0))) (hm : w.heap[m]? = some (.map es clock)) (hfn : s.fn = 2)
    (HVAL : ∀ W : World, W.heap[g]? = some (.cells (acells s m) 52 (0, 0)) → W.heap[m]? = some (.map es clock) → Calls Try.prog 35 #[.pointer (some ⟨g, 0, none⟩)] W fun e w' => e = .returned (.tuple #[.agg (vc r), .int .i64 er]) ∧ Below W.heap.size W w') :
    Calls Try.prog 15 #[.pointer (some ⟨g, 0, none⟩)] w fun e w' => e = .returned (.tuple #[.agg (vc r), .int .i64 er]) ∧ Below w.heap.size w w' := by
  have BGW := Aside0.mk hg
  have HB := Aside0.mk (Below.refl w.heap.size w)
  have BG := Aside0.mk hg
  clear hg
  have hu52 := Try.underlying52
  have hu26 := Try.underlying26
  have hu50 := Try.underlying50
  have BM := Aside0.mk hm
  have HFN := Aside0.mk hfn
  have HVA := Aside0.mk HVAL
  have QN := Aside0.mk (show (s.fn == 0) = false by rw [hfn]; rfl)
  have hfd := run_field58_2
  clear hfn HVAL hm
  go_enter Try.func15, Try.ntmps15
  go_wp2_with (first
    | ((with_reducible refine gate_dst (N := 2) rfl ?_); refine box_event ?hg (N := 2) ?hd (cs := #[.int .i64 0, .int .i64 0, .string ⟨#[]⟩, .bool false]) (t := 26) ?hr ?_; (case hd => rfl); (case hg => rfl); (case hr => first | (go_simp; done) | (go_simp; rfl)); intro g2 hg w1 hbox hb; have B2 := Aside0.mk hbox; have GEB2 := Aside0.mk ((by rw [hg]; exact (below_size HB.out)) : w.heap.size ≤ g2); have NBGB2 := Aside0.mk ((by rw [hg]; exact Nat.ne_of_lt (blk_lt BG.out)) : g ≠ g2); have NBMB2 := Aside0.mk ((by rw [hg]; exact Nat.ne_of_lt (blk_lt BM.out)) : m ≠ g2); have b_BG := Aside0.mk (blk_below BG.out hb); have b_BM := Aside0.mk (blk_below BM.out hb); have b_HB := Aside0.mk (below_step HB.out hb); clear HB BG BM; have HB := b_HB; have BG := b_BG; have BM := b_BM; clear b_HB b_BG b_BM; clear hbox hg hb; have ha0 : w1.cell? ⟨g, 0, none⟩ = some (.int .i64 2) := (blk_cell BG.out 0).trans (congrArg (fun z => some (Value.int .i64 z)) HFN.out))
    | ((with_reducible refine gate_callee (f := 21) rfl ?_); refine goesL_ (some 5) rfl rfl Try.func21 (by kernel_rfl) rfl #[.pointer (some ⟨g, 0, none⟩)] rfl (by (try simp only [List.map_toArray, List.map_cons, List.map_nil]); first | done | rfl) ?_; go_loud (refine (agg_none.calls g m s _ BG.out QN.out).mono ?_); rintro e w' ⟨rfl, rfl⟩; refine ⟨_, rfl, ?_⟩))
  have HSS : Aside0 (∀ W0 : World, Below w.heap.size w W0 → (W0.cell? ⟨g, 0, none⟩ = some (.int .i64 2) ∧ Below w.heap.size w W0)) := Aside0.mk (fun W0 hbq => ⟨(blk_cell (blk_below BGW.out hbq) 0).trans (congrArg (fun z => some (Value.int .i64 z)) HFN.out), hbq⟩)
  go_region_held3 (fun W0 : World => W0.cell? ⟨g, 0, none⟩ = some (.int .i64 2) ∧ Below w.heap.size w W0) (exact HSS.out _ (by repeat (first | (with_reducible exact HBX.out) | (with_reducible exact HB.out) | (with_reducible apply below_drew1) | (with_reducible apply pw_below_drewN) | (with_reducible refine below_set ?_ GEB2.out)))) (first
    | (go_at_call 23; refine (agg_kinds.calls _).mono ?_; rintro e w3 ⟨gk, rfl, hk, hb⟩; have HBX := Aside0.mk (show Below w.heap.size w w3 from below_step (below_drew1 HB.out) hb); have BGX := Aside0.mk (blk_below (o := .cells (acells s m) 52 (0, 0)) (g := g) (by (with_reducible repeat (first | refine blk_drewN ?_ _ | refine blk_drew ?_ | refine blk_alloc ?_ _)); exact BG.out) hb); have BMX := Aside0.mk (blk_below (o := .map es clock) (g := m) (by (with_reducible repeat (first | refine blk_drewN ?_ _ | refine blk_drew ?_ | refine blk_alloc ?_ _)); exact BM.out) hb); have B2X := Aside0.mk (blk_below (o := .cells #[.int .i64 0, .int .i64 0, .string ⟨#[]⟩, .bool false] 26 (0, 0)) (g := g2) (by (with_reducible repeat (first | refine blk_drewN ?_ _ | refine blk_drew ?_ | refine blk_alloc ?_ _)); exact B2.out) hb); have hlk : (Instr.lookup 59 (.map (some gk)) (.int .i64 2) false).run Try.prog w3 = .ok (.agg #[.func (.func 31) #[] #[], .func (.func 34) #[] #[], .func (.func 35) #[] #[]]) w3 := run_lookupI hk _ (by rfl); clear hk hb)
    | (go_at_call 35; refine (HVA.out _ BGX.out BMX.out).mono ?_; rintro e w4 ⟨rfl, hb⟩; have HBY := Aside0.mk (below_step HBX.out hb); have B2Y := Aside0.mk (blk_below B2X.out hb); clear HBX; have HBX := HBY; have hz0 : w4.cell? ⟨g2, 0, none⟩ = some (.int .i64 0) := (blk_cell B2Y.out 0).trans rfl; have fz0 := blk_frozen B2Y.out 0; have hz1 : w4.cell? ⟨g2, 1, none⟩ = some (.int .i64 0) := (blk_cell B2Y.out 1).trans rfl; have fz1 := blk_frozen B2Y.out 1; have hz2 : w4.cell? ⟨g2, 2, none⟩ = some (.string ⟨#[]⟩) := (blk_cell B2Y.out 2).trans rfl; have fz2 := blk_frozen B2Y.out 2; have hz3 : w4.cell? ⟨g2, 3, none⟩ = some (.bool false) := (blk_cell B2Y.out 3).trans rfl; have fz3 := blk_frozen B2Y.out 3; clear hb))
  obtain ⟨W6, hW6, b6, st6⟩ := nest4 w4 g2 26 (.int .i64 0) (.int .i64 0) (.string ⟨#[]⟩) (.bool false) (.int .i64 r.f0) (.int .i64 r.f1) (.string r.f2) (.bool r.f3) B2Y.out
  rw [← hW6]
  have B6 := Aside0.mk b6
  have HB6 := Aside0.mk (st6.fresh HBX.out GEB2.out)
  clear hW6 b6 st6
  go_wp2
  (try simp only [Exit.inBlock, Exit.then])
  refine bodyPost_ret (results_row_tmp rfl _ _ g2 26 (vc r) (0, 0) _ (.int .i64 er) rfl rfl B6.out Try.underlying26 rfl size26) rfl ?_
  exact ⟨rfl, HB6.out⟩
theorem agg_Value.do3 (g m : Nat) (s : Acc18) (es : Array MapEntry) (clock : Nat) (r : S26) (er : Int) (w : World) (hg : w.heap[g]? = some (.cells (acells s m) 52 (0, 0))) (hm : w.heap[m]? = some (.map es clock)) (hfn : s.fn = 3)
    (HVAL : ∀ W : World, W.heap[g]? = some (.cells (acells s m) 52 (0, 0)) → W.heap[m]? = some (.map es clock) → Calls Try.prog 25 #[.pointer (some ⟨g, 0, none⟩)] W fun e w' => e = .returned (.tuple #[.agg (vc r), .int .i64 er]) ∧ Below W.heap.size W w') :
    Calls Try.prog 15 #[.pointer (some ⟨g, 0, none⟩)] w fun e w' => e = .returned (.tuple #[.agg (vc r), .int .i64 er]) ∧ Below w.heap.size w w' := by
  have BGW := Aside0.mk hg
  have HB := Aside0.mk (Below.refl w.heap.size w)
  have BG := Aside0.mk hg
  clear hg
  have hu52 := Try.underlying52
  have hu26 := Try.underlying26
  have hu50 := Try.underlying50
  have BM := Aside0.mk hm
  have HFN := Aside0.mk hfn
  have HVA := Aside0.mk HVAL
  have QN := Aside0.mk (show (s.fn == 0) = false by rw [hfn]; rfl)
  have hfd := run_field58_2
  clear hfn HVAL hm
  go_enter Try.func15, Try.ntmps15
  go_wp2_with (first
    | ((with_reducible refine gate_dst (N := 2) rfl ?_); refine box_event ?hg (N := 2) ?hd (cs := #[.int .i64 0, .int .i64 0, .string ⟨#[]⟩, .bool false]) (t := 26) ?hr ?_; (case hd => rfl); (case hg => rfl); (case hr => first | (go_simp; done) | (go_simp; rfl)); intro g2 hg w1 hbox hb; have B2 := Aside0.mk hbox; have GEB2 := Aside0.mk ((by rw [hg]; exact (below_size HB.out)) : w.heap.size ≤ g2); have NBGB2 := Aside0.mk ((by rw [hg]; exact Nat.ne_of_lt (blk_lt BG.out)) : g ≠ g2); have NBMB2 := Aside0.mk ((by rw [hg]; exact Nat.ne_of_lt (blk_lt BM.out)) : m ≠ g2); have b_BG := Aside0.mk (blk_below BG.out hb); have b_BM := Aside0.mk (blk_below BM.out hb); have b_HB := Aside0.mk (below_step HB.out hb); clear HB BG BM; have HB := b_HB; have BG := b_BG; have BM := b_BM; clear b_HB b_BG b_BM; clear hbox hg hb; have ha0 : w1.cell? ⟨g, 0, none⟩ = some (.int .i64 3) := (blk_cell BG.out 0).trans (congrArg (fun z => some (Value.int .i64 z)) HFN.out))
    | ((with_reducible refine gate_callee (f := 21) rfl ?_); refine goesL_ (some 5) rfl rfl Try.func21 (by kernel_rfl) rfl #[.pointer (some ⟨g, 0, none⟩)] rfl (by (try simp only [List.map_toArray, List.map_cons, List.map_nil]); first | done | rfl) ?_; go_loud (refine (agg_none.calls g m s _ BG.out QN.out).mono ?_); rintro e w' ⟨rfl, rfl⟩; refine ⟨_, rfl, ?_⟩))
  have HSS : Aside0 (∀ W0 : World, Below w.heap.size w W0 → (W0.cell? ⟨g, 0, none⟩ = some (.int .i64 3) ∧ Below w.heap.size w W0)) := Aside0.mk (fun W0 hbq => ⟨(blk_cell (blk_below BGW.out hbq) 0).trans (congrArg (fun z => some (Value.int .i64 z)) HFN.out), hbq⟩)
  go_region_held3 (fun W0 : World => W0.cell? ⟨g, 0, none⟩ = some (.int .i64 3) ∧ Below w.heap.size w W0) (exact HSS.out _ (by repeat (first | (with_reducible exact HBX.out) | (with_reducible exact HB.out) | (with_reducible apply below_drew1) | (with_reducible apply pw_below_drewN) | (with_reducible refine below_set ?_ GEB2.out)))) (first
    | (go_at_call 23; refine (agg_kinds.calls _).mono ?_; rintro e w3 ⟨gk, rfl, hk, hb⟩; have HBX := Aside0.mk (show Below w.heap.size w w3 from below_step (below_drew1 HB.out) hb); have BGX := Aside0.mk (blk_below (o := .cells (acells s m) 52 (0, 0)) (g := g) (by (with_reducible repeat (first | refine blk_drewN ?_ _ | refine blk_drew ?_ | refine blk_alloc ?_ _)); exact BG.out) hb); have BMX := Aside0.mk (blk_below (o := .map es clock) (g := m) (by (with_reducible repeat (first | refine blk_drewN ?_ _ | refine blk_drew ?_ | refine blk_alloc ?_ _)); exact BM.out) hb); have B2X := Aside0.mk (blk_below (o := .cells #[.int .i64 0, .int .i64 0, .string ⟨#[]⟩, .bool false] 26 (0, 0)) (g := g2) (by (with_reducible repeat (first | refine blk_drewN ?_ _ | refine blk_drew ?_ | refine blk_alloc ?_ _)); exact B2.out) hb); have hlk : (Instr.lookup 59 (.map (some gk)) (.int .i64 3) false).run Try.prog w3 = .ok (.agg #[.func (.func 36) #[] #[], .func (.func 37) #[] #[], .func (.func 25) #[] #[]]) w3 := run_lookupI hk _ (by rfl); clear hk hb)
    | (go_at_call 25; refine (HVA.out _ BGX.out BMX.out).mono ?_; rintro e w4 ⟨rfl, hb⟩; have HBY := Aside0.mk (below_step HBX.out hb); have B2Y := Aside0.mk (blk_below B2X.out hb); clear HBX; have HBX := HBY; have hz0 : w4.cell? ⟨g2, 0, none⟩ = some (.int .i64 0) := (blk_cell B2Y.out 0).trans rfl; have fz0 := blk_frozen B2Y.out 0; have hz1 : w4.cell? ⟨g2, 1, none⟩ = some (.int .i64 0) := (blk_cell B2Y.out 1).trans rfl; have fz1 := blk_frozen B2Y.out 1; have hz2 : w4.cell? ⟨g2, 2, none⟩ = some (.string ⟨#[]⟩) := (blk_cell B2Y.out 2).trans rfl; have fz2 := blk_frozen B2Y.out 2; have hz3 : w4.cell? ⟨g2, 3, none⟩ = some (.bool false) := (blk_cell B2Y.out 3).trans rfl; have fz3 := blk_frozen B2Y.out 3; clear hb))
  obtain ⟨W6, hW6, b6, st6⟩ := nest4 w4 g2 26 (.int .i64 0) (.int .i64 0) (.string ⟨#[]⟩) (.bool false) (.int .i64 r.f0) (.int .i64 r.f1) (.string r.f2) (.bool r.f3) B2Y.out
  rw [← hW6]
  have B6 := Aside0.mk b6
  have HB6 := Aside0.mk (st6.fresh HBX.out GEB2.out)
  clear hW6 b6 st6
  go_wp2
  (try simp only [Exit.inBlock, Exit.then])
  refine bodyPost_ret (results_row_tmp rfl _ _ g2 26 (vc r) (0, 0) _ (.int .i64 er) rfl rfl B6.out Try.underlying26 rfl size26) rfl ?_
  exact ⟨rfl, HB6.out⟩
theorem agg_Value.do4 (g m : Nat) (s : Acc18) (es : Array MapEntry) (clock : Nat) (r : S26) (er : Int) (w : World) (hg : w.heap[g]? = some (.cells (acells s m) 52 (0, 0))) (hm : w.heap[m]? = some (.map es clock)) (hfn : s.fn = 4)
    (HVAL : ∀ W : World, W.heap[g]? = some (.cells (acells s m) 52 (0, 0)) → W.heap[m]? = some (.map es clock) → Calls Try.prog 26 #[.pointer (some ⟨g, 0, none⟩)] W fun e w' => e = .returned (.tuple #[.agg (vc r), .int .i64 er]) ∧ Below W.heap.size W w') :
    Calls Try.prog 15 #[.pointer (some ⟨g, 0, none⟩)] w fun e w' => e = .returned (.tuple #[.agg (vc r), .int .i64 er]) ∧ Below w.heap.size w w' := by
  have BGW := Aside0.mk hg
  have HB := Aside0.mk (Below.refl w.heap.size w)
  have BG := Aside0.mk hg
  clear hg
  have hu52 := Try.underlying52
  have hu26 := Try.underlying26
  have hu50 := Try.underlying50
  have BM := Aside0.mk hm
  have HFN := Aside0.mk hfn
  have HVA := Aside0.mk HVAL
  have QN := Aside0.mk (show (s.fn == 0) = false by rw [hfn]; rfl)
  have hfd := run_field58_2
  clear hfn HVAL hm
  go_enter Try.func15, Try.ntmps15
  go_wp2_with (first
    | ((with_reducible refine gate_dst (N := 2) rfl ?_); refine box_event ?hg (N := 2) ?hd (cs := #[.int .i64 0, .int .i64 0, .string ⟨#[]⟩, .bool false]) (t := 26) ?hr ?_; (case hd => rfl); (case hg => rfl); (case hr => first | (go_simp; done) | (go_simp; rfl)); intro g2 hg w1 hbox hb; have B2 := Aside0.mk hbox; have GEB2 := Aside0.mk ((by rw [hg]; exact (below_size HB.out)) : w.heap.size ≤ g2); have NBGB2 := Aside0.mk ((by rw [hg]; exact Nat.ne_of_lt (blk_lt BG.out)) : g ≠ g2); have NBMB2 := Aside0.mk ((by rw [hg]; exact Nat.ne_of_lt (blk_lt BM.out)) : m ≠ g2); have b_BG := Aside0.mk (blk_below BG.out hb); have b_BM := Aside0.mk (blk_below BM.out hb); have b_HB := Aside0.mk (below_step HB.out hb); clear HB BG BM; have HB := b_HB; have BG := b_BG; have BM := b_BM; clear b_HB b_BG b_BM; clear hbox hg hb; have ha0 : w1.cell? ⟨g, 0, none⟩ = some (.int .i64 4) := (blk_cell BG.out 0).trans (congrArg (fun z => some (Value.int .i64 z)) HFN.out))
    | ((with_reducible refine gate_callee (f := 21) rfl ?_); refine goesL_ (some 5) rfl rfl Try.func21 (by kernel_rfl) rfl #[.pointer (some ⟨g, 0, none⟩)] rfl (by (try simp only [List.map_toArray, List.map_cons, List.map_nil]); first | done | rfl) ?_; go_loud (refine (agg_none.calls g m s _ BG.out QN.out).mono ?_); rintro e w' ⟨rfl, rfl⟩; refine ⟨_, rfl, ?_⟩))
  have HSS : Aside0 (∀ W0 : World, Below w.heap.size w W0 → (W0.cell? ⟨g, 0, none⟩ = some (.int .i64 4) ∧ Below w.heap.size w W0)) := Aside0.mk (fun W0 hbq => ⟨(blk_cell (blk_below BGW.out hbq) 0).trans (congrArg (fun z => some (Value.int .i64 z)) HFN.out), hbq⟩)
  go_region_held3 (fun W0 : World => W0.cell? ⟨g, 0, none⟩ = some (.int .i64 4) ∧ Below w.heap.size w W0) (exact HSS.out _ (by repeat (first | (with_reducible exact HBX.out) | (with_reducible exact HB.out) | (with_reducible apply below_drew1) | (with_reducible apply pw_below_drewN) | (with_reducible refine below_set ?_ GEB2.out)))) (first
    | (go_at_call 23; refine (agg_kinds.calls _).mono ?_; rintro e w3 ⟨gk, rfl, hk, hb⟩; have HBX := Aside0.mk (show Below w.heap.size w w3 from below_step (below_drew1 HB.out) hb); have BGX := Aside0.mk (blk_below (o := .cells (acells s m) 52 (0, 0)) (g := g) (by (with_reducible repeat (first | refine blk_drewN ?_ _ | refine blk_drew ?_ | refine blk_alloc ?_ _)); exact BG.out) hb); have BMX := Aside0.mk (blk_below (o := .map es clock) (g := m) (by (with_reducible repeat (first | refine blk_drewN ?_ _ | refine blk_drew ?_ | refine blk_alloc ?_ _)); exact BM.out) hb); have B2X := Aside0.mk (blk_below (o := .cells #[.int .i64 0, .int .i64 0, .string ⟨#[]⟩, .bool false] 26 (0, 0)) (g := g2) (by (with_reducible repeat (first | refine blk_drewN ?_ _ | refine blk_drew ?_ | refine blk_alloc ?_ _)); exact B2.out) hb); have hlk : (Instr.lookup 59 (.map (some gk)) (.int .i64 4) false).run Try.prog w3 = .ok (.agg #[.func (.func 36) #[] #[], .func (.func 37) #[] #[], .func (.func 26) #[] #[]]) w3 := run_lookupI hk _ (by rfl); clear hk hb)
    | (go_at_call 26; refine (HVA.out _ BGX.out BMX.out).mono ?_; rintro e w4 ⟨rfl, hb⟩; have HBY := Aside0.mk (below_step HBX.out hb); have B2Y := Aside0.mk (blk_below B2X.out hb); clear HBX; have HBX := HBY; have hz0 : w4.cell? ⟨g2, 0, none⟩ = some (.int .i64 0) := (blk_cell B2Y.out 0).trans rfl; have fz0 := blk_frozen B2Y.out 0; have hz1 : w4.cell? ⟨g2, 1, none⟩ = some (.int .i64 0) := (blk_cell B2Y.out 1).trans rfl; have fz1 := blk_frozen B2Y.out 1; have hz2 : w4.cell? ⟨g2, 2, none⟩ = some (.string ⟨#[]⟩) := (blk_cell B2Y.out 2).trans rfl; have fz2 := blk_frozen B2Y.out 2; have hz3 : w4.cell? ⟨g2, 3, none⟩ = some (.bool false) := (blk_cell B2Y.out 3).trans rfl; have fz3 := blk_frozen B2Y.out 3; clear hb))
  obtain ⟨W6, hW6, b6, st6⟩ := nest4 w4 g2 26 (.int .i64 0) (.int .i64 0) (.string ⟨#[]⟩) (.bool false) (.int .i64 r.f0) (.int .i64 r.f1) (.string r.f2) (.bool r.f3) B2Y.out
  rw [← hW6]
  have B6 := Aside0.mk b6
  have HB6 := Aside0.mk (st6.fresh HBX.out GEB2.out)
  clear hW6 b6 st6
  go_wp2
  (try simp only [Exit.inBlock, Exit.then])
  refine bodyPost_ret (results_row_tmp rfl _ _ g2 26 (vc r) (0, 0) _ (.int .i64 er) rfl rfl B6.out Try.underlying26 rfl size26) rfl ?_
  exact ⟨rfl, HB6.out⟩
theorem agg_Value.do5 (g m : Nat) (s : Acc18) (es : Array MapEntry) (clock : Nat) (r : S26) (er : Int) (w : World) (hg : w.heap[g]? = some (.cells (acells s m) 52 (0, 0))) (hm : w.heap[m]? = some (.map es clock)) (hfn : s.fn = 5)
    (HVAL : ∀ W : World, W.heap[g]? = some (.cells (acells s m) 52 (0, 0)) → W.heap[m]? = some (.map es clock) → Calls Try.prog 40 #[.pointer (some ⟨g, 0, none⟩)] W fun e w' => e = .returned (.tuple #[.agg (vc r), .int .i64 er]) ∧ Below W.heap.size W w') :
    Calls Try.prog 15 #[.pointer (some ⟨g, 0, none⟩)] w fun e w' => e = .returned (.tuple #[.agg (vc r), .int .i64 er]) ∧ Below w.heap.size w w' := by
  have BGW := Aside0.mk hg
  have HB := Aside0.mk (Below.refl w.heap.size w)
  have BG := Aside0.mk hg
  clear hg
  have hu52 := Try.underlying52
  have hu26 := Try.underlying26
  have hu50 := Try.underlying50
  have BM := Aside0.mk hm
  have HFN := Aside0.mk hfn
  have HVA := Aside0.mk HVAL
  have QN := Aside0.mk (show (s.fn == 0) = false by rw [hfn]; rfl)
  have hfd := run_field58_2
  clear hfn HVAL hm
  go_enter Try.func15, Try.ntmps15
  go_wp2_with (first
    | ((with_reducible refine gate_dst (N := 2) rfl ?_); refine box_event ?hg (N := 2) ?hd (cs := #[.int .i64 0, .int .i64 0, .string ⟨#[]⟩, .bool false]) (t := 26) ?hr ?_; (case hd => rfl); (case hg => rfl); (case hr => first | (go_simp; done) | (go_simp; rfl)); intro g2 hg w1 hbox hb; have B2 := Aside0.mk hbox; have GEB2 := Aside0.mk ((by rw [hg]; exact (below_size HB.out)) : w.heap.size ≤ g2); have NBGB2 := Aside0.mk ((by rw [hg]; exact Nat.ne_of_lt (blk_lt BG.out)) : g ≠ g2); have NBMB2 := Aside0.mk ((by rw [hg]; exact Nat.ne_of_lt (blk_lt BM.out)) : m ≠ g2); have b_BG := Aside0.mk (blk_below BG.out hb); have b_BM := Aside0.mk (blk_below BM.out hb); have b_HB := Aside0.mk (below_step HB.out hb); clear HB BG BM; have HB := b_HB; have BG := b_BG; have BM := b_BM; clear b_HB b_BG b_BM; clear hbox hg hb; have ha0 : w1.cell? ⟨g, 0, none⟩ = some (.int .i64 5) := (blk_cell BG.out 0).trans (congrArg (fun z => some (Value.int .i64 z)) HFN.out))
    | ((with_reducible refine gate_callee (f := 21) rfl ?_); refine goesL_ (some 5) rfl rfl Try.func21 (by kernel_rfl) rfl #[.pointer (some ⟨g, 0, none⟩)] rfl (by (try simp only [List.map_toArray, List.map_cons, List.map_nil]); first | done | rfl) ?_; go_loud (refine (agg_none.calls g m s _ BG.out QN.out).mono ?_); rintro e w' ⟨rfl, rfl⟩; refine ⟨_, rfl, ?_⟩))
  have HSS : Aside0 (∀ W0 : World, Below w.heap.size w W0 → (W0.cell? ⟨g, 0, none⟩ = some (.int .i64 5) ∧ Below w.heap.size w W0)) := Aside0.mk (fun W0 hbq => ⟨(blk_cell (blk_below BGW.out hbq) 0).trans (congrArg (fun z => some (Value.int .i64 z)) HFN.out), hbq⟩)
  go_region_held3 (fun W0 : World => W0.cell? ⟨g, 0, none⟩ = some (.int .i64 5) ∧ Below w.heap.size w W0) (exact HSS.out _ (by repeat (first | (with_reducible exact HBX.out) | (with_reducible exact HB.out) | (with_reducible apply below_drew1) | (with_reducible apply pw_below_drewN) | (with_reducible refine below_set ?_ GEB2.out)))) (first
    | (go_at_call 23; refine (agg_kinds.calls _).mono ?_; rintro e w3 ⟨gk, rfl, hk, hb⟩; have HBX := Aside0.mk (show Below w.heap.size w w3 from below_step (below_drew1 HB.out) hb); have BGX := Aside0.mk (blk_below (o := .cells (acells s m) 52 (0, 0)) (g := g) (by (with_reducible repeat (first | refine blk_drewN ?_ _ | refine blk_drew ?_ | refine blk_alloc ?_ _)); exact BG.out) hb); have BMX := Aside0.mk (blk_below (o := .map es clock) (g := m) (by (with_reducible repeat (first | refine blk_drewN ?_ _ | refine blk_drew ?_ | refine blk_alloc ?_ _)); exact BM.out) hb); have B2X := Aside0.mk (blk_below (o := .cells #[.int .i64 0, .int .i64 0, .string ⟨#[]⟩, .bool false] 26 (0, 0)) (g := g2) (by (with_reducible repeat (first | refine blk_drewN ?_ _ | refine blk_drew ?_ | refine blk_alloc ?_ _)); exact B2.out) hb); have hlk : (Instr.lookup 59 (.map (some gk)) (.int .i64 5) false).run Try.prog w3 = .ok (.agg #[.func (.func 38) #[] #[], .func (.func 39) #[] #[], .func (.func 40) #[] #[]]) w3 := run_lookupI hk _ (by rfl); clear hk hb)
    | (go_at_call 40; refine (HVA.out _ BGX.out BMX.out).mono ?_; rintro e w4 ⟨rfl, hb⟩; have HBY := Aside0.mk (below_step HBX.out hb); have B2Y := Aside0.mk (blk_below B2X.out hb); clear HBX; have HBX := HBY; have hz0 : w4.cell? ⟨g2, 0, none⟩ = some (.int .i64 0) := (blk_cell B2Y.out 0).trans rfl; have fz0 := blk_frozen B2Y.out 0; have hz1 : w4.cell? ⟨g2, 1, none⟩ = some (.int .i64 0) := (blk_cell B2Y.out 1).trans rfl; have fz1 := blk_frozen B2Y.out 1; have hz2 : w4.cell? ⟨g2, 2, none⟩ = some (.string ⟨#[]⟩) := (blk_cell B2Y.out 2).trans rfl; have fz2 := blk_frozen B2Y.out 2; have hz3 : w4.cell? ⟨g2, 3, none⟩ = some (.bool false) := (blk_cell B2Y.out 3).trans rfl; have fz3 := blk_frozen B2Y.out 3; clear hb))
  obtain ⟨W6, hW6, b6, st6⟩ := nest4 w4 g2 26 (.int .i64 0) (.int .i64 0) (.string ⟨#[]⟩) (.bool false) (.int .i64 r.f0) (.int .i64 r.f1) (.string r.f2) (.bool r.f3) B2Y.out
  rw [← hW6]
  have B6 := Aside0.mk b6
  have HB6 := Aside0.mk (st6.fresh HBX.out GEB2.out)
  clear hW6 b6 st6
  go_wp2
  (try simp only [Exit.inBlock, Exit.then])
  refine bodyPost_ret (results_row_tmp rfl _ _ g2 26 (vc r) (0, 0) _ (.int .i64 er) rfl rfl B6.out Try.underlying26 rfl size26) rfl ?_
  exact ⟨rfl, HB6.out⟩

def toV (a : S26) : V := ⟨a.f0, a.f1, a.f2, a.f3⟩
def ov (a b : S26) : Int := V.ord (toV a) (toV b)
def mv (a : S26) : Bool := V.may (toV a)
/-- What an aggregate becomes with one more value that counts. -/
def addS (s : Acc18) (v : S26) : Acc18 :=
  if s.fn = 1 then { s with n := wrap64 (s.n + 1) }
  else if s.fn = 2 then (if v.f0 = 1 then { s with n := wrap64 (s.n + 1), tot := s.tot + v.f1 } else s)
  else if s.fn = 5 then { s with seen := addV s.seen v }
  else { s with n := wrap64 (s.n + 1), lo := if s.n = 0 ∨ ov v s.lo < 0 then v else s.lo, hi := if s.n = 0 ∨ 0 < ov v s.hi then v else s.hi }
def takeS (s : Acc18) (v : S26) : Acc18 := if mv v = true ∧ v.f0 ≠ 0 then addS s v else s
theorem addS_fn (s : Acc18) (v : S26) : (addS s v).fn = s.fn := by
  unfold addS
  split
  · rfl
  · split
    · split <;> rfl
    · split <;> rfl
theorem takeS_fn (s : Acc18) (v : S26) : (takeS s v).fn = s.fn := by
  unfold takeS
  split
  · exact addS_fn s v
  · rfl
theorem agg_spread.calls (v : S26) (g m : Nat) (s : Acc18) (w : World) (hg : w.heap[g]? = some (.cells (acells s m) 52 (0, 0))) :
    Calls Try.prog 36 #[.pointer (some ⟨g, 0, none⟩), .agg (vc v)] w fun e w' => e = .returned (.tuple #[]) ∧ Step g w w' ∧ w'.heap[g]? = some (.cells (acells { s with n := wrap64 (s.n + 1), lo := if s.n = 0 ∨ ov v s.lo < 0 then v else s.lo, hi := if s.n = 0 ∨ 0 < ov v s.hi then v else s.hi } m) 52 (0, 0)) := by
  by_cases h0 : s.n = 0
  · rw [if_pos (Or.inl h0), if_pos (Or.inl h0)]
    exact agg_spread.first v g m s w hg (beq_iff_eq.mpr h0)
  · have q0 : (s.n == 0) = false := beq_eq_false_iff_ne.mpr h0
    have e1 : value_Order.f v.f0 v.f1 v.f2 v.f3 s.lo.f0 s.lo.f1 s.lo.f2 s.lo.f3 = some (ov v s.lo) := value_Order.tell _ _ _ _ _ _ _ _
    have e2 : value_Order.f v.f0 v.f1 v.f2 v.f3 s.hi.f0 s.hi.f1 s.hi.f2 s.hi.f3 = some (ov v s.hi) := value_Order.tell _ _ _ _ _ _ _ _
    by_cases h1 : ov v s.lo < 0
    · rw [if_pos (Or.inr h1)]
      by_cases h2 : 0 < ov v s.hi
      · rw [if_pos (Or.inr h2)]
        exact agg_spread.yy v g m s w hg q0 _ _ e1 e2 (decide_eq_true h1) (decide_eq_true h2)
      · rw [if_neg (fun h => h.elim h0 h2)]
        exact agg_spread.yn v g m s w hg q0 _ _ e1 e2 (decide_eq_true h1) (decide_eq_false h2)
    · rw [if_neg (fun h => h.elim h0 h1)]
      by_cases h2 : 0 < ov v s.hi
      · rw [if_pos (Or.inr h2)]
        exact agg_spread.ny v g m s w hg q0 _ _ e1 e2 (decide_eq_false h1) (decide_eq_true h2)
      · rw [if_neg (fun h => h.elim h0 h2)]
        exact agg_spread.nn v g m s w hg q0 _ _ e1 e2 (decide_eq_false h1) (decide_eq_false h2)
/-- An aggregate, in a world. -/
def IsAcc (w : World) (g m : Nat) (s : Acc18) : Prop := w.heap[g]? = some (.cells (acells s m) 52 (0, 0)) ∧ ∃ es clock, w.heap[m]? = some (.map es clock) ∧ Seen es.toList s.seen
theorem IsAcc.ne {w : World} {g m : Nat} {s : Acc18} (h : IsAcc w g m s) : m ≠ g := fun e => by
  obtain ⟨hg, es, clock, hm, _⟩ := h
  subst e
  rw [hm] at hg
  injection hg with h
  cases h
theorem IsAcc.below {w w1 : World} {g m : Nat} {s : Acc18} (h : IsAcc w g m s) (hb : Below w.heap.size w w1) : IsAcc w1 g m s := by
  obtain ⟨hg, es, clock, hm, hs⟩ := h
  exact ⟨blk_below hg hb, es, clock, blk_below hm hb, hs⟩
theorem agg_Add.calls (g m : Nat) (s : Acc18) (v : S26) (w : World) (hI : IsAcc w g m s) (h1 : 1 ≤ s.fn) (h2 : s.fn < 6) (hv1 : -9223372036854775808 ≤ v.f1) (hv2 : v.f1 ≤ 9223372036854775807) :
    Calls Try.prog 14 #[.pointer (some ⟨g, 0, none⟩), .agg (vc v)] w fun e w' => e = .returned (.tuple #[]) ∧ Step2 g m w w' ∧ IsAcc w' g m (takeS s v) := by
  have hne := hI.ne
  obtain ⟨hg, es, clock, hm, hs⟩ := hI
  have hM : value_May.f v.f0 v.f1 v.f2 v.f3 = some (mv v) := value_May.tell _ _ _ _
  have keepI : ∀ w', Below w.heap.size w w' → IsAcc w' g m s := fun w' hb => ⟨blk_below hg hb, es, clock, blk_below hm hb, hs⟩
  have hf0 : (s.fn == 0) = false := beq_eq_false_iff_ne.mpr (by omega)
  unfold takeS
  cases hmv : mv v with
  | false =>
    rw [hmv] at hM
    rw [if_neg (fun h => by cases h.1)]
    exact (agg_Add.not_ g m s v es clock w hg hm hf0 hM).mono fun e w' h => ⟨h.1, Step2.of_below h.2, keepI w' h.2⟩
  | true =>
    rw [hmv] at hM
    by_cases hk : v.f0 = 0
    · rw [if_neg (fun h => h.2 hk)]
      exact (agg_Add.null_ g m s v es clock w hg hm hf0 hM (bne_eq_false_iff_eq.mpr hk)).mono fun e w' h => ⟨h.1, Step2.of_below h.2, keepI w' h.2⟩
    · rw [if_pos ⟨rfl, hk⟩]
      have q0 : (v.f0 != 0) = true := bne_iff_ne.mpr hk
      have two : ∀ {W W' : World}, Step g W W' → Step2 g m W W' := fun h => Step.two h (.inl rfl)
      have fin : ∀ {f : FuncId} {s' : Acc18}, s'.seen = s.seen → (∀ W : World, W.heap[g]? = some (.cells (acells s m) 52 (0, 0)) → Calls Try.prog f #[.pointer (some ⟨g, 0, none⟩), .agg (vc v)] W fun e w' => e = .returned (.tuple #[]) ∧ Step g W w' ∧ w'.heap[g]? = some (.cells (acells s' m) 52 (0, 0))) →
          ∀ W : World, W.heap[g]? = some (.cells (acells s m) 52 (0, 0)) → W.heap[m]? = some (.map es clock) → Calls Try.prog f #[.pointer (some ⟨g, 0, none⟩), .agg (vc v)] W fun e w' => e = .returned (.tuple #[]) ∧ Step2 g m W w' ∧ w'.heap[g]? = some (.cells (acells s' m) 52 (0, 0)) ∧ ∃ es' clock', w'.heap[m]? = some (.map es' clock') ∧ Seen es'.toList s'.seen := fun hse hc W hgW hmW =>
        (hc W hgW).mono fun e w' h => ⟨h.1, Step.two h.2.1 (.inl rfl), h.2.2, es, clock, h.2.1.blk hmW hne, by rw [hse]; exact hs⟩
      have hk5 : s.fn = 1 ∨ s.fn = 2 ∨ s.fn = 3 ∨ s.fn = 4 ∨ s.fn = 5 := by omega
      unfold addS
      rcases hk5 with k | k | k | k | k
      · rw [if_pos k]
        exact agg_Add.do1 _ g m s v es clock w hg hm k k hM q0 (fin rfl fun W hgW => agg_count.calls g m s W hgW v)
      · rw [if_neg (by omega), if_pos k]
        by_cases hv : v.f0 = 1
        · rw [if_pos hv]
          exact agg_Add.do2 _ g m s v es clock w hg hm k k hM q0 (fin rfl fun W hgW => agg_sum.yes g m s W hgW v (beq_iff_eq.mpr hv) hv1 hv2)
        · rw [if_neg hv]
          exact agg_Add.do2 s g m s v es clock w hg hm k k hM q0 (fin rfl fun W hgW => agg_sum.other g m s W hgW v (beq_eq_false_iff_ne.mpr hv))
      · rw [if_neg (by omega), if_neg (by omega), if_neg (by omega)]
        exact agg_Add.do3 _ g m s v es clock w hg hm k k hM q0 (fin rfl fun W hgW => agg_spread.calls v g m s W hgW)
      · rw [if_neg (by omega), if_neg (by omega), if_neg (by omega)]
        exact agg_Add.do4 _ g m s v es clock w hg hm k k hM q0 (fin rfl fun W hgW => agg_spread.calls v g m s W hgW)
      · rw [if_neg (by omega), if_neg (by omega), if_pos k]
        refine agg_Add.do5 { s with seen := addV s.seen v } g m s v es clock w hg hm k k hM q0 (fun W hgW hmW => (agg_distinct.calls g m s W hgW v es clock hmW hs).mono fun e w' h => ?_)
        obtain ⟨he, st, es', clock', hm', hs'⟩ := h
        exact ⟨he, Step.two st (.inr (.inl rfl)), st.blk hgW hne.symm, es', clock', hm', hs'⟩

def num26 (n : Int) : S26 := ⟨1, n, ⟨#[]⟩, false⟩
/-- What an aggregate comes to. -/
def valS (s : Acc18) : S26 × Int :=
  if s.fn = 1 then (num26 s.n, 0)
  else if s.fn = 2 then (if s.n = 0 then (z26, 0) else if -9223372036854775808 ≤ s.tot ∧ s.tot ≤ 9223372036854775807 then (num26 s.tot, 0) else (z26, 10))
  else if s.fn = 3 then (s.lo, 0)
  else if s.fn = 4 then (s.hi, 0)
  else (num26 s.seen.length, 0)
theorem wrap_range (x : Int) : -9223372036854775808 ≤ wrap64 x ∧ wrap64 x ≤ 9223372036854775807 := by unfold wrap64; omega
theorem number_in {t : Int} (h1 : -9223372036854775808 ≤ t) (h2 : t ≤ 9223372036854775807) : agg_wide_number.f (hiW t) (loW t) = some (t, true) := by
  have hw : wrap64 (loW t) = t := by unfold wrap64 loW; omega
  unfold agg_wide_number.f
  rw [hw, of_tell h1 h2]
  simp
theorem number_out {t : Int} (h : ¬ (-9223372036854775808 ≤ t ∧ t ≤ 9223372036854775807)) (h1 : -85070591730234615865843651857942052864 ≤ t) (h2 : t ≤ 85070591730234615865843651857942052864) : agg_wide_number.f (hiW t) (loW t) = some (wrap64 (loW t), false) := by
  have hr := wrap_range (loW t)
  have hne : hiW (wrap64 (loW t)) ≠ hiW t := by
    unfold hiW wrap64 loW
    omega
  unfold agg_wide_number.f
  rw [of_tell hr.1 hr.2]
  simp only [Option.bind_some, beq_eq_false_iff_ne.mpr hne, Bool.false_and]
theorem agg_Value.calls (g m : Nat) (s : Acc18) (w : World) (hI : IsAcc w g m s) (h1 : 1 ≤ s.fn) (h2 : s.fn < 6) (ht1 : -85070591730234615865843651857942052864 ≤ s.tot) (ht2 : s.tot ≤ 85070591730234615865843651857942052864) :
    Calls Try.prog 15 #[.pointer (some ⟨g, 0, none⟩)] w fun e w' => e = .returned (.tuple #[.agg (vc (valS s).1), .int .i64 (valS s).2]) ∧ Below w.heap.size w w' := by
  obtain ⟨hg, es, clock, hm, hs⟩ := hI
  have hk5 : s.fn = 1 ∨ s.fn = 2 ∨ s.fn = 3 ∨ s.fn = 4 ∨ s.fn = 5 := by omega
  unfold valS
  rcases hk5 with k | k | k | k | k
  · rw [if_pos k]
    exact agg_Value.do1 g m s es clock _ _ w hg hm k (fun W hgW hmW => agg_counted.calls g m s W hgW)
  · rw [if_neg (by omega), if_pos k]
    by_cases h0 : s.n = 0
    · rw [if_pos h0]
      exact agg_Value.do2 g m s es clock _ _ w hg hm k (fun W hgW hmW => agg_total.zero_ g m s W hgW (beq_iff_eq.mpr h0))
    · rw [if_neg h0]
      have q0 : (s.n == 0) = false := beq_eq_false_iff_ne.mpr h0
      by_cases hr : -9223372036854775808 ≤ s.tot ∧ s.tot ≤ 9223372036854775807
      · rw [if_pos hr]
        exact agg_Value.do2 g m s es clock _ _ w hg hm k (fun W hgW hmW => agg_total.sum_ g m s W hgW q0 _ (number_in hr.1 hr.2))
      · rw [if_neg hr]
        exact agg_Value.do2 g m s es clock _ _ w hg hm k (fun W hgW hmW => agg_total.over_ g m s W hgW q0 _ (number_out hr ht1 ht2))
  · rw [if_neg (by omega), if_neg (by omega), if_pos k]
    exact agg_Value.do3 g m s es clock _ _ w hg hm k (fun W hgW hmW => agg_least.calls g m s W hgW)
  · rw [if_neg (by omega), if_neg (by omega), if_neg (by omega), if_pos k]
    exact agg_Value.do4 g m s es clock _ _ w hg hm k (fun W hgW hmW => agg_greatest.calls g m s W hgW)
  · rw [if_neg (by omega), if_neg (by omega), if_neg (by omega), if_neg (by omega)]
    exact agg_Value.do5 g m s es clock _ _ w hg hm k (fun W hgW hmW => agg_differ.calls g m s W hgW es clock hmW hs)

def toldS (fn : Int) (l : List S26) : S26 × Int := if fn < 1 ∨ 6 ≤ fn then (z26, 1) else valS (l.foldl takeS (new18 fn))
def okI (l : List S26) : Prop := ∀ x, x ∈ l → -9223372036854775808 ≤ x.f1 ∧ x.f1 ≤ 9223372036854775807
theorem fold_fn (s : Acc18) : ∀ l : List S26, (l.foldl takeS s).fn = s.fn
  | [] => rfl
  | x :: t => by rw [List.foldl_cons, fold_fn (takeS s x) t, takeS_fn]
theorem takeS_tot {s : Acc18} {x : S26} {B : Int} (hx : -9223372036854775808 ≤ x.f1 ∧ x.f1 ≤ 9223372036854775807) (h : -B ≤ s.tot ∧ s.tot ≤ B) : -(B + 9223372036854775808) ≤ (takeS s x).tot ∧ (takeS s x).tot ≤ B + 9223372036854775808 := by
  have e : (takeS s x).tot = s.tot ∨ (takeS s x).tot = s.tot + x.f1 := by
    unfold takeS
    split
    · unfold addS
      split
      · exact .inl rfl
      · split
        · split
          · exact .inr rfl
          · exact .inl rfl
        · split
          · exact .inl rfl
          · exact .inl rfl
    · exact .inl rfl
  rcases e with e | e <;> rw [e] <;> omega
theorem fold_tot : ∀ (l : List S26) (s : Acc18) (B : Int), okI l → (-B ≤ s.tot ∧ s.tot ≤ B) → -(B + (l.length : Int) * 9223372036854775808) ≤ (l.foldl takeS s).tot ∧ (l.foldl takeS s).tot ≤ B + (l.length : Int) * 9223372036854775808
  | [], s, B, _, h => by simpa using h
  | x :: t, s, B, ho, h => by
    have h1 := takeS_tot (ho x (List.mem_cons_self ..)) h
    have h2 := fold_tot t (takeS s x) (B + 9223372036854775808) (fun y hy => ho y (List.mem_cons_of_mem _ hy)) h1
    rw [List.foldl_cons]
    simp only [List.length_cons]
    have e : ((t.length + 1 : Nat) : Int) * 9223372036854775808 = (t.length : Int) * 9223372036854775808 + 9223372036854775808 := by rw [Int.natCast_add, Int.add_mul]; rfl
    rw [e]
    omega
theorem take_fold {l : List S26} {k : Nat} (hk : k < l.length) (s : Acc18) : (l.take (k + 1)).foldl takeS s = takeS ((l.take k).foldl takeS s) (rd_T26 l (k : Int)) := by
  have hg : l[k] = rd_T26 l (k : Int) := by
    unfold rd_T26
    rw [Int.toNat_natCast, List.getD_eq_getElem?_getD, List.getElem?_eq_getElem hk]
    rfl
  rw [List.take_succ_eq_append_getElem hk, List.foldl_append, hg]
  rfl
theorem winnowerlaw18_told.not_ (fn : Int) (l : List S26) (A : Option Addr) (c : Nat) (w : World) (h : fn < 1 ∨ 6 ≤ fn) :
    Calls Try.prog 9 #[.int .i64 fn, .slice A l.length c] w fun e w' => e = .returned (.tuple #[.agg (vc z26), .int .i64 1]) ∧ Below w.heap.size w w' := by
  have HB := Aside0.mk (Below.refl w.heap.size w)
  have HF := Aside0.mk h
  have hu26 := Try.underlying26
  clear h
  go_enter Try.func9, Try.ntmps9
  go_wp2_with (first
    | ((with_reducible refine gate_dst (N := 4) rfl ?_); refine box_event ?hg (N := 4) ?hd (cs := #[.int .i64 0, .int .i64 0, .string ⟨#[]⟩, .bool false]) (t := 26) ?hr ?_; (case hd => rfl); (case hg => rfl); (case hr => first | (go_simp; done) | (go_simp; rfl)); intro g4 hg w1 hbox hb; have B4 := Aside0.mk hbox; have GEB4 := Aside0.mk ((by rw [hg]; exact (below_size HB.out)) : w.heap.size ≤ g4); have b_HB := Aside0.mk (below_step HB.out hb); clear HB; have HB := b_HB; clear b_HB; clear hbox hg hb)
    | ((with_reducible refine gate_callee (f := 13) rfl ?_); refine goesL_ (some 11) rfl rfl Try.func13 (by kernel_rfl) rfl #[.int .i64 fn] rfl (by (try simp only [List.map_toArray, List.map_cons, List.map_nil]); first | done | rfl) ?_; go_loud (refine (agg_New.not_ fn _ HF.out).mono ?_); rintro e w2 ⟨rfl, hb⟩; refine ⟨_, rfl, ?_⟩; have b_B4 := Aside0.mk (blk_below B4.out hb); have b_HB := Aside0.mk (below_step HB.out hb); clear HB B4; have HB := b_HB; have B4 := b_B4; clear b_HB b_B4; clear hb)
    | ((with_reducible refine gate_ (.store 26 (.tmp 4) (.tmp 16)) rfl ?_); go_loud (refine wpList_storeR rfl rfl 26 (.tmp 4) (.tmp 16) rfl g4 (0) rfl (.agg #[.int .i64 0, .int .i64 0, .string ⟨#[]⟩, .bool false]) rfl [.int .i64 0, .int .i64 0, .string ⟨#[]⟩, .bool false] rfl #[.int .i64 0, .int .i64 0, .string ⟨#[]⟩, .bool false] 26 B4.out size26 (by simp) (by simp [Value.oneCell']) #[.int .i64 0, .int .i64 0, .string ⟨#[]⟩, .bool false] rfl ?_); intro w3 hs st; have b_HB := Aside0.mk (Step.fresh st HB.out GEB4.out); clear HB; have HB := b_HB; clear b_HB; clear B4; have B4 := Aside0.mk hs; clear hs st))
  (try simp only [Exit.inBlock, Exit.then])
  refine bodyPost_ret (results_row_tmp rfl _ _ g4 26 #[.int .i64 0, .int .i64 0, .string ⟨#[]⟩, .bool false] (0, 0) _ (.int .i64 1) rfl rfl B4.out Try.underlying26 rfl size26) rfl ?_
  exact ⟨rfl, HB.out⟩
theorem winnowerlaw18_told.ok_ (fn : Int) (l : List S26) (A : Option Addr) (c : Nat) (w : World) (hr : Kd.C k26 w A l.length l) (hl : l.length ≤ 1000) (ho : okI l) (h1 : 1 ≤ fn) (h2 : fn < 6) (r : S26) (er : Int) (hre : valS (l.foldl takeS (new18 fn)) = (r, er)) :
    Calls Try.prog 9 #[.int .i64 fn, .slice A l.length c] w fun e w' => e = .returned (.tuple #[.agg (vc r), .int .i64 er]) ∧ Below w.heap.size w w' := by
  have HB := Aside0.mk (Below.refl w.heap.size w)
  have HR := Aside0.mk hr
  have HL := Aside0.mk hl
  have HO := Aside0.mk ho
  have H1 := Aside0.mk h1
  have H2 := Aside0.mk h2
  have HRE := Aside0.mk hre
  have hu26 := Try.underlying26
  clear hr hl ho h1 h2 hre
  go_enter Try.func9, Try.ntmps9
  go_wp2_with (first
    | ((with_reducible refine gate_dst (N := 4) rfl ?_); refine box_event ?hg (N := 4) ?hd (cs := #[.int .i64 0, .int .i64 0, .string ⟨#[]⟩, .bool false]) (t := 26) ?hr ?_; (case hd => rfl); (case hg => rfl); (case hr => first | (go_simp; done) | (go_simp; rfl)); intro g4 hg w1 hbox hb; have B4 := Aside0.mk hbox; have GEB4 := Aside0.mk ((by rw [hg]; exact (below_size HB.out)) : w.heap.size ≤ g4); have b_HB := Aside0.mk (below_step HB.out hb); clear HB; have HB := b_HB; clear b_HB; clear hbox hg hb)
    | ((with_reducible refine gate_callee (f := 13) rfl ?_); refine goesL_ (some 11) rfl rfl Try.func13 (by kernel_rfl) rfl #[.int .i64 fn] rfl (by (try simp only [List.map_toArray, List.map_cons, List.map_nil]); first | done | rfl) ?_; go_loud (refine (agg_New.calls fn _ H1.out H2.out).mono ?_); rintro e w2 ⟨g, m, rfl, hgg, hgm, hg_, hm_, hb⟩; refine ⟨_, rfl, ?_⟩; have HI := Aside0.mk (show IsAcc w2 g m (new18 fn) from ⟨hg_, #[], 0, hm_, rfl⟩); have GG := Aside0.mk (Nat.le_trans HB.out.size hgg); have GM := Aside0.mk (Nat.le_trans HB.out.size hgm); have N4G := Aside0.mk (show g4 ≠ g from Nat.ne_of_lt (Nat.lt_of_lt_of_le (blk_lt B4.out) hgg)); have N4M := Aside0.mk (show g4 ≠ m from Nat.ne_of_lt (Nat.lt_of_lt_of_le (blk_lt B4.out) hgm)); have b_B4 := Aside0.mk (blk_below B4.out hb); have b_HB := Aside0.mk (below_step HB.out hb); clear HB B4; have HB := b_HB; have B4 := b_B4; clear b_HB b_B4; clear hb hgg hgm hg_ hm_))
  go_loopg [8] l.length (fun m_ v8 wr => ∃ (k : Nat), v8 = .int .i64 (k : Int) ∧ Aside0 (k + m_ = l.length) ∧ Aside0 (IsAcc wr g m ((l.take k).foldl takeS (new18 fn))) ∧ Aside0 (Below w.heap.size w wr) ∧ Aside0 (wr.heap[g4]? = some (.cells #[.int .i64 0, .int .i64 0, .string ⟨#[]⟩, .bool false] 26 (0, 0))))
  case atStart => exact ⟨0, rfl, ⟨by omega⟩, ⟨HI.out⟩, ⟨HB.out⟩, ⟨B4.out⟩⟩
  case round =>
    clear HB HI B4
    obtain ⟨k, rfl, HK, HI, HB, B4⟩ := hrel
    have HFN := Aside0.mk (show ((l.take k).foldl takeS (new18 fn)).fn = fn from fold_fn _ _)
    cases gk with
    | zero =>
      have hk : k = l.length := by have := HK.out; omega
      have r1 : decide ((k : Int) < (l.length : Int)) = false := decide_eq_false (by omega)
      have r2 : decide (k < l.length) = false := decide_eq_false (by omega)
      have HT := Aside0.mk (fold_tot l (new18 fn) 0 HO.out ⟨by simp [new18], by simp [new18]⟩)
      rw [hk, List.take_length] at HI HFN
      clear hk
      generalize l.foldl takeS (new18 fn) = s at HI HFN HT HRE
      have HT1 := Aside0.mk (show -85070591730234615865843651857942052864 ≤ s.tot by have := HT.out.1; have := HL.out; omega)
      have HT2 := Aside0.mk (show s.tot ≤ 85070591730234615865843651857942052864 by have := HT.out.2; have := HL.out; omega)
      have H1S := Aside0.mk (show 1 ≤ s.fn by rw [HFN.out]; exact H1.out)
      have H2S := Aside0.mk (show s.fn < 6 by rw [HFN.out]; exact H2.out)

      go_wp2_with (first
        | ((with_reducible refine gate_callee (f := 15) rfl ?_); refine goesL_ (some 31) rfl rfl Try.func15 (by kernel_rfl) rfl #[.pointer (some ⟨g, 0, none⟩)] rfl (by (try simp only [List.map_toArray, List.map_cons, List.map_nil]); first | done | rfl) ?_; go_loud (refine (agg_Value.calls g m s _ HI.out H1S.out H2S.out HT1.out HT2.out).mono ?_); rintro e w6 ⟨he, hb⟩; rw [HRE.out] at he; subst he; refine ⟨_, rfl, ?_⟩; have b_B4 := Aside0.mk (blk_below B4.out hb); have b_HB := Aside0.mk (below_step HB.out hb); clear HB B4; have HB := b_HB; have B4 := b_B4; clear b_HB b_B4; clear hb)
        | ((with_reducible refine gate_ (.store 26 (.tmp 4) (.tmp 32)) rfl ?_); go_loud (refine wpList_storeR rfl rfl 26 (.tmp 4) (.tmp 32) rfl g4 (0) rfl (.agg (vc r)) rfl (vc r).toList rfl #[.int .i64 0, .int .i64 0, .string ⟨#[]⟩, .bool false] 26 B4.out size26 (by simp) (by simp [Value.oneCell']) (vc r) rfl ?_); intro w7 hs st; have b_HB := Aside0.mk (Step.fresh st HB.out GEB4.out); clear HB; have HB := b_HB; clear b_HB; clear B4; have B4 := Aside0.mk hs; clear hs st))
      (try simp only [Exit.inBlock, Exit.then])
      refine bodyPost_ret (results_row_tmp rfl _ _ g4 26 (vc r) (0, 0) _ (.int .i64 er) rfl rfl B4.out Try.underlying26 rfl size26) rfl ?_
      exact ⟨rfl, HB.out⟩
    | succ m_ =>
      have hk : k < l.length := by have := HK.out; omega
      have hkI : (k : Int) < (l.length : Int) := by omega
      have r1 : decide ((k : Int) < (l.length : Int)) = true := decide_eq_true hkI
      have r2 : decide (k < l.length) = true := decide_eq_true hk
      have r3 : (0 : Int) ≤ (k : Int) := by omega
      obtain ⟨ad, e1, x0, x1, x2, x3⟩ := at_T26 (Kd.C_below HR.out HB.out) (k : Int) r3 hkI
      cases e1
      rw [Int.toNat_natCast] at x0 x1 x2 x3
      have HTF := Aside0.mk (take_fold hk (new18 fn))
      have hx := HO.out (rd_T26 l (k : Int)) (by unfold rd_T26; rw [Int.toNat_natCast, List.getD_eq_getElem?_getD, List.getElem?_eq_getElem hk]; exact List.getElem_mem hk)
      generalize rd_T26 l (k : Int) = x at x0 x1 x2 x3 HTF hx
      have HX := Aside0.mk hx
      generalize (l.take k).foldl takeS (new18 fn) = s at HI HFN HTF
      have H1S := Aside0.mk (show 1 ≤ s.fn by rw [HFN.out]; exact H1.out)
      have H2S := Aside0.mk (show s.fn < 6 by rw [HFN.out]; exact H2.out)
      clear hx
      go_wp2_with (first | ((with_reducible refine gate_callee (f := 14) rfl ?_); refine goesL_ (some 29) rfl rfl Try.func14 (by kernel_rfl) rfl #[.pointer (some ⟨g, 0, none⟩), .agg (vc x)] rfl (by (try simp only [List.map_toArray, List.map_cons, List.map_nil]); first | done | rfl) ?_; go_loud (refine (agg_Add.calls g m s x _ HI.out H1S.out H2S.out HX.out.1 HX.out.2).mono ?_); rintro e w6 ⟨rfl, st, hi⟩; refine ⟨_, rfl, ?_⟩; have b_B4 := Aside0.mk (st.blk B4.out N4G.out N4M.out); have b_HB := Aside0.mk (st.low HB.out GG.out GM.out); have HI6 := Aside0.mk hi; clear HB B4 HI st hi; have HB := b_HB; have B4 := b_B4; clear b_HB b_B4))
      go_roundg m_
      case measure => omega
      case rel => exact ⟨k + 1, by rw [show ((k + 1 : Nat) : Int) = (k : Int) + 1 from by omega, wrapI (by omega) (by have := HL.out; omega)], ⟨by have := HK.out; omega⟩, ⟨by rw [HTF.out]; exact HI6.out⟩, ⟨HB.out⟩, ⟨B4.out⟩⟩
theorem winnowerlaw18_told.calls (fn : Int) (l : List S26) (A : Option Addr) (c : Nat) (r : S26) (er : Int) (w : World) (hr : Kd.C k26 w A l.length l) (hl : l.length ≤ 1000) (ho : okI l) (h : toldS fn l = (r, er)) :
    Calls Try.prog 9 #[.int .i64 fn, .slice A l.length c] w fun e w' => e = .returned (.tuple #[.agg (vc r), .int .i64 er]) ∧ Below w.heap.size w w' := by
  unfold toldS at h
  by_cases hf : fn < 1 ∨ 6 ≤ fn
  · rw [if_pos hf] at h
    obtain ⟨rfl, rfl⟩ := Prod.mk.inj h
    exact winnowerlaw18_told.not_ fn l A c w hf
  · rw [if_neg hf] at h
    exact winnowerlaw18_told.ok_ fn l A c w hr hl ho (by omega) (by omega) r er h

def awA : List S26 := [⟨1, 9223372036854775807, ⟨#[]⟩, false⟩, ⟨1, 1, ⟨#[]⟩, false⟩, ⟨1, -1, ⟨#[]⟩, false⟩]
def awB : List S26 := [⟨1, 9223372036854775807, ⟨#[]⟩, false⟩, ⟨1, 1, ⟨#[]⟩, false⟩]
theorem aw_mv (n : Int) : mv ⟨1, n, ⟨#[]⟩, false⟩ = true := by
  unfold mv toV V.may
  simp
theorem aw_take (s : Acc18) (n : Int) (h : s.fn = 2) : takeS s ⟨1, n, ⟨#[]⟩, false⟩ = { s with n := wrap64 (s.n + 1), tot := s.tot + n } := by
  unfold takeS
  rw [if_pos ⟨aw_mv n, show (1 : Int) ≠ 0 by decide⟩]
  unfold addS
  rw [if_neg (by omega), if_pos h, if_pos rfl]
theorem valS_in {s : Acc18} (h : s.fn = 2) (h0 : s.n ≠ 0) (h1 : -9223372036854775808 ≤ s.tot) (h2 : s.tot ≤ 9223372036854775807) : valS s = (num26 s.tot, 0) := by
  unfold valS
  rw [if_neg (by omega), if_pos h, if_neg h0, if_pos ⟨h1, h2⟩]
theorem valS_out {s : Acc18} (h : s.fn = 2) (h0 : s.n ≠ 0) (h1 : ¬ (-9223372036854775808 ≤ s.tot ∧ s.tot ≤ 9223372036854775807)) : valS s = (z26, 10) := by
  unfold valS
  rw [if_neg (by omega), if_pos h, if_neg h0, if_neg h1]
theorem aw_a : toldS 2 awA = (num26 9223372036854775807, 0) := by
  unfold toldS awA
  rw [if_neg (by decide)]
  simp only [List.foldl_cons, List.foldl_nil]
  rw [aw_take (new18 2) 9223372036854775807 rfl, aw_take _ 1 rfl, aw_take _ (-1) rfl]
  exact valS_in rfl (by simp [new18, wrap64]) (by simp [new18]) (by simp [new18])
theorem aw_b : toldS 2 awB = (z26, 10) := by
  unfold toldS awB
  rw [if_neg (by decide)]
  simp only [List.foldl_cons, List.foldl_nil]
  rw [aw_take (new18 2) 9223372036854775807 rfl, aw_take _ 1 rfl]
  exact valS_out rfl (by simp [new18, wrap64]) (by simp [new18])
theorem aw_okA : okI awA := by
  intro x hx
  simp only [awA, List.mem_cons, List.not_mem_nil, or_false] at hx
  rcases hx with rfl | rfl | rfl <;> decide
theorem aw_okB : okI awB := by
  intro x hx
  simp only [awB, List.mem_cons, List.not_mem_nil, or_false] at hx
  rcases hx with rfl | rfl <;> decide
theorem C_rows26 {W : World} {k : Nat} {l : List S26} {cells : Array Value} (h : W.heap[k]? = some (.cells cells 26 (0, 0))) (hl : l.length ≤ 9223372036854775807) (hc : ∀ j p, l[j]? = some p → ∀ i u, (vc p).toList[i]? = some u → cells[j * 4 + i]? = some u) : Kd.C k26 W (some ⟨k, 0, none⟩) l.length l :=
  ⟨rfl, hl, fun _ => ⟨_, rfl, fun j p hp => ⟨(vc p).toList, rfl, k26_mk W p, fun i u hu => by
    show W.cell? (Addr.add ⟨k, 0, none⟩ (j * 4 + i)) = some u
    rw [Addr.add_mid, Nat.zero_add]
    exact (blk_cell h _).trans (hc j p hp i u hu)⟩⟩⟩
theorem aw_rowA {W : World} {k : Nat} (h : W.heap[k]? = some (.cells #[.int .i64 1, .int .i64 9223372036854775807, .string ⟨#[]⟩, .bool false, .int .i64 1, .int .i64 1, .string ⟨#[]⟩, .bool false, .int .i64 1, .int .i64 (-1), .string ⟨#[]⟩, .bool false] 26 (0, 0))) : Kd.C k26 W (some ⟨k, 0, none⟩) awA.length awA := by
  refine C_rows26 h (by decide) ?_
  intro j p hp i u hu
  have hj : j < 3 := (List.getElem?_eq_some_iff.1 hp).1
  have hi : i < 4 := (List.getElem?_eq_some_iff.1 hu).1
  obtain rfl | rfl | rfl : j = 0 ∨ j = 1 ∨ j = 2 := by omega
  all_goals
    obtain rfl := Option.some.inj hp
    rw [← hu]
    obtain rfl | rfl | rfl | rfl : i = 0 ∨ i = 1 ∨ i = 2 ∨ i = 3 := by omega
    all_goals rfl
theorem aw_rowB {W : World} {k : Nat} (h : W.heap[k]? = some (.cells #[.int .i64 1, .int .i64 9223372036854775807, .string ⟨#[]⟩, .bool false, .int .i64 1, .int .i64 1, .string ⟨#[]⟩, .bool false] 26 (0, 0))) : Kd.C k26 W (some ⟨k, 0, none⟩) awB.length awB := by
  refine C_rows26 h (by decide) ?_
  intro j p hp i u hu
  have hj : j < 2 := (List.getElem?_eq_some_iff.1 hp).1
  have hi : i < 4 := (List.getElem?_eq_some_iff.1 hu).1
  obtain rfl | rfl : j = 0 ∨ j = 1 := by omega
  all_goals
    obtain rfl := Option.some.inj hp
    rw [← hu]
    obtain rfl | rfl | rfl | rfl : i = 0 ∨ i = 1 ∨ i = 2 ∨ i = 3 := by omega
    all_goals rfl

theorem winnowerlaw18_awake.calls (w : World) :
    Calls Try.prog 7 #[] w fun e w' => e = .returned (.bool true) ∧ Below w.heap.size w w' := by
  have HB := Aside0.mk (Below.refl w.heap.size w)
  have hu26 := Try.underlying26
  go_enter Try.func7, Try.ntmps7
  go_wp2_with (first
    | ((with_reducible refine gate_callee (f := 11) rfl ?_); refine goesL_ (some 6) rfl rfl Try.func11 (by kernel_rfl) rfl #[.int .i64 9223372036854775807] rfl (by (try simp only [List.map_toArray, List.map_cons, List.map_nil]); first | done | rfl) ?_; go_loud (refine (winnowerlaw18_n.calls 9223372036854775807 1 9223372036854775807 ⟨#[]⟩ false _ rfl).mono ?_); rintro e w2 ⟨rfl, hb⟩; refine ⟨_, rfl, ?_⟩; have b_HB := Aside0.mk (below_step HB.out hb); clear HB hb; have HB := b_HB; clear b_HB)
    | ((with_reducible refine gate_callee (f := 11) rfl ?_); refine goesL_ (some 7) rfl rfl Try.func11 (by kernel_rfl) rfl #[.int .i64 1] rfl (by (try simp only [List.map_toArray, List.map_cons, List.map_nil]); first | done | rfl) ?_; go_loud (refine (winnowerlaw18_n.calls 1 1 1 ⟨#[]⟩ false _ rfl).mono ?_); rintro e w3 ⟨rfl, hb⟩; refine ⟨_, rfl, ?_⟩; have b_HB := Aside0.mk (below_step HB.out hb); clear HB hb; have HB := b_HB; clear b_HB)
    | ((with_reducible refine gate_callee (f := 11) rfl ?_); refine goesL_ (some 8) rfl rfl Try.func11 (by kernel_rfl) rfl #[.int .i64 (-1)] rfl (by (try simp only [List.map_toArray, List.map_cons, List.map_nil]); first | done | rfl) ?_; go_loud (refine (winnowerlaw18_n.calls (-1) 1 (-1) ⟨#[]⟩ false _ rfl).mono ?_); rintro e w4 ⟨rfl, hb⟩; refine ⟨_, rfl, ?_⟩; have b_HB := Aside0.mk (below_step HB.out hb); clear HB hb; have HB := b_HB; clear b_HB)
    | ((with_reducible refine gate_callee (f := 9) rfl ?_); refine goesL_ (some 10) rfl rfl Try.func9 (by kernel_rfl) rfl #[.int .i64 2, .slice (some ⟨w4.heap.size, 0, none⟩) 3 3] rfl (by (try simp only [List.map_toArray, List.map_cons, List.map_nil]); first | done | rfl) ?_; go_loud (refine (winnowerlaw18_told.calls 2 awA (some ⟨w4.heap.size, 0, none⟩) 3 _ _ _ (aw_rowA (heap_alloc_last _ _)) (by decide) aw_okA aw_a).mono ?_); rintro e w5 ⟨rfl, hb⟩; refine ⟨_, rfl, ?_⟩; have b_HB := Aside0.mk (below_step (below_alloc HB.out _) hb); clear HB hb; have HB := b_HB; clear b_HB)
    | ((with_reducible refine gate_dst (N := 1) rfl ?_); refine box_event ?hg (N := 1) ?hd (cs := #[.int .i64 0, .int .i64 0, .string ⟨#[]⟩, .bool false]) (t := 26) ?hr ?_; (case hd => rfl); (case hg => rfl); (case hr => first | (go_simp; done) | (go_simp; rfl)); intro g1 hg w6 hbox hb; have B1 := Aside0.mk hbox; have GEB1 := Aside0.mk ((by rw [hg]; exact (below_size HB.out)) : w.heap.size ≤ g1); have b_HB := Aside0.mk (below_step HB.out hb); clear HB; have HB := b_HB; clear b_HB; clear hbox hg hb)
    | ((with_reducible refine gate_ (.store 26 (.tmp 1) (.tmp 11)) rfl ?_); go_loud (refine wpList_storeR rfl rfl 26 (.tmp 1) (.tmp 11) rfl g1 (0) rfl (.agg #[.int .i64 1, .int .i64 9223372036854775807, .string ⟨#[]⟩, .bool false]) rfl [.int .i64 1, .int .i64 9223372036854775807, .string ⟨#[]⟩, .bool false] rfl #[.int .i64 0, .int .i64 0, .string ⟨#[]⟩, .bool false] 26 B1.out size26 (by simp) (by simp [Value.oneCell']) #[.int .i64 1, .int .i64 9223372036854775807, .string ⟨#[]⟩, .bool false] rfl ?_); intro w7 hs st; have b_HB := Aside0.mk (Step.fresh st HB.out GEB1.out); clear HB; have HB := b_HB; clear b_HB; clear B1; have B1 := Aside0.mk hs; clear hs st)
    | ((with_reducible refine gate_callee (f := 11) rfl ?_); refine goesL_ (some 14) rfl rfl Try.func11 (by kernel_rfl) rfl #[.int .i64 9223372036854775807] rfl (by (try simp only [List.map_toArray, List.map_cons, List.map_nil]); first | done | rfl) ?_; go_loud (refine (winnowerlaw18_n.calls 9223372036854775807 1 9223372036854775807 ⟨#[]⟩ false _ rfl).mono ?_); rintro e w8 ⟨rfl, hb⟩; refine ⟨_, rfl, ?_⟩; have b_B1 := Aside0.mk (blk_below B1.out hb); have b_HB := Aside0.mk (below_step HB.out hb); clear HB B1; have HB := b_HB; have B1 := b_B1; clear b_HB b_B1; clear hb)
    | ((with_reducible refine gate_callee (f := 11) rfl ?_); refine goesL_ (some 15) rfl rfl Try.func11 (by kernel_rfl) rfl #[.int .i64 1] rfl (by (try simp only [List.map_toArray, List.map_cons, List.map_nil]); first | done | rfl) ?_; go_loud (refine (winnowerlaw18_n.calls 1 1 1 ⟨#[]⟩ false _ rfl).mono ?_); rintro e w9 ⟨rfl, hb⟩; refine ⟨_, rfl, ?_⟩; have b_B1 := Aside0.mk (blk_below B1.out hb); have b_HB := Aside0.mk (below_step HB.out hb); clear HB B1; have HB := b_HB; have B1 := b_B1; clear b_HB b_B1; clear hb)
    | ((with_reducible refine gate_callee (f := 9) rfl ?_); refine goesL_ (some 17) rfl rfl Try.func9 (by kernel_rfl) rfl #[.int .i64 2, .slice (some ⟨w9.heap.size, 0, none⟩) 2 2] rfl (by (try simp only [List.map_toArray, List.map_cons, List.map_nil]); first | done | rfl) ?_; go_loud (refine (winnowerlaw18_told.calls 2 awB (some ⟨w9.heap.size, 0, none⟩) 2 _ _ _ (aw_rowB (heap_alloc_last _ _)) (by decide) aw_okB aw_b).mono ?_); rintro e w10 ⟨rfl, hb⟩; refine ⟨_, rfl, ?_⟩; have b_B1 := Aside0.mk (blk_below (blk_alloc B1.out _) hb); have b_HB := Aside0.mk (below_step (below_alloc HB.out _) hb); clear HB B1 hb; have HB := b_HB; have B1 := b_B1; clear b_HB b_B1)
    | ((with_reducible refine gate_dst (N := 3) rfl ?_); refine box_event ?hg (N := 3) ?hd (cs := #[.int .i64 0, .int .i64 0, .string ⟨#[]⟩, .bool false]) (t := 26) ?hr ?_; (case hd => rfl); (case hg => rfl); (case hr => first | (go_simp; done) | (go_simp; rfl)); intro g3 hg w11 hbox hb; have B3 := Aside0.mk hbox; have GEB3 := Aside0.mk ((by rw [hg]; exact (below_size HB.out)) : w.heap.size ≤ g3); have NB1B3 := Aside0.mk ((by rw [hg]; exact Nat.ne_of_lt (blk_lt B1.out)) : g1 ≠ g3); have b_B1 := Aside0.mk (blk_below B1.out hb); have b_HB := Aside0.mk (below_step HB.out hb); clear HB B1; have HB := b_HB; have B1 := b_B1; clear b_HB b_B1; clear hbox hg hb)
    | ((with_reducible refine gate_ (.store 26 (.tmp 3) (.tmp 18)) rfl ?_); go_loud (refine wpList_storeR rfl rfl 26 (.tmp 3) (.tmp 18) rfl g3 (0) rfl (.agg #[.int .i64 0, .int .i64 0, .string ⟨#[]⟩, .bool false]) rfl [.int .i64 0, .int .i64 0, .string ⟨#[]⟩, .bool false] rfl #[.int .i64 0, .int .i64 0, .string ⟨#[]⟩, .bool false] 26 B3.out size26 (by simp) (by simp [Value.oneCell']) #[.int .i64 0, .int .i64 0, .string ⟨#[]⟩, .bool false] rfl ?_); intro w12 hs st; have b_B1 := Aside0.mk (Step.blk st B1.out (NB1B3.out)); have b_HB := Aside0.mk (Step.fresh st HB.out GEB3.out); clear HB B1; have HB := b_HB; have B1 := b_B1; clear b_HB b_B1; clear B3; have B3 := Aside0.mk hs; clear hs st))
  have HSS : Aside0 (∀ W0 : World, Below w12.heap.size w12 W0 → (W0.cell? ⟨g1, 0, none⟩ = some (.int .i64 1) ∧ W0.cell? ⟨g1, 1, none⟩ = some (.int .i64 9223372036854775807) ∧ W0.cell? ⟨g1, 2, none⟩ = some (.string ⟨#[]⟩) ∧ W0.cell? ⟨g1, 3, none⟩ = some (.bool false) ∧ Below w12.heap.size w12 W0)) := Aside0.mk (fun W0 hbq => ⟨(blk_cell (blk_below B1.out hbq) 0).trans rfl, (blk_cell (blk_below B1.out hbq) 1).trans rfl, (blk_cell (blk_below B1.out hbq) 2).trans rfl, (blk_cell (blk_below B1.out hbq) 3).trans rfl, hbq⟩)
  go_region_held3 (fun W0 : World => W0.cell? ⟨g1, 0, none⟩ = some (.int .i64 1) ∧ W0.cell? ⟨g1, 1, none⟩ = some (.int .i64 9223372036854775807) ∧ W0.cell? ⟨g1, 2, none⟩ = some (.string ⟨#[]⟩) ∧ W0.cell? ⟨g1, 3, none⟩ = some (.bool false) ∧ Below w12.heap.size w12 W0) (exact HSS.out _ (by repeat (first | (with_reducible exact HBX.out) | (with_reducible exact Below.refl _ _) | (with_reducible apply below_drew1)))) (first
    | (go_at_call 11; refine (winnowerlaw18_n.calls 9223372036854775807 1 9223372036854775807 ⟨#[]⟩ false _ rfl).mono ?_; rintro e w13 ⟨rfl, hb⟩; have HBX := Aside0.mk (show Below w12.heap.size w12 w13 from below_step (by go_split_ands; assumption) hb); clear hb))
  all_goals go_wp2
  all_goals go_ret
  all_goals exact ⟨rfl, below_step HB.out HBX.out⟩


end Go.Proofs.Ytgjmpancofjjbaa.Q
