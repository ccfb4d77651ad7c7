/- The machine side of laws, written by wip/tools/myprint.py (the printer's way, with functions proved by hand put in); Lean checks it. -/
import Derived.Lib.SliceRun
import Derived.LoopIn
import Derived.LoopNIn
import Derived.Maps.AppendAt
import Derived.OwnWalkIn
import Derived.RangeFuncBound
import Derived.RangeFuncCalls
import Derived.RangeFuncLeaves
import Derived.RangeFuncNested
import Derived.Shelf.Abstract
import Derived.Shelf.AbstractIn
import Derived.Shelf.RegionOpen
import Derived.Sort.LoopGhostIn
import Derived.Sort.QuietIn
import Derived.TacticsInMore
import Derived.Test.YtimomihjghefdaaDoorJ0
import Derived.Test.YtimomihjghefdaaDoorJ1
import Derived.Test.YtimomihjghefdaaDoorJ7
import Derived.Test.YtimomihjghefdaaDoorJ5
import Derived.Test.YtimomihjghefdaaDoorQx11
namespace Go.Proofs.YtimomihjghefdaaDoor.Q
open Go.RowKit Go.Proofs.YtimomihjghefdaaDoorW.PrintWords Go.Proofs.YtimomihjghefdaaDoorW.PrintLast Go.Proofs.YtimomihjghefdaaDoorW.PrintMore
attribute [local go_sem] z0y z0v z0z z10 z0s z0t z0w z0x   -- for this text's walks alone
set_option linter.unusedVariables false
set_option linter.unusedSimpArgs false

-- BY HAND: Derived.Test.YtimomihjghefdaaDoorHnum,Derived.RangeFuncNested,Derived.RangeFuncBound,Derived.RangeFuncCalls,Derived.RangeFuncLeaves,Derived.Shelf.Abstract,Derived.Shelf.AbstractIn,Derived.Shelf.RegionOpen,Derived.OwnWalkIn,Derived.TacticsInMore,Derived.LoopNIn,Derived.LoopIn,Derived.Sort.LoopGhostIn,Derived.Sort.QuietIn,Derived.Maps.AppendAt,Derived.Lib.SliceRun
/-! ### intake_Take: function 8 -/
-- HAND winnower/intake.Take making glob
-- SKIP winnower/intake.fresh winnower/intake.fresh$1
-- IMPORT Derived.Test.YtimomihjghefdaaDoorHnum
-- IMPORT Derived.RangeFuncNested
-- IMPORT Derived.RangeFuncBound
-- IMPORT Derived.RangeFuncCalls
-- IMPORT Derived.RangeFuncLeaves
-- IMPORT Derived.Shelf.Abstract
-- IMPORT Derived.Shelf.AbstractIn
-- IMPORT Derived.Shelf.RegionOpen
-- IMPORT Derived.OwnWalkIn
-- IMPORT Derived.TacticsInMore
-- IMPORT Derived.LoopNIn
-- IMPORT Derived.LoopIn
-- IMPORT Derived.Sort.LoopGhostIn
-- IMPORT Derived.Sort.QuietIn
-- IMPORT Derived.Maps.AppendAt
-- IMPORT Derived.Lib.SliceRun
-- USES intake_Check schema_May schema_Decode
open Go.Proofs.YtimomihjghefdaaDoor.Hnum Go.Shelf
attribute [local go_sem] Oper.semAt_some
/-- The records that are new, each with its offset. -/
def newR (n s : Int) : List (List Int) → Nat → List (Int × List Int)
  | [], _ => []
  | b :: t, i => if n ≤ wrap64 (s + (i : Int)) then (wrap64 (s + (i : Int)), b) :: newR n s t (i + 1) else newR n s t (i + 1)
/-- What they tell. -/
def recR (l : List S45) (a1 a2 a3 a4 : Int) : List (Int × List Int) → Option (List S41)
  | [] => some []
  | x :: t => (schema_Decode.f l a1 a2 a3 a4 x.2).bind fun r => (recR l a1 a2 a3 a4 t).bind fun q => some ((⟨x.1, (r.2 == 0), r.1⟩ : S41) :: q)
def intake_Take.f (l0_0 : List S45) (a0_1 a0_2 a0_3 a0_4 : Int) (a1 a2_0 a2_1 : Int) (l2_2 : List (List Int)) : Option (List S41 × Int) :=
  (schema_May.f l0_0 a0_1 a0_2 a0_3 a0_4).bind fun m => if m = true then ((intake_Check.f 9 a1 a2_0 a2_1 l2_2).bind fun e => if e = 0 then (if l2_2.length ≤ 1000000 then (recR l0_0 a0_1 a0_2 a0_3 a0_4 (newR a1 a2_1 l2_2 0)).bind fun q => some (q, 0) else none) else some ([], e)) else some ([], 1)
theorem intake_fresh.calls (n p s : Int) (A : Option Addr) (m c : Nat) (w : World) :
    Calls Tryd.prog 17 #[.int .i64 n, .agg #[.int .i64 p, .int .i64 s, .slice A m c]] w fun e w' => e = .returned (.func (.func 26) #[] #[.pointer (some ⟨w.heap.size + 1, 0, none⟩), .pointer (some ⟨w.heap.size, 0, none⟩)]) ∧ (w.alloc (.cells #[.int .i64 n] 3)).alloc (.cells #[.int .i64 p, .int .i64 s, .slice A m c] 27) = w' := by
  have hu27 := Tryd.underlying27
  go_enter Tryd.func17, Tryd.ntmps17
  go_wp2
  go_ret
  exact ⟨by simp, rfl⟩
/-- A record that is new: its offset, its bytes, and where these lie. -/
abbrev NwT : Type := Int × List Int × Option Addr × Nat
abbrev Nw (w₀ : World) (P : List Int → Prop) : Type := {x : NwT // Kd.C (Kd.int .u8) w₀ x.2.2.1 x.2.1.length x.2.1 ∧ x.2.1.length ≤ x.2.2.2 ∧ P x.2.1}
def encN (w₀ : World) (P : List Int → Prop) (x : Nw w₀ P) : Array Value := #[.int .i64 x.1.1, .slice x.1.2.2.1 x.1.2.1.length x.1.2.2.2]
def recN {w₀ : World} {P : List Int → Prop} (xs : List (Nw w₀ P)) : List (Int × List Int) := xs.map fun x => (x.1.1, x.1.2.1)
def KeepN (n₀ B1 B2 : Nat) (W W' : World) : Prop := Below n₀ W W' ∧ W'.heap[B1]? = W.heap[B1]? ∧ W'.heap[B2]? = W.heap[B2]?
theorem KeepN.trans {n₀ B1 B2 : Nat} {X Y Z : World} (h : KeepN n₀ B1 B2 X Y) (k : KeepN n₀ B1 B2 Y Z) : KeepN n₀ B1 B2 X Z := ⟨h.1.trans k.1, k.2.1.trans h.2.1, k.2.2.trans h.2.2⟩
theorem z66 {n s : Int} {l : List (List Int)} {x : Int} (h0 : 0 ≤ x) (h1 : x < (l.length : Int)) : newR n s (l.drop x.toNat) x.toNat = if n ≤ wrap64 (s + x) then (wrap64 (s + x), rd_L1 l x) :: newR n s (l.drop (x + 1).toNat) (x + 1).toNat else newR n s (l.drop (x + 1).toNat) (x + 1).toNat := by
  have hlt : x.toNat < l.length := by omega
  have e1 : ((x.toNat : Nat) : Int) = x := by omega
  have e2 : (x + 1).toNat = x.toNat + 1 := by omega
  have e3 : rd_L1 l x = l[x.toNat] := by
    unfold rd_L1
    rw [List.getD_eq_getElem?_getD, List.getElem?_eq_getElem hlt]; rfl
  rw [List.drop_eq_getElem_cons hlt, newR, e1, e2, e3]
theorem z75 {n s : Int} {l : List (List Int)} {x : Int} (h1 : ¬ x < (l.length : Int)) : newR n s (l.drop x.toNat) x.toNat = [] := by
  rw [List.drop_eq_nil_of_le (by omega)]; rfl
theorem z93 {e : Ending} {X Y : Prop} (h : (e = .returned (.bool true) ∧ X) ∨ (e = .returned (.bool false) ∧ Y)) : ∃ b : Bool, e = .returned (.bool b) ∧ ((b = true ∧ X) ∨ (b = false ∧ Y)) := by
  rcases h with ⟨h, x⟩ | ⟨h, y⟩
  · exact ⟨true, h, .inl ⟨rfl, x⟩⟩
  · exact ⟨false, h, .inr ⟨rfl, y⟩⟩
set_option maxRecDepth 100000 in
set_option maxHeartbeats 8000000 in
theorem fresh_1.stops (nf : Nat) (hn : 1 ≤ nf) (n p s : Int) (A0 : Option Addr) (c0 : Nat) (l : List (List Int)) (w₀ w : World) (Bn Bf : Nat) (hb0 : Below w₀.heap.size w₀ w) (hBn : Bn < w.heap.size) (hBf : Bf < w.heap.size)
    (hBox : w.heap[Bn]? = some (.cells #[.int .i64 n] 3 (0, 0))) (hBoxf : w.heap[Bf]? = some (.cells #[.int .i64 p, .int .i64 s, .slice A0 l.length c0] 27 (0, 0)))
    (hC : Kd.C (Kd.slice 5 (Kd.int .u8)) w₀ A0 l.length l) (hl : l.length ≤ 1000000) (P : List Int → Prop) (hP : ∀ y ∈ newR n s l 0, P y.2) :
    SeqStopsK Fence.wide nf Tryd.prog 26 #[.pointer (some ⟨Bf, 0, none⟩), .pointer (some ⟨Bn, 0, none⟩)] (encN w₀ P) (KeepN w₀.heap.size Bn Bf) (fun xs => recN xs = newR n s l 0) (fun _ => True) (l.length + 1) w := by
  intro l' J Jx W hW hJ hJx hY h0
  have HAb := z05.mk hJ
  have HC := z05.mk hC
  have HY := z05.mk hY
  have HB := z05.mk (hb0.trans (hW.mono hb0.size))
  have HBox := z05.mk ((hW.block Bn hBn).trans hBox)
  have HBoxf := z05.mk ((hW.block Bf hBf).trans hBoxf)
  have H0 := z05.mk h0
  clear hY hW hb0 hBox hBoxf hJ hJx h0 hC
  refine callsIn_of_wp Tryd.func26 rfl trivial ?_ rfl
  simp only [Tryd.ntmps26, List.size_toArray, List.length_cons, List.length_nil, Nat.reduceAdd, Nat.reduceSub, Array.replicate_succ, Array.replicate_zero, List.push_toArray, List.append_toArray, List.nil_append, List.cons_append]
  have hu27 := Tryd.underlying27
  have cF : W.cell? ⟨Bf, 2, none⟩ = some (.slice A0 l.length c0) := (z04 HBoxf.out 2).trans rfl
  gi_wp2
  gi_loopg [9] l.length (fun m v9 wr => ∃ (x : Int) (xs : List (Nw w₀ P)), 0 ≤ x ∧ x.toNat + m = l.length ∧ v9 = .int .i64 x ∧ z05 (J xs wr ∧ Below w₀.heap.size w₀ wr ∧ wr.heap[Bn]? = some (.cells #[.int .i64 n] 3 (0, 0)) ∧ wr.heap[Bf]? = some (.cells #[.int .i64 p, .int .i64 s, .slice A0 l.length c0] 27 (0, 0)) ∧ xs.length ≤ x.toNat ∧
    recN xs ++ newR n s (l.drop x.toNat) x.toNat = newR n s l 0))
  case atStart => exact ⟨0, [], by omega, by simp, rfl, ⟨⟨H0.out, HB.out, HBox.out, HBoxf.out, by simp, by simp [recN]⟩⟩⟩
  case round =>
    obtain ⟨x, xs, hx0, hxm, rfl, HA⟩ := hrel
    have cF2 : wr.cell? ⟨Bf, 2, none⟩ = some (.slice A0 l.length c0) := (z04 HA.out.2.2.2.1 2).trans rfl
    have cF1 : wr.cell? ⟨Bf, 1, none⟩ = some (.int .i64 s) := (z04 HA.out.2.2.2.1 1).trans rfl
    have cN : wr.cell? ⟨Bn, 0, none⟩ = some (.int .i64 n) := (z04 HA.out.2.2.1 0).trans rfl
    have HX0 := z05.mk hx0
    have HXM := z05.mk hxm
    clear hx0 hxm cF
    by_cases hlt : x < (l.length : Int)
    · have hd1 : decide (x < (l.length : Int)) = true := decide_eq_true hlt
      obtain ⟨ad, A1, c1, e, hx1, hl1, hi1⟩ := at_L1 HC.out x HX0.out hlt
      cases e
      have hx2 := (HA.out.2.1.cell (World.block_lt_of_cell? w₀ _ hx1)).trans hx1
      have HC1 := z05.mk hi1
      have HC1' := z05.mk hl1
      have HLT := z05.mk hlt
      clear hi1 hl1 hx1
      have p1 : (0 ≤ x) = True := eq_true HX0.out
      have q1 : (x < (l.length : Int)) = True := eq_true hlt
      clear hlt
      have HN := z05.mk (z66 (n := n) (s := s) HX0.out HLT.out)
      by_cases h2 : n ≤ wrap64 (s + x)
      · have hd2 : decide (n ≤ wrap64 (s + x)) = true := decide_eq_true h2
        have hd2' : decide (wrap64 (s + x) ≥ n) = true := decide_eq_true h2
        have HN2 := z05.mk (HN.out.trans (if_pos h2))
        clear h2
        have HP := z05.mk (hP (wrap64 (s + x), rd_L1 l x) (by rw [← HA.out.2.2.2.2.2, HN2.out]; simp))
        obtain ⟨fn, tmps, assign, body, hy2, hR⟩ := HY.out xs ⟨(wrap64 (s + x), rd_L1 l x, A1, c1), HC1.out, HC1'.out, HP.out⟩ wr HA.out.1 (by have h_ := HA.out.2.2.2.2.1; have h2_ := HXM.out; have h3_ := HLT.out; omega)
        have HRR := z05.mk hR
        clear hR
        dsimp only [encN] at hy2
        gi_wp2
        refine HRR.out.mono ?_
        rintro e W' hh
        obtain ⟨yb, rfl, hyb⟩ := z93 hh
        rcases hyb with ⟨rfl, hJ', hk⟩ | ⟨rfl, hJx'⟩
        · have HJ2 := z05.mk hJ'
          have HK2 := z05.mk hk
          clear hJ' hk
          gi_wp2
          gi_roundg (gk - 1)
          case measure => have h_ := HXM.out; have h2_ := HLT.out; have h3_ := HX0.out; omega
          case rel =>
            have h_ := HXM.out
            have h2_ := HLT.out
            have h3_ := HX0.out
            refine ⟨x + 1, xs ++ [⟨(wrap64 (s + x), rd_L1 l x, A1, c1), HC1.out, HC1'.out, HP.out⟩], by omega, by omega, congrArg _ (z1c (by omega) (by omega)), ⟨HJ2.out, HA.out.2.1.trans HK2.out.1, HK2.out.2.1.trans HA.out.2.2.1, HK2.out.2.2.trans HA.out.2.2.2.1, by have h4_ := HA.out.2.2.2.2.1; rw [List.length_append]; simp only [List.length_cons, List.length_nil]; omega, ?_⟩⟩
            rw [← HA.out.2.2.2.2.2, HN2.out]
            simp [recN]
        · gi_wp2
          refine bodyPost_ret (results_none rfl _ _ _) rfl ?_
          exact ⟨⟨_, rfl⟩, .inr ⟨_, trivial, hJx'⟩⟩
      · have hd2 : decide (n ≤ wrap64 (s + x)) = false := decide_eq_false h2
        have hd2' : decide (wrap64 (s + x) ≥ n) = false := decide_eq_false h2
        have HN2 := z05.mk (HN.out.trans (if_neg h2))
        clear h2
        gi_wp2
        refine ⟨fun _ h_ => (by cases h_), ?_⟩
        gi_wp2
        gi_roundg (gk - 1)
        case measure => have h_ := HXM.out; have h2_ := HLT.out; have h3_ := HX0.out; omega
        case rel =>
          have h_ := HXM.out
          have h2_ := HLT.out
          have h3_ := HX0.out
          refine ⟨x + 1, xs, by omega, by omega, congrArg _ (z1c (by omega) (by omega)), ⟨HA.out.1, HA.out.2.1, HA.out.2.2.1, HA.out.2.2.2.1, by have h4_ := HA.out.2.2.2.2.1; omega, ?_⟩⟩
          rw [← HA.out.2.2.2.2.2, HN2.out]
    · have hd1 : decide (x < (l.length : Int)) = false := decide_eq_false hlt
      have HN2 := z05.mk (z75 (n := n) (s := s) hlt)
      clear hlt
      gi_wp2
      refine bodyPost_end (results_none rfl _ _ _) rfl ?_
      refine ⟨⟨_, rfl⟩, .inl ⟨xs, ?_, HA.out.1⟩⟩
      rw [← HA.out.2.2.2.2.2, HN2.out, List.append_nil]
/-- The record that a new record's bytes tell. -/
def recD (l : List S45) (a1 a2 a3 a4 : Int) (y : Int × List Int) : S41 := ⟨y.1, (((schema_Decode.f l a1 a2 a3 a4 y.2).getD ([], 0)).2 == 0), ((schema_Decode.f l a1 a2 a3 a4 y.2).getD ([], 0)).1⟩
theorem z5b {l : List S45} {a1 a2 a3 a4 : Int} : ∀ {ys : List (Int × List Int)} {q : List S41}, recR l a1 a2 a3 a4 ys = some q → (∀ y ∈ ys, ∃ r, schema_Decode.f l a1 a2 a3 a4 y.2 = some r) ∧ q = ys.map (recD l a1 a2 a3 a4)
  | [], q, h => by
    simp only [recR, Option.some.injEq] at h
    subst h
    exact ⟨fun y hy => (by cases hy), rfl⟩
  | y :: t, q, h => by
    unfold recR at h
    obtain ⟨r, hr, h⟩ := Option.bind_eq_some_iff.mp h
    obtain ⟨q', hq, h⟩ := Option.bind_eq_some_iff.mp h
    obtain ⟨i1, i2⟩ := z5b hq
    cases h
    refine ⟨fun z hz => ?_, ?_⟩
    · rcases List.mem_cons.mp hz with rfl | hz
      · exact ⟨r, hr⟩
      · exact i1 z hz
    · rw [List.map_cons, i2, recD, hr]; rfl
/-- One more record behind records. -/
theorem z5j {w0 W : World} (base : Nat) {v v2 : Value} {xs : List S41} {x : S41} {ok okp : Nat → Prop} (hp : k63.R 63 W base okp v2 x.f2) (hokp : ∀ k, okp k → ok k ∧ some k ≠ v.ownBlock) (hfresh : ∀ k, W.heap.size ≤ k → ok k)
    (HO : Kd.S k41 41 W base (fun k => ok k ∧ ¬ okp k) v xs) (HB : Below base w0 W) (hbase : base ≤ W.heap.size) (hl : xs.length ≤ 1000000) :
    ∃ v1 w1, (Builtin.append_ #[31, 31] 31 #[v, .slice (some ⟨W.heap.size, 0, none⟩) 1 1]).run Tryd.prog (W.alloc (.cells #[.int .i64 x.f0, .bool x.f1, v2] 41)) = .ok v1 w1 ∧
      Kd.S k41 41 w1 base ok v1 (xs ++ [x]) ∧ Below base w0 w1 ∧ W.grownBy w1 v.ownBlock := by
  obtain ⟨i0, hi, hz0, hz1, hz2⟩ := info_parts z8h
  have hpM : k41.M W base okp x [.int .i64 x.f0, .bool x.f1, v2] := z6b W base okp x hp
  obtain ⟨f, hf, hR⟩ := Kd.S_tag HO xs.length okp (fun _ hk h2 => h2.2 hk)
  obtain ⟨h0, inner, hown, hr⟩ := Kd.R_mono hR (fun _ hk => hk.1)
  have hpM' : (Kd.tag f k41).M W base okp (x, xs.length) [.int .i64 x.f0, .bool x.f1, v2] := k41.M_mono (fun k hk => ⟨hk, hf k hk⟩) hpM
  rw [List.length_zipIdx] at hown
  have hone : ∀ u ∈ [.int .i64 x.f0, .bool x.f1, v2], u.oneCell' = true := k41.K_one (k41.K_of_M hpM)
  obtain ⟨v1, w1, hrun, hown1, hg, _, hat⟩ := run_append_own_at (P := Tryd.prog) (W.alloc (.cells #[.int .i64 x.f0, .bool x.f1, v2] 41)) base 31 31 41 i0 (.agg #[(.int .i64 0), (.bool false), (.slice none 0 0)]) 3 40 Tryd.underlying31 hi hz0 hz1 hz2 rfl (by omega) v xs.length inner (hown.alloc _) ⟨W.heap.size, 0, none⟩ 1 1 [.int .i64 x.f0, .bool x.f1, v2] rfl
    (by simpa using World.news_of_block (cs := #[.int .i64 x.f0, .bool x.f1, v2]) (t := 41) (fr := (0, 0)) (World.alloc_heap_new W (.cells #[.int .i64 x.f0, .bool x.f1, v2] 41))) hone (by have : maxLen = 9223372036854775807 := rfl; omega) (by omega) (by simp; omega)
  have hg' := World.grownBy.trans (World.grownBy_alloc W _ _) hg
  have hat' : v1.ownBlock = v.ownBlock ∨ ∃ b, v1.ownBlock = some b ∧ W.heap.size ≤ b := by
    rcases hat with hat | hat
    · exact .inl hat
    · exact .inr ⟨_, hat, by simp⟩
  refine ⟨v1, w1, hrun, ⟨f, ?_⟩, (HB.alloc hbase _).grown hg (by simp; omega) (z2d hown), hg'⟩
  rw [Kd.zip_snoc]
  exact Kd.R_appended h0 hr hpM' hokp hfresh (by rw [List.length_zipIdx]; exact hown1) hg' hat'
theorem z6j {F : Fence} {n : Nat} {o : Oper} {a : Act} {W w1 : World} {v v1 y : Value} {K : Act → World → Prop} {Q : Exit → Act → World → Prop} (s x : Operand) (ho : o.op = .call { callee := .builtin .append, args := #[s, x], argTypes := #[31, 31] }) (hty : o.type = 31) (hs : a.eval s = v) (hx : a.eval x = y)
    (hr : (Builtin.append_ #[31, 31] 31 #[v, y]).run Tryd.prog W = .ok v1 w1) (hk : K (a.put o.dst v1) w1) : Oper.wpIn F n Tryd.prog o a W K Q := by
  unfold Oper.wpIn
  refine ⟨?_, ?_⟩
  · simp [Oper.about, ho, resolve, Target.leads, Sem.run_pure]
  · rw [Oper.semAt_plain F _ _ (by rw [ho]; intro c hc'; cases hc')]
    simp [execOp, ho, resolve, invoke, builtin, hs, hx, hty, hr, Result.andThen]
    exact hk
/-- A row of records, in blocks of cells from B on. -/
def rowR (B : Nat) (W : World) (v : Value) (xs : List S41) : Prop :=
  ∃ ok : Nat → Prop, (∀ k, ok k → B ≤ k ∧ ∃ cs t, W.heap[k]? = some (.cells cs t (0, 0))) ∧ Kd.S k41 41 W B ok v xs
theorem rowR.own {β : Type} {b t B : Nat} (f : β → List S41) : OwnFrom B (fun s W => ∃ v, Boxed W b t v ∧ rowR B W v (f s)) := by
  rintro s X Y row ⟨v, hv, ok, h1, h2⟩ hg hrow
  have hne : ∀ k, ok k → some k ≠ row := by
    intro k hk e
    obtain ⟨hB, o, ho, hc⟩ := hrow k e.symm
    obtain ⟨_, cs, t', h⟩ := h1 k hk
    rw [h] at ho; cases ho; cases hc
  refine ⟨v, hv.kept hg (fun e' => ?_), ok, fun k hk => ?_, Kd.S_grown h2 hg hne⟩
  · obtain ⟨_, o, ho, hc⟩ := hrow b e'.symm
    rw [show X.heap[b]? = _ from hv] at ho; cases ho; cases hc
  · obtain ⟨hB, cs, t', h⟩ := h1 k hk
    exact ⟨hB, cs, t', (hg.block k (Array.getElem?_eq_some_iff.1 h).1 (hne k hk)).trans h⟩
theorem rowR.of_S {B : Nat} {ok : Nat → Prop} {W : World} {v : Value} {xs : List S41} (h : Kd.S k41 41 W B ok v xs) : rowR B W v xs := by
  refine ⟨_, fun k hk => ?_, Kd.S_bound h⟩
  obtain ⟨_, h1, _, q, _, cs, hc⟩ := hk
  exact ⟨h1, cs, q, hc⟩
theorem rowR.set {B b : Nat} {W : World} {v : Value} {xs : List S41} (h : rowR B W v xs) (h2 : b < B) (u : Value) : rowR B (W.setCell ⟨b, 0, none⟩ u) v xs := by
  obtain ⟨ok, ho, hv⟩ := h
  have hne : ∀ k, ok k → k ≠ b := by
    intro k hk
    have := (ho k hk).1
    omega
  refine ⟨ok, fun k hk => ?_, Kd.S_far hv hne u⟩
  obtain ⟨hB, cs, t', h⟩ := ho k hk
  exact ⟨hB, cs, t', (Below.heap_setCell W ⟨b, 0, none⟩ u k (hne k hk)).trans h⟩
theorem z4z {β : Type} (B b t : Nat) (cs : Array Value) : OwnFrom B (fun (_ : β) W => W.heap[b]? = some (.cells cs t (0, 0))) := by
  rintro s X Y row hs hg hrow
  refine (hg.block b (Array.getElem?_eq_some_iff.1 hs).1 (fun e => ?_)).trans hs
  obtain ⟨_, o, ho, hc⟩ := hrow b e.symm
  rw [hs] at ho; cases ho; cases hc
theorem z9e {w W0 : World} {B1 B2 : Nat} (hw : w.heap.size ≤ W0.heap.size) (h1 : B1 < W0.heap.size) (h2 : B2 < W0.heap.size) (W : World) (l : Nat) (o o' : Obj) (hl : W0.heap.size ≤ l) (h : W.heap[l]? = some o) (h3 : o.isCells = false) (h4 : o.isWalk = false) : KeepN w.heap.size B1 B2 W (W.putObj l o') :=
  ⟨belowK_b (w := w) (Nat.le_refl _) W l o o' (by omega) h h3 h4, World.putObj_heap_other (by omega), World.putObj_heap_other (by omega)⟩
/-- What a round of Take leaves. -/
theorem z7h {n g B : Nat} {w W w3 w1 : World} {v v1 : Value} {sb nb fb : Obj} {zs ys : List S41} {ok : Nat → Prop} (hBg : B = g + 3) (hng : n < g) (hB : Below n w W) (hv : Boxed W g 31 v) (hs : W.heap[n]? = some sb) (hn : W.heap[g + 1]? = some nb) (hf : W.heap[g + 1 + 1]? = some fb) (hBW : B ≤ W.heap.size)
    (hb3 : Below W.heap.size W w3) (hg : w3.grownBy w1 v.ownBlock) (hS : Kd.S k41 41 W B ok v zs) (hB1 : Below B W w1) (hS1 : Kd.S k41 41 w1 B (fun _ => True) v1 ys) :
    KeepsFrom B W (w1.setCell ⟨g, 0, none⟩ v1) ∧ KeepN n (g + 1) (g + 1 + 1) W (w1.setCell ⟨g, 0, none⟩ v1) ∧
      (((∃ v, Boxed (w1.setCell ⟨g, 0, none⟩ v1) g 31 v ∧ rowR B (w1.setCell ⟨g, 0, none⟩ v1) v ys) ∧ (w1.setCell ⟨g, 0, none⟩ v1).heap[n]? = some sb) ∧ ((w1.setCell ⟨g, 0, none⟩ v1).heap[g + 1]? = some nb ∧ (w1.setCell ⟨g, 0, none⟩ v1).heap[g + 1 + 1]? = some fb)) ∧
      Below n w (w1.setCell ⟨g, 0, none⟩ v1) := by
  have hv1 : Boxed w1 g 31 v := (hB1.block g (by omega)).trans hv
  have hv2 := hv1.set v1
  have keep : ∀ {b : Nat} {o : Obj}, b < B → b ≠ g → W.heap[b]? = some o → (w1.setCell ⟨g, 0, none⟩ v1).heap[b]? = some o := fun {b o} h1 h2 h3 => (Below.heap_setCell w1 ⟨g, 0, none⟩ v1 b (by show b ≠ g; exact h2)).trans ((hB1.block b h1).trans h3)
  have hlow : Below n W (w1.setCell ⟨g, 0, none⟩ v1) := (hB1.mono (show n ≤ B by omega)).setCell (p := ⟨g, 0, none⟩) (Nat.le_of_lt hng) v1
  refine ⟨⟨hlow.size, fun k o hBk hk hc => ?_⟩, ⟨hlow, (keep (by omega) (by omega) hn).trans hn.symm, (keep (by omega) (by omega) hf).trans hf.symm⟩, ⟨⟨⟨v1, hv2, (rowR.of_S hS1).set (by omega) v1⟩, keep (by omega) (by omega) hs⟩, keep (by omega) (by omega) hn, keep (by omega) (by omega) hf⟩, hB.trans hlow⟩
  have hlt := (Array.getElem?_eq_some_iff.1 hk).1
  have hne : some k ≠ v.ownBlock := by
    intro e
    obtain ⟨cs, h⟩ := Kd.S_typed hS k e.symm
    rw [h] at hk; cases hk; cases hc
  refine (Below.heap_setCell w1 ⟨g, 0, none⟩ v1 k (by show k ≠ g; omega)).trans ?_
  exact (hg.block k (Nat.lt_of_lt_of_le hlt hb3.size) hne).trans ((hb3.block k hlt).trans hk)
theorem z5r {W w1 : World} {b t : Nat} {v : Value} (h : Below W.heap.size W w1) (hv : Boxed W b t v) : Boxed w1 b t v := (h.block b hv.lt).trans hv
theorem z3w {F : Fence} {n : Nat} {ops : Array Oper} {rest : List Oper} {o : Oper} {a : Act} {W w1 : World} {v v1 y : Value} {Q : Exit → Act → World → Prop} (hg : o.guard = none) (s x : Operand) (ho : o.op = .call { callee := .builtin .append, args := #[s, x], argTypes := #[31, 31] }) (hty : o.type = 31) (hs : a.eval s = v) (hx : a.eval x = y)
    (hr : (Builtin.append_ #[31, 31] 31 #[v, y]).run Tryd.prog W = .ok v1 w1) (hk : wpListIn F n Tryd.prog ops Q rest (a.put o.dst v1) w1) : wpListIn F n Tryd.prog ops Q (o :: rest) a W :=
  wpListIn_plain hg fun K hK => z6j s x ho hty hs hx hr (hK _ _ hk)
theorem z1o {W : World} {b : Nat} {o : Obj} (h : W.heap[b]? = some o) (o' : Obj) : (W.alloc o').heap[b]? = some o := (Below.heap_alloc W o' b (Array.getElem?_eq_some_iff.1 h).1).trans h
theorem z2t (W : World) (o : Obj) {b : Nat} (hb : b = W.heap.size) : (W.alloc o).heap[b]? = some o := by subst hb; exact World.alloc_heap_new W o
set_option maxRecDepth 100000 in
set_option maxHeartbeats 8000000 in
theorem intake_Take.calls (A0_0 : Option Addr) (c0_0 : Nat) (l0_0 : List S45) (a0_1 a0_2 a0_3 a0_4 : Int) (a1 a2_0 a2_1 : Int) (A2_2 : Option Addr) (c2_2 : Nat) (l2_2 : List (List Int)) (r1 : List S41) (r2 : Int) (w : World) (hr0_0 : Kd.C k45 w A0_0 l0_0.length l0_0) (hc0_0 : l0_0.length ≤ c0_0) (hr2_2 : Kd.C (Kd.slice 5 (Kd.int .u8)) w A2_2 l2_2.length l2_2) (hc2_2 : l2_2.length ≤ c2_2) (hG : Globs w) (h : intake_Take.f l0_0 a0_1 a0_2 a0_3 a0_4 a1 a2_0 a2_1 l2_2 = some (r1, r2)) :
    Calls Tryd.prog 8 #[.agg #[.slice A0_0 l0_0.length c0_0, .int .i64 a0_1, .int .i64 a0_2, .int .i64 a0_3, .int .i64 a0_4], .int .i64 a1, .agg #[.int .i64 a2_0, .int .i64 a2_1, .slice A2_2 l2_2.length c2_2]] w fun e w' => ∃ v0_ : Value, e = .returned (.tuple #[v0_, .int .i64 r2]) ∧ Kd.S k41 41 w' w.heap.size (fun _ => True) v0_ r1 ∧ Below w.heap.size w w' := by
  have HR0 := z05.mk hr0_0
  have HC0 := z05.mk hc0_0
  have HR2 := z05.mk hr2_2
  have HC2 := z05.mk hc2_2
  have HG := z05.mk hG
  clear hr0_0 hc0_0 hr2_2 hc2_2 hG
  unfold intake_Take.f at h
  obtain ⟨m, hm, h⟩ := Option.bind_eq_some_iff.mp h
  have HM := z05.mk hm
  clear hm
  have h1 : 1 ≤ 7 := by omega
  refine (callsIn_wide (n := 7)).1 ?_
  refine callsIn_of_wp_marks Tryd.func8 rfl trivial ?_ rfl
  simp only [Tryd.ntmps8, List.size_toArray, List.length_cons, List.length_nil, Nat.reduceAdd, Nat.reduceSub, Array.replicate_succ, Array.replicate_zero, List.push_toArray, List.append_toArray, List.nil_append, List.cons_append]
  have hu24 := Tryd.underlying24
  have hu27 := Tryd.underlying27
  have hf16 : Fence.wide.fn 16 := trivial
  have hf11 : Fence.wide.fn 11 := trivial
  have hf17 : Fence.wide.fn 17 := trivial
  have hmx : Tryd.prog.follows .mixedOrders = true := by kernel_rfl
  obtain ⟨W1, hW1⟩ : ∃ W1, (w.alloc (.cells #[.slice A0_0 l0_0.length c0_0, .int .i64 a0_1, .int .i64 a0_2, .int .i64 a0_3, .int .i64 a0_4] 24)).alloc (.cells #[.int .i64 a2_0, .int .i64 a2_1, .slice A2_2 l2_2.length c2_2] 27) = W1 := ⟨_, rfl⟩
  have hB1 : Below w.heap.size w W1 := by rw [← hW1]; exact ((Below.refl _ w).alloc (Nat.le_refl _) _).alloc (by simp) _
  have hs1 : W1.heap[w.heap.size]? = some (.cells #[.slice A0_0 l0_0.length c0_0, .int .i64 a0_1, .int .i64 a0_2, .int .i64 a0_3, .int .i64 a0_4] 24 (0, 0)) := by rw [← hW1]; exact z1o (z2t _ _ rfl) _
  have hf1 : W1.heap[w.heap.size + 1]? = some (.cells #[.int .i64 a2_0, .int .i64 a2_1, .slice A2_2 l2_2.length c2_2] 27 (0, 0)) := by rw [← hW1]; exact z2t _ _ (by simp)
  have hz1 : W1.heap.size = w.heap.size + 2 := by rw [← hW1]; simp
  have ps0 : W1.cell? ⟨w.heap.size, 0, none⟩ = some (.slice A0_0 l0_0.length c0_0) := (z04 hs1 0).trans rfl
  have ps1 : W1.cell? ⟨w.heap.size, 1, none⟩ = some (.int .i64 a0_1) := (z04 hs1 1).trans rfl
  have ps2 : W1.cell? ⟨w.heap.size, 2, none⟩ = some (.int .i64 a0_2) := (z04 hs1 2).trans rfl
  have ps3 : W1.cell? ⟨w.heap.size, 3, none⟩ = some (.int .i64 a0_3) := (z04 hs1 3).trans rfl
  have ps4 : W1.cell? ⟨w.heap.size, 4, none⟩ = some (.int .i64 a0_4) := (z04 hs1 4).trans rfl
  have pf0 : W1.cell? ⟨w.heap.size + 1, 0, none⟩ = some (.int .i64 a2_0) := (z04 hf1 0).trans rfl
  have pf1 : W1.cell? ⟨w.heap.size + 1, 1, none⟩ = some (.int .i64 a2_1) := (z04 hf1 1).trans rfl
  have pf2 : W1.cell? ⟨w.heap.size + 1, 2, none⟩ = some (.slice A2_2 l2_2.length c2_2) := (z04 hf1 2).trans rfl
  cases m with
  | false =>
    cases (show some (([] : List S41), (1 : Int)) = some (r1, r2) from h)
    gi_wp2_with (gi_at_call 16; refine ((callsIn_wide (n := 6)).2 (schema_May.calls A0_0 c0_0 l0_0 a0_1 a0_2 a0_3 a0_4 false _ (Kd.C_below HR0.out hB1) HC0.out HM.out)).mono ?_; rintro e w2 ⟨rfl, hb2⟩)
    have hd2 := hB1.trans (hb2.mono (by omega))
    exact ⟨_, results_tmp2 rfl _ _ _, _, rfl, Kd.S_nil _ _ _ _ _, hd2⟩
  | true =>
    replace h : ((intake_Check.f 9 a1 a2_0 a2_1 l2_2).bind fun e => if e = 0 then (if l2_2.length ≤ 1000000 then (recR l0_0 a0_1 a0_2 a0_3 a0_4 (newR a1 a2_1 l2_2 0)).bind fun q => some (q, 0) else none) else some ([], e)) = some (r1, r2) := h
    obtain ⟨ce, hce, h⟩ := Option.bind_eq_some_iff.mp h
    have HCE := z05.mk hce
    clear hce
    by_cases he : ce = 0
    · subst he
      rw [if_pos rfl] at h
      by_cases hl : l2_2.length ≤ 1000000
      · rw [if_pos hl] at h
        obtain ⟨q, hq, h⟩ := Option.bind_eq_some_iff.mp h
        cases h
        have HQ := z05.mk (z5b hq)
        clear hq
        gi_wp2_with (first | (gi_at_call 16; refine ((callsIn_wide (n := 6)).2 (schema_May.calls A0_0 c0_0 l0_0 a0_1 a0_2 a0_3 a0_4 true _ (Kd.C_below HR0.out hB1) HC0.out HM.out)).mono ?_; rintro e w2 ⟨rfl, hb2⟩; have hs2 := (hb2.block _ (by omega : w.heap.size < W1.heap.size)).trans hs1; have hf2 := (hb2.block _ (by omega : w.heap.size + 1 < W1.heap.size)).trans hf1; have hB2 := hB1.trans (hb2.mono (by omega)); have hz2 := hb2.size; have qs0 : w2.cell? ⟨w.heap.size, 0, none⟩ = some (.slice A0_0 l0_0.length c0_0) := (z04 hs2 0).trans rfl; have qs1 : w2.cell? ⟨w.heap.size, 1, none⟩ = some (.int .i64 a0_1) := (z04 hs2 1).trans rfl; have qs2 : w2.cell? ⟨w.heap.size, 2, none⟩ = some (.int .i64 a0_2) := (z04 hs2 2).trans rfl; have qs3 : w2.cell? ⟨w.heap.size, 3, none⟩ = some (.int .i64 a0_3) := (z04 hs2 3).trans rfl; have qs4 : w2.cell? ⟨w.heap.size, 4, none⟩ = some (.int .i64 a0_4) := (z04 hs2 4).trans rfl; have qf0 : w2.cell? ⟨w.heap.size + 1, 0, none⟩ = some (.int .i64 a2_0) := (z04 hf2 0).trans rfl; have qf1 : w2.cell? ⟨w.heap.size + 1, 1, none⟩ = some (.int .i64 a2_1) := (z04 hf2 1).trans rfl; have qf2 : w2.cell? ⟨w.heap.size + 1, 2, none⟩ = some (.slice A2_2 l2_2.length c2_2) := (z04 hf2 2).trans rfl) | (gi_at_call 11; refine ((callsIn_wide (n := 6)).2 (intake_Check.calls 9 a1 a2_0 a2_1 A2_2 c2_2 l2_2 0 _ (Kd.C_below HR2.out hB2) HC2.out HCE.out)).mono ?_; rintro e w3 ⟨rfl, hb3⟩; have hs3 := (hb3.block _ (by omega : w.heap.size < w2.heap.size)).trans hs2; have hf3 := (hb3.block _ (by omega : w.heap.size + 1 < w2.heap.size)).trans hf2; have hB3 := hB2.trans (hb3.mono (by omega)); have hz3 := hb3.size; obtain ⟨W4, hW4⟩ : ∃ W4, w3.alloc (.cells #[.slice none 0 0] 31) = W4 := ⟨_, rfl⟩; have hs4 := z1o hs3 (.cells #[.slice none 0 0] 31); rw [hW4] at hs4; have hf4 := z1o hf3 (.cells #[.slice none 0 0] 31); rw [hW4] at hf4; have bO4 : Boxed W4 w3.heap.size 31 (.slice none 0 0) := (by rw [← hW4]; exact Boxed.new _ _ _); have hB4 : Below w.heap.size w W4 := (by rw [← hW4]; exact hB3.alloc hB3.size _); have hz4 : W4.heap.size = w3.heap.size + 1 := (by rw [← hW4]; simp); have rs0 : w3.cell? ⟨w.heap.size, 0, none⟩ = some (.slice A0_0 l0_0.length c0_0) := (z04 hs3 0).trans rfl; have rs1 : w3.cell? ⟨w.heap.size, 1, none⟩ = some (.int .i64 a0_1) := (z04 hs3 1).trans rfl; have rs2 : w3.cell? ⟨w.heap.size, 2, none⟩ = some (.int .i64 a0_2) := (z04 hs3 2).trans rfl; have rs3 : w3.cell? ⟨w.heap.size, 3, none⟩ = some (.int .i64 a0_3) := (z04 hs3 3).trans rfl; have rs4 : w3.cell? ⟨w.heap.size, 4, none⟩ = some (.int .i64 a0_4) := (z04 hs3 4).trans rfl; have rf0 : w3.cell? ⟨w.heap.size + 1, 0, none⟩ = some (.int .i64 a2_0) := (z04 hf3 0).trans rfl; have rf1 : w3.cell? ⟨w.heap.size + 1, 1, none⟩ = some (.int .i64 a2_1) := (z04 hf3 1).trans rfl; have rf2 : w3.cell? ⟨w.heap.size + 1, 2, none⟩ = some (.slice A2_2 l2_2.length c2_2) := (z04 hf3 2).trans rfl; have ts0 : W4.cell? ⟨w.heap.size, 0, none⟩ = some (.slice A0_0 l0_0.length c0_0) := (z04 hs4 0).trans rfl; have ts1 : W4.cell? ⟨w.heap.size, 1, none⟩ = some (.int .i64 a0_1) := (z04 hs4 1).trans rfl; have ts2 : W4.cell? ⟨w.heap.size, 2, none⟩ = some (.int .i64 a0_2) := (z04 hs4 2).trans rfl; have ts3 : W4.cell? ⟨w.heap.size, 3, none⟩ = some (.int .i64 a0_3) := (z04 hs4 3).trans rfl; have ts4 : W4.cell? ⟨w.heap.size, 4, none⟩ = some (.int .i64 a0_4) := (z04 hs4 4).trans rfl; have tf0 : W4.cell? ⟨w.heap.size + 1, 0, none⟩ = some (.int .i64 a2_0) := (z04 hf4 0).trans rfl; have tf1 : W4.cell? ⟨w.heap.size + 1, 1, none⟩ = some (.int .i64 a2_1) := (z04 hf4 1).trans rfl; have tf2 : W4.cell? ⟨w.heap.size + 1, 2, none⟩ = some (.slice A2_2 l2_2.length c2_2) := (z04 hf4 2).trans rfl) | (gi_at_call 17; refine ((callsIn_wide (n := 6)).2 (intake_fresh.calls a1 a2_0 a2_1 A2_2 l2_2.length c2_2 _)).mono ?_; rintro e w' ⟨rfl, rfl⟩))
        obtain ⟨W0, hW0⟩ : ∃ W0, (W4.alloc (.cells #[.int .i64 a1] 3)).alloc (.cells #[.int .i64 a2_0, .int .i64 a2_1, .slice A2_2 l2_2.length c2_2] 27) = W0 := ⟨_, rfl⟩
        have bO : Boxed W0 w3.heap.size 31 (.slice none 0 0) := by rw [← hW0]; exact (bO4.alloc _).alloc _
        have hN0 : W0.heap[w3.heap.size + 1]? = some (.cells #[.int .i64 a1] 3 (0, 0)) := by rw [← hW0]; exact z1o (z2t _ _ hz4.symm) _
        have hF0 : W0.heap[w3.heap.size + 1 + 1]? = some (.cells #[.int .i64 a2_0, .int .i64 a2_1, .slice A2_2 l2_2.length c2_2] 27 (0, 0)) := by rw [← hW0]; exact z2t _ _ (by simp; omega)
        have hS0 : W0.heap[w.heap.size]? = some (.cells #[.slice A0_0 l0_0.length c0_0, .int .i64 a0_1, .int .i64 a0_2, .int .i64 a0_3, .int .i64 a0_4] 24 (0, 0)) := by rw [← hW0]; exact z1o (z1o hs4 _) _
        have hB0 : Below w.heap.size w W0 := by rw [← hW0]; exact (hB4.alloc hB4.size _).alloc (by have := hB4.size; simp; omega) _
        have hsz : W0.heap.size = w3.heap.size + 3 := by rw [← hW0]; simp; omega
        have hwz : w.heap.size < w3.heap.size := by omega
        rw [hW0]
        clear hW0 hW4 hW1
        refine wpIn_rangeFunc_ownH rfl h1 (gf := 26) (lb := #[.pointer (some ⟨w3.heap.size + 1 + 1, 0, none⟩), .pointer (some ⟨w3.heap.size + 1, 0, none⟩)]) rfl trivial (enters_of Tryd.func26 (by kernel_rfl) rfl)
          (fresh_1.stops (7 - 1) (by omega) a1 a2_0 a2_1 A2_2 c2_2 l2_2 w W0 (w3.heap.size + 1) (w3.heap.size + 1 + 1) hB0 (by omega) (by omega) hN0 hF0 HR2.out hl (fun b => ∃ r, schema_Decode.f l0_0 a0_1 a0_2 a0_3 a0_4 b = some r) HQ.out.1) KeepN.trans (z9e (by omega) (by omega) (by omega)) (Below.refl _ _) (fun _ => rfl)
          (fun (pre : List (Nw w (fun b => ∃ r, schema_Decode.f l0_0 a0_1 a0_2 a0_3 a0_4 b = some r))) W => (((∃ v, Boxed W w3.heap.size 31 v ∧ rowR W0.heap.size W v ((recN pre).map (recD l0_0 a0_1 a0_2 a0_3 a0_4))) ∧ W.heap[w.heap.size]? = some (.cells #[.slice A0_0 l0_0.length c0_0, .int .i64 a0_1, .int .i64 a0_2, .int .i64 a0_3, .int .i64 a0_4] 24 (0, 0))) ∧ (W.heap[w3.heap.size + 1]? = some (.cells #[.int .i64 a1] 3 (0, 0)) ∧ W.heap[w3.heap.size + 1 + 1]? = some (.cells #[.int .i64 a2_0, .int .i64 a2_1, .slice A2_2 l2_2.length c2_2] 27 (0, 0)))) ∧ Below w.heap.size w W)
          (fun _ _ _ => False)
          (OwnFrom.and (OwnFrom.and (OwnFrom.and (rowR.own (fun pre => (recN pre).map (recD l0_0 a0_1 a0_2 a0_3 a0_4))) (z4z _ _ _ _)) (OwnFrom.and (z4z _ _ _ _) (z4z _ _ _ _))) (ownFrom_below (Nat.le_refl _) (by omega)))
          (fun _ _ _ _ _ hs _ _ => hs)
          ⟨⟨⟨⟨_, bO, rowR.of_S (Kd.S_nil _ _ _ _ (fun _ => True))⟩, hS0⟩, hN0, hF0⟩, hB0⟩
          (fun (x : Nw w (fun b => ∃ r, schema_Decode.f l0_0 a0_1 a0_2 a0_3 a0_4 b = some r)) a' W => a' = { tmps := #[.agg #[.slice A0_0 l0_0.length c0_0, .int .i64 a0_1, .int .i64 a0_2, .int .i64 a0_3, .int .i64 a0_4], .int .i64 a1, .agg #[.int .i64 a2_0, .int .i64 a2_1, .slice A2_2 l2_2.length c2_2], .pointer (some ⟨w.heap.size, 0, none⟩), undef, .pointer (some ⟨w.heap.size + 1, 0, none⟩), .slice none 0 0, .int .i64 0, .int .i64 0, .pointer (some ⟨w3.heap.size, 0, none⟩), .int .i64 x.1.1, .slice x.1.2.2.1 x.1.2.1.length x.1.2.2.2, undef, undef,
            .agg #[.slice A0_0 l0_0.length c0_0, .int .i64 a0_1, .int .i64 a0_2, .int .i64 a0_3, .int .i64 a0_4], .bool true, .bool false, .int .i64 a1, .agg #[.int .i64 a2_0, .int .i64 a2_1, .slice A2_2 l2_2.length c2_2], .int .i64 0, .int .i64 0, .bool false, undef, .int .i64 a1, .agg #[.int .i64 a2_0, .int .i64 a2_1, .slice A2_2 l2_2.length c2_2], .func (.func 26) #[] #[.pointer (some ⟨w3.heap.size + 1 + 1, 0, none⟩), .pointer (some ⟨w3.heap.size + 1, 0, none⟩)], .int .i64 x.1.1, .slice x.1.2.2.1 x.1.2.1.length x.1.2.2.2, undef, undef, undef, undef, undef, undef, undef, undef, undef, undef, undef, undef, undef, undef, undef], defers := [] })
          (fun x a' _ X Y row hs hg hr => hs)
          ?assign ?body ?done ?stop
        case assign =>
          rintro l pre x W K hI hK
          simp only [encN]
          gi_wp2
          exact hK _ _ (KeepsFrom.refl _ _) ⟨Below.refl _ _, rfl, rfl⟩ hI rfl
        case body =>
          rintro l pre x a' W hlW ⟨rr, hL⟩ ⟨⟨⟨⟨v, hv, hrow⟩, hs⟩, hn, hf⟩, hB⟩ rfl hlt
          have hWs : W0.heap.size ≤ W.heap.size := Nat.le_of_lt (Nat.lt_of_le_of_lt hlW (Array.getElem?_eq_some_iff.1 hL).1)
          obtain ⟨ok, hok, hS⟩ := hrow
          obtain ⟨A, c, rfl⟩ := Kd.S_slice hS
          have hpl : ((recN pre).map (recD l0_0 a0_1 a0_2 a0_3 a0_4)).length ≤ 1000000 := by rw [List.length_map, recN, List.length_map]; omega
          obtain ⟨zs, hzs⟩ : ∃ zs, zs = (recN pre).map (recD l0_0 a0_1 a0_2 a0_3 a0_4) := ⟨_, rfl⟩
          rw [← hzs] at hS hpl hv
          have HS := z05.mk hS
          have HZ := z05.mk hzs
          clear hzs
          obtain ⟨⟨off, b, A2, c2⟩, hx⟩ := x
          obtain ⟨⟨rw_, rg⟩, hrz⟩ := hx.2.2
          have hf18 : Fence.wide.fn 18 := trivial
          have HV := z05.mk hv
          have us0 : W.cell? ⟨w.heap.size, 0, none⟩ = some (.slice A0_0 l0_0.length c0_0) := (z04 hs 0).trans rfl; have us1 : W.cell? ⟨w.heap.size, 1, none⟩ = some (.int .i64 a0_1) := (z04 hs 1).trans rfl; have us2 : W.cell? ⟨w.heap.size, 2, none⟩ = some (.int .i64 a0_2) := (z04 hs 2).trans rfl; have us3 : W.cell? ⟨w.heap.size, 3, none⟩ = some (.int .i64 a0_3) := (z04 hs 3).trans rfl; have us4 : W.cell? ⟨w.heap.size, 4, none⟩ = some (.int .i64 a0_4) := (z04 hs 4).trans rfl
          clear hS hok
          gi_wp2_with (first | (gi_at_call 18; refine (CallsIn.inRound l ((callsIn_wide (n := 4)).2 (schema_Decode.calls A0_0 c0_0 l0_0 a0_1 a0_2 a0_3 a0_4 A2 c2 b rw_ rg _ (Kd.C_below HR0.out hB) HC0.out (Kd.C_below hx.1 hB) hx.2.1 (z1j HG.out hB) hrz))).mono ?_; rintro e w5 ⟨v5, rfl, ho5, hb5⟩; obtain ⟨A5, c5, rfl⟩ := Kd.R_slice ho5; have HO5 := z05.mk ho5; have HB5 := z05.mk hb5; have cO5 : w5.cell? ⟨w3.heap.size, 0, none⟩ = some (.slice A zs.length c) := (z5r hb5 hv).cell; clear ho5 hb5; obtain ⟨v1, w1, hrun, hS1, hB1_, hg1⟩ := z5j (w0 := W) W0.heap.size (v := .slice A zs.length c) (v2 := .slice A5 rw_.length c5) (xs := zs) (x := ⟨off, (rg == 0), rw_⟩) (ok := fun _ => True) (okp := fun k => W.heap.size ≤ k) (Kd.R_lower (Kd.R_mono (Kd.R_bound HO5.out) (fun k hk => hk.2.1)) hWs) (fun k hk => ⟨trivial, fun e => by have := Kd.S_lt HS.out k e.symm; omega⟩) (fun _ _ => trivial) (Kd.S_below (Kd.S_mono (Kd.S_bound HS.out) (fun k hk => ⟨trivial, by have := hk.2.2.1; omega⟩)) HB5.out) (HB5.out.mono hWs) (Nat.le_trans hWs HB5.out.size) hpl; obtain ⟨A7, n7, c7, rfl⟩ : ∃ A7 n7 c7, v1 = .slice A7 n7 c7 := (by obtain ⟨A7, c7, e⟩ := Kd.S_slice hS1; exact ⟨_, _, _, e⟩); have HF := z05.mk (z7h hsz hwz hB hv hs hn hf hWs HB5.out hg1 HS.out hB1_ hS1); have hv1 : Boxed w1 w3.heap.size 31 (.slice A zs.length c) := (hB1_.block w3.heap.size (by omega)).trans hv; have HV1 := z05.mk hv1; clear hS1 hB1_ hg1 hv1) | (gi_at_builtin; go_loud (refine z3w rfl (.tmp 34) (.tmp 40) rfl rfl rfl rfl hrun ?_); have hcv := HV1.out.cell; have hfv := HV1.out.frozen))
          have hz : zs ++ [(⟨off, (rg == 0), rw_⟩ : S41)] = (recN (pre ++ [(⟨(off, b, A2, c2), hx⟩ : Nw w (fun b => ∃ r, schema_Decode.f l0_0 a0_1 a0_2 a0_3 a0_4 b = some r))])).map (recD l0_0 a0_1 a0_2 a0_3 a0_4) := by rw [HZ.out]; simp [recN, recD, hrz]
          have hF := HF.out
          rw [hz, hsz] at hF
          exact hF
        case done =>
          rintro D ys W hD hys ⟨⟨⟨⟨v, hv, hrow⟩, hs⟩, hn, hf⟩, hB⟩ hK
          rw [hys, ← HQ.out.2] at hrow
          have hc := hv.cell
          obtain ⟨ok, hok, hS⟩ := hrow
          obtain ⟨A, c, rfl⟩ := Kd.S_slice hS
          have HS := z05.mk hS
          have HOK := z05.mk hok
          have HK := z05.mk hK
          clear hS hok hK
          gi_wp2
          refine ⟨by simp, .inl ⟨_, _, rfl, run_takeDeferred HK.out, ?_⟩⟩
          refine ⟨_, results_tmp2 rfl _ _ _, _, rfl, ?_, hB.trans (belowK_b (w := w) (Nat.le_refl _) W D _ _ (by omega) HK.out rfl rfl)⟩
          refine Kd.S_mono (Kd.S_lower (Kd.S_grown HS.out (grownBy_putObj' W D _) (fun k hk e => ?_)) hB0.size) (fun _ _ => trivial)
          cases e
          obtain ⟨_, cs, t', h⟩ := HOK.out _ hk
          have h2 := HK.out
          rw [h] at h2; cases h2
        case stop =>
          rintro D c pre W _ _ h _
          exact h.elim
      · rw [if_neg hl] at h; cases h
    · rw [if_neg he] at h
      have hne : (ce != 0) = true := bne_iff_ne.mpr he
      have HH := z05.mk h
      clear h
      gi_wp2_with (first | (gi_at_call 16; refine ((callsIn_wide (n := 6)).2 (schema_May.calls A0_0 c0_0 l0_0 a0_1 a0_2 a0_3 a0_4 true _ (Kd.C_below HR0.out hB1) HC0.out HM.out)).mono ?_; rintro e w2 ⟨rfl, hb2⟩; have hs2 := (hb2.block _ (by omega : w.heap.size < W1.heap.size)).trans hs1; have hf2 := (hb2.block _ (by omega : w.heap.size + 1 < W1.heap.size)).trans hf1; have hB2 := hB1.trans (hb2.mono (by omega)); have hz2 := hb2.size; have qs0 : w2.cell? ⟨w.heap.size, 0, none⟩ = some (.slice A0_0 l0_0.length c0_0) := (z04 hs2 0).trans rfl; have qs1 : w2.cell? ⟨w.heap.size, 1, none⟩ = some (.int .i64 a0_1) := (z04 hs2 1).trans rfl; have qs2 : w2.cell? ⟨w.heap.size, 2, none⟩ = some (.int .i64 a0_2) := (z04 hs2 2).trans rfl; have qs3 : w2.cell? ⟨w.heap.size, 3, none⟩ = some (.int .i64 a0_3) := (z04 hs2 3).trans rfl; have qs4 : w2.cell? ⟨w.heap.size, 4, none⟩ = some (.int .i64 a0_4) := (z04 hs2 4).trans rfl; have qf0 : w2.cell? ⟨w.heap.size + 1, 0, none⟩ = some (.int .i64 a2_0) := (z04 hf2 0).trans rfl; have qf1 : w2.cell? ⟨w.heap.size + 1, 1, none⟩ = some (.int .i64 a2_1) := (z04 hf2 1).trans rfl; have qf2 : w2.cell? ⟨w.heap.size + 1, 2, none⟩ = some (.slice A2_2 l2_2.length c2_2) := (z04 hf2 2).trans rfl) | (gi_at_call 11; refine ((callsIn_wide (n := 6)).2 (intake_Check.calls 9 a1 a2_0 a2_1 A2_2 c2_2 l2_2 ce _ (Kd.C_below HR2.out hB2) HC2.out HCE.out)).mono ?_; rintro e w3 ⟨rfl, hb3⟩; have hB3 := hB2.trans (hb3.mono (by omega))))
      cases HH.out
      exact ⟨_, results_tmp2 rfl _ _ _, _, rfl, Kd.S_nil _ _ _ _ _, hB3⟩

end Go.Proofs.YtimomihjghefdaaDoor.Q
