/- The machine side of laws, written by wip/tools/myprint.py (the printer's way, with functions proved by hand put in); Lean checks it. -/
import Derived.Lib.SliceRun
import Derived.LoopIn
import Derived.LoopNIn
import Derived.Maps.AppendAt
import Derived.OwnWalkIn
import Derived.RangeFuncBound
import Derived.RangeFuncCalls
import Derived.RangeFuncLeaves
import Derived.RangeFuncNested
import Derived.Shelf.Abstract
import Derived.Shelf.AbstractIn
import Derived.Shelf.RegionOpen
import Derived.Sort.LoopGhostIn
import Derived.Sort.QuietIn
import Derived.TacticsInMore
import Derived.Test.YtafljcblglielaaHcrc
import Derived.Test.YtafljcblglielaaHframe
import Derived.Test.YtafljcblglielaaHnum
import Derived.Test.YtafljcblglielaaHnumgetlM
import Derived.Test.YtafljcblglielaaMx0
import Derived.Test.YtafljcblglielaaMx3
import Derived.Test.YtafljcblglielaaMx4
import Derived.Test.YtafljcblglielaaMx13
namespace Go.Proofs.Ytafljcblglielaa.M
open Go.RowKit Go.Proofs.YtafljcblglielaaW.PrintWords Go.Proofs.YtafljcblglielaaW.PrintLast Go.Proofs.YtafljcblglielaaW.PrintMore
attribute [local go_sem] max2_int min2_int max_two min_two max_three min_three max_four min_four   -- for this text's walks alone
set_option linter.unusedVariables false
set_option linter.unusedSimpArgs false

-- BY HAND: Derived.Test.YtafljcblglielaaHnum,Derived.Test.YtafljcblglielaaHcrc,Derived.Test.YtafljcblglielaaHframe,Derived.Test.YtafljcblglielaaHnumgetlM,Derived.RangeFuncNested,Derived.RangeFuncBound,Derived.RangeFuncCalls,Derived.RangeFuncLeaves,Derived.Shelf.Abstract,Derived.Shelf.AbstractIn,Derived.Shelf.RegionOpen,Derived.OwnWalkIn,Derived.TacticsInMore,Derived.LoopNIn,Derived.LoopIn,Derived.Sort.LoopGhostIn,Derived.Sort.QuietIn,Derived.Maps.AppendAt,Derived.Lib.SliceRun
/-! ### frame_Read: function 14 -/
-- HAND winnower/frame.Read making
-- SKIP winnower/frame.frames bytes.Clone
-- IMPORT Derived.Test.YtafljcblglielaaHnum
-- IMPORT Derived.Test.YtafljcblglielaaHcrc
-- IMPORT Derived.Test.YtafljcblglielaaHframe
-- IMPORT Derived.Test.YtafljcblglielaaHnumgetlM
-- IMPORT Derived.RangeFuncNested
-- IMPORT Derived.RangeFuncBound
-- IMPORT Derived.RangeFuncCalls
-- IMPORT Derived.RangeFuncLeaves
-- IMPORT Derived.Shelf.Abstract
-- IMPORT Derived.Shelf.AbstractIn
-- IMPORT Derived.Shelf.RegionOpen
-- IMPORT Derived.OwnWalkIn
-- IMPORT Derived.TacticsInMore
-- IMPORT Derived.LoopNIn
-- IMPORT Derived.LoopIn
-- IMPORT Derived.Sort.LoopGhostIn
-- IMPORT Derived.Sort.QuietIn
-- IMPORT Derived.Maps.AppendAt
-- IMPORT Derived.Lib.SliceRun
-- USES frame_tail num_GetLen bytes_Equal
open Go.Proofs.Ytafljcblglielaa.Hnum Go.Proofs.Ytafljcblglielaa.Hcrc Go.Proofs.Ytafljcblglielaa.Hframe Go.Shelf
attribute [local go_sem] Oper.semAt_some
theorem row_none (w : World) : Kd.R (Kd.int .u8) 5 (w.alloc (.cells #[] 5)) w.heap.size (fun _ => True) (.slice (some ⟨w.heap.size, 0, none⟩) 0 0) [] :=
  ⟨fun _ _ => trivial, [], World.ownsRow_lit (base := w.heap.size) (e := 5) (size := 1) w #[] 0 (Nat.le_refl _) (by decide) rfl, Reps.none _ _⟩
theorem bytes_Clone.calls (A0 : Option Addr) (c0 : Nat) (l0 : List Int) (w : World) (hr0 : Kd.C (Kd.int .u8) w A0 l0.length l0) (hc0 : l0.length ≤ c0) (hl : l0.length ≤ 1000000) :
    Calls Try.prog 24 #[.slice A0 l0.length c0] w fun e w' => ∃ v0_ : Value, e = .returned v0_ ∧ Kd.R (Kd.int .u8) 5 w' w.heap.size (fun _ => True) v0_ l0 ∧ Below w.heap.size w w' := by
  have HR := Aside0.mk hr0
  have HC := Aside0.mk hc0
  clear hr0 hc0
  have qnil := fun W a n c => Lib.run_eql_slice_nil (P := Try.prog) W 22 5 a n c 0 0 Try.underlying22
  cases A0 with
  | none =>
    have hz : l0 = [] := by
      by_cases h : l0.length = 0
      · exact List.length_eq_zero_iff.1 h
      · obtain ⟨ad, e, _⟩ := HR.out.2.2 (by omega)
        cases e
    subst hz
    go_enter Try.func24, Try.ntmps24
    go_wp2
    go_ret
    exact ⟨_, rfl, Kd.R_nil _ _ _ _ _, Below.refl _ _⟩
  | some ad =>
    go_enter Try.func24, Try.ntmps24
    go_wp2_with ((with_reducible refine gate_builtin (b := .append) (xs := #[.tmp 5, .tmp 6]) rfl ?_); at_builtin; refine Kd.R_append_rows (Kd.int .u8) (w0 := w) w.heap.size rfl (.tmp 5) (.tmp 6) 22 5 (.int .u8 0) 1 rfl Try.underlying22 info5 rfl (by decide) (by omega) _ [] l0 _ _ _ (fun _ => True) (fun _ => False) rfl rfl ?aO ?aR (fun _ _ h => h) (fun _ h => h.elim) ?aF ?aB ?aS ?aL ?_; (case aR => exact Kd.C_alloc HR.out _); (case aB => exact (Below.refl _ w).alloc (Nat.le_refl _) _); (case aF => exact (fun _ _ => trivial)); (case aO => exact row_none w); (case aS => exact (by simp)); (case aL => (simp only [List.length_nil]; omega)); intro v1 w1 ho hb hg hat; rw [List.nil_append] at ho; have HO := Aside0.mk ho; have HB := Aside0.mk hb; clear ho hb hg hat)
    go_ret
    exact ⟨_, rfl, HO.out, HB.out⟩
theorem frame_frames.calls (A0 : Option Addr) (n c0 : Nat) (w : World) :
    Calls Try.prog 23 #[.slice A0 n c0] w fun e w' => e = .returned (.func (.func 28) #[] #[.pointer (some ⟨w.heap.size, 0, none⟩)]) ∧ w.alloc (.cells #[.slice A0 n c0] 22) = w' := by
  go_enter Try.func23, Try.ntmps23
  go_wp2
  go_ret
  exact ⟨rfl, rfl⟩
theorem frame_tail.tells {l : List Int} (h : Bytes l) (hl : l.length ≤ 1000000) : frame_tail.f l = some (tailB (sumB l)) := by
  have := sumB_lt h
  unfold frame_tail.f frame_Sum.f
  rw [if_pos ⟨h, hl⟩, Option.bind_some]
  unfold tailB
  congr 1
theorem bytes_Equal.tells (a b : List Int) (ha : Bytes a) (hb : Bytes b) : bytes_Equal.f a b = some (decide (a = b)) := by
  have key : ∀ l : List Int, Bytes l → ((strOfNums l).toList.map fun u : UInt8 => (u.toNat : Int)) = l := by
    intro l h
    rw [ByteArray.toList_eq, strOfNums_data, List.map_map]
    refine (List.map_congr_left (fun x hx => ?_)).trans (List.map_id _)
    have := h x hx
    show ((UInt8.ofNat x.toNat).toNat : Int) = id x
    rw [UInt8.toNat_ofNat']
    simp only [id]
    omega
  unfold bytes_Equal.f
  congr 1
  by_cases h : a = b
  · subst h; simp
  · rw [decide_eq_false h]
    refine beq_eq_false_iff_ne.2 (fun e => h ?_)
    rw [← key a ha, ← key b hb, e]
/-- A frame that is read: where it ends, its payload, and where that lies. -/
abbrev FrT : Type := Nat × List Int × Option Addr × Nat
abbrev Fm (w₀ : World) : Type := {x : FrT // Kd.C (Kd.int .u8) w₀ x.2.2.1 x.2.1.length x.2.1 ∧ x.2.1.length ≤ x.2.2.2 ∧ x.2.1.length ≤ 65536}
def encF (w₀ : World) (x : Fm w₀) : Array Value := #[.int .i64 (x.1.1 : Int), .slice x.1.2.2.1 x.1.2.1.length x.1.2.2.2]
def paysF {w₀ : World} (xs : List (Fm w₀)) : List (List Int) := xs.map fun x => x.1.2.1
def lastF {w₀ : World} (xs : List (Fm w₀)) : Nat := match xs.getLast? with | none => 0 | some x => x.1.1
theorem lastF_snoc {w₀ : World} (xs : List (Fm w₀)) (x : Fm w₀) : lastF (xs ++ [x]) = x.1.1 := by simp [lastF]
def KeepF (n₀ Bn : Nat) (W W' : World) : Prop := Below n₀ W W' ∧ W'.heap[Bn]? = W.heap[Bn]?
theorem KeepF.trans {n₀ Bn : Nat} {X Y Z : World} (h : KeepF n₀ Bn X Y) (k : KeepF n₀ Bn Y Z) : KeepF n₀ Bn X Z := ⟨h.1.trans k.1, k.2.trans h.2⟩
theorem keepF_b {w W0 : World} {q : Nat} (hsz : W0.heap.size = w.heap.size + (q + 1)) (W : World) (l : Nat) (o o' : Obj) (hl : W0.heap.size ≤ l) (h : W.heap[l]? = some o) (h1 : o.isCells = false) (h2 : o.isWalk = false) : KeepF w.heap.size (w.heap.size + q) W (W.putObj l o') :=
  ⟨belowK_b (w := w) (Nat.le_refl _) W l o o' (by omega) h h1 h2, World.putObj_heap_other (by omega)⟩
/-- The cuts of a row that is read. -/
theorem cutFrom {w : World} {A : Option Addr} {c : Nat} {l : List Int} (hC : Kd.C (Kd.int .u8) w A l.length l) (hc : l.length ≤ c) (j : Nat) (hj : j ≤ l.length) :
    ∃ A1 c1, (∀ Wx : World, (Instr.slice 22 (.slice A l.length c) (some (.int .i64 (j : Int))) none none).run Try.prog Wx = .ok (.slice A1 (l.drop j).length c1) Wx) ∧ Kd.C (Kd.int .u8) w A1 (l.drop j).length (l.drop j) ∧ (l.drop j).length ≤ c1 := by
  obtain ⟨i0, hi, _, hsz, _⟩ := info_parts info5
  refine ⟨_, c - j, fun Wx => ?_, Kd.C_drop hC hj hc, by rw [List.length_drop]; omega⟩
  have h := cut_from (P := Try.prog) 22 5 .i64 Try.underlying22 hi 1 hsz A l.length c (j : Int) (by omega) (by omega) Wx
  rw [Int.toNat_natCast] at h
  rw [List.length_drop]; exact h
theorem cutMid {w : World} {ad : Addr} {c : Nat} {l : List Int} (hC : Kd.C (Kd.int .u8) w (some ad) l.length l) (hc : l.length ≤ c) (lo hi : Nat) (h1 : lo ≤ hi) (h2 : hi ≤ l.length) :
    ∃ A1 c1, (∀ Wx : World, (Instr.slice 22 (.slice (some ad) l.length c) (some (.int .i64 (lo : Int))) (some (.int .i64 (hi : Int))) none).run Try.prog Wx = .ok (.slice A1 ((l.take hi).drop lo).length c1) Wx) ∧ Kd.C (Kd.int .u8) w A1 ((l.take hi).drop lo).length ((l.take hi).drop lo) ∧ ((l.take hi).drop lo).length ≤ c1 ∧
      (if c = lo then some ad else some (ad.add lo)) = A1 ∧ hi - lo = ((l.take hi).drop lo).length ∧ c - lo = c1 := by
  obtain ⟨i0, hi', _, hsz, _⟩ := info_parts info5
  have hl : ((l.take hi).drop lo).length = hi - lo := by rw [List.length_drop, List.length_take]; omega
  refine ⟨_, c - lo, fun Wx => ?_, Kd.C_mid hC h1 h2 hc, by rw [hl]; omega, ?_, hl.symm, rfl⟩
  · have h := cut_mid (P := Try.prog) 22 5 .i64 .i64 Try.underlying22 hi' 1 hsz (some ad) l.length c (lo : Int) (hi : Int) (by omega) (by omega) (by omega) hc Wx
    rw [Int.toNat_natCast, Int.toNat_natCast] at h
    rw [hl]; exact h
  · simp [Kd.int, Kd.scalar]
theorem sub_wrap {a b q : Nat} (hq : q = a - b) (h : b ≤ a) (ha : a ≤ 1000000) : wrap64 ((a : Int) - (b : Int)) = (q : Int) := by rw [wrap_id (by omega) (by omega)]; omega
theorem add_wrap {a b q : Nat} (hq : q = a + b) (ha : q ≤ 10000000000) : wrap64 ((a : Int) + (b : Int)) = (q : Int) := by rw [wrap_id (by omega) (by omega)]; omega
theorem add_wrap4 {a q : Nat} (hq : q = a + 4) (ha : q ≤ 10000000000) : wrap64 ((a : Int) + 4) = (q : Int) := add_wrap (b := 4) hq ha
theorem wrapn {x : Int} {q : Nat} (h : wrap64 x = (q : Int)) : IntKind.i64.wrap x = (q : Int) := by
  rw [IntKind.wrap_i64]
  unfold wrap64 at h
  omega
theorem fin_none {w₀ : World} {xs : List (Fm w₀)} {l b : List Int} {at_ m : Nat} {X : List (List Int) × Nat} (hone : one b = none) (hb : b = l.drop at_) (h1 : lastF xs = at_) (h2 : paysF xs ++ (reads (m + 1) (l.drop at_)).1 = X.1) (h3 : at_ + (reads (m + 1) (l.drop at_)).2 = X.2) : paysF xs = X.1 ∧ lastF xs = X.2 := by
  rw [← hb, reads_none hone] at h2 h3
  simp only [List.append_nil, Nat.add_zero] at h2 h3
  exact ⟨h2, h1.trans h3⟩
theorem J_below {α : Type} {J : List α → World → Prop} {B : Nat} {s : List α} {W W' : World} (h : AbidesFrom B J) (hs : J s W) (hb : Below W.heap.size W W') : J s W' := h s W W' none hs ⟨hb.os, hb.tape, hb.output, hb.size, fun k hk _ => hb.block k hk⟩ (fun r e => by cases e)
theorem J_drewN {α : Type} {J : List α → World → Prop} {B : Nat} {s : List α} {W : World} (h : AbidesFrom B J) (hs : J s W) (n : Nat) : J s (W.drewN n) := J_below h hs (pw_below_drewN (Below.refl _ _) n)
theorem below_from_drewN {W w1 : World} {m : Nat} (h : Below (W.drewN m).heap.size (W.drewN m) w1) : Below W.heap.size W w1 := (pw_below_drewN (Below.refl W.heap.size W) m).trans h
theorem next_F {w₀ : World} {xs : List (Fm w₀)} {x : Fm w₀} {l b p : List Int} {at_ gk nx : Nat} {X : List (List Int) × Nat} (hone : one b = some (p, nx - at_)) (hb : b = l.drop at_) (hx : x.1.2.1 = p) (h0 : at_ < nx) (hnx : nx ≤ l.length) (hgk : at_ + gk = l.length) (hby : Bytes l)
    (h2 : paysF xs ++ (reads (gk + 1) (l.drop at_)).1 = X.1) (h3 : at_ + (reads (gk + 1) (l.drop at_)).2 = X.2) : paysF (xs ++ [x]) ++ (reads (gk - (nx - at_) + 1) (l.drop nx)).1 = X.1 ∧ nx + (reads (gk - (nx - at_) + 1) (l.drop nx)).2 = X.2 := by
  have e : b.drop (nx - at_) = l.drop nx := by rw [hb, List.drop_drop]; congr 1; omega
  rw [← hb, reads_some hone, e, reads_more (hby.drop nx) gk (gk - (nx - at_) + 1) (by rw [List.length_drop]; omega) (by rw [List.length_drop]; omega)] at h2 h3
  simp only at h2 h3
  refine ⟨?_, by omega⟩
  rw [← h2]
  simp [paysF, hx]
theorem yieldOr {e : Ending} {X Y : Prop} (h : (e = .returned (.bool true) ∧ X) ∨ (e = .returned (.bool false) ∧ Y)) : ∃ b : Bool, e = .returned (.bool b) ∧ ((b = true ∧ X) ∨ (b = false ∧ Y)) := by
  rcases h with ⟨h, x⟩ | ⟨h, y⟩
  · exact ⟨true, h, .inl ⟨rfl, x⟩⟩
  · exact ⟨false, h, .inr ⟨rfl, y⟩⟩
set_option maxRecDepth 100000 in
set_option maxHeartbeats 8000000 in
theorem frame_frames_1.stops (n : Nat) (hn : 1 ≤ n) (A0 : Option Addr) (c0 : Nat) (l : List Int) (w₀ w : World) (Bn : Nat) (hb0 : Below w₀.heap.size w₀ w) (hBn : Bn < w.heap.size) (hBox : w.heap[Bn]? = some (.cells #[.slice A0 l.length c0] 22 (0, 0)))
    (hC : Kd.C (Kd.int .u8) w₀ A0 l.length l) (hc : l.length ≤ c0) (hl : l.length ≤ 1000000) (hby : Bytes l) :
    SeqStopsK Fence.wide n Try.prog 28 #[.pointer (some ⟨Bn, 0, none⟩)] (encF w₀) (KeepF w₀.heap.size Bn) (fun xs => paysF xs = (reads (l.length + 1) l).1 ∧ lastF xs = (reads (l.length + 1) l).2) (fun _ => True) (l.length + 1) w := by
  intro l' J Jx W hW hJ hJx hY h0
  have HAb := Aside0.mk hJ
  have HC := Aside0.mk hC
  have HCC := Aside0.mk hc
  have HY := Aside0.mk hY
  have HB := Aside0.mk (hb0.trans (hW.mono hb0.size))
  have HBox := Aside0.mk ((hW.block Bn hBn).trans hBox)
  have H0 := Aside0.mk h0
  have HBy := Aside0.mk hby
  clear hY hW hb0 hBox hJ hJx h0 hC hc hby
  refine callsIn_of_wp Try.func28 rfl trivial ?_ rfl
  simp only [Try.ntmps28, List.size_toArray, List.length_cons, List.length_nil, Nat.reduceAdd, Nat.reduceSub, Array.replicate_succ, Array.replicate_zero, List.push_toArray, List.append_toArray, List.nil_append, List.cons_append]
  have cB : W.cell? ⟨Bn, 0, none⟩ = some (.slice A0 l.length c0) := (blk_cell HBox.out 0).trans rfl
  gi_wp2
  gi_loopg [3] l.length (fun m v3 wr => ∃ (at_ : Nat) (xs : List (Fm w₀)), at_ + m = l.length ∧ v3 = .int .i64 (at_ : Int) ∧ Aside0 (J xs wr ∧ Below w₀.heap.size w₀ wr ∧ wr.heap[Bn]? = some (.cells #[.slice A0 l.length c0] 22 (0, 0)) ∧ lastF xs = at_ ∧ xs.length ≤ at_ ∧
    paysF xs ++ (reads (m + 1) (l.drop at_)).1 = (reads (l.length + 1) l).1 ∧ at_ + (reads (m + 1) (l.drop at_)).2 = (reads (l.length + 1) l).2))
  case atStart => exact ⟨0, [], by omega, rfl, ⟨⟨H0.out, HB.out, HBox.out, rfl, Nat.le_refl _, by simp [paysF], by simp⟩⟩⟩
  case round =>
    obtain ⟨at_, xs, hi, rfl, HA⟩ := hrel
    have hle : at_ ≤ l.length := by omega
    have cB : wr.cell? ⟨Bn, 0, none⟩ = some (.slice A0 l.length c0) := (blk_cell HA.out.2.2.1 0).trans rfl
    have HB1 := Aside0.mk HA.out.2.1
    obtain ⟨A1, c1, hcut1, hC1, hc1⟩ := cutFrom HC.out HCC.out at_ hle
    obtain ⟨b, hb⟩ : ∃ b, b = l.drop at_ := ⟨_, rfl⟩
    rw [← hb] at hcut1 hC1 hc1
    have hbb : Bytes b := by rw [hb]; exact HBy.out.drop at_
    have hbl : b.length + at_ = l.length := by rw [hb, List.length_drop]; omega
    obtain ⟨gn, gk', ge, hg⟩ : ∃ gn gk' ge, getl b = (gn, gk', ge) := ⟨_, _, _, rfl⟩
    have HG := Aside0.mk (show num_GetLen.f b = some (gn, gk', ge) from by rw [num_GetLen.tell hbb, hg])
    have HGL := Aside0.mk hg
    have HC1 := Aside0.mk hC1
    have HC1' := Aside0.mk hc1
    have HBB := Aside0.mk hbb
    have HBE := Aside0.mk hb
    have HBL := Aside0.mk hbl
    clear hg hC1 hc1 hbb hb hbl
    have hf29 : Fence.wide.fn 29 := trivial
    by_cases h1 : ge ≠ 0
    · have hne : (ge != 0) = true := bne_iff_ne.mpr h1
      have HO := Aside0.mk (one_bad (b := b) (by rw [HGL.out]; exact .inl h1))
      clear h1
      gi_wp2_with (gi_at_call 29; refine ((callsIn_wide (n := n - 1)).2 (num_GetLen.calls A1 c1 b gn gk' ge _ (Kd.C_below HC1.out HB1.out) HC1'.out HG.out)).mono ?_; rintro e w2 ⟨rfl, ⟨nd, rfl⟩⟩)
      refine bodyPost_ret (results_none rfl _ _ _) rfl ?_
      exact ⟨⟨_, rfl⟩, .inl ⟨xs, fin_none HO.out HBE.out HA.out.2.2.2.1 HA.out.2.2.2.2.2.1 HA.out.2.2.2.2.2.2, J_drewN HAb.out HA.out.1 nd⟩⟩
    · obtain rfl : ge = 0 := by omega
      clear h1
      obtain ⟨n', k', hgl, hn', hk1, hk2, _⟩ := getl_ok HBB.out (by rw [HGL.out])
      obtain ⟨rfl, rfl⟩ : gn = (n' : Int) ∧ gk' = (k' : Int) := by rw [HGL.out] at hgl; simp only [Prod.mk.injEq] at hgl; exact ⟨hgl.1, hgl.2.1⟩
      clear hgl
      obtain ⟨fr, hfr⟩ : ∃ fr, fr = at_ + k' := ⟨_, rfl⟩
      have HW1 := Aside0.mk (show wrap64 ((at_ : Int) + (k' : Int)) = (fr : Int) from add_wrap hfr (by have := HBL.out; omega))
      have HN := Aside0.mk hn'
      clear hn'
      by_cases h2 : 65536 < (n' : Int)
      · have hd2 : decide (65536 < (n' : Int)) = true := decide_eq_true h2
        have HO := Aside0.mk (one_bad (b := b) (by rw [HGL.out]; exact .inr (.inl h2)))
        clear h2 hfr
        have hw1 := HW1.out
        gi_wp2_with (gi_at_call 29; refine ((callsIn_wide (n := n - 1)).2 (num_GetLen.calls A1 c1 b n' k' 0 _ (Kd.C_below HC1.out HB1.out) HC1'.out HG.out)).mono ?_; rintro e w2 ⟨rfl, ⟨nd, rfl⟩⟩)
        refine bodyPost_ret (results_none rfl _ _ _) rfl ?_
        exact ⟨⟨_, rfl⟩, .inl ⟨xs, fin_none HO.out HBE.out HA.out.2.2.2.1 HA.out.2.2.2.2.2.1 HA.out.2.2.2.2.2.2, J_drewN HAb.out HA.out.1 nd⟩⟩
      · have hd2 : decide (65536 < (n' : Int)) = false := decide_eq_false h2
        obtain ⟨q, hq⟩ : ∃ q, q = l.length - fr := ⟨_, rfl⟩
        obtain ⟨n4, hn4⟩ : ∃ n4, n4 = n' + 4 := ⟨_, rfl⟩
        have HW2 := Aside0.mk (show wrap64 ((l.length : Int) - (fr : Int)) = (q : Int) from sub_wrap hq (by have := HBL.out; omega) hl)
        have HW3 := Aside0.mk (show wrap64 ((n' : Int) + 4) = (n4 : Int) from add_wrap4 hn4 (by omega))
        by_cases h3 : (q : Int) < (n4 : Int)
        · have hd3 : decide ((q : Int) < (n4 : Int)) = true := decide_eq_true h3
          have hd3' : decide (q < n4) = true := decide_eq_true (by omega)
          have HO := Aside0.mk (one_bad (b := b) (by rw [HGL.out]; exact .inr (.inr (by have := HBL.out; simp only; omega))))
          clear h2 h3 hfr hq hn4
          have hw1 := HW1.out
          have hw2 := HW2.out
          have hw3 := HW3.out
          gi_wp2_with (gi_at_call 29; refine ((callsIn_wide (n := n - 1)).2 (num_GetLen.calls A1 c1 b n' k' 0 _ (Kd.C_below HC1.out HB1.out) HC1'.out HG.out)).mono ?_; rintro e w2 ⟨rfl, ⟨nd, rfl⟩⟩; have cB2 : (wr.drewN nd).cell? ⟨Bn, 0, none⟩ = some (.slice A0 l.length c0) := cB)
          refine bodyPost_ret (results_none rfl _ _ _) rfl ?_
          exact ⟨⟨_, rfl⟩, .inl ⟨xs, fin_none HO.out HBE.out HA.out.2.2.2.1 HA.out.2.2.2.2.2.1 HA.out.2.2.2.2.2.2, J_drewN HAb.out HA.out.1 nd⟩⟩
        · have hd3 : decide ((q : Int) < (n4 : Int)) = false := decide_eq_false h3
          have hd3' : decide (q < n4) = false := decide_eq_false (by omega)
          obtain ⟨ad, e, _⟩ := HC.out.2.2 (by have := HBL.out; omega)
          subst e
          have hroom : at_ + k' + n' + 4 ≤ l.length := by have := HBL.out; omega
          obtain ⟨tb, htb⟩ : ∃ tb, tb = fr + n' := ⟨_, rfl⟩
          obtain ⟨nx, hnx⟩ : ∃ nx, nx = tb + 4 := ⟨_, rfl⟩
          have HW4 := Aside0.mk (show wrap64 ((fr : Int) + (n' : Int)) = (tb : Int) from add_wrap htb (by omega))
          have HW5 := Aside0.mk (show wrap64 ((tb : Int) + 4) = (nx : Int) from add_wrap4 hnx (by omega))
          obtain ⟨A2, c2, hcut2, hC2, hc2, hA2, hl2, hcc2⟩ := cutMid HC.out HCC.out fr tb (by omega) (by omega)
          obtain ⟨A3, c3, hcut3, hC3, hc3, hA3, hl3, hcc3⟩ := cutMid HC.out HCC.out tb nx (by omega) (by omega)
          obtain ⟨p, hp⟩ : ∃ p, p = (l.take tb).drop fr := ⟨_, rfl⟩
          obtain ⟨s4, hs4⟩ : ∃ s4, s4 = (l.take nx).drop tb := ⟨_, rfl⟩
          rw [← hp] at hcut2 hC2 hc2 hl2
          rw [← hs4] at hcut3 hC3 hc3 hl3
          have hpb : Bytes p := by rw [hp]; exact (HBy.out.take tb).drop fr
          have hsb : Bytes s4 := by rw [hs4]; exact (HBy.out.take nx).drop tb
          have hpk : p = (b.drop k').take n' := by
            have := HBE.out
            rw [hp, this, List.drop_drop, List.take_drop, htb, hfr]
          have hsk : s4 = (b.drop (k' + n')).take 4 := by
            have := HBE.out
            rw [hs4, this, List.drop_drop, List.take_drop, hnx, htb, hfr, Nat.add_assoc at_]
          obtain ⟨tl, htl⟩ : ∃ tl, tl = tailB (sumB p) := ⟨_, rfl⟩
          have HT := Aside0.mk (show frame_tail.f p = some tl from by rw [htl]; exact frame_tail.tells hpb (by omega))
          have hON : one b = if tl = s4 then some (p, nx - at_) else none := by
            obtain ⟨n1, k1, hg1, _, _, _, _, ho1⟩ := one_cases (b := b) HBB.out (by rw [HGL.out]) (by rw [HGL.out]; simp only; omega) (by rw [HGL.out]; have := HBL.out; simp only; omega)
            rw [HGL.out] at hg1
            simp only [Prod.mk.injEq, and_true] at hg1
            obtain ⟨rfl, rfl⟩ : n' = n1 ∧ k' = k1 := ⟨by omega, by omega⟩
            rw [ho1, ← hpk, ← hsk, ← htl, show k' + n' + 4 = nx - at_ from by omega]
          have HE := Aside0.mk (bytes_Equal.tells tl s4 (by rw [htl]; exact tailB_bytes _) hsb)
          have HP2 := Aside0.mk hC2
          have HP2' := Aside0.mk hc2
          have HS2 := Aside0.mk hC3
          have HS2' := Aside0.mk hc3
          have HON := Aside0.mk hON
          have hf20 : Fence.wide.fn 20 := trivial
          have hf30 : Fence.wide.fn 30 := trivial
          have HNX := Aside0.mk (show nx = at_ + k' + n' + 4 ∧ p.length ≤ 65536 from ⟨by omega, by rw [← hl2]; omega⟩)
          have HN4 := Aside0.mk (show n4 = n' + 4 ∧ nx ≤ l.length ∧ fr ≤ l.length from ⟨hn4, by omega, by omega⟩)
          have HFR := Aside0.mk (show fr = at_ + k' ∧ tb = fr + n' ∧ nx = tb + 4 from ⟨hfr, htb, hnx⟩)
          have hfrl : fr ≤ tb := by omega
          have htbl : tb ≤ nx := by omega
          have hnxl : nx ≤ l.length := by omega
          clear h2 h3 hfr hq hn4 hC2 hc2 hC3 hc3 hON hpk hsk hp hs4 htl htb hnx hpb hsb hroom
          have hmx : Try.prog.follows .mixedOrders = true := by kernel_rfl
          have HI := Aside0.mk (show at_ + gk = l.length ∧ l.length ≤ 1000000 from ⟨hi, hl⟩)
          clear hi hl hle hk1 hk2
          have hv1 : Value.int .i64 (wrap64 ((at_ : Int) + (k' : Int))) = Value.int .i64 (fr : Int) := congrArg _ HW1.out
          have hv2 : Value.int .i64 (wrap64 ((l.length : Int) - (fr : Int))) = Value.int .i64 (q : Int) := congrArg _ HW2.out
          have hv3 : Value.int .i64 (wrap64 ((n' : Int) + 4)) = Value.int .i64 (n4 : Int) := congrArg _ HW3.out
          have hv4 : Value.int .i64 (wrap64 ((fr : Int) + (n' : Int))) = Value.int .i64 (tb : Int) := congrArg _ HW4.out
          have hv5 : Value.int .i64 (wrap64 ((tb : Int) + 4)) = Value.int .i64 (nx : Int) := congrArg _ HW5.out
          have hvn4 : Value.int .i64 (IntKind.i64.wrap ((fr : Int) + (n' : Int))) = Value.int .i64 (tb : Int) := congrArg _ (wrapn HW4.out)
          by_cases h5 : tl = s4
          · have HO := Aside0.mk (show one b = some (p, nx - at_) from by rw [HON.out, if_pos h5])
            have HE0 := Aside0.mk (show bytes_Equal.f tl s4 = some true from by rw [HE.out, decide_eq_true h5])
            clear h5
            gi_wp2_with (gi_at_call 29; refine ((callsIn_wide (n := n - 1)).2 (num_GetLen.calls A1 c1 b n' k' 0 _ (Kd.C_below HC1.out HB1.out) HC1'.out HG.out)).mono ?_; rintro e w2 ⟨rfl, ⟨nd, rfl⟩⟩; have cB2 : (wr.drewN nd).cell? ⟨Bn, 0, none⟩ = some (.slice (some ad) l.length c0) := cB)
            refine wpIn_region_any (by assumption) ?_
            (try (change wpAnyIn _ _ _ _ _ _ _ _ _ (World.drew _)))
            refine wpAnyIn_take (i := 0) (v := ?_) rfl rfl (by kernel_rfl) (by kernel_rfl) (by kernel_rfl) (fun _ _ _ h => h) ⟨Or.inl ⟨by rfl, ?_⟩, fun _ => rfl⟩ ?_
            rotate_left
            focus (intro w_; go_simp; (try with_reducible rfl))
            refine wpAnyIn_take (i := 3) (v := ?_) rfl rfl (by kernel_rfl) (by kernel_rfl) (by kernel_rfl) (fun _ _ _ h => h) ⟨Or.inl ⟨by rfl, ?_⟩, fun _ => rfl⟩ ?_
            rotate_left
            focus (intro w_; go_simp; (try with_reducible rfl))
            refine wpAnyIn_take (i := 4) (v := ?_) rfl rfl (by kernel_rfl) (by kernel_rfl) (by kernel_rfl) (fun _ _ _ h => h) ⟨Or.inl ⟨by rfl, ?_⟩, fun _ => rfl⟩ ?_
            rotate_left
            focus (intro w_; go_simp; (try with_reducible rfl))
            refine wpAnyIn_take (i := 5) (v := ?_) rfl rfl (by kernel_rfl) (by kernel_rfl) (by kernel_rfl) (fun _ _ _ h => h) ⟨Or.inl ⟨by rfl, ?_⟩, fun _ => rfl⟩ ?_
            rotate_left
            focus (intro w_; go_simp; (try with_reducible rfl))
            refine wpAnyIn_take (i := 6) (v := ?_) rfl rfl (by kernel_rfl) (by kernel_rfl) (by kernel_rfl) (fun _ _ _ h => h) ⟨Or.inl ⟨by rfl, ?_⟩, fun _ => rfl⟩ ?_
            rotate_left
            focus (intro w_; go_simp; (try with_reducible rfl))
            refine wpAnyIn_ready (rs := [1, 2]) (by kernel_rfl) (by simp) ?_
            refine AllReadyIn.cons rfl (fun K hK => ?_) (AllReadyIn.cons rfl (fun K hK => ?_) AllReadyIn.nil)
            · go_simp
              gi_wp2_with (gi_at_call 20; go_loud (refine ((callsIn_wide (n := n - 1)).2 (frame_tail.calls A2 c2 p tl _ (Kd.C_drewN (Kd.C_below HP2.out HB1.out) _) HP2'.out HT.out)).mono ?_; rintro e w3 ⟨v3, rfl, ho3, hb3⟩; obtain ⟨A4, c4, rfl⟩ := Kd.R_slice ho3; have HO3 := Aside0.mk ho3; have HB3 := Aside0.mk hb3; have cB3 : w3.cell? ⟨Bn, 0, none⟩ = some (.slice (some ad) l.length c0) := (hb3.cell (World.block_lt_of_cell? _ _ cB2)).trans cB2; clear ho3 hb3))
              refine wpAnyIn_ready (rs := [2]) (by kernel_rfl) (by simp) ?_
              refine AllReadyIn.cons rfl (fun K hK => ?_) AllReadyIn.nil
              go_simp
              refine hK _ _ ?_
              clear hK K
              refine wpAnyIn_ready (rs := [7]) (by kernel_rfl) (by simp) ?_
              refine AllReadyIn.cons rfl (fun K hK => ?_) AllReadyIn.nil
              go_simp
              refine hK _ _ ?_
              clear hK K
              refine wpAnyIn_ready (rs := [8]) (by kernel_rfl) (by simp) ?_
              refine AllReadyIn.cons rfl (fun K hK => ?_) AllReadyIn.nil
              go_simp
              gi_wp2_with (gi_at_call 30; go_loud (refine ((callsIn_wide (n := n - 1)).2 (bytes_Equal.calls A4 c4 tl A3 c3 s4 true _ (Kd.R_reads' HO3.out).2.2 (Kd.R_reads' HO3.out).2.1 (Kd.C_below (Kd.C_drewN (Kd.C_below HS2.out HB1.out) _) HB3.out) HS2'.out HE0.out)).mono ?_; rintro e w4 ⟨rfl, ⟨nd4, rfl⟩⟩; have HJy := Aside0.mk (J_below HAb.out HA.out.1 (pw_below_drewN (below_from_drewN HB3.out) nd4)); obtain ⟨fn, tmps, assign, body, hy2, hR⟩ := HY.out xs ⟨(nx, p, A2, c2), HP2.out, HP2'.out, HNX.out.2⟩ (w3.drewN nd4) HJy.out (by have h_ := HA.out.2.2.2.2.1; have h2_ := HI.out.1; omega); have HRR := Aside0.mk hR; clear hR; dsimp only [encF] at hy2))
              refine wpAnyIn_take (i := 9) (v := ?_) rfl rfl (by kernel_rfl) (by kernel_rfl) (by kernel_rfl) (fun _ _ _ h => h) ⟨Or.inl ⟨by rfl, ?_⟩, fun _ => rfl⟩ ?_
              rotate_left
              focus (intro w_; go_simp; (try with_reducible rfl))
              refine wpAnyIn_take (i := 10) (v := ?_) rfl rfl (by kernel_rfl) (by kernel_rfl) (by kernel_rfl) (fun _ _ _ h => h) ⟨Or.inl ⟨by rfl, ?_⟩, fun _ => rfl⟩ ?_
              rotate_left
              focus (intro w_; go_simp; (try with_reducible rfl))
              refine wpAnyIn_take (i := 11) (v := ?_) rfl rfl (by kernel_rfl) (by kernel_rfl) (by kernel_rfl) (fun _ _ _ h => h) ⟨Or.inl ⟨by rfl, ?_⟩, fun _ => rfl⟩ ?_
              rotate_left
              focus (intro w_; go_simp; (try with_reducible rfl))
              refine wpAnyIn_take (i := 12) (v := ?_) rfl rfl (by kernel_rfl) (by kernel_rfl) (by kernel_rfl) (fun _ _ _ h => h) ⟨Or.inl ⟨by rfl, ?_⟩, fun _ => rfl⟩ ?_
              rotate_left
              focus (intro w_; go_simp; (try with_reducible rfl))
              refine wpAnyIn_take (i := 13) (v := ?_) rfl rfl (by kernel_rfl) (by kernel_rfl) (by kernel_rfl) (fun _ _ _ h => h) ⟨Or.inl ⟨by rfl, ?_⟩, fun _ => rfl⟩ ?_
              rotate_left
              focus (intro w_; go_simp; (try with_reducible rfl))
              refine wpAnyIn_ready (rs := [14]) (by kernel_rfl) (by simp) ?_
              refine AllReadyIn.cons rfl (fun K hK => ?_) AllReadyIn.nil
              go_simp
              gi_wp2
              refine HRR.out.mono ?_
              rintro e W' hh
              obtain ⟨yb, rfl, hyb⟩ := yieldOr hh
              gi_wp2
              refine wpAnyIn_take (i := 15) (v := ?_) rfl rfl (by kernel_rfl) (by kernel_rfl) (by kernel_rfl) (fun _ _ _ h => h) ⟨Or.inl ⟨by rfl, ?_⟩, fun _ => rfl⟩ ?_
              rotate_left
              focus (intro w_; go_simp; (try with_reducible rfl))
              refine wpAnyIn_take (i := 16) (v := ?_) rfl rfl (by kernel_rfl) (by kernel_rfl) (by kernel_rfl) (fun _ _ _ h => h) ⟨Or.inl ⟨by rfl, ?_⟩, fun _ => rfl⟩ ?_
              rotate_left
              focus (intro w_; go_simp; (try with_reducible rfl))
              refine wpAnyIn_done (by kernel_rfl) ?_ _
              rcases hyb with ⟨rfl, hJ', hk⟩ | ⟨rfl, hJx'⟩
              · have HJ2 := Aside0.mk hJ'
                have HK2 := Aside0.mk hk
                clear hJ' hk
                gi_wp2
                gi_roundg (gk - (nx - at_))
                case measure => have h_ := HI.out; have h2_ := HNX.out; have h3_ := HN4.out; omega
                case rel =>
                  have h_ := HI.out
                  have h2_ := HNX.out
                  have h3_ := HN4.out
                  have hN := next_F (x := ⟨(nx, p, A2, c2), HP2.out, HP2'.out, HNX.out.2⟩) HO.out HBE.out rfl (by omega) h3_.2.1 h_.1 HBy.out HA.out.2.2.2.2.2.1 HA.out.2.2.2.2.2.2
                  have hBel := pw_below_drewN (below_from_drewN HB3.out) nd4
                  exact ⟨nx, _, by omega, by first | exact hv5 | rfl, ⟨⟨HJ2.out, (HB1.out.trans (hBel.mono HB1.out.size)).trans HK2.out.1, HK2.out.2.trans ((hBel.block Bn (Array.getElem?_eq_some_iff.1 HA.out.2.2.1).1).trans HA.out.2.2.1), lastF_snoc _ _, by have h5_ := HA.out.2.2.2.2.1; simp only [List.length_append, List.length_singleton]; omega, hN.1, hN.2⟩⟩⟩
              · gi_wp2
                refine bodyPost_ret (results_none rfl _ _ _) rfl ?_
                first | exact ⟨⟨_, rfl⟩, .inr ⟨_, trivial, hJx'⟩⟩ | exact ⟨⟨_, rfl⟩, .inr ⟨_, hJx'⟩⟩
            · go_simp
              refine hK _ _ ?_
              clear hK K
              refine wpAnyIn_ready (rs := [1, 7]) (by kernel_rfl) (by simp) ?_
              refine AllReadyIn.cons rfl (fun K hK => ?_) (AllReadyIn.cons rfl (fun K hK => ?_) AllReadyIn.nil)
              · go_simp
                gi_wp2_with (gi_at_call 20; go_loud (refine ((callsIn_wide (n := n - 1)).2 (frame_tail.calls A2 c2 p tl _ (Kd.C_drewN (Kd.C_below HP2.out HB1.out) _) HP2'.out HT.out)).mono ?_; rintro e w3 ⟨v3, rfl, ho3, hb3⟩; obtain ⟨A4, c4, rfl⟩ := Kd.R_slice ho3; have HO3 := Aside0.mk ho3; have HB3 := Aside0.mk hb3; have cB3 : w3.cell? ⟨Bn, 0, none⟩ = some (.slice (some ad) l.length c0) := (hb3.cell (World.block_lt_of_cell? _ _ cB2)).trans cB2; clear ho3 hb3))
                refine wpAnyIn_ready (rs := [7]) (by kernel_rfl) (by simp) ?_
                refine AllReadyIn.cons rfl (fun K hK => ?_) AllReadyIn.nil
                go_simp
                refine hK _ _ ?_
                clear hK K
                refine wpAnyIn_ready (rs := [8]) (by kernel_rfl) (by simp) ?_
                refine AllReadyIn.cons rfl (fun K hK => ?_) AllReadyIn.nil
                go_simp
                gi_wp2_with (gi_at_call 30; go_loud (refine ((callsIn_wide (n := n - 1)).2 (bytes_Equal.calls A4 c4 tl A3 c3 s4 true _ (Kd.R_reads' HO3.out).2.2 (Kd.R_reads' HO3.out).2.1 (Kd.C_below (Kd.C_drewN (Kd.C_below HS2.out HB1.out) _) HB3.out) HS2'.out HE0.out)).mono ?_; rintro e w4 ⟨rfl, ⟨nd4, rfl⟩⟩; have HJy := Aside0.mk (J_below HAb.out HA.out.1 (pw_below_drewN (below_from_drewN HB3.out) nd4)); obtain ⟨fn, tmps, assign, body, hy2, hR⟩ := HY.out xs ⟨(nx, p, A2, c2), HP2.out, HP2'.out, HNX.out.2⟩ (w3.drewN nd4) HJy.out (by have h_ := HA.out.2.2.2.2.1; have h2_ := HI.out.1; omega); have HRR := Aside0.mk hR; clear hR; dsimp only [encF] at hy2))
                refine wpAnyIn_take (i := 9) (v := ?_) rfl rfl (by kernel_rfl) (by kernel_rfl) (by kernel_rfl) (fun _ _ _ h => h) ⟨Or.inl ⟨by rfl, ?_⟩, fun _ => rfl⟩ ?_
                rotate_left
                focus (intro w_; go_simp; (try with_reducible rfl))
                refine wpAnyIn_take (i := 10) (v := ?_) rfl rfl (by kernel_rfl) (by kernel_rfl) (by kernel_rfl) (fun _ _ _ h => h) ⟨Or.inl ⟨by rfl, ?_⟩, fun _ => rfl⟩ ?_
                rotate_left
                focus (intro w_; go_simp; (try with_reducible rfl))
                refine wpAnyIn_take (i := 11) (v := ?_) rfl rfl (by kernel_rfl) (by kernel_rfl) (by kernel_rfl) (fun _ _ _ h => h) ⟨Or.inl ⟨by rfl, ?_⟩, fun _ => rfl⟩ ?_
                rotate_left
                focus (intro w_; go_simp; (try with_reducible rfl))
                refine wpAnyIn_take (i := 12) (v := ?_) rfl rfl (by kernel_rfl) (by kernel_rfl) (by kernel_rfl) (fun _ _ _ h => h) ⟨Or.inl ⟨by rfl, ?_⟩, fun _ => rfl⟩ ?_
                rotate_left
                focus (intro w_; go_simp; (try with_reducible rfl))
                refine wpAnyIn_take (i := 13) (v := ?_) rfl rfl (by kernel_rfl) (by kernel_rfl) (by kernel_rfl) (fun _ _ _ h => h) ⟨Or.inl ⟨by rfl, ?_⟩, fun _ => rfl⟩ ?_
                rotate_left
                focus (intro w_; go_simp; (try with_reducible rfl))
                refine wpAnyIn_ready (rs := [14]) (by kernel_rfl) (by simp) ?_
                refine AllReadyIn.cons rfl (fun K hK => ?_) AllReadyIn.nil
                go_simp
                gi_wp2
                refine HRR.out.mono ?_
                rintro e W' hh
                obtain ⟨yb, rfl, hyb⟩ := yieldOr hh
                gi_wp2
                refine wpAnyIn_take (i := 15) (v := ?_) rfl rfl (by kernel_rfl) (by kernel_rfl) (by kernel_rfl) (fun _ _ _ h => h) ⟨Or.inl ⟨by rfl, ?_⟩, fun _ => rfl⟩ ?_
                rotate_left
                focus (intro w_; go_simp; (try with_reducible rfl))
                refine wpAnyIn_take (i := 16) (v := ?_) rfl rfl (by kernel_rfl) (by kernel_rfl) (by kernel_rfl) (fun _ _ _ h => h) ⟨Or.inl ⟨by rfl, ?_⟩, fun _ => rfl⟩ ?_
                rotate_left
                focus (intro w_; go_simp; (try with_reducible rfl))
                refine wpAnyIn_done (by kernel_rfl) ?_ _
                rcases hyb with ⟨rfl, hJ', hk⟩ | ⟨rfl, hJx'⟩
                · have HJ2 := Aside0.mk hJ'
                  have HK2 := Aside0.mk hk
                  clear hJ' hk
                  gi_wp2
                  gi_roundg (gk - (nx - at_))
                  case measure => have h_ := HI.out; have h2_ := HNX.out; have h3_ := HN4.out; omega
                  case rel =>
                    have h_ := HI.out
                    have h2_ := HNX.out
                    have h3_ := HN4.out
                    have hN := next_F (x := ⟨(nx, p, A2, c2), HP2.out, HP2'.out, HNX.out.2⟩) HO.out HBE.out rfl (by omega) h3_.2.1 h_.1 HBy.out HA.out.2.2.2.2.2.1 HA.out.2.2.2.2.2.2
                    have hBel := pw_below_drewN (below_from_drewN HB3.out) nd4
                    exact ⟨nx, _, by omega, by first | exact hv5 | rfl, ⟨⟨HJ2.out, (HB1.out.trans (hBel.mono HB1.out.size)).trans HK2.out.1, HK2.out.2.trans ((hBel.block Bn (Array.getElem?_eq_some_iff.1 HA.out.2.2.1).1).trans HA.out.2.2.1), lastF_snoc _ _, by have h5_ := HA.out.2.2.2.2.1; simp only [List.length_append, List.length_singleton]; omega, hN.1, hN.2⟩⟩⟩
                · gi_wp2
                  refine bodyPost_ret (results_none rfl _ _ _) rfl ?_
                  first | exact ⟨⟨_, rfl⟩, .inr ⟨_, trivial, hJx'⟩⟩ | exact ⟨⟨_, rfl⟩, .inr ⟨_, hJx'⟩⟩
              · go_simp
                refine hK _ _ ?_
                clear hK K
                refine wpAnyIn_ready (rs := [1]) (by kernel_rfl) (by simp) ?_
                refine AllReadyIn.cons rfl (fun K hK => ?_) AllReadyIn.nil
                go_simp
                gi_wp2_with (gi_at_call 20; go_loud (refine ((callsIn_wide (n := n - 1)).2 (frame_tail.calls A2 c2 p tl _ (Kd.C_drewN (Kd.C_below HP2.out HB1.out) _) HP2'.out HT.out)).mono ?_; rintro e w3 ⟨v3, rfl, ho3, hb3⟩; obtain ⟨A4, c4, rfl⟩ := Kd.R_slice ho3; have HO3 := Aside0.mk ho3; have HB3 := Aside0.mk hb3; have cB3 : w3.cell? ⟨Bn, 0, none⟩ = some (.slice (some ad) l.length c0) := (hb3.cell (World.block_lt_of_cell? _ _ cB2)).trans cB2; clear ho3 hb3))
                refine wpAnyIn_ready (rs := [8]) (by kernel_rfl) (by simp) ?_
                refine AllReadyIn.cons rfl (fun K hK => ?_) AllReadyIn.nil
                go_simp
                gi_wp2_with (gi_at_call 30; go_loud (refine ((callsIn_wide (n := n - 1)).2 (bytes_Equal.calls A4 c4 tl A3 c3 s4 true _ (Kd.R_reads' HO3.out).2.2 (Kd.R_reads' HO3.out).2.1 (Kd.C_below (Kd.C_drewN (Kd.C_below HS2.out HB1.out) _) HB3.out) HS2'.out HE0.out)).mono ?_; rintro e w4 ⟨rfl, ⟨nd4, rfl⟩⟩; have HJy := Aside0.mk (J_below HAb.out HA.out.1 (pw_below_drewN (below_from_drewN HB3.out) nd4)); obtain ⟨fn, tmps, assign, body, hy2, hR⟩ := HY.out xs ⟨(nx, p, A2, c2), HP2.out, HP2'.out, HNX.out.2⟩ (w3.drewN nd4) HJy.out (by have h_ := HA.out.2.2.2.2.1; have h2_ := HI.out.1; omega); have HRR := Aside0.mk hR; clear hR; dsimp only [encF] at hy2))
                refine wpAnyIn_take (i := 9) (v := ?_) rfl rfl (by kernel_rfl) (by kernel_rfl) (by kernel_rfl) (fun _ _ _ h => h) ⟨Or.inl ⟨by rfl, ?_⟩, fun _ => rfl⟩ ?_
                rotate_left
                focus (intro w_; go_simp; (try with_reducible rfl))
                refine wpAnyIn_take (i := 10) (v := ?_) rfl rfl (by kernel_rfl) (by kernel_rfl) (by kernel_rfl) (fun _ _ _ h => h) ⟨Or.inl ⟨by rfl, ?_⟩, fun _ => rfl⟩ ?_
                rotate_left
                focus (intro w_; go_simp; (try with_reducible rfl))
                refine wpAnyIn_take (i := 11) (v := ?_) rfl rfl (by kernel_rfl) (by kernel_rfl) (by kernel_rfl) (fun _ _ _ h => h) ⟨Or.inl ⟨by rfl, ?_⟩, fun _ => rfl⟩ ?_
                rotate_left
                focus (intro w_; go_simp; (try with_reducible rfl))
                refine wpAnyIn_take (i := 12) (v := ?_) rfl rfl (by kernel_rfl) (by kernel_rfl) (by kernel_rfl) (fun _ _ _ h => h) ⟨Or.inl ⟨by rfl, ?_⟩, fun _ => rfl⟩ ?_
                rotate_left
                focus (intro w_; go_simp; (try with_reducible rfl))
                refine wpAnyIn_take (i := 13) (v := ?_) rfl rfl (by kernel_rfl) (by kernel_rfl) (by kernel_rfl) (fun _ _ _ h => h) ⟨Or.inl ⟨by rfl, ?_⟩, fun _ => rfl⟩ ?_
                rotate_left
                focus (intro w_; go_simp; (try with_reducible rfl))
                refine wpAnyIn_ready (rs := [14]) (by kernel_rfl) (by simp) ?_
                refine AllReadyIn.cons rfl (fun K hK => ?_) AllReadyIn.nil
                go_simp
                gi_wp2
                refine HRR.out.mono ?_
                rintro e W' hh
                obtain ⟨yb, rfl, hyb⟩ := yieldOr hh
                gi_wp2
                refine wpAnyIn_take (i := 15) (v := ?_) rfl rfl (by kernel_rfl) (by kernel_rfl) (by kernel_rfl) (fun _ _ _ h => h) ⟨Or.inl ⟨by rfl, ?_⟩, fun _ => rfl⟩ ?_
                rotate_left
                focus (intro w_; go_simp; (try with_reducible rfl))
                refine wpAnyIn_take (i := 16) (v := ?_) rfl rfl (by kernel_rfl) (by kernel_rfl) (by kernel_rfl) (fun _ _ _ h => h) ⟨Or.inl ⟨by rfl, ?_⟩, fun _ => rfl⟩ ?_
                rotate_left
                focus (intro w_; go_simp; (try with_reducible rfl))
                refine wpAnyIn_done (by kernel_rfl) ?_ _
                rcases hyb with ⟨rfl, hJ', hk⟩ | ⟨rfl, hJx'⟩
                · have HJ2 := Aside0.mk hJ'
                  have HK2 := Aside0.mk hk
                  clear hJ' hk
                  gi_wp2
                  gi_roundg (gk - (nx - at_))
                  case measure => have h_ := HI.out; have h2_ := HNX.out; have h3_ := HN4.out; omega
                  case rel =>
                    have h_ := HI.out
                    have h2_ := HNX.out
                    have h3_ := HN4.out
                    have hN := next_F (x := ⟨(nx, p, A2, c2), HP2.out, HP2'.out, HNX.out.2⟩) HO.out HBE.out rfl (by omega) h3_.2.1 h_.1 HBy.out HA.out.2.2.2.2.2.1 HA.out.2.2.2.2.2.2
                    have hBel := pw_below_drewN (below_from_drewN HB3.out) nd4
                    exact ⟨nx, _, by omega, by first | exact hv5 | rfl, ⟨⟨HJ2.out, (HB1.out.trans (hBel.mono HB1.out.size)).trans HK2.out.1, HK2.out.2.trans ((hBel.block Bn (Array.getElem?_eq_some_iff.1 HA.out.2.2.1).1).trans HA.out.2.2.1), lastF_snoc _ _, by have h5_ := HA.out.2.2.2.2.1; simp only [List.length_append, List.length_singleton]; omega, hN.1, hN.2⟩⟩⟩
                · gi_wp2
                  refine bodyPost_ret (results_none rfl _ _ _) rfl ?_
                  first | exact ⟨⟨_, rfl⟩, .inr ⟨_, trivial, hJx'⟩⟩ | exact ⟨⟨_, rfl⟩, .inr ⟨_, hJx'⟩⟩
          · have HO := Aside0.mk (show one b = none from by rw [HON.out, if_neg h5])
            have HE0 := Aside0.mk (show bytes_Equal.f tl s4 = some false from by rw [HE.out, decide_eq_false h5])
            clear h5
            gi_wp2_with (gi_at_call 29; refine ((callsIn_wide (n := n - 1)).2 (num_GetLen.calls A1 c1 b n' k' 0 _ (Kd.C_below HC1.out HB1.out) HC1'.out HG.out)).mono ?_; rintro e w2 ⟨rfl, ⟨nd, rfl⟩⟩; have cB2 : (wr.drewN nd).cell? ⟨Bn, 0, none⟩ = some (.slice (some ad) l.length c0) := cB)
            refine wpIn_region_any (by assumption) ?_
            (try (change wpAnyIn _ _ _ _ _ _ _ _ _ (World.drew _)))
            refine wpAnyIn_take (i := 0) (v := ?_) rfl rfl (by kernel_rfl) (by kernel_rfl) (by kernel_rfl) (fun _ _ _ h => h) ⟨Or.inl ⟨by rfl, ?_⟩, fun _ => rfl⟩ ?_
            rotate_left
            focus (intro w_; go_simp; (try with_reducible rfl))
            refine wpAnyIn_take (i := 3) (v := ?_) rfl rfl (by kernel_rfl) (by kernel_rfl) (by kernel_rfl) (fun _ _ _ h => h) ⟨Or.inl ⟨by rfl, ?_⟩, fun _ => rfl⟩ ?_
            rotate_left
            focus (intro w_; go_simp; (try with_reducible rfl))
            refine wpAnyIn_take (i := 4) (v := ?_) rfl rfl (by kernel_rfl) (by kernel_rfl) (by kernel_rfl) (fun _ _ _ h => h) ⟨Or.inl ⟨by rfl, ?_⟩, fun _ => rfl⟩ ?_
            rotate_left
            focus (intro w_; go_simp; (try with_reducible rfl))
            refine wpAnyIn_take (i := 5) (v := ?_) rfl rfl (by kernel_rfl) (by kernel_rfl) (by kernel_rfl) (fun _ _ _ h => h) ⟨Or.inl ⟨by rfl, ?_⟩, fun _ => rfl⟩ ?_
            rotate_left
            focus (intro w_; go_simp; (try with_reducible rfl))
            refine wpAnyIn_take (i := 6) (v := ?_) rfl rfl (by kernel_rfl) (by kernel_rfl) (by kernel_rfl) (fun _ _ _ h => h) ⟨Or.inl ⟨by rfl, ?_⟩, fun _ => rfl⟩ ?_
            rotate_left
            focus (intro w_; go_simp; (try with_reducible rfl))
            refine wpAnyIn_ready (rs := [1, 2]) (by kernel_rfl) (by simp) ?_
            refine AllReadyIn.cons rfl (fun K hK => ?_) (AllReadyIn.cons rfl (fun K hK => ?_) AllReadyIn.nil)
            · go_simp
              gi_wp2_with (gi_at_call 20; go_loud (refine ((callsIn_wide (n := n - 1)).2 (frame_tail.calls A2 c2 p tl _ (Kd.C_drewN (Kd.C_below HP2.out HB1.out) _) HP2'.out HT.out)).mono ?_; rintro e w3 ⟨v3, rfl, ho3, hb3⟩; obtain ⟨A4, c4, rfl⟩ := Kd.R_slice ho3; have HO3 := Aside0.mk ho3; have HB3 := Aside0.mk hb3; have cB3 : w3.cell? ⟨Bn, 0, none⟩ = some (.slice (some ad) l.length c0) := (hb3.cell (World.block_lt_of_cell? _ _ cB2)).trans cB2; clear ho3 hb3))
              refine wpAnyIn_ready (rs := [2]) (by kernel_rfl) (by simp) ?_
              refine AllReadyIn.cons rfl (fun K hK => ?_) AllReadyIn.nil
              go_simp
              refine hK _ _ ?_
              clear hK K
              refine wpAnyIn_ready (rs := [7]) (by kernel_rfl) (by simp) ?_
              refine AllReadyIn.cons rfl (fun K hK => ?_) AllReadyIn.nil
              go_simp
              refine hK _ _ ?_
              clear hK K
              refine wpAnyIn_ready (rs := [8]) (by kernel_rfl) (by simp) ?_
              refine AllReadyIn.cons rfl (fun K hK => ?_) AllReadyIn.nil
              go_simp
              gi_wp2_with (gi_at_call 30; go_loud (refine ((callsIn_wide (n := n - 1)).2 (bytes_Equal.calls A4 c4 tl A3 c3 s4 false _ (Kd.R_reads' HO3.out).2.2 (Kd.R_reads' HO3.out).2.1 (Kd.C_below (Kd.C_drewN (Kd.C_below HS2.out HB1.out) _) HB3.out) HS2'.out HE0.out)).mono ?_; rintro e w4 ⟨rfl, ⟨nd4, rfl⟩⟩))
              refine wpAnyIn_take (i := 9) (v := ?_) rfl rfl (by kernel_rfl) (by kernel_rfl) (by kernel_rfl) (fun _ _ _ h => h) ⟨Or.inl ⟨by rfl, ?_⟩, fun _ => rfl⟩ ?_
              rotate_left
              focus (intro w_; go_simp; (try with_reducible rfl))
              refine wpAnyIn_take (i := 10) (v := ?_) rfl rfl (by kernel_rfl) (by kernel_rfl) (by kernel_rfl) (fun _ _ _ h => h) ⟨Or.inl ⟨by rfl, ?_⟩, fun _ => rfl⟩ ?_
              rotate_left
              focus (intro w_; go_simp; (try with_reducible rfl))
              refine wpAnyIn_take (i := 11) (v := undef) rfl rfl (by kernel_rfl) (by kernel_rfl) (by kernel_rfl) (fun _ _ _ h => h) ⟨Or.inr ⟨by rfl, rfl⟩, fun _ => rfl⟩ ?_
              refine wpAnyIn_take (i := 12) (v := undef) rfl rfl (by kernel_rfl) (by kernel_rfl) (by kernel_rfl) (fun _ _ _ h => h) ⟨Or.inr ⟨by rfl, rfl⟩, fun _ => rfl⟩ ?_
              refine wpAnyIn_take (i := 13) (v := undef) rfl rfl (by kernel_rfl) (by kernel_rfl) (by kernel_rfl) (fun _ _ _ h => h) ⟨Or.inr ⟨by rfl, rfl⟩, fun _ => rfl⟩ ?_
              refine wpAnyIn_ready (rs := [14]) (by kernel_rfl) (by simp) ?_
              refine AllReadyIn.cons rfl (fun K hK => ?_) AllReadyIn.nil
              go_simp
              refine ⟨fun _ _ => trivial, ?_⟩
              refine hK _ _ ?_
              clear hK K
              refine wpAnyIn_take (i := 15) (v := undef) rfl rfl (by kernel_rfl) (by kernel_rfl) (by kernel_rfl) (fun _ _ _ h => h) ⟨Or.inr ⟨by rfl, rfl⟩, fun _ => rfl⟩ ?_
              refine wpAnyIn_take (i := 16) (v := ?_) rfl rfl (by kernel_rfl) (by kernel_rfl) (by kernel_rfl) (fun _ _ _ h => h) ⟨Or.inl ⟨by rfl, ?_⟩, fun _ => rfl⟩ ?_
              rotate_left
              focus (intro w_; go_simp; (try with_reducible rfl))
              refine wpAnyIn_done (by kernel_rfl) ?_ _
              gi_wp2
              refine bodyPost_ret (results_none rfl _ _ _) rfl ?_
              exact ⟨⟨_, rfl⟩, .inl ⟨xs, fin_none HO.out HBE.out HA.out.2.2.2.1 HA.out.2.2.2.2.2.1 HA.out.2.2.2.2.2.2, J_below HAb.out HA.out.1 (pw_below_drewN (below_from_drewN HB3.out) nd4)⟩⟩
            · go_simp
              refine hK _ _ ?_
              clear hK K
              refine wpAnyIn_ready (rs := [1, 7]) (by kernel_rfl) (by simp) ?_
              refine AllReadyIn.cons rfl (fun K hK => ?_) (AllReadyIn.cons rfl (fun K hK => ?_) AllReadyIn.nil)
              · go_simp
                gi_wp2_with (gi_at_call 20; go_loud (refine ((callsIn_wide (n := n - 1)).2 (frame_tail.calls A2 c2 p tl _ (Kd.C_drewN (Kd.C_below HP2.out HB1.out) _) HP2'.out HT.out)).mono ?_; rintro e w3 ⟨v3, rfl, ho3, hb3⟩; obtain ⟨A4, c4, rfl⟩ := Kd.R_slice ho3; have HO3 := Aside0.mk ho3; have HB3 := Aside0.mk hb3; have cB3 : w3.cell? ⟨Bn, 0, none⟩ = some (.slice (some ad) l.length c0) := (hb3.cell (World.block_lt_of_cell? _ _ cB2)).trans cB2; clear ho3 hb3))
                refine wpAnyIn_ready (rs := [7]) (by kernel_rfl) (by simp) ?_
                refine AllReadyIn.cons rfl (fun K hK => ?_) AllReadyIn.nil
                go_simp
                refine hK _ _ ?_
                clear hK K
                refine wpAnyIn_ready (rs := [8]) (by kernel_rfl) (by simp) ?_
                refine AllReadyIn.cons rfl (fun K hK => ?_) AllReadyIn.nil
                go_simp
                gi_wp2_with (gi_at_call 30; go_loud (refine ((callsIn_wide (n := n - 1)).2 (bytes_Equal.calls A4 c4 tl A3 c3 s4 false _ (Kd.R_reads' HO3.out).2.2 (Kd.R_reads' HO3.out).2.1 (Kd.C_below (Kd.C_drewN (Kd.C_below HS2.out HB1.out) _) HB3.out) HS2'.out HE0.out)).mono ?_; rintro e w4 ⟨rfl, ⟨nd4, rfl⟩⟩))
                refine wpAnyIn_take (i := 9) (v := ?_) rfl rfl (by kernel_rfl) (by kernel_rfl) (by kernel_rfl) (fun _ _ _ h => h) ⟨Or.inl ⟨by rfl, ?_⟩, fun _ => rfl⟩ ?_
                rotate_left
                focus (intro w_; go_simp; (try with_reducible rfl))
                refine wpAnyIn_take (i := 10) (v := ?_) rfl rfl (by kernel_rfl) (by kernel_rfl) (by kernel_rfl) (fun _ _ _ h => h) ⟨Or.inl ⟨by rfl, ?_⟩, fun _ => rfl⟩ ?_
                rotate_left
                focus (intro w_; go_simp; (try with_reducible rfl))
                refine wpAnyIn_take (i := 11) (v := undef) rfl rfl (by kernel_rfl) (by kernel_rfl) (by kernel_rfl) (fun _ _ _ h => h) ⟨Or.inr ⟨by rfl, rfl⟩, fun _ => rfl⟩ ?_
                refine wpAnyIn_take (i := 12) (v := undef) rfl rfl (by kernel_rfl) (by kernel_rfl) (by kernel_rfl) (fun _ _ _ h => h) ⟨Or.inr ⟨by rfl, rfl⟩, fun _ => rfl⟩ ?_
                refine wpAnyIn_take (i := 13) (v := undef) rfl rfl (by kernel_rfl) (by kernel_rfl) (by kernel_rfl) (fun _ _ _ h => h) ⟨Or.inr ⟨by rfl, rfl⟩, fun _ => rfl⟩ ?_
                refine wpAnyIn_ready (rs := [14]) (by kernel_rfl) (by simp) ?_
                refine AllReadyIn.cons rfl (fun K hK => ?_) AllReadyIn.nil
                go_simp
                refine ⟨fun _ _ => trivial, ?_⟩
                refine hK _ _ ?_
                clear hK K
                refine wpAnyIn_take (i := 15) (v := undef) rfl rfl (by kernel_rfl) (by kernel_rfl) (by kernel_rfl) (fun _ _ _ h => h) ⟨Or.inr ⟨by rfl, rfl⟩, fun _ => rfl⟩ ?_
                refine wpAnyIn_take (i := 16) (v := ?_) rfl rfl (by kernel_rfl) (by kernel_rfl) (by kernel_rfl) (fun _ _ _ h => h) ⟨Or.inl ⟨by rfl, ?_⟩, fun _ => rfl⟩ ?_
                rotate_left
                focus (intro w_; go_simp; (try with_reducible rfl))
                refine wpAnyIn_done (by kernel_rfl) ?_ _
                gi_wp2
                refine bodyPost_ret (results_none rfl _ _ _) rfl ?_
                exact ⟨⟨_, rfl⟩, .inl ⟨xs, fin_none HO.out HBE.out HA.out.2.2.2.1 HA.out.2.2.2.2.2.1 HA.out.2.2.2.2.2.2, J_below HAb.out HA.out.1 (pw_below_drewN (below_from_drewN HB3.out) nd4)⟩⟩
              · go_simp
                refine hK _ _ ?_
                clear hK K
                refine wpAnyIn_ready (rs := [1]) (by kernel_rfl) (by simp) ?_
                refine AllReadyIn.cons rfl (fun K hK => ?_) AllReadyIn.nil
                go_simp
                gi_wp2_with (gi_at_call 20; go_loud (refine ((callsIn_wide (n := n - 1)).2 (frame_tail.calls A2 c2 p tl _ (Kd.C_drewN (Kd.C_below HP2.out HB1.out) _) HP2'.out HT.out)).mono ?_; rintro e w3 ⟨v3, rfl, ho3, hb3⟩; obtain ⟨A4, c4, rfl⟩ := Kd.R_slice ho3; have HO3 := Aside0.mk ho3; have HB3 := Aside0.mk hb3; have cB3 : w3.cell? ⟨Bn, 0, none⟩ = some (.slice (some ad) l.length c0) := (hb3.cell (World.block_lt_of_cell? _ _ cB2)).trans cB2; clear ho3 hb3))
                refine wpAnyIn_ready (rs := [8]) (by kernel_rfl) (by simp) ?_
                refine AllReadyIn.cons rfl (fun K hK => ?_) AllReadyIn.nil
                go_simp
                gi_wp2_with (gi_at_call 30; go_loud (refine ((callsIn_wide (n := n - 1)).2 (bytes_Equal.calls A4 c4 tl A3 c3 s4 false _ (Kd.R_reads' HO3.out).2.2 (Kd.R_reads' HO3.out).2.1 (Kd.C_below (Kd.C_drewN (Kd.C_below HS2.out HB1.out) _) HB3.out) HS2'.out HE0.out)).mono ?_; rintro e w4 ⟨rfl, ⟨nd4, rfl⟩⟩))
                refine wpAnyIn_take (i := 9) (v := ?_) rfl rfl (by kernel_rfl) (by kernel_rfl) (by kernel_rfl) (fun _ _ _ h => h) ⟨Or.inl ⟨by rfl, ?_⟩, fun _ => rfl⟩ ?_
                rotate_left
                focus (intro w_; go_simp; (try with_reducible rfl))
                refine wpAnyIn_take (i := 10) (v := ?_) rfl rfl (by kernel_rfl) (by kernel_rfl) (by kernel_rfl) (fun _ _ _ h => h) ⟨Or.inl ⟨by rfl, ?_⟩, fun _ => rfl⟩ ?_
                rotate_left
                focus (intro w_; go_simp; (try with_reducible rfl))
                refine wpAnyIn_take (i := 11) (v := undef) rfl rfl (by kernel_rfl) (by kernel_rfl) (by kernel_rfl) (fun _ _ _ h => h) ⟨Or.inr ⟨by rfl, rfl⟩, fun _ => rfl⟩ ?_
                refine wpAnyIn_take (i := 12) (v := undef) rfl rfl (by kernel_rfl) (by kernel_rfl) (by kernel_rfl) (fun _ _ _ h => h) ⟨Or.inr ⟨by rfl, rfl⟩, fun _ => rfl⟩ ?_
                refine wpAnyIn_take (i := 13) (v := undef) rfl rfl (by kernel_rfl) (by kernel_rfl) (by kernel_rfl) (fun _ _ _ h => h) ⟨Or.inr ⟨by rfl, rfl⟩, fun _ => rfl⟩ ?_
                refine wpAnyIn_ready (rs := [14]) (by kernel_rfl) (by simp) ?_
                refine AllReadyIn.cons rfl (fun K hK => ?_) AllReadyIn.nil
                go_simp
                refine ⟨fun _ _ => trivial, ?_⟩
                refine hK _ _ ?_
                clear hK K
                refine wpAnyIn_take (i := 15) (v := undef) rfl rfl (by kernel_rfl) (by kernel_rfl) (by kernel_rfl) (fun _ _ _ h => h) ⟨Or.inr ⟨by rfl, rfl⟩, fun _ => rfl⟩ ?_
                refine wpAnyIn_take (i := 16) (v := ?_) rfl rfl (by kernel_rfl) (by kernel_rfl) (by kernel_rfl) (fun _ _ _ h => h) ⟨Or.inl ⟨by rfl, ?_⟩, fun _ => rfl⟩ ?_
                rotate_left
                focus (intro w_; go_simp; (try with_reducible rfl))
                refine wpAnyIn_done (by kernel_rfl) ?_ _
                gi_wp2
                refine bodyPost_ret (results_none rfl _ _ _) rfl ?_
                exact ⟨⟨_, rfl⟩, .inl ⟨xs, fin_none HO.out HBE.out HA.out.2.2.2.1 HA.out.2.2.2.2.2.1 HA.out.2.2.2.2.2.2, J_below HAb.out HA.out.1 (pw_below_drewN (below_from_drewN HB3.out) nd4)⟩⟩
/-- One more row of bytes behind rows. -/
theorem append_S {w0 W : World} (base : Nat) {v v4 : Value} {xs : List (List Int)} {p : List Int} {ok okp : Nat → Prop} (hp : Kd.R (Kd.int .u8) 5 W base okp v4 p) (hokp : ∀ k, okp k → ok k ∧ some k ≠ v.ownBlock) (hfresh : ∀ k, W.heap.size ≤ k → ok k)
    (HO : Kd.S (Kd.slice 5 (Kd.int .u8)) 22 W base (fun k => ok k ∧ ¬ okp k) v xs) (HB : Below base w0 W) (hbase : base ≤ W.heap.size) (hl : xs.length ≤ 1000000) :
    ∃ v1 w1, (Builtin.append_ #[30, 30] 30 #[v, .slice (some ⟨W.heap.size, 0, none⟩) 1 1]).run Try.prog (W.alloc (.cells #[v4] 22)) = .ok v1 w1 ∧
      Kd.S (Kd.slice 5 (Kd.int .u8)) 22 w1 base ok v1 (xs ++ [p]) ∧ Below base w0 w1 ∧ W.grownBy w1 v.ownBlock := by
  obtain ⟨i0, hi, hz0, hz1, hz2⟩ := info_parts info22
  have hpM : (Kd.slice 5 (Kd.int .u8)).M W base okp p [v4] := ⟨v4, rfl, hp⟩
  obtain ⟨f, hf, hR⟩ := Kd.S_tag HO xs.length okp (fun _ hk h2 => h2.2 hk)
  obtain ⟨h0, inner, hown, hr⟩ := Kd.R_mono hR (fun _ hk => hk.1)
  have hpM' : (Kd.tag f (Kd.slice 5 (Kd.int .u8))).M W base okp (p, xs.length) [v4] := (Kd.slice 5 (Kd.int .u8)).M_mono (fun k hk => ⟨hk, hf k hk⟩) hpM
  rw [List.length_zipIdx] at hown
  have hone : ∀ u ∈ [v4], u.oneCell' = true := (Kd.slice 5 (Kd.int .u8)).K_one ((Kd.slice 5 (Kd.int .u8)).K_of_M hpM)
  obtain ⟨v1, w1, hrun, hown1, hg, _, hat⟩ := run_append_own_at (P := Try.prog) (W.alloc (.cells #[v4] 22)) base 30 30 22 i0 (.slice none 0 0) 1 24 Try.underlying30 hi hz0 hz1 hz2 rfl (by omega) v xs.length inner (hown.alloc _) ⟨W.heap.size, 0, none⟩ 1 1 [v4] rfl
    (by simpa using World.news_of_block (cs := #[v4]) (t := 22) (fr := (0, 0)) (World.alloc_heap_new W (.cells #[v4] 22))) hone (by have : maxLen = 9223372036854775807 := rfl; omega) (by omega) (by simp; omega)
  have hg' := World.grownBy.trans (World.grownBy_alloc W _ _) hg
  have hat' : v1.ownBlock = v.ownBlock ∨ ∃ b, v1.ownBlock = some b ∧ W.heap.size ≤ b := by
    rcases hat with hat | hat
    · exact .inl hat
    · exact .inr ⟨_, hat, by simp⟩
  refine ⟨v1, w1, hrun, ⟨f, ?_⟩, (HB.alloc hbase _).grown hg (by simp; omega) (own_base hown), hg'⟩
  rw [Kd.zip_snoc]
  exact Kd.R_appended h0 hr hpM' hokp hfresh (by rw [List.length_zipIdx]; exact hown1) hg' hat'
theorem append_In {F : Fence} {n : Nat} {o : Oper} {a : Act} {W w1 : World} {v v1 y : Value} {K : Act → World → Prop} {Q : Exit → Act → World → Prop} (s x : Operand) (ho : o.op = .call { callee := .builtin .append, args := #[s, x], argTypes := #[30, 30] }) (hty : o.type = 30) (hs : a.eval s = v) (hx : a.eval x = y)
    (hr : (Builtin.append_ #[30, 30] 30 #[v, y]).run Try.prog W = .ok v1 w1) (hk : K (a.put o.dst v1) w1) : Oper.wpIn F n Try.prog o a W K Q := by
  unfold Oper.wpIn
  refine ⟨?_, ?_⟩
  · simp [Oper.about, ho, resolve, Target.leads, Sem.run_pure]
  · rw [Oper.semAt_plain F _ _ (by rw [ho]; intro c hc'; cases hc')]
    simp [execOp, ho, resolve, invoke, builtin, hs, hx, hty, hr, Result.andThen]
    exact hk
/-- A row of rows of bytes, in blocks of cells from B on. -/
def rowS (B : Nat) (W : World) (v : Value) (xs : List (List Int)) : Prop :=
  ∃ ok : Nat → Prop, (∀ k, ok k → B ≤ k ∧ ∃ cs t, W.heap[k]? = some (.cells cs t (0, 0))) ∧ Kd.S (Kd.slice 5 (Kd.int .u8)) 22 W B ok v xs
theorem rowS.own {β : Type} {b t B : Nat} (f : β → List (List Int)) : OwnFrom B (fun s W => ∃ v, Boxed W b t v ∧ rowS B W v (f s)) := by
  rintro s X Y row ⟨v, hv, ok, h1, h2⟩ hg hrow
  have hne : ∀ k, ok k → some k ≠ row := by
    intro k hk e
    obtain ⟨hB, o, ho, hc⟩ := hrow k e.symm
    obtain ⟨_, cs, t', h⟩ := h1 k hk
    rw [h] at ho; cases ho; cases hc
  refine ⟨v, hv.kept hg (fun e' => ?_), ok, fun k hk => ?_, Kd.S_grown h2 hg hne⟩
  · obtain ⟨_, o, ho, hc⟩ := hrow b e'.symm
    rw [show X.heap[b]? = _ from hv] at ho; cases ho; cases hc
  · obtain ⟨hB, cs, t', h⟩ := h1 k hk
    exact ⟨hB, cs, t', (hg.block k (Array.getElem?_eq_some_iff.1 h).1 (hne k hk)).trans h⟩
theorem rowS.of_S {B : Nat} {ok : Nat → Prop} {W : World} {v : Value} {xs : List (List Int)} (h : Kd.S (Kd.slice 5 (Kd.int .u8)) 22 W B ok v xs) : rowS B W v xs := by
  refine ⟨_, fun k hk => ?_, Kd.S_bound h⟩
  obtain ⟨_, h1, _, q, _, cs, hc⟩ := hk
  exact ⟨h1, cs, q, hc⟩
theorem rowS.set {B b : Nat} {W : World} {v : Value} {xs : List (List Int)} (h : rowS B W v xs) (h2 : b < B) (u : Value) : rowS B (W.setCell ⟨b, 0, none⟩ u) v xs := by
  obtain ⟨ok, ho, hv⟩ := h
  have hne : ∀ k, ok k → k ≠ b := by
    intro k hk
    have := (ho k hk).1
    omega
  refine ⟨ok, fun k hk => ?_, Kd.S_far hv hne u⟩
  obtain ⟨hB, cs, t', h⟩ := ho k hk
  exact ⟨hB, cs, t', (Below.heap_setCell W ⟨b, 0, none⟩ u k (hne k hk)).trans h⟩
/-- What a round of Read leaves. -/
theorem read_fin {n B : Nat} {w W w3 w1 : World} {v v1 u u' sl : Value} {zs ys : List (List Int)} {ok : Nat → Prop} (hBn : B = n + 3) (hn : n = w.heap.size) (hB : Below n w W) (hv : Boxed W n 30 v) (hU : Boxed W (n + 1) 3 u) (hN : Boxed W (n + 2) 22 sl) (hBW : B ≤ W.heap.size)
    (hb3 : Below W.heap.size W w3) (hg : w3.grownBy w1 v.ownBlock) (hS : Kd.S (Kd.slice 5 (Kd.int .u8)) 22 W B ok v zs) (hB1 : Below B W w1) (hS1 : Kd.S (Kd.slice 5 (Kd.int .u8)) 22 w1 B (fun _ => True) v1 ys) :
    KeepsFrom B W ((w1.setCell ⟨n, 0, none⟩ v1).setCell ⟨n + 1, 0, none⟩ u') ∧ KeepF n (n + 2) W ((w1.setCell ⟨n, 0, none⟩ v1).setCell ⟨n + 1, 0, none⟩ u') ∧
      (((∃ v, Boxed ((w1.setCell ⟨n, 0, none⟩ v1).setCell ⟨n + 1, 0, none⟩ u') n 30 v ∧ rowS B ((w1.setCell ⟨n, 0, none⟩ v1).setCell ⟨n + 1, 0, none⟩ u') v ys) ∧ Boxed ((w1.setCell ⟨n, 0, none⟩ v1).setCell ⟨n + 1, 0, none⟩ u') (n + 1) 3 u') ∧ Boxed ((w1.setCell ⟨n, 0, none⟩ v1).setCell ⟨n + 1, 0, none⟩ u') (n + 2) 22 sl) ∧
      Below n w ((w1.setCell ⟨n, 0, none⟩ v1).setCell ⟨n + 1, 0, none⟩ u') := by
  have hv1 : Boxed w1 n 30 v := (hB1.block n (by omega)).trans hv
  have hU1 : Boxed w1 (n + 1) 3 u := (hB1.block (n + 1) (by omega)).trans hU
  have hN1 : Boxed w1 (n + 2) 22 sl := (hB1.block (n + 2) (by omega)).trans hN
  have hv2 := (hv1.set v1).other (B' := n + 1) (by omega) u'
  have hU2 := (hU1.other (B' := n) (by omega) v1).set u'
  have hN2 := (hN1.other (B' := n) (by omega) v1).other (B' := n + 1) (by omega) u'
  have hlow : Below n W ((w1.setCell ⟨n, 0, none⟩ v1).setCell ⟨n + 1, 0, none⟩ u') := ((hB1.mono (show n ≤ B by omega)).setCell (p := ⟨n, 0, none⟩) (Nat.le_refl _) v1).setCell (p := ⟨n + 1, 0, none⟩) (Nat.le_succ _) u'
  refine ⟨⟨hlow.size, fun k o hBk hk hc => ?_⟩, ⟨hlow, hN2.trans hN.symm⟩, ⟨⟨⟨v1, hv2, ((rowS.of_S hS1).set (by omega) v1).set (by omega) u'⟩, hU2⟩, hN2⟩, hB.trans hlow⟩
  have hlt := (Array.getElem?_eq_some_iff.1 hk).1
  have hne : some k ≠ v.ownBlock := by
    intro e
    obtain ⟨cs, h⟩ := Kd.S_typed hS k e.symm
    rw [h] at hk; cases hk; cases hc
  refine (Below.heap_setCell _ ⟨n + 1, 0, none⟩ u' k (by show k ≠ n + 1; omega)).trans ((Below.heap_setCell w1 ⟨n, 0, none⟩ v1 k (by show k ≠ n; omega)).trans ?_)
  exact (hg.block k (Nat.lt_of_lt_of_le hlt hb3.size) hne).trans ((hb3.block k hlt).trans hk)
theorem belowDrew {W w1 : World} (h : Below W.drew.heap.size W.drew w1) : Below W.heap.size W w1 := (below_drew1 (Below.refl W.heap.size W)).trans h
theorem boxedBelow {W w1 : World} {b t : Nat} {v : Value} (h : Below W.heap.size W w1) (hv : Boxed W b t v) : Boxed w1 b t v := (h.block b hv.lt).trans hv
/-- What a copy of a payload leaves, and what putting it behind the others will. -/
def Cloned (B : Nat) (W : World) (v : Value) (zs : List (List Int)) (p : List Int) (A4 : Option Addr) (c4 : Nat) (v1 : Value) (w1 w3 : World) : Prop :=
  Below W.heap.size W w3 ∧ (Builtin.append_ #[30, 30] 30 #[v, .slice (some ⟨w3.heap.size, 0, none⟩) 1 1]).run Try.prog (w3.alloc (.cells #[.slice A4 p.length c4] 22)) = .ok v1 w1 ∧
    Kd.S (Kd.slice 5 (Kd.int .u8)) 22 w1 B (fun _ => True) v1 (zs ++ [p]) ∧ Below B W w1 ∧ w3.grownBy w1 v.ownBlock
theorem read_finI {B : Nat} {w W w1 w3 : World} {v v1 u sl : Value} {zs : List (List Int)} {p : List Int} {A4 : Option Addr} {c4 : Nat} {ok : Nat → Prop} {w₀ : World} {pre : List (Fm w₀)} {x : Fm w₀} {at_ : Nat} (hBn : B = w.heap.size + 3) (hB : Below w.heap.size w W) (hv : Boxed W w.heap.size 30 v) (hU : Boxed W (w.heap.size + 1) 3 u) (hN : Boxed W (w.heap.size + 2) 22 sl) (hBW : B ≤ W.heap.size)
    (hq : Cloned B W v zs p A4 c4 v1 w1 w3) (hS : Kd.S (Kd.slice 5 (Kd.int .u8)) 22 W B ok v zs) (hz : zs ++ [p] = paysF (pre ++ [x])) (hat : lastF (pre ++ [x]) = at_) :
    KeepsFrom B W ((w1.setCell ⟨w.heap.size, 0, none⟩ v1).setCell ⟨w.heap.size + 1, 0, none⟩ (.int .i64 (at_ : Int))) ∧ KeepF w.heap.size (w.heap.size + 2) W ((w1.setCell ⟨w.heap.size, 0, none⟩ v1).setCell ⟨w.heap.size + 1, 0, none⟩ (.int .i64 (at_ : Int))) ∧
      (((∃ v, Boxed ((w1.setCell ⟨w.heap.size, 0, none⟩ v1).setCell ⟨w.heap.size + 1, 0, none⟩ (.int .i64 (at_ : Int))) w.heap.size 30 v ∧ rowS B ((w1.setCell ⟨w.heap.size, 0, none⟩ v1).setCell ⟨w.heap.size + 1, 0, none⟩ (.int .i64 (at_ : Int))) v (paysF (pre ++ [x]))) ∧ Boxed ((w1.setCell ⟨w.heap.size, 0, none⟩ v1).setCell ⟨w.heap.size + 1, 0, none⟩ (.int .i64 (at_ : Int))) (w.heap.size + 1) 3 (.int .i64 (lastF (pre ++ [x]) : Int))) ∧ Boxed ((w1.setCell ⟨w.heap.size, 0, none⟩ v1).setCell ⟨w.heap.size + 1, 0, none⟩ (.int .i64 (at_ : Int))) (w.heap.size + 2) 22 sl) ∧
      Below w.heap.size w ((w1.setCell ⟨w.heap.size, 0, none⟩ v1).setCell ⟨w.heap.size + 1, 0, none⟩ (.int .i64 (at_ : Int))) := by
  obtain ⟨hb3, _, hS1, hB1, hg1⟩ := hq
  rw [hz] at hS1
  rw [hat]
  exact read_fin hBn rfl hB hv hU hN hBW hb3 hg1 hS hB1 hS1
theorem clone_call {F : Fence} {B l : Nat} {W : World} {v : Value} {zs : List (List Int)} {p : List Int} {A2 : Option Addr} {c2 : Nat} {ok : Nat → Prop} (hF : F = Fence.wide) (hC : Kd.C (Kd.int .u8) W A2 p.length p) (hc : p.length ≤ c2) (hp : p.length ≤ 65536) (hS : Kd.S (Kd.slice 5 (Kd.int .u8)) 22 W B ok v zs) (hB : B ≤ W.heap.size) (hl : zs.length ≤ 1000000) :
    CallsIn (F.inRound l) 4 Try.prog 24 #[.slice A2 p.length c2] W.drew fun e w3 => ∃ A4 c4 A5 n5 c5 w1, e = .returned (.slice A4 p.length c4) ∧ Cloned B W v zs p A4 c4 (.slice A5 n5 c5) w1 w3 := by
  subst hF
  refine (CallsIn.inRound l ((callsIn_wide (n := 4)).2 (bytes_Clone.calls A2 c2 p _ (Kd.C_drew hC) hc (by omega)))).mono ?_
  rintro e w3 ⟨v3, rfl, ho3, hb3⟩
  obtain ⟨A4, c4, rfl⟩ := Kd.R_slice ho3
  have hb := belowDrew hb3
  obtain ⟨v1, w1, hrun, hS1, hB1, hg1⟩ := append_S (w0 := W) B (v := v) (v4 := .slice A4 p.length c4) (xs := zs) (p := p) (ok := fun _ => True) (okp := fun k => W.heap.size ≤ k) (Kd.R_lower (Kd.R_mono (Kd.R_bound ho3) (fun k hk => hk.2.1)) hB) (fun k hk => ⟨trivial, fun e => by have := Kd.S_lt hS k e.symm; omega⟩) (fun _ _ => trivial)
    (Kd.S_below (Kd.S_mono (Kd.S_bound hS) (fun k hk => ⟨trivial, by have := hk.2.2.1; omega⟩)) hb) (hb.mono hB) (Nat.le_trans hB hb.size) hl
  obtain ⟨A5, c5, rfl⟩ := Kd.S_slice hS1
  exact ⟨A4, c4, A5, _, c5, w1, rfl, hb, hrun, hS1, hB1, hg1⟩
/-- What Read tells. -/
def frame_Read.f (l : List Int) : Option (List (List Int) × Int) := if Bytes l ∧ l.length ≤ 1000000 then some ((reads (l.length + 1) l).1, ((reads (l.length + 1) l).2 : Int)) else none
set_option maxRecDepth 100000 in
set_option maxHeartbeats 8000000 in
theorem frame_Read.calls (A0 : Option Addr) (c0 : Nat) (l0 : List Int) (r1 : List (List Int)) (r2 : Int) (w : World) (hr0 : Kd.C (Kd.int .u8) w A0 l0.length l0) (hc0 : l0.length ≤ c0) (h : frame_Read.f l0 = some (r1, r2)) :
    Calls Try.prog 14 #[.slice A0 l0.length c0] w fun e w' => ∃ v0_ : Value, e = .returned (.tuple #[v0_, .int .i64 r2]) ∧ Kd.S (Kd.slice 5 (Kd.int .u8)) 22 w' w.heap.size (fun _ => True) v0_ r1 ∧ Below w.heap.size w w' := by
  have HR0 := Aside0.mk hr0
  clear hr0
  obtain ⟨hby, hl, hre⟩ : Bytes l0 ∧ l0.length ≤ 1000000 ∧ ((reads (l0.length + 1) l0).1 = r1 ∧ ((reads (l0.length + 1) l0).2 : Int) = r2) := by
    unfold frame_Read.f at h
    by_cases c : Bytes l0 ∧ l0.length ≤ 1000000
    · rw [if_pos c] at h
      simp only [Option.some.injEq, Prod.mk.injEq] at h
      exact ⟨c.1, c.2, h⟩
    · rw [if_neg c] at h; cases h
  obtain ⟨rfl, rfl⟩ := hre
  clear h
  have h1 : 1 ≤ 7 := by omega
  refine (callsIn_wide (n := 7)).1 ?_
  refine callsIn_of_wp_marks Try.func14 rfl trivial ?_ rfl
  simp only [Try.ntmps14, List.size_toArray, List.length_cons, List.length_nil, Nat.reduceAdd, Nat.reduceSub, Array.replicate_succ, Array.replicate_zero, List.push_toArray, List.append_toArray, List.nil_append, List.cons_append]
  have hf23 : Fence.wide.fn 23 := trivial
  gi_wp2_with (gi_at_call 23; refine ((callsIn_wide (n := 6)).2 (frame_frames.calls _ _ _ _)).mono ?_; rintro e w' ⟨rfl, rfl⟩)
  have bO := ((Boxed.new w 30 (.slice none 0 0)).alloc (.cells #[.int .i64 0] 3)).alloc (.cells #[.slice A0 l0.length c0] 22)
  have bU := (Boxed.new (w.alloc (.cells #[.slice none 0 0] 30)) 3 (.int .i64 0)).alloc (.cells #[.slice A0 l0.length c0] 22)
  have bN := Boxed.new ((w.alloc (.cells #[.slice none 0 0] 30)).alloc (.cells #[.int .i64 0] 3)) 22 (.slice A0 l0.length c0)
  rw [World.size_alloc] at bU
  rw [World.size_alloc, World.size_alloc] at bN
  have hB0 : Below w.heap.size w (((w.alloc (.cells #[.slice none 0 0] 30)).alloc (.cells #[.int .i64 0] 3)).alloc (.cells #[.slice A0 l0.length c0] 22)) := (((Below.refl _ w).alloc (Nat.le_refl _) _).alloc (by simp) _).alloc (by simp; omega) _
  have hsz : (((w.alloc (.cells #[.slice none 0 0] 30)).alloc (.cells #[.int .i64 0] 3)).alloc (.cells #[.slice A0 l0.length c0] 22)).heap.size = w.heap.size + 3 := by simp
  obtain ⟨W0, hW0⟩ : ∃ W0, ((w.alloc (.cells #[.slice none 0 0] 30)).alloc (.cells #[.int .i64 0] 3)).alloc (.cells #[.slice A0 l0.length c0] 22) = W0 := ⟨_, rfl⟩
  rw [hW0] at bO bU bN hB0 hsz ⊢
  clear hW0
  have hz2 : w.heap.size + 1 + 1 = w.heap.size + 2 := rfl
  rw [hz2] at bN
  refine wpIn_rangeFunc_ownH rfl h1 (gf := 28) (lb := #[.pointer (some ⟨w.heap.size + 2, 0, none⟩)]) rfl trivial (enters_of Try.func28 (by kernel_rfl) rfl)
    (frame_frames_1.stops (7 - 1) (by omega) A0 c0 l0 w W0 (w.heap.size + 2) hB0 (by omega) bN HR0.out hc0 hl hby) KeepF.trans (keepF_b (q := 2) hsz) (Below.refl _ _) (fun _ => rfl)
    (fun (pre : List (Fm w)) W => (((∃ v, Boxed W w.heap.size 30 v ∧ rowS W0.heap.size W v (paysF pre)) ∧ Boxed W (w.heap.size + 1) 3 (.int .i64 (lastF pre : Int))) ∧ Boxed W (w.heap.size + 2) 22 (.slice A0 l0.length c0)) ∧ Below w.heap.size w W)
    (fun _ _ _ => False)
    (OwnFrom.and (OwnFrom.and (OwnFrom.and (rowS.own (fun pre : List (Fm w) => paysF pre)) (Own.from (boxed_own _ _ (fun pre : List (Fm w) => .int .i64 (lastF pre : Int))) _)) (Own.from (boxed_own _ _ _) _)) (ownFrom_below (Nat.le_refl _) (by omega)))
    (fun _ _ _ _ _ hs _ _ => hs)
    ⟨⟨⟨⟨_, bO, rowS.of_S (Kd.S_nil _ _ _ _ (fun _ => True))⟩, bU⟩, bN⟩, hB0⟩
    (fun (x : Fm w) a' W => a' = { tmps := #[.slice A0 l0.length c0, undef, .slice none 0 0, .int .i64 0, .pointer (some ⟨w.heap.size, 0, none⟩), .pointer (some ⟨w.heap.size + 1, 0, none⟩), .int .i64 (x.1.1 : Int), .slice x.1.2.2.1 x.1.2.1.length x.1.2.2.2, .slice A0 l0.length c0, .func (.func 28) #[] #[.pointer (some ⟨w.heap.size + 2, 0, none⟩)], .int .i64 (x.1.1 : Int), .slice x.1.2.2.1 x.1.2.1.length x.1.2.2.2, undef, undef, undef, undef, undef, undef, undef, undef], defers := [] })
    (fun (x : Fm w) a' _ X Y row hs hg hr => hs)
    ?assign ?body ?done ?stop
  case assign =>
    rintro l pre x W K hI hK
    simp only [encF]
    gi_wp2
    exact hK _ _ (KeepsFrom.refl _ _) ⟨Below.refl _ _, rfl⟩ hI rfl
  case body =>
    rintro l pre x a' W hlW ⟨rr, hL⟩ ⟨⟨⟨⟨v, hv, hrow⟩, hU⟩, hN⟩, hB⟩ rfl hlt
    have hWs : W0.heap.size ≤ W.heap.size := Nat.le_of_lt (Nat.lt_of_le_of_lt hlW (Array.getElem?_eq_some_iff.1 hL).1)
    obtain ⟨ok, hok, hS⟩ := hrow
    obtain ⟨A, c, rfl⟩ := Kd.S_slice hS
    have HS := Aside0.mk hS
    have hpl : (paysF pre).length ≤ 1000000 := by rw [paysF, List.length_map]; omega
    obtain ⟨⟨at_, p, A2, c2⟩, hx⟩ := x
    have hc := hv.cell
    have hf := hv.frozen
    have hf24 : Fence.wide.fn 24 := trivial
    have hmx : Try.prog.follows .mixedOrders = true := by kernel_rfl
    clear hS hok
    gi_wp2
    refine wpIn_region_any (by assumption) ?_
    (try (change wpAnyIn _ _ _ _ _ _ _ _ _ (World.drew _)))
    refine wpAnyIn_ready (rs := [0, 1, 5]) (by kernel_rfl) (by simp) ?_
    refine AllReadyIn.cons rfl (fun K hK => ?_) (AllReadyIn.cons rfl (fun K hK => ?_) (AllReadyIn.cons rfl (fun K hK => ?_) AllReadyIn.nil))
    · go_simp
      refine hK _ _ ?_
      clear hK K
      refine wpAnyIn_ready (rs := [1, 5]) (by kernel_rfl) (by simp) ?_
      refine AllReadyIn.cons rfl (fun K hK => ?_) (AllReadyIn.cons rfl (fun K hK => ?_) AllReadyIn.nil)
      · go_simp
        refine hK _ _ ?_
        clear hK K
        refine wpAnyIn_ready (rs := [2, 5]) (by kernel_rfl) (by simp) ?_
        refine AllReadyIn.cons rfl (fun K hK => ?_) (AllReadyIn.cons rfl (fun K hK => ?_) AllReadyIn.nil)
        · go_simp
          gi_wp2_with (gi_at_call 24; go_loud (refine (clone_call (B := W0.heap.size) rfl (Kd.C_below hx.1 hB) hx.2.1 hx.2.2 HS.out hWs hpl).mono ?_; rintro e w3 ⟨A4, c4, A5, n5, c5, w1, rfl, hq⟩; have HQ := Aside0.mk hq; have hc3 := (boxedBelow hq.1 hv).cell; have hc4 := ((boxedBelow hq.1 hv).alloc (.cells #[.slice A4 p.length c4] 22)).cell; clear hq))
          refine wpAnyIn_ready (rs := [3, 5]) (by kernel_rfl) (by simp) ?_
          refine AllReadyIn.cons rfl (fun K hK => ?_) (AllReadyIn.cons rfl (fun K hK => ?_) AllReadyIn.nil)
          · go_simp
            refine hK _ _ ?_
            clear hK K
            refine wpAnyIn_ready (rs := [4, 5]) (by kernel_rfl) (by simp) ?_
            refine AllReadyIn.cons rfl (fun K hK => ?_) (AllReadyIn.cons rfl (fun K hK => ?_) AllReadyIn.nil)
            · rw [if_pos (by rfl)]
              refine append_In (.tmp 12) (.tmp 15) rfl rfl rfl rfl HQ.out.2.1 ?_
              have hv1 : Boxed w1 w.heap.size 30 _ := (HQ.out.2.2.2.1.block w.heap.size (by omega)).trans hv
              have hU1 : Boxed w1 (w.heap.size + 1) 3 _ := (HQ.out.2.2.2.1.block (w.heap.size + 1) (by omega)).trans hU
              have hcv := hv1.cell
              have hfv := hv1.frozen
              have hU2 := hU1.other (B' := w.heap.size) (by omega) (.slice A5 n5 c5)
              have hcu := hU2.cell
              have hfu := hU2.frozen
              refine hK _ _ ?_
              clear hK K
              refine wpAnyIn_ready (rs := [5, 6]) (by kernel_rfl) (by simp) ?_
              refine AllReadyIn.cons rfl (fun K hK => ?_) (AllReadyIn.cons rfl (fun K hK => ?_) AllReadyIn.nil)
              · go_simp
                refine hK _ _ ?_
                clear hK K
                refine wpAnyIn_ready (rs := [6]) (by kernel_rfl) (by simp) ?_
                refine AllReadyIn.cons rfl (fun K hK => ?_) AllReadyIn.nil
                go_simp
                refine hK _ _ ?_
                clear hK K
                refine wpAnyIn_ready (rs := [7]) (by kernel_rfl) (by simp) ?_
                refine AllReadyIn.cons rfl (fun K hK => ?_) AllReadyIn.nil
                go_simp
                refine hK _ _ ?_
                clear hK K
                refine wpAnyIn_done (by kernel_rfl) ?_ _
                exact read_finI hsz hB hv hU hN hWs HQ.out HS.out (by simp [paysF]) (lastF_snoc _ _)
              · go_simp
                refine hK _ _ ?_
                clear hK K
                refine wpAnyIn_ready (rs := [5]) (by kernel_rfl) (by simp) ?_
                refine AllReadyIn.cons rfl (fun K hK => ?_) AllReadyIn.nil
                go_simp
                refine hK _ _ ?_
                clear hK K
                refine wpAnyIn_ready (rs := [7]) (by kernel_rfl) (by simp) ?_
                refine AllReadyIn.cons rfl (fun K hK => ?_) AllReadyIn.nil
                go_simp
                refine hK _ _ ?_
                clear hK K
                refine wpAnyIn_done (by kernel_rfl) ?_ _
                exact read_finI hsz hB hv hU hN hWs HQ.out HS.out (by simp [paysF]) (lastF_snoc _ _)
            · go_simp
              refine hK _ _ ?_
              clear hK K
              refine wpAnyIn_ready (rs := [4]) (by kernel_rfl) (by simp) ?_
              refine AllReadyIn.cons rfl (fun K hK => ?_) AllReadyIn.nil
              rw [if_pos (by rfl)]
              refine append_In (.tmp 12) (.tmp 15) rfl rfl rfl rfl HQ.out.2.1 ?_
              have hv1 : Boxed w1 w.heap.size 30 _ := (HQ.out.2.2.2.1.block w.heap.size (by omega)).trans hv
              have hU1 : Boxed w1 (w.heap.size + 1) 3 _ := (HQ.out.2.2.2.1.block (w.heap.size + 1) (by omega)).trans hU
              have hcv := hv1.cell
              have hfv := hv1.frozen
              have hU2 := hU1.other (B' := w.heap.size) (by omega) (.slice A5 n5 c5)
              have hcu := hU2.cell
              have hfu := hU2.frozen
              refine hK _ _ ?_
              clear hK K
              refine wpAnyIn_ready (rs := [6]) (by kernel_rfl) (by simp) ?_
              refine AllReadyIn.cons rfl (fun K hK => ?_) AllReadyIn.nil
              go_simp
              refine hK _ _ ?_
              clear hK K
              refine wpAnyIn_ready (rs := [7]) (by kernel_rfl) (by simp) ?_
              refine AllReadyIn.cons rfl (fun K hK => ?_) AllReadyIn.nil
              go_simp
              refine hK _ _ ?_
              clear hK K
              refine wpAnyIn_done (by kernel_rfl) ?_ _
              exact read_finI hsz hB hv hU hN hWs HQ.out HS.out (by simp [paysF]) (lastF_snoc _ _)
          · go_simp
            refine hK _ _ ?_
            clear hK K
            refine wpAnyIn_ready (rs := [3]) (by kernel_rfl) (by simp) ?_
            refine AllReadyIn.cons rfl (fun K hK => ?_) AllReadyIn.nil
            go_simp
            refine hK _ _ ?_
            clear hK K
            refine wpAnyIn_ready (rs := [4]) (by kernel_rfl) (by simp) ?_
            refine AllReadyIn.cons rfl (fun K hK => ?_) AllReadyIn.nil
            rw [if_pos (by rfl)]
            refine append_In (.tmp 12) (.tmp 15) rfl rfl rfl rfl HQ.out.2.1 ?_
            have hv1 : Boxed w1 w.heap.size 30 _ := (HQ.out.2.2.2.1.block w.heap.size (by omega)).trans hv
            have hU1 : Boxed w1 (w.heap.size + 1) 3 _ := (HQ.out.2.2.2.1.block (w.heap.size + 1) (by omega)).trans hU
            have hcv := hv1.cell
            have hfv := hv1.frozen
            have hU2 := hU1.other (B' := w.heap.size) (by omega) (.slice A5 n5 c5)
            have hcu := hU2.cell
            have hfu := hU2.frozen
            refine hK _ _ ?_
            clear hK K
            refine wpAnyIn_ready (rs := [6]) (by kernel_rfl) (by simp) ?_
            refine AllReadyIn.cons rfl (fun K hK => ?_) AllReadyIn.nil
            go_simp
            refine hK _ _ ?_
            clear hK K
            refine wpAnyIn_ready (rs := [7]) (by kernel_rfl) (by simp) ?_
            refine AllReadyIn.cons rfl (fun K hK => ?_) AllReadyIn.nil
            go_simp
            refine hK _ _ ?_
            clear hK K
            refine wpAnyIn_done (by kernel_rfl) ?_ _
            exact read_finI hsz hB hv hU hN hWs HQ.out HS.out (by simp [paysF]) (lastF_snoc _ _)
        · go_simp
          refine hK _ _ ?_
          clear hK K
          refine wpAnyIn_ready (rs := [2]) (by kernel_rfl) (by simp) ?_
          refine AllReadyIn.cons rfl (fun K hK => ?_) AllReadyIn.nil
          go_simp
          gi_wp2_with (gi_at_call 24; go_loud (refine (clone_call (B := W0.heap.size) rfl (Kd.C_below hx.1 hB) hx.2.1 hx.2.2 HS.out hWs hpl).mono ?_; rintro e w3 ⟨A4, c4, A5, n5, c5, w1, rfl, hq⟩; have HQ := Aside0.mk hq; have hc3 := (boxedBelow hq.1 hv).cell; have hc4 := ((boxedBelow hq.1 hv).alloc (.cells #[.slice A4 p.length c4] 22)).cell; clear hq))
          refine wpAnyIn_ready (rs := [3]) (by kernel_rfl) (by simp) ?_
          refine AllReadyIn.cons rfl (fun K hK => ?_) AllReadyIn.nil
          go_simp
          refine hK _ _ ?_
          clear hK K
          refine wpAnyIn_ready (rs := [4]) (by kernel_rfl) (by simp) ?_
          refine AllReadyIn.cons rfl (fun K hK => ?_) AllReadyIn.nil
          rw [if_pos (by rfl)]
          refine append_In (.tmp 12) (.tmp 15) rfl rfl rfl rfl HQ.out.2.1 ?_
          have hv1 : Boxed w1 w.heap.size 30 _ := (HQ.out.2.2.2.1.block w.heap.size (by omega)).trans hv
          have hU1 : Boxed w1 (w.heap.size + 1) 3 _ := (HQ.out.2.2.2.1.block (w.heap.size + 1) (by omega)).trans hU
          have hcv := hv1.cell
          have hfv := hv1.frozen
          have hU2 := hU1.other (B' := w.heap.size) (by omega) (.slice A5 n5 c5)
          have hcu := hU2.cell
          have hfu := hU2.frozen
          refine hK _ _ ?_
          clear hK K
          refine wpAnyIn_ready (rs := [6]) (by kernel_rfl) (by simp) ?_
          refine AllReadyIn.cons rfl (fun K hK => ?_) AllReadyIn.nil
          go_simp
          refine hK _ _ ?_
          clear hK K
          refine wpAnyIn_ready (rs := [7]) (by kernel_rfl) (by simp) ?_
          refine AllReadyIn.cons rfl (fun K hK => ?_) AllReadyIn.nil
          go_simp
          refine hK _ _ ?_
          clear hK K
          refine wpAnyIn_done (by kernel_rfl) ?_ _
          exact read_finI hsz hB hv hU hN hWs HQ.out HS.out (by simp [paysF]) (lastF_snoc _ _)
      · go_simp
        refine hK _ _ ?_
        clear hK K
        refine wpAnyIn_ready (rs := [1]) (by kernel_rfl) (by simp) ?_
        refine AllReadyIn.cons rfl (fun K hK => ?_) AllReadyIn.nil
        go_simp
        refine hK _ _ ?_
        clear hK K
        refine wpAnyIn_ready (rs := [2]) (by kernel_rfl) (by simp) ?_
        refine AllReadyIn.cons rfl (fun K hK => ?_) AllReadyIn.nil
        go_simp
        gi_wp2_with (gi_at_call 24; go_loud (refine (clone_call (B := W0.heap.size) rfl (Kd.C_below hx.1 hB) hx.2.1 hx.2.2 HS.out hWs hpl).mono ?_; rintro e w3 ⟨A4, c4, A5, n5, c5, w1, rfl, hq⟩; have HQ := Aside0.mk hq; have hc3 := (boxedBelow hq.1 hv).cell; have hc4 := ((boxedBelow hq.1 hv).alloc (.cells #[.slice A4 p.length c4] 22)).cell; clear hq))
        refine wpAnyIn_ready (rs := [3]) (by kernel_rfl) (by simp) ?_
        refine AllReadyIn.cons rfl (fun K hK => ?_) AllReadyIn.nil
        go_simp
        refine hK _ _ ?_
        clear hK K
        refine wpAnyIn_ready (rs := [4]) (by kernel_rfl) (by simp) ?_
        refine AllReadyIn.cons rfl (fun K hK => ?_) AllReadyIn.nil
        rw [if_pos (by rfl)]
        refine append_In (.tmp 12) (.tmp 15) rfl rfl rfl rfl HQ.out.2.1 ?_
        have hv1 : Boxed w1 w.heap.size 30 _ := (HQ.out.2.2.2.1.block w.heap.size (by omega)).trans hv
        have hU1 : Boxed w1 (w.heap.size + 1) 3 _ := (HQ.out.2.2.2.1.block (w.heap.size + 1) (by omega)).trans hU
        have hcv := hv1.cell
        have hfv := hv1.frozen
        have hU2 := hU1.other (B' := w.heap.size) (by omega) (.slice A5 n5 c5)
        have hcu := hU2.cell
        have hfu := hU2.frozen
        refine hK _ _ ?_
        clear hK K
        refine wpAnyIn_ready (rs := [6]) (by kernel_rfl) (by simp) ?_
        refine AllReadyIn.cons rfl (fun K hK => ?_) AllReadyIn.nil
        go_simp
        refine hK _ _ ?_
        clear hK K
        refine wpAnyIn_ready (rs := [7]) (by kernel_rfl) (by simp) ?_
        refine AllReadyIn.cons rfl (fun K hK => ?_) AllReadyIn.nil
        go_simp
        refine hK _ _ ?_
        clear hK K
        refine wpAnyIn_done (by kernel_rfl) ?_ _
        exact read_finI hsz hB hv hU hN hWs HQ.out HS.out (by simp [paysF]) (lastF_snoc _ _)
    · go_simp
      refine hK _ _ ?_
      clear hK K
      refine wpAnyIn_ready (rs := [0, 2, 5]) (by kernel_rfl) (by simp) ?_
      refine AllReadyIn.cons rfl (fun K hK => ?_) (AllReadyIn.cons rfl (fun K hK => ?_) (AllReadyIn.cons rfl (fun K hK => ?_) AllReadyIn.nil))
      · go_simp
        refine hK _ _ ?_
        clear hK K
        refine wpAnyIn_ready (rs := [2, 5]) (by kernel_rfl) (by simp) ?_
        refine AllReadyIn.cons rfl (fun K hK => ?_) (AllReadyIn.cons rfl (fun K hK => ?_) AllReadyIn.nil)
        · go_simp
          gi_wp2_with (gi_at_call 24; go_loud (refine (clone_call (B := W0.heap.size) rfl (Kd.C_below hx.1 hB) hx.2.1 hx.2.2 HS.out hWs hpl).mono ?_; rintro e w3 ⟨A4, c4, A5, n5, c5, w1, rfl, hq⟩; have HQ := Aside0.mk hq; have hc3 := (boxedBelow hq.1 hv).cell; have hc4 := ((boxedBelow hq.1 hv).alloc (.cells #[.slice A4 p.length c4] 22)).cell; clear hq))
          refine wpAnyIn_ready (rs := [3, 5]) (by kernel_rfl) (by simp) ?_
          refine AllReadyIn.cons rfl (fun K hK => ?_) (AllReadyIn.cons rfl (fun K hK => ?_) AllReadyIn.nil)
          · go_simp
            refine hK _ _ ?_
            clear hK K
            refine wpAnyIn_ready (rs := [4, 5]) (by kernel_rfl) (by simp) ?_
            refine AllReadyIn.cons rfl (fun K hK => ?_) (AllReadyIn.cons rfl (fun K hK => ?_) AllReadyIn.nil)
            · rw [if_pos (by rfl)]
              refine append_In (.tmp 12) (.tmp 15) rfl rfl rfl rfl HQ.out.2.1 ?_
              have hv1 : Boxed w1 w.heap.size 30 _ := (HQ.out.2.2.2.1.block w.heap.size (by omega)).trans hv
              have hU1 : Boxed w1 (w.heap.size + 1) 3 _ := (HQ.out.2.2.2.1.block (w.heap.size + 1) (by omega)).trans hU
              have hcv := hv1.cell
              have hfv := hv1.frozen
              have hU2 := hU1.other (B' := w.heap.size) (by omega) (.slice A5 n5 c5)
              have hcu := hU2.cell
              have hfu := hU2.frozen
              refine hK _ _ ?_
              clear hK K
              refine wpAnyIn_ready (rs := [5, 6]) (by kernel_rfl) (by simp) ?_
              refine AllReadyIn.cons rfl (fun K hK => ?_) (AllReadyIn.cons rfl (fun K hK => ?_) AllReadyIn.nil)
              · go_simp
                refine hK _ _ ?_
                clear hK K
                refine wpAnyIn_ready (rs := [6]) (by kernel_rfl) (by simp) ?_
                refine AllReadyIn.cons rfl (fun K hK => ?_) AllReadyIn.nil
                go_simp
                refine hK _ _ ?_
                clear hK K
                refine wpAnyIn_ready (rs := [7]) (by kernel_rfl) (by simp) ?_
                refine AllReadyIn.cons rfl (fun K hK => ?_) AllReadyIn.nil
                go_simp
                refine hK _ _ ?_
                clear hK K
                refine wpAnyIn_done (by kernel_rfl) ?_ _
                exact read_finI hsz hB hv hU hN hWs HQ.out HS.out (by simp [paysF]) (lastF_snoc _ _)
              · go_simp
                refine hK _ _ ?_
                clear hK K
                refine wpAnyIn_ready (rs := [5]) (by kernel_rfl) (by simp) ?_
                refine AllReadyIn.cons rfl (fun K hK => ?_) AllReadyIn.nil
                go_simp
                refine hK _ _ ?_
                clear hK K
                refine wpAnyIn_ready (rs := [7]) (by kernel_rfl) (by simp) ?_
                refine AllReadyIn.cons rfl (fun K hK => ?_) AllReadyIn.nil
                go_simp
                refine hK _ _ ?_
                clear hK K
                refine wpAnyIn_done (by kernel_rfl) ?_ _
                exact read_finI hsz hB hv hU hN hWs HQ.out HS.out (by simp [paysF]) (lastF_snoc _ _)
            · go_simp
              refine hK _ _ ?_
              clear hK K
              refine wpAnyIn_ready (rs := [4]) (by kernel_rfl) (by simp) ?_
              refine AllReadyIn.cons rfl (fun K hK => ?_) AllReadyIn.nil
              rw [if_pos (by rfl)]
              refine append_In (.tmp 12) (.tmp 15) rfl rfl rfl rfl HQ.out.2.1 ?_
              have hv1 : Boxed w1 w.heap.size 30 _ := (HQ.out.2.2.2.1.block w.heap.size (by omega)).trans hv
              have hU1 : Boxed w1 (w.heap.size + 1) 3 _ := (HQ.out.2.2.2.1.block (w.heap.size + 1) (by omega)).trans hU
              have hcv := hv1.cell
              have hfv := hv1.frozen
              have hU2 := hU1.other (B' := w.heap.size) (by omega) (.slice A5 n5 c5)
              have hcu := hU2.cell
              have hfu := hU2.frozen
              refine hK _ _ ?_
              clear hK K
              refine wpAnyIn_ready (rs := [6]) (by kernel_rfl) (by simp) ?_
              refine AllReadyIn.cons rfl (fun K hK => ?_) AllReadyIn.nil
              go_simp
              refine hK _ _ ?_
              clear hK K
              refine wpAnyIn_ready (rs := [7]) (by kernel_rfl) (by simp) ?_
              refine AllReadyIn.cons rfl (fun K hK => ?_) AllReadyIn.nil
              go_simp
              refine hK _ _ ?_
              clear hK K
              refine wpAnyIn_done (by kernel_rfl) ?_ _
              exact read_finI hsz hB hv hU hN hWs HQ.out HS.out (by simp [paysF]) (lastF_snoc _ _)
          · go_simp
            refine hK _ _ ?_
            clear hK K
            refine wpAnyIn_ready (rs := [3]) (by kernel_rfl) (by simp) ?_
            refine AllReadyIn.cons rfl (fun K hK => ?_) AllReadyIn.nil
            go_simp
            refine hK _ _ ?_
            clear hK K
            refine wpAnyIn_ready (rs := [4]) (by kernel_rfl) (by simp) ?_
            refine AllReadyIn.cons rfl (fun K hK => ?_) AllReadyIn.nil
            rw [if_pos (by rfl)]
            refine append_In (.tmp 12) (.tmp 15) rfl rfl rfl rfl HQ.out.2.1 ?_
            have hv1 : Boxed w1 w.heap.size 30 _ := (HQ.out.2.2.2.1.block w.heap.size (by omega)).trans hv
            have hU1 : Boxed w1 (w.heap.size + 1) 3 _ := (HQ.out.2.2.2.1.block (w.heap.size + 1) (by omega)).trans hU
            have hcv := hv1.cell
            have hfv := hv1.frozen
            have hU2 := hU1.other (B' := w.heap.size) (by omega) (.slice A5 n5 c5)
            have hcu := hU2.cell
            have hfu := hU2.frozen
            refine hK _ _ ?_
            clear hK K
            refine wpAnyIn_ready (rs := [6]) (by kernel_rfl) (by simp) ?_
            refine AllReadyIn.cons rfl (fun K hK => ?_) AllReadyIn.nil
            go_simp
            refine hK _ _ ?_
            clear hK K
            refine wpAnyIn_ready (rs := [7]) (by kernel_rfl) (by simp) ?_
            refine AllReadyIn.cons rfl (fun K hK => ?_) AllReadyIn.nil
            go_simp
            refine hK _ _ ?_
            clear hK K
            refine wpAnyIn_done (by kernel_rfl) ?_ _
            exact read_finI hsz hB hv hU hN hWs HQ.out HS.out (by simp [paysF]) (lastF_snoc _ _)
        · go_simp
          refine hK _ _ ?_
          clear hK K
          refine wpAnyIn_ready (rs := [2]) (by kernel_rfl) (by simp) ?_
          refine AllReadyIn.cons rfl (fun K hK => ?_) AllReadyIn.nil
          go_simp
          gi_wp2_with (gi_at_call 24; go_loud (refine (clone_call (B := W0.heap.size) rfl (Kd.C_below hx.1 hB) hx.2.1 hx.2.2 HS.out hWs hpl).mono ?_; rintro e w3 ⟨A4, c4, A5, n5, c5, w1, rfl, hq⟩; have HQ := Aside0.mk hq; have hc3 := (boxedBelow hq.1 hv).cell; have hc4 := ((boxedBelow hq.1 hv).alloc (.cells #[.slice A4 p.length c4] 22)).cell; clear hq))
          refine wpAnyIn_ready (rs := [3]) (by kernel_rfl) (by simp) ?_
          refine AllReadyIn.cons rfl (fun K hK => ?_) AllReadyIn.nil
          go_simp
          refine hK _ _ ?_
          clear hK K
          refine wpAnyIn_ready (rs := [4]) (by kernel_rfl) (by simp) ?_
          refine AllReadyIn.cons rfl (fun K hK => ?_) AllReadyIn.nil
          rw [if_pos (by rfl)]
          refine append_In (.tmp 12) (.tmp 15) rfl rfl rfl rfl HQ.out.2.1 ?_
          have hv1 : Boxed w1 w.heap.size 30 _ := (HQ.out.2.2.2.1.block w.heap.size (by omega)).trans hv
          have hU1 : Boxed w1 (w.heap.size + 1) 3 _ := (HQ.out.2.2.2.1.block (w.heap.size + 1) (by omega)).trans hU
          have hcv := hv1.cell
          have hfv := hv1.frozen
          have hU2 := hU1.other (B' := w.heap.size) (by omega) (.slice A5 n5 c5)
          have hcu := hU2.cell
          have hfu := hU2.frozen
          refine hK _ _ ?_
          clear hK K
          refine wpAnyIn_ready (rs := [6]) (by kernel_rfl) (by simp) ?_
          refine AllReadyIn.cons rfl (fun K hK => ?_) AllReadyIn.nil
          go_simp
          refine hK _ _ ?_
          clear hK K
          refine wpAnyIn_ready (rs := [7]) (by kernel_rfl) (by simp) ?_
          refine AllReadyIn.cons rfl (fun K hK => ?_) AllReadyIn.nil
          go_simp
          refine hK _ _ ?_
          clear hK K
          refine wpAnyIn_done (by kernel_rfl) ?_ _
          exact read_finI hsz hB hv hU hN hWs HQ.out HS.out (by simp [paysF]) (lastF_snoc _ _)
      · go_simp
        gi_wp2_with (gi_at_call 24; go_loud (refine (clone_call (B := W0.heap.size) rfl (Kd.C_below hx.1 hB) hx.2.1 hx.2.2 HS.out hWs hpl).mono ?_; rintro e w3 ⟨A4, c4, A5, n5, c5, w1, rfl, hq⟩; have HQ := Aside0.mk hq; have hc3 := (boxedBelow hq.1 hv).cell; have hc4 := ((boxedBelow hq.1 hv).alloc (.cells #[.slice A4 p.length c4] 22)).cell; clear hq))
        refine wpAnyIn_ready (rs := [0, 3, 5]) (by kernel_rfl) (by simp) ?_
        refine AllReadyIn.cons rfl (fun K hK => ?_) (AllReadyIn.cons rfl (fun K hK => ?_) (AllReadyIn.cons rfl (fun K hK => ?_) AllReadyIn.nil))
        · go_simp
          refine hK _ _ ?_
          clear hK K
          refine wpAnyIn_ready (rs := [3, 5]) (by kernel_rfl) (by simp) ?_
          refine AllReadyIn.cons rfl (fun K hK => ?_) (AllReadyIn.cons rfl (fun K hK => ?_) AllReadyIn.nil)
          · go_simp
            refine hK _ _ ?_
            clear hK K
            refine wpAnyIn_ready (rs := [4, 5]) (by kernel_rfl) (by simp) ?_
            refine AllReadyIn.cons rfl (fun K hK => ?_) (AllReadyIn.cons rfl (fun K hK => ?_) AllReadyIn.nil)
            · rw [if_pos (by rfl)]
              refine append_In (.tmp 12) (.tmp 15) rfl rfl rfl rfl HQ.out.2.1 ?_
              have hv1 : Boxed w1 w.heap.size 30 _ := (HQ.out.2.2.2.1.block w.heap.size (by omega)).trans hv
              have hU1 : Boxed w1 (w.heap.size + 1) 3 _ := (HQ.out.2.2.2.1.block (w.heap.size + 1) (by omega)).trans hU
              have hcv := hv1.cell
              have hfv := hv1.frozen
              have hU2 := hU1.other (B' := w.heap.size) (by omega) (.slice A5 n5 c5)
              have hcu := hU2.cell
              have hfu := hU2.frozen
              refine hK _ _ ?_
              clear hK K
              refine wpAnyIn_ready (rs := [5, 6]) (by kernel_rfl) (by simp) ?_
              refine AllReadyIn.cons rfl (fun K hK => ?_) (AllReadyIn.cons rfl (fun K hK => ?_) AllReadyIn.nil)
              · go_simp
                refine hK _ _ ?_
                clear hK K
                refine wpAnyIn_ready (rs := [6]) (by kernel_rfl) (by simp) ?_
                refine AllReadyIn.cons rfl (fun K hK => ?_) AllReadyIn.nil
                go_simp
                refine hK _ _ ?_
                clear hK K
                refine wpAnyIn_ready (rs := [7]) (by kernel_rfl) (by simp) ?_
                refine AllReadyIn.cons rfl (fun K hK => ?_) AllReadyIn.nil
                go_simp
                refine hK _ _ ?_
                clear hK K
                refine wpAnyIn_done (by kernel_rfl) ?_ _
                exact read_finI hsz hB hv hU hN hWs HQ.out HS.out (by simp [paysF]) (lastF_snoc _ _)
              · go_simp
                refine hK _ _ ?_
                clear hK K
                refine wpAnyIn_ready (rs := [5]) (by kernel_rfl) (by simp) ?_
                refine AllReadyIn.cons rfl (fun K hK => ?_) AllReadyIn.nil
                go_simp
                refine hK _ _ ?_
                clear hK K
                refine wpAnyIn_ready (rs := [7]) (by kernel_rfl) (by simp) ?_
                refine AllReadyIn.cons rfl (fun K hK => ?_) AllReadyIn.nil
                go_simp
                refine hK _ _ ?_
                clear hK K
                refine wpAnyIn_done (by kernel_rfl) ?_ _
                exact read_finI hsz hB hv hU hN hWs HQ.out HS.out (by simp [paysF]) (lastF_snoc _ _)
            · go_simp
              refine hK _ _ ?_
              clear hK K
              refine wpAnyIn_ready (rs := [4]) (by kernel_rfl) (by simp) ?_
              refine AllReadyIn.cons rfl (fun K hK => ?_) AllReadyIn.nil
              rw [if_pos (by rfl)]
              refine append_In (.tmp 12) (.tmp 15) rfl rfl rfl rfl HQ.out.2.1 ?_
              have hv1 : Boxed w1 w.heap.size 30 _ := (HQ.out.2.2.2.1.block w.heap.size (by omega)).trans hv
              have hU1 : Boxed w1 (w.heap.size + 1) 3 _ := (HQ.out.2.2.2.1.block (w.heap.size + 1) (by omega)).trans hU
              have hcv := hv1.cell
              have hfv := hv1.frozen
              have hU2 := hU1.other (B' := w.heap.size) (by omega) (.slice A5 n5 c5)
              have hcu := hU2.cell
              have hfu := hU2.frozen
              refine hK _ _ ?_
              clear hK K
              refine wpAnyIn_ready (rs := [6]) (by kernel_rfl) (by simp) ?_
              refine AllReadyIn.cons rfl (fun K hK => ?_) AllReadyIn.nil
              go_simp
              refine hK _ _ ?_
              clear hK K
              refine wpAnyIn_ready (rs := [7]) (by kernel_rfl) (by simp) ?_
              refine AllReadyIn.cons rfl (fun K hK => ?_) AllReadyIn.nil
              go_simp
              refine hK _ _ ?_
              clear hK K
              refine wpAnyIn_done (by kernel_rfl) ?_ _
              exact read_finI hsz hB hv hU hN hWs HQ.out HS.out (by simp [paysF]) (lastF_snoc _ _)
          · go_simp
            refine hK _ _ ?_
            clear hK K
            refine wpAnyIn_ready (rs := [3]) (by kernel_rfl) (by simp) ?_
            refine AllReadyIn.cons rfl (fun K hK => ?_) AllReadyIn.nil
            go_simp
            refine hK _ _ ?_
            clear hK K
            refine wpAnyIn_ready (rs := [4]) (by kernel_rfl) (by simp) ?_
            refine AllReadyIn.cons rfl (fun K hK => ?_) AllReadyIn.nil
            rw [if_pos (by rfl)]
            refine append_In (.tmp 12) (.tmp 15) rfl rfl rfl rfl HQ.out.2.1 ?_
            have hv1 : Boxed w1 w.heap.size 30 _ := (HQ.out.2.2.2.1.block w.heap.size (by omega)).trans hv
            have hU1 : Boxed w1 (w.heap.size + 1) 3 _ := (HQ.out.2.2.2.1.block (w.heap.size + 1) (by omega)).trans hU
            have hcv := hv1.cell
            have hfv := hv1.frozen
            have hU2 := hU1.other (B' := w.heap.size) (by omega) (.slice A5 n5 c5)
            have hcu := hU2.cell
            have hfu := hU2.frozen
            refine hK _ _ ?_
            clear hK K
            refine wpAnyIn_ready (rs := [6]) (by kernel_rfl) (by simp) ?_
            refine AllReadyIn.cons rfl (fun K hK => ?_) AllReadyIn.nil
            go_simp
            refine hK _ _ ?_
            clear hK K
            refine wpAnyIn_ready (rs := [7]) (by kernel_rfl) (by simp) ?_
            refine AllReadyIn.cons rfl (fun K hK => ?_) AllReadyIn.nil
            go_simp
            refine hK _ _ ?_
            clear hK K
            refine wpAnyIn_done (by kernel_rfl) ?_ _
            exact read_finI hsz hB hv hU hN hWs HQ.out HS.out (by simp [paysF]) (lastF_snoc _ _)
        · go_simp
          refine hK _ _ ?_
          clear hK K
          refine wpAnyIn_ready (rs := [0, 5]) (by kernel_rfl) (by simp) ?_
          refine AllReadyIn.cons rfl (fun K hK => ?_) (AllReadyIn.cons rfl (fun K hK => ?_) AllReadyIn.nil)
          · go_simp
            refine hK _ _ ?_
            clear hK K
            refine wpAnyIn_ready (rs := [4, 5]) (by kernel_rfl) (by simp) ?_
            refine AllReadyIn.cons rfl (fun K hK => ?_) (AllReadyIn.cons rfl (fun K hK => ?_) AllReadyIn.nil)
            · rw [if_pos (by rfl)]
              refine append_In (.tmp 12) (.tmp 15) rfl rfl rfl rfl HQ.out.2.1 ?_
              have hv1 : Boxed w1 w.heap.size 30 _ := (HQ.out.2.2.2.1.block w.heap.size (by omega)).trans hv
              have hU1 : Boxed w1 (w.heap.size + 1) 3 _ := (HQ.out.2.2.2.1.block (w.heap.size + 1) (by omega)).trans hU
              have hcv := hv1.cell
              have hfv := hv1.frozen
              have hU2 := hU1.other (B' := w.heap.size) (by omega) (.slice A5 n5 c5)
              have hcu := hU2.cell
              have hfu := hU2.frozen
              refine hK _ _ ?_
              clear hK K
              refine wpAnyIn_ready (rs := [5, 6]) (by kernel_rfl) (by simp) ?_
              refine AllReadyIn.cons rfl (fun K hK => ?_) (AllReadyIn.cons rfl (fun K hK => ?_) AllReadyIn.nil)
              · go_simp
                refine hK _ _ ?_
                clear hK K
                refine wpAnyIn_ready (rs := [6]) (by kernel_rfl) (by simp) ?_
                refine AllReadyIn.cons rfl (fun K hK => ?_) AllReadyIn.nil
                go_simp
                refine hK _ _ ?_
                clear hK K
                refine wpAnyIn_ready (rs := [7]) (by kernel_rfl) (by simp) ?_
                refine AllReadyIn.cons rfl (fun K hK => ?_) AllReadyIn.nil
                go_simp
                refine hK _ _ ?_
                clear hK K
                refine wpAnyIn_done (by kernel_rfl) ?_ _
                exact read_finI hsz hB hv hU hN hWs HQ.out HS.out (by simp [paysF]) (lastF_snoc _ _)
              · go_simp
                refine hK _ _ ?_
                clear hK K
                refine wpAnyIn_ready (rs := [5]) (by kernel_rfl) (by simp) ?_
                refine AllReadyIn.cons rfl (fun K hK => ?_) AllReadyIn.nil
                go_simp
                refine hK _ _ ?_
                clear hK K
                refine wpAnyIn_ready (rs := [7]) (by kernel_rfl) (by simp) ?_
                refine AllReadyIn.cons rfl (fun K hK => ?_) AllReadyIn.nil
                go_simp
                refine hK _ _ ?_
                clear hK K
                refine wpAnyIn_done (by kernel_rfl) ?_ _
                exact read_finI hsz hB hv hU hN hWs HQ.out HS.out (by simp [paysF]) (lastF_snoc _ _)
            · go_simp
              refine hK _ _ ?_
              clear hK K
              refine wpAnyIn_ready (rs := [4]) (by kernel_rfl) (by simp) ?_
              refine AllReadyIn.cons rfl (fun K hK => ?_) AllReadyIn.nil
              rw [if_pos (by rfl)]
              refine append_In (.tmp 12) (.tmp 15) rfl rfl rfl rfl HQ.out.2.1 ?_
              have hv1 : Boxed w1 w.heap.size 30 _ := (HQ.out.2.2.2.1.block w.heap.size (by omega)).trans hv
              have hU1 : Boxed w1 (w.heap.size + 1) 3 _ := (HQ.out.2.2.2.1.block (w.heap.size + 1) (by omega)).trans hU
              have hcv := hv1.cell
              have hfv := hv1.frozen
              have hU2 := hU1.other (B' := w.heap.size) (by omega) (.slice A5 n5 c5)
              have hcu := hU2.cell
              have hfu := hU2.frozen
              refine hK _ _ ?_
              clear hK K
              refine wpAnyIn_ready (rs := [6]) (by kernel_rfl) (by simp) ?_
              refine AllReadyIn.cons rfl (fun K hK => ?_) AllReadyIn.nil
              go_simp
              refine hK _ _ ?_
              clear hK K
              refine wpAnyIn_ready (rs := [7]) (by kernel_rfl) (by simp) ?_
              refine AllReadyIn.cons rfl (fun K hK => ?_) AllReadyIn.nil
              go_simp
              refine hK _ _ ?_
              clear hK K
              refine wpAnyIn_done (by kernel_rfl) ?_ _
              exact read_finI hsz hB hv hU hN hWs HQ.out HS.out (by simp [paysF]) (lastF_snoc _ _)
          · go_simp
            refine hK _ _ ?_
            clear hK K
            refine wpAnyIn_ready (rs := [0]) (by kernel_rfl) (by simp) ?_
            refine AllReadyIn.cons rfl (fun K hK => ?_) AllReadyIn.nil
            go_simp
            refine hK _ _ ?_
            clear hK K
            refine wpAnyIn_ready (rs := [4]) (by kernel_rfl) (by simp) ?_
            refine AllReadyIn.cons rfl (fun K hK => ?_) AllReadyIn.nil
            rw [if_pos (by rfl)]
            refine append_In (.tmp 12) (.tmp 15) rfl rfl rfl rfl HQ.out.2.1 ?_
            have hv1 : Boxed w1 w.heap.size 30 _ := (HQ.out.2.2.2.1.block w.heap.size (by omega)).trans hv
            have hU1 : Boxed w1 (w.heap.size + 1) 3 _ := (HQ.out.2.2.2.1.block (w.heap.size + 1) (by omega)).trans hU
            have hcv := hv1.cell
            have hfv := hv1.frozen
            have hU2 := hU1.other (B' := w.heap.size) (by omega) (.slice A5 n5 c5)
            have hcu := hU2.cell
            have hfu := hU2.frozen
            refine hK _ _ ?_
            clear hK K
            refine wpAnyIn_ready (rs := [6]) (by kernel_rfl) (by simp) ?_
            refine AllReadyIn.cons rfl (fun K hK => ?_) AllReadyIn.nil
            go_simp
            refine hK _ _ ?_
            clear hK K
            refine wpAnyIn_ready (rs := [7]) (by kernel_rfl) (by simp) ?_
            refine AllReadyIn.cons rfl (fun K hK => ?_) AllReadyIn.nil
            go_simp
            refine hK _ _ ?_
            clear hK K
            refine wpAnyIn_done (by kernel_rfl) ?_ _
            exact read_finI hsz hB hv hU hN hWs HQ.out HS.out (by simp [paysF]) (lastF_snoc _ _)
        · go_simp
          refine hK _ _ ?_
          clear hK K
          refine wpAnyIn_ready (rs := [0, 3]) (by kernel_rfl) (by simp) ?_
          refine AllReadyIn.cons rfl (fun K hK => ?_) (AllReadyIn.cons rfl (fun K hK => ?_) AllReadyIn.nil)
          · go_simp
            refine hK _ _ ?_
            clear hK K
            refine wpAnyIn_ready (rs := [3]) (by kernel_rfl) (by simp) ?_
            refine AllReadyIn.cons rfl (fun K hK => ?_) AllReadyIn.nil
            go_simp
            refine hK _ _ ?_
            clear hK K
            refine wpAnyIn_ready (rs := [4]) (by kernel_rfl) (by simp) ?_
            refine AllReadyIn.cons rfl (fun K hK => ?_) AllReadyIn.nil
            rw [if_pos (by rfl)]
            refine append_In (.tmp 12) (.tmp 15) rfl rfl rfl rfl HQ.out.2.1 ?_
            have hv1 : Boxed w1 w.heap.size 30 _ := (HQ.out.2.2.2.1.block w.heap.size (by omega)).trans hv
            have hU1 : Boxed w1 (w.heap.size + 1) 3 _ := (HQ.out.2.2.2.1.block (w.heap.size + 1) (by omega)).trans hU
            have hcv := hv1.cell
            have hfv := hv1.frozen
            have hU2 := hU1.other (B' := w.heap.size) (by omega) (.slice A5 n5 c5)
            have hcu := hU2.cell
            have hfu := hU2.frozen
            refine hK _ _ ?_
            clear hK K
            refine wpAnyIn_ready (rs := [6]) (by kernel_rfl) (by simp) ?_
            refine AllReadyIn.cons rfl (fun K hK => ?_) AllReadyIn.nil
            go_simp
            refine hK _ _ ?_
            clear hK K
            refine wpAnyIn_ready (rs := [7]) (by kernel_rfl) (by simp) ?_
            refine AllReadyIn.cons rfl (fun K hK => ?_) AllReadyIn.nil
            go_simp
            refine hK _ _ ?_
            clear hK K
            refine wpAnyIn_done (by kernel_rfl) ?_ _
            exact read_finI hsz hB hv hU hN hWs HQ.out HS.out (by simp [paysF]) (lastF_snoc _ _)
          · go_simp
            refine hK _ _ ?_
            clear hK K
            refine wpAnyIn_ready (rs := [0]) (by kernel_rfl) (by simp) ?_
            refine AllReadyIn.cons rfl (fun K hK => ?_) AllReadyIn.nil
            go_simp
            refine hK _ _ ?_
            clear hK K
            refine wpAnyIn_ready (rs := [4]) (by kernel_rfl) (by simp) ?_
            refine AllReadyIn.cons rfl (fun K hK => ?_) AllReadyIn.nil
            rw [if_pos (by rfl)]
            refine append_In (.tmp 12) (.tmp 15) rfl rfl rfl rfl HQ.out.2.1 ?_
            have hv1 : Boxed w1 w.heap.size 30 _ := (HQ.out.2.2.2.1.block w.heap.size (by omega)).trans hv
            have hU1 : Boxed w1 (w.heap.size + 1) 3 _ := (HQ.out.2.2.2.1.block (w.heap.size + 1) (by omega)).trans hU
            have hcv := hv1.cell
            have hfv := hv1.frozen
            have hU2 := hU1.other (B' := w.heap.size) (by omega) (.slice A5 n5 c5)
            have hcu := hU2.cell
            have hfu := hU2.frozen
            refine hK _ _ ?_
            clear hK K
            refine wpAnyIn_ready (rs := [6]) (by kernel_rfl) (by simp) ?_
            refine AllReadyIn.cons rfl (fun K hK => ?_) AllReadyIn.nil
            go_simp
            refine hK _ _ ?_
            clear hK K
            refine wpAnyIn_ready (rs := [7]) (by kernel_rfl) (by simp) ?_
            refine AllReadyIn.cons rfl (fun K hK => ?_) AllReadyIn.nil
            go_simp
            refine hK _ _ ?_
            clear hK K
            refine wpAnyIn_done (by kernel_rfl) ?_ _
            exact read_finI hsz hB hv hU hN hWs HQ.out HS.out (by simp [paysF]) (lastF_snoc _ _)
      · go_simp
        refine hK _ _ ?_
        clear hK K
        refine wpAnyIn_ready (rs := [0, 2]) (by kernel_rfl) (by simp) ?_
        refine AllReadyIn.cons rfl (fun K hK => ?_) (AllReadyIn.cons rfl (fun K hK => ?_) AllReadyIn.nil)
        · go_simp
          refine hK _ _ ?_
          clear hK K
          refine wpAnyIn_ready (rs := [2]) (by kernel_rfl) (by simp) ?_
          refine AllReadyIn.cons rfl (fun K hK => ?_) AllReadyIn.nil
          go_simp
          gi_wp2_with (gi_at_call 24; go_loud (refine (clone_call (B := W0.heap.size) rfl (Kd.C_below hx.1 hB) hx.2.1 hx.2.2 HS.out hWs hpl).mono ?_; rintro e w3 ⟨A4, c4, A5, n5, c5, w1, rfl, hq⟩; have HQ := Aside0.mk hq; have hc3 := (boxedBelow hq.1 hv).cell; have hc4 := ((boxedBelow hq.1 hv).alloc (.cells #[.slice A4 p.length c4] 22)).cell; clear hq))
          refine wpAnyIn_ready (rs := [3]) (by kernel_rfl) (by simp) ?_
          refine AllReadyIn.cons rfl (fun K hK => ?_) AllReadyIn.nil
          go_simp
          refine hK _ _ ?_
          clear hK K
          refine wpAnyIn_ready (rs := [4]) (by kernel_rfl) (by simp) ?_
          refine AllReadyIn.cons rfl (fun K hK => ?_) AllReadyIn.nil
          rw [if_pos (by rfl)]
          refine append_In (.tmp 12) (.tmp 15) rfl rfl rfl rfl HQ.out.2.1 ?_
          have hv1 : Boxed w1 w.heap.size 30 _ := (HQ.out.2.2.2.1.block w.heap.size (by omega)).trans hv
          have hU1 : Boxed w1 (w.heap.size + 1) 3 _ := (HQ.out.2.2.2.1.block (w.heap.size + 1) (by omega)).trans hU
          have hcv := hv1.cell
          have hfv := hv1.frozen
          have hU2 := hU1.other (B' := w.heap.size) (by omega) (.slice A5 n5 c5)
          have hcu := hU2.cell
          have hfu := hU2.frozen
          refine hK _ _ ?_
          clear hK K
          refine wpAnyIn_ready (rs := [6]) (by kernel_rfl) (by simp) ?_
          refine AllReadyIn.cons rfl (fun K hK => ?_) AllReadyIn.nil
          go_simp
          refine hK _ _ ?_
          clear hK K
          refine wpAnyIn_ready (rs := [7]) (by kernel_rfl) (by simp) ?_
          refine AllReadyIn.cons rfl (fun K hK => ?_) AllReadyIn.nil
          go_simp
          refine hK _ _ ?_
          clear hK K
          refine wpAnyIn_done (by kernel_rfl) ?_ _
          exact read_finI hsz hB hv hU hN hWs HQ.out HS.out (by simp [paysF]) (lastF_snoc _ _)
        · go_simp
          gi_wp2_with (gi_at_call 24; go_loud (refine (clone_call (B := W0.heap.size) rfl (Kd.C_below hx.1 hB) hx.2.1 hx.2.2 HS.out hWs hpl).mono ?_; rintro e w3 ⟨A4, c4, A5, n5, c5, w1, rfl, hq⟩; have HQ := Aside0.mk hq; have hc3 := (boxedBelow hq.1 hv).cell; have hc4 := ((boxedBelow hq.1 hv).alloc (.cells #[.slice A4 p.length c4] 22)).cell; clear hq))
          refine wpAnyIn_ready (rs := [0, 3]) (by kernel_rfl) (by simp) ?_
          refine AllReadyIn.cons rfl (fun K hK => ?_) (AllReadyIn.cons rfl (fun K hK => ?_) AllReadyIn.nil)
          · go_simp
            refine hK _ _ ?_
            clear hK K
            refine wpAnyIn_ready (rs := [3]) (by kernel_rfl) (by simp) ?_
            refine AllReadyIn.cons rfl (fun K hK => ?_) AllReadyIn.nil
            go_simp
            refine hK _ _ ?_
            clear hK K
            refine wpAnyIn_ready (rs := [4]) (by kernel_rfl) (by simp) ?_
            refine AllReadyIn.cons rfl (fun K hK => ?_) AllReadyIn.nil
            rw [if_pos (by rfl)]
            refine append_In (.tmp 12) (.tmp 15) rfl rfl rfl rfl HQ.out.2.1 ?_
            have hv1 : Boxed w1 w.heap.size 30 _ := (HQ.out.2.2.2.1.block w.heap.size (by omega)).trans hv
            have hU1 : Boxed w1 (w.heap.size + 1) 3 _ := (HQ.out.2.2.2.1.block (w.heap.size + 1) (by omega)).trans hU
            have hcv := hv1.cell
            have hfv := hv1.frozen
            have hU2 := hU1.other (B' := w.heap.size) (by omega) (.slice A5 n5 c5)
            have hcu := hU2.cell
            have hfu := hU2.frozen
            refine hK _ _ ?_
            clear hK K
            refine wpAnyIn_ready (rs := [6]) (by kernel_rfl) (by simp) ?_
            refine AllReadyIn.cons rfl (fun K hK => ?_) AllReadyIn.nil
            go_simp
            refine hK _ _ ?_
            clear hK K
            refine wpAnyIn_ready (rs := [7]) (by kernel_rfl) (by simp) ?_
            refine AllReadyIn.cons rfl (fun K hK => ?_) AllReadyIn.nil
            go_simp
            refine hK _ _ ?_
            clear hK K
            refine wpAnyIn_done (by kernel_rfl) ?_ _
            exact read_finI hsz hB hv hU hN hWs HQ.out HS.out (by simp [paysF]) (lastF_snoc _ _)
          · go_simp
            refine hK _ _ ?_
            clear hK K
            refine wpAnyIn_ready (rs := [0]) (by kernel_rfl) (by simp) ?_
            refine AllReadyIn.cons rfl (fun K hK => ?_) AllReadyIn.nil
            go_simp
            refine hK _ _ ?_
            clear hK K
            refine wpAnyIn_ready (rs := [4]) (by kernel_rfl) (by simp) ?_
            refine AllReadyIn.cons rfl (fun K hK => ?_) AllReadyIn.nil
            rw [if_pos (by rfl)]
            refine append_In (.tmp 12) (.tmp 15) rfl rfl rfl rfl HQ.out.2.1 ?_
            have hv1 : Boxed w1 w.heap.size 30 _ := (HQ.out.2.2.2.1.block w.heap.size (by omega)).trans hv
            have hU1 : Boxed w1 (w.heap.size + 1) 3 _ := (HQ.out.2.2.2.1.block (w.heap.size + 1) (by omega)).trans hU
            have hcv := hv1.cell
            have hfv := hv1.frozen
            have hU2 := hU1.other (B' := w.heap.size) (by omega) (.slice A5 n5 c5)
            have hcu := hU2.cell
            have hfu := hU2.frozen
            refine hK _ _ ?_
            clear hK K
            refine wpAnyIn_ready (rs := [6]) (by kernel_rfl) (by simp) ?_
            refine AllReadyIn.cons rfl (fun K hK => ?_) AllReadyIn.nil
            go_simp
            refine hK _ _ ?_
            clear hK K
            refine wpAnyIn_ready (rs := [7]) (by kernel_rfl) (by simp) ?_
            refine AllReadyIn.cons rfl (fun K hK => ?_) AllReadyIn.nil
            go_simp
            refine hK _ _ ?_
            clear hK K
            refine wpAnyIn_done (by kernel_rfl) ?_ _
            exact read_finI hsz hB hv hU hN hWs HQ.out HS.out (by simp [paysF]) (lastF_snoc _ _)
    · go_simp
      refine hK _ _ ?_
      clear hK K
      refine wpAnyIn_ready (rs := [0, 1]) (by kernel_rfl) (by simp) ?_
      refine AllReadyIn.cons rfl (fun K hK => ?_) (AllReadyIn.cons rfl (fun K hK => ?_) AllReadyIn.nil)
      · go_simp
        refine hK _ _ ?_
        clear hK K
        refine wpAnyIn_ready (rs := [1]) (by kernel_rfl) (by simp) ?_
        refine AllReadyIn.cons rfl (fun K hK => ?_) AllReadyIn.nil
        go_simp
        refine hK _ _ ?_
        clear hK K
        refine wpAnyIn_ready (rs := [2]) (by kernel_rfl) (by simp) ?_
        refine AllReadyIn.cons rfl (fun K hK => ?_) AllReadyIn.nil
        go_simp
        gi_wp2_with (gi_at_call 24; go_loud (refine (clone_call (B := W0.heap.size) rfl (Kd.C_below hx.1 hB) hx.2.1 hx.2.2 HS.out hWs hpl).mono ?_; rintro e w3 ⟨A4, c4, A5, n5, c5, w1, rfl, hq⟩; have HQ := Aside0.mk hq; have hc3 := (boxedBelow hq.1 hv).cell; have hc4 := ((boxedBelow hq.1 hv).alloc (.cells #[.slice A4 p.length c4] 22)).cell; clear hq))
        refine wpAnyIn_ready (rs := [3]) (by kernel_rfl) (by simp) ?_
        refine AllReadyIn.cons rfl (fun K hK => ?_) AllReadyIn.nil
        go_simp
        refine hK _ _ ?_
        clear hK K
        refine wpAnyIn_ready (rs := [4]) (by kernel_rfl) (by simp) ?_
        refine AllReadyIn.cons rfl (fun K hK => ?_) AllReadyIn.nil
        rw [if_pos (by rfl)]
        refine append_In (.tmp 12) (.tmp 15) rfl rfl rfl rfl HQ.out.2.1 ?_
        have hv1 : Boxed w1 w.heap.size 30 _ := (HQ.out.2.2.2.1.block w.heap.size (by omega)).trans hv
        have hU1 : Boxed w1 (w.heap.size + 1) 3 _ := (HQ.out.2.2.2.1.block (w.heap.size + 1) (by omega)).trans hU
        have hcv := hv1.cell
        have hfv := hv1.frozen
        have hU2 := hU1.other (B' := w.heap.size) (by omega) (.slice A5 n5 c5)
        have hcu := hU2.cell
        have hfu := hU2.frozen
        refine hK _ _ ?_
        clear hK K
        refine wpAnyIn_ready (rs := [6]) (by kernel_rfl) (by simp) ?_
        refine AllReadyIn.cons rfl (fun K hK => ?_) AllReadyIn.nil
        go_simp
        refine hK _ _ ?_
        clear hK K
        refine wpAnyIn_ready (rs := [7]) (by kernel_rfl) (by simp) ?_
        refine AllReadyIn.cons rfl (fun K hK => ?_) AllReadyIn.nil
        go_simp
        refine hK _ _ ?_
        clear hK K
        refine wpAnyIn_done (by kernel_rfl) ?_ _
        exact read_finI hsz hB hv hU hN hWs HQ.out HS.out (by simp [paysF]) (lastF_snoc _ _)
      · go_simp
        refine hK _ _ ?_
        clear hK K
        refine wpAnyIn_ready (rs := [0, 2]) (by kernel_rfl) (by simp) ?_
        refine AllReadyIn.cons rfl (fun K hK => ?_) (AllReadyIn.cons rfl (fun K hK => ?_) AllReadyIn.nil)
        · go_simp
          refine hK _ _ ?_
          clear hK K
          refine wpAnyIn_ready (rs := [2]) (by kernel_rfl) (by simp) ?_
          refine AllReadyIn.cons rfl (fun K hK => ?_) AllReadyIn.nil
          go_simp
          gi_wp2_with (gi_at_call 24; go_loud (refine (clone_call (B := W0.heap.size) rfl (Kd.C_below hx.1 hB) hx.2.1 hx.2.2 HS.out hWs hpl).mono ?_; rintro e w3 ⟨A4, c4, A5, n5, c5, w1, rfl, hq⟩; have HQ := Aside0.mk hq; have hc3 := (boxedBelow hq.1 hv).cell; have hc4 := ((boxedBelow hq.1 hv).alloc (.cells #[.slice A4 p.length c4] 22)).cell; clear hq))
          refine wpAnyIn_ready (rs := [3]) (by kernel_rfl) (by simp) ?_
          refine AllReadyIn.cons rfl (fun K hK => ?_) AllReadyIn.nil
          go_simp
          refine hK _ _ ?_
          clear hK K
          refine wpAnyIn_ready (rs := [4]) (by kernel_rfl) (by simp) ?_
          refine AllReadyIn.cons rfl (fun K hK => ?_) AllReadyIn.nil
          rw [if_pos (by rfl)]
          refine append_In (.tmp 12) (.tmp 15) rfl rfl rfl rfl HQ.out.2.1 ?_
          have hv1 : Boxed w1 w.heap.size 30 _ := (HQ.out.2.2.2.1.block w.heap.size (by omega)).trans hv
          have hU1 : Boxed w1 (w.heap.size + 1) 3 _ := (HQ.out.2.2.2.1.block (w.heap.size + 1) (by omega)).trans hU
          have hcv := hv1.cell
          have hfv := hv1.frozen
          have hU2 := hU1.other (B' := w.heap.size) (by omega) (.slice A5 n5 c5)
          have hcu := hU2.cell
          have hfu := hU2.frozen
          refine hK _ _ ?_
          clear hK K
          refine wpAnyIn_ready (rs := [6]) (by kernel_rfl) (by simp) ?_
          refine AllReadyIn.cons rfl (fun K hK => ?_) AllReadyIn.nil
          go_simp
          refine hK _ _ ?_
          clear hK K
          refine wpAnyIn_ready (rs := [7]) (by kernel_rfl) (by simp) ?_
          refine AllReadyIn.cons rfl (fun K hK => ?_) AllReadyIn.nil
          go_simp
          refine hK _ _ ?_
          clear hK K
          refine wpAnyIn_done (by kernel_rfl) ?_ _
          exact read_finI hsz hB hv hU hN hWs HQ.out HS.out (by simp [paysF]) (lastF_snoc _ _)
        · go_simp
          gi_wp2_with (gi_at_call 24; go_loud (refine (clone_call (B := W0.heap.size) rfl (Kd.C_below hx.1 hB) hx.2.1 hx.2.2 HS.out hWs hpl).mono ?_; rintro e w3 ⟨A4, c4, A5, n5, c5, w1, rfl, hq⟩; have HQ := Aside0.mk hq; have hc3 := (boxedBelow hq.1 hv).cell; have hc4 := ((boxedBelow hq.1 hv).alloc (.cells #[.slice A4 p.length c4] 22)).cell; clear hq))
          refine wpAnyIn_ready (rs := [0, 3]) (by kernel_rfl) (by simp) ?_
          refine AllReadyIn.cons rfl (fun K hK => ?_) (AllReadyIn.cons rfl (fun K hK => ?_) AllReadyIn.nil)
          · go_simp
            refine hK _ _ ?_
            clear hK K
            refine wpAnyIn_ready (rs := [3]) (by kernel_rfl) (by simp) ?_
            refine AllReadyIn.cons rfl (fun K hK => ?_) AllReadyIn.nil
            go_simp
            refine hK _ _ ?_
            clear hK K
            refine wpAnyIn_ready (rs := [4]) (by kernel_rfl) (by simp) ?_
            refine AllReadyIn.cons rfl (fun K hK => ?_) AllReadyIn.nil
            rw [if_pos (by rfl)]
            refine append_In (.tmp 12) (.tmp 15) rfl rfl rfl rfl HQ.out.2.1 ?_
            have hv1 : Boxed w1 w.heap.size 30 _ := (HQ.out.2.2.2.1.block w.heap.size (by omega)).trans hv
            have hU1 : Boxed w1 (w.heap.size + 1) 3 _ := (HQ.out.2.2.2.1.block (w.heap.size + 1) (by omega)).trans hU
            have hcv := hv1.cell
            have hfv := hv1.frozen
            have hU2 := hU1.other (B' := w.heap.size) (by omega) (.slice A5 n5 c5)
            have hcu := hU2.cell
            have hfu := hU2.frozen
            refine hK _ _ ?_
            clear hK K
            refine wpAnyIn_ready (rs := [6]) (by kernel_rfl) (by simp) ?_
            refine AllReadyIn.cons rfl (fun K hK => ?_) AllReadyIn.nil
            go_simp
            refine hK _ _ ?_
            clear hK K
            refine wpAnyIn_ready (rs := [7]) (by kernel_rfl) (by simp) ?_
            refine AllReadyIn.cons rfl (fun K hK => ?_) AllReadyIn.nil
            go_simp
            refine hK _ _ ?_
            clear hK K
            refine wpAnyIn_done (by kernel_rfl) ?_ _
            exact read_finI hsz hB hv hU hN hWs HQ.out HS.out (by simp [paysF]) (lastF_snoc _ _)
          · go_simp
            refine hK _ _ ?_
            clear hK K
            refine wpAnyIn_ready (rs := [0]) (by kernel_rfl) (by simp) ?_
            refine AllReadyIn.cons rfl (fun K hK => ?_) AllReadyIn.nil
            go_simp
            refine hK _ _ ?_
            clear hK K
            refine wpAnyIn_ready (rs := [4]) (by kernel_rfl) (by simp) ?_
            refine AllReadyIn.cons rfl (fun K hK => ?_) AllReadyIn.nil
            rw [if_pos (by rfl)]
            refine append_In (.tmp 12) (.tmp 15) rfl rfl rfl rfl HQ.out.2.1 ?_
            have hv1 : Boxed w1 w.heap.size 30 _ := (HQ.out.2.2.2.1.block w.heap.size (by omega)).trans hv
            have hU1 : Boxed w1 (w.heap.size + 1) 3 _ := (HQ.out.2.2.2.1.block (w.heap.size + 1) (by omega)).trans hU
            have hcv := hv1.cell
            have hfv := hv1.frozen
            have hU2 := hU1.other (B' := w.heap.size) (by omega) (.slice A5 n5 c5)
            have hcu := hU2.cell
            have hfu := hU2.frozen
            refine hK _ _ ?_
            clear hK K
            refine wpAnyIn_ready (rs := [6]) (by kernel_rfl) (by simp) ?_
            refine AllReadyIn.cons rfl (fun K hK => ?_) AllReadyIn.nil
            go_simp
            refine hK _ _ ?_
            clear hK K
            refine wpAnyIn_ready (rs := [7]) (by kernel_rfl) (by simp) ?_
            refine AllReadyIn.cons rfl (fun K hK => ?_) AllReadyIn.nil
            go_simp
            refine hK _ _ ?_
            clear hK K
            refine wpAnyIn_done (by kernel_rfl) ?_ _
            exact read_finI hsz hB hv hU hN hWs HQ.out HS.out (by simp [paysF]) (lastF_snoc _ _)
  case done =>
    rintro D ys W hD hys ⟨⟨⟨⟨v, hv, hrow⟩, hU⟩, hN⟩, hB⟩ hK
    obtain ⟨hy1, hy2⟩ := hys
    rw [hy1] at hrow
    rw [hy2] at hU
    have hc := hv.cell
    have hcu := hU.cell
    obtain ⟨ok, hok, hS⟩ := hrow
    obtain ⟨A, c, rfl⟩ := Kd.S_slice hS
    have HS := Aside0.mk hS
    have HOK := Aside0.mk hok
    have HK := Aside0.mk hK
    clear hS hok hK
    gi_wp2
    gi_quiet (fail)
    gi_wp2
    have hK' : (W.drewN nq).heap[D]? = some (.deferred (some [])) := HK.out
    refine ⟨by simp, .inl ⟨_, _, rfl, run_takeDeferred hK', ?_⟩⟩
    refine ⟨_, results_tmp2 rfl _ _ _, _, rfl, ?_, (hB.trans (pw_below_drewN (Below.refl _ W) nq)).trans (belowK_b (w := w) (Nat.le_refl _) (W.drewN nq) D _ _ (by omega) hK' rfl rfl)⟩
    refine Kd.S_mono (Kd.S_lower (Kd.S_grown (Kd.S_drewN HS.out nq) (grownBy_putObj' (W.drewN nq) D _) (fun k hk e => ?_)) hB0.size) (fun _ _ => trivial)
    cases e
    obtain ⟨_, cs, t', h⟩ := HOK.out _ hk
    have h2 := HK.out
    rw [h] at h2; cases h2
  case stop =>
    rintro D c pre W _ _ h _
    exact h.elim

end Go.Proofs.Ytafljcblglielaa.M
