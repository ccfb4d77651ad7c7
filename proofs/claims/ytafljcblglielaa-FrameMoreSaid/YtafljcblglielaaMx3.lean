/- The machine side of laws, written by wip/tools/myprint.py (the printer's way, with functions proved by hand put in); Lean checks it. -/
import Derived.Deep.LoopGhost
import Derived.Deep.RegionWith
import Derived.Deep.WholeRow
import Derived.Laws.CopyOwn
import Derived.Test.YtafljcblglielaaHcrc
import Derived.Test.YtafljcblglielaaHnum
import Derived.Test.YtafljcblglielaaMx0
namespace Go.Proofs.Ytafljcblglielaa.M
open Go.RowKit Go.Proofs.YtafljcblglielaaW.PrintWords Go.Proofs.YtafljcblglielaaW.PrintLast Go.Proofs.YtafljcblglielaaW.PrintMore
attribute [local go_sem] max2_int min2_int max_two min_two max_three min_three max_four min_four   -- for this text's walks alone
set_option linter.unusedVariables false
set_option linter.unusedSimpArgs false

-- BY HAND: Derived.Test.YtafljcblglielaaHnum,Derived.Test.YtafljcblglielaaHcrc,Derived.Deep.WholeRow,Derived.Deep.LoopGhost,Derived.Deep.RegionWith,Derived.Laws.CopyOwn
/-! ### frame_Sum: function 12 -/
-- HAND winnower/frame.Sum making
-- SKIP winnower/frame.steps
-- IMPORT Derived.Test.YtafljcblglielaaHnum
-- IMPORT Derived.Test.YtafljcblglielaaHcrc
-- IMPORT Derived.Deep.WholeRow
-- IMPORT Derived.Deep.LoopGhost
-- IMPORT Derived.Deep.RegionWith
-- IMPORT Derived.Laws.CopyOwn
open Go.Proofs.Ytafljcblglielaa.Hnum Go.Proofs.Ytafljcblglielaa.Hcrc
/-- The table, so far. -/
def tabV (i : Nat) : Array Value := Array.ofFn (n := 256) fun j => .int .u32 (if j.val < i then (stepN 8 j.val : Int) else 0)
theorem tabV_size (i : Nat) : (tabV i).size = 256 := Array.size_ofFn
theorem tabV_zero : tabV 0 = Array.replicate 256 (.int .u32 0) := by
  apply Array.ext
  · rw [tabV_size, Array.size_replicate]
  · intro j h1 h2
    simp [tabV]
theorem tabV_get (i j : Nat) (h : j < 256) : (tabV i)[j]? = some (.int .u32 (if j < i then (stepN 8 j : Int) else 0)) := by
  rw [Array.getElem?_eq_getElem (by rw [tabV_size]; exact h)]
  simp [tabV]
theorem tabV_set (i : Nat) (h : i < 256) : (tabV i).setIfInBounds i (.int .u32 (stepN 8 i)) = tabV (i + 1) := by
  apply Array.ext
  · simp [tabV_size]
  · intro j h1 h2
    rw [Array.getElem_setIfInBounds (by simpa using h1)]
    have hj : j < 256 := by rw [tabV_size] at h2; exact h2
    by_cases e : i = j
    · subst e; simp [tabV]
    · simp only [if_neg e, tabV, Array.getElem_ofFn]
      by_cases hlt : j < i
      · rw [if_pos hlt, if_pos (by omega)]
      · rw [if_neg hlt, if_neg (by omega)]
theorem tabV_one (i : Nat) : (tabV i).all (·.oneCell') = true := by
  rw [Array.all_eq_true]
  intro j hj
  simp [tabV, Value.oneCell']
theorem u32_xor (a b : Nat) (ha : a < 4294967296) (hb : b < 4294967296) : Go.bits .xor .u32 (a : Int) (b : Int) = ((a ^^^ b : Nat) : Int) := by
  have h : a ^^^ b < 2 ^ 32 := Nat.xor_lt_two_pow (by omega) (by omega)
  show IntKind.u32.wrap (((BitVec.ofInt 32 (a : Int) ^^^ BitVec.ofInt 32 (b : Int)).toNat : Nat) : Int) = _
  simp only [BitVec.ofInt_natCast, BitVec.toNat_xor, BitVec.toNat_ofNat]
  rw [Nat.mod_eq_of_lt (by omega), Nat.mod_eq_of_lt (by omega), IntKind.wrap_u32]
  omega
theorem u8_xor (a b : Nat) (ha : a < 256) (hb : b < 256) : Go.bits .xor .u8 (a : Int) (b : Int) = ((a ^^^ b : Nat) : Int) := by
  have h : a ^^^ b < 2 ^ 8 := Nat.xor_lt_two_pow (by omega) (by omega)
  show IntKind.u8.wrap (((BitVec.ofInt 8 (a : Int) ^^^ BitVec.ofInt 8 (b : Int)).toNat : Nat) : Int) = _
  simp only [BitVec.ofInt_natCast, BitVec.toNat_xor, BitVec.toNat_ofNat]
  rw [Nat.mod_eq_of_lt (by omega), Nat.mod_eq_of_lt (by omega), IntKind.wrap_u8]
  omega
theorem u32_and1 (n : Nat) (h : n < 4294967296) : Go.bits .and .u32 (n : Int) 1 = ((n % 2 : Nat) : Int) := by
  have e : Go.bits .and .u32 (n : Int) 1 = (n : Int) % 2 := bits_mask .u32 32 (by decide) (fun n h0 h1 => by rw [IntKind.wrap_u32]; omega) 1 (by decide) n (by omega) (by omega)
  rw [e]; omega
theorem step_bits {n : Nat} (h : n < 4294967296) : Go.bits .xor .u32 ((n : Int) / 2) (3988292384 * Go.bits .and .u32 (n : Int) 1 % 4294967296) = ((stp1 n : Nat) : Int) := by
  rw [u32_and1 n h, show (n : Int) / 2 = ((n / 2 : Nat) : Int) from by omega, show (3988292384 * ((n % 2 : Nat) : Int) % 4294967296) = (((if n % 2 = 1 then 3988292384 else 0) : Nat) : Int) from by split <;> omega,
    u32_xor _ _ (by omega) (by split <;> omega)]
  rfl
theorem zero44 : (∀ w, (zeroValue 44).run Try.prog w = .ok (.agg (tabV 0)) w) ∧ (Try.prog.info? 44).map (·.size) = some 256 := by
  rw [tabV_zero]
  exact zero_of_info (by kernel_rfl)
set_option maxRecDepth 100000 in
set_option maxHeartbeats 2000000 in
theorem frame_steps.calls (w : World) :
    Calls Try.prog 21 #[] w fun e w' => e = .returned (.agg (tabV 256)) ∧ Below w.heap.size w w' := by
  have hz := zero44.1
  go_enter Try.func21, Try.ntmps21
  go_wp2
  obtain ⟨W0, hW0⟩ : ∃ W0, w.alloc (.cells (tabV 0) 44) = W0 := ⟨_, rfl⟩
  have hsz : w.heap.size + 1 = W0.heap.size := by rw [← hW0]; simp
  rw [hW0, hsz]
  clear hz
  go_loopg [4] 256 (fun m v4 wr => ∃ (i : Nat) (T : Array Value), i + m = 256 ∧ v4 = .int .i64 (i : Int) ∧ wr = W0.alloc (.cells T 44) ∧ Aside0 (T = tabV i))
  case atStart => exact ⟨0, _, by omega, rfl, rfl, ⟨rfl⟩⟩
  case round =>
    obtain ⟨i, T, hi, rfl, rfl, HT⟩ := hrel
    have hTs : T.size = 256 := by rw [HT.out, tabV_size]
    cases gk with
    | zero =>
      obtain rfl : i = 256 := by omega
      have h1 : (W0.alloc (.cells T 44)).heap[w.heap.size]? = some (.cells (tabV 0) 44 (0, 0)) := by
        rw [Below.heap_alloc W0 _ w.heap.size (by omega), ← hW0]; exact heap_alloc_last w _
      have hb : Below w.heap.size w (W0.alloc (.cells T 44)) := by
        rw [← hW0]; exact ((Below.refl _ w).alloc (Nat.le_refl _) _).alloc (by simp) _
      have hone : ∀ v ∈ T.toList, v.oneCell' = true := by
        have := tabV_one 256
        rw [← HT.out] at this
        intro v hv
        exact (Array.all_eq_true_iff_forall_mem.1 this) v (by simpa using hv)
      have hsc : (storeCells ⟨w.heap.size, 0, none⟩ T.toList 0).run Try.prog (W0.alloc (.cells T 44)) = .ok () ((W0.alloc (.cells T 44)).setRow w.heap.size T) := by
        have := run_storeCells_from (P := Try.prog) w.heap.size 44 T.toList 0 (tabV 0) _ h1 (by rw [tabV_size]; simpa using hTs) hone
        simpa using this
      have H1 := Aside0.mk h1
      have HB := Aside0.mk hb
      clear h1 hb hone
      go_wp2
      refine wp_load_row 44 (.tmp 1) rfl W0.heap.size rfl 44 T (0, 0) (.array 256 43) (heap_alloc_last W0 _) Try.underlying44 rfl (by rw [hTs]; exact zero44.2) ?_
      go_wp2
      refine bodyPost_ret (v := .agg T) ?_ rfl ⟨by rw [HT.out], below_setRow HB.out (Nat.le_refl _) T⟩
      exact results_cell_row rfl _ _ w.heap.size 44 T (0, 0) (.array 256 43) rfl (setRow_heap _ _ _ _ _ _ H1.out) Try.underlying44 rfl (by rw [hTs]; exact zero44.2)
    | succ g =>
      have hlt : (i : Int) < 256 := by omega
      have hw : IntKind.u32.wrap (i : Int) = (i : Int) := by rw [IntKind.wrap_u32]; omega
      go_wp2
      go_loopg [3, 9] 8 (fun m v3 v9 wr => ∃ j : Nat, j + m = 8 ∧ v9 = .int .i64 (j : Int) ∧ v3 = .int .u32 ((stepN j i : Nat) : Int) ∧ wr = W0.alloc (.cells T 44))
      case atStart => exact ⟨0, by omega, rfl, rfl, rfl⟩
      case round =>
        obtain ⟨j, hj, rfl, rfl, rfl⟩ := hrel
        obtain ⟨n, hn⟩ : ∃ n, n = stepN j i := ⟨_, rfl⟩
        rw [← hn]
        have HN := Aside0.mk hn
        clear hn
        cases gk with
        | zero =>
          obtain rfl : j = 8 := by omega
          have hTi : T[i]? = some (.int .u32 0) := by rw [HT.out, tabV_get i i (by omega), if_neg (Nat.lt_irrefl i)]
          obtain ⟨T', hT'⟩ : ∃ T', T.setIfInBounds i (.int .u32 (n : Int)) = T' := ⟨_, rfl⟩
          have HT' := Aside0.mk (show T' = tabV (i + 1) from by rw [← hT', HT.out, HN.out]; exact tabV_set i (by omega))
          go_wp2
          go_roundg g
          case measure => omega
          case rel => exact ⟨i + 1, T', by omega, by first | rfl | simp, rfl, HT'⟩
        | succ g' =>
          have hjt : (j : Int) < 8 := by omega
          have hst := step_bits (n := n) (by rw [HN.out]; exact stepN_lt j (by omega))
          go_wp2
          go_roundg g'
          case measure => omega
          case rel => exact ⟨j + 1, by omega, by first | rfl | simp, by rw [HN.out, ← stepN_one, ← stepN_add], rfl⟩
/-- What Sum tells. -/
def frame_Sum.f (l : List Int) : Option Int := if Bytes l ∧ l.length ≤ 1000000 then some (sumB l : Int) else none
set_option maxRecDepth 100000 in
set_option maxHeartbeats 2000000 in
theorem frame_Sum.calls (A0 : Option Addr) (c0 : Nat) (l0 : List Int) (r : Int) (w : World) (hr0 : Kd.C (Kd.int .u8) w A0 l0.length l0) (hc0 : l0.length ≤ c0) (h : frame_Sum.f l0 = some r) :
    Calls Try.prog 12 #[.slice A0 l0.length c0] w fun e w' => e = .returned (.int .i64 r) ∧ Below w.heap.size w w' := by
  have HR := Aside0.mk hr0
  have HC := Aside0.mk hc0
  clear hr0 hc0
  unfold frame_Sum.f at h
  by_cases e0 : Bytes l0 ∧ l0.length ≤ 1000000
  · rw [if_pos e0] at h
    obtain rfl : r = (sumB l0 : Int) := (Option.some.inj h).symm
    have HE := Aside0.mk e0
    clear h e0
    have hz := zero44.1
    go_enter Try.func12, Try.ntmps12
    go_wp2_with (go_at_call 21; go_loud (refine (frame_steps.calls _).mono ?_; rintro e w1 ⟨rfl, hb1⟩; have HB1 := Aside0.mk hb1; clear hb1; obtain ⟨T, hT⟩ : ∃ T, tabV 256 = T := ⟨_, rfl⟩; rw [hT]; have hTs : T.size = 256 := hT ▸ tabV_size 256; have HT := Aside0.mk hT; clear hT; have hsc := run_storeCells_new (P := Try.prog) w1 44 (tabV 0) T (hTs.symm ▸ zero44.2) ((tabV_size 0).trans hTs.symm) (HT.out ▸ tabV_one 256)))
    obtain ⟨W1, hW1⟩ : ∃ W1, w1.alloc (.cells T 44) = W1 := ⟨_, rfl⟩
    rw [hW1]
    have HB := Aside0.mk (show Below w.heap.size w W1 from by rw [← hW1]; exact HB1.out.alloc HB1.out.size _)
    have HW := Aside0.mk (show W1.heap[w1.heap.size]? = some (.cells T 44 (0, 0)) from by rw [← hW1]; exact heap_alloc_last w1 _)
    clear hW1 hsc hz
    go_loopg [4, 10] l0.length (fun m v4 v10 wr => ∃ i n : Nat, i + m = l0.length ∧ v10 = .int .i64 (i : Int) ∧ v4 = .int .u32 (n : Int) ∧ wr = W1 ∧ Aside0 (n = crcN 4294967295 (l0.take i)))
    case atStart => exact ⟨0, 4294967295, by omega, rfl, rfl, rfl, ⟨rfl⟩⟩
    case round =>
      obtain ⟨i, n, hi, rfl, rfl, rfl, HN⟩ := hrel
      have hn32 : n < 4294967296 := by rw [HN.out]; exact crcN_lt _ _ (HE.out.1.take i) (by omega)
      cases gk with
      | zero =>
        obtain rfl : i = l0.length := by omega
        have hlt : decide ((l0.length : Int) < (l0.length : Int)) = false := decide_eq_false (by omega)
        have hs : Go.bits .xor .u32 (n : Int) 4294967295 = (sumB l0 : Int) := by
          have := u32_xor n 4294967295 hn32 (by omega)
          refine this.trans ?_
          rw [HN.out, List.take_length]; rfl
        have hlt2 : sumB l0 < 4294967296 := sumB_lt HE.out.1
        have hw : IntKind.i64.wrap (sumB l0 : Int) = (sumB l0 : Int) := by rw [IntKind.wrap_i64]; omega
        go_wp2
        go_ret
        exact ⟨rfl, HB.out⟩
      | succ g =>
        have hlt : (i : Int) < (l0.length : Int) := by omega
        have h0 : (0 : Int) ≤ (i : Int) := by omega
        obtain ⟨ad, e, hx⟩ := Kd.at_int (Kd.C_below HR.out HB.out) (i : Int) h0 (by omega)
        subst e
        have hlt' : i < l0.length := by omega
        have hrd : rd l0 (i : Int) = l0[i] := by rw [rd, Int.toNat_natCast, List.getD_eq_getElem?_getD, List.getElem?_eq_getElem hlt']; rfl
        obtain ⟨c, hc⟩ := Int.eq_ofNat_of_zero_le (HE.out.1 _ (List.getElem_mem hlt')).1
        have hc2 := (HE.out.1 _ (List.getElem_mem hlt')).2
        rw [hrd, hc, Int.toNat_natCast] at hx
        have hc3 : c < 256 := by omega
        obtain ⟨k, hk⟩ : ∃ k, n % 256 ^^^ c = k := ⟨_, rfl⟩
        have hk2 : k < 2 ^ 8 := by rw [← hk]; exact Nat.xor_lt_two_pow (by omega) (by omega)
        have hk3 : (k : Int) < 256 := by omega
        have hxk : Go.bits .xor .u8 ((n : Int) % 256) (c : Int) = (k : Int) := by
          rw [← hk, show (n : Int) % 256 = ((n % 256 : Nat) : Int) from by omega]; exact u8_xor _ _ (by omega) hc3
        have hcell : wr.cell? ⟨w1.heap.size, k, none⟩ = some (.int .u32 (stepN 8 k : Int)) := by
          rw [cell_of_row _ _ _ _ _ _ HW.out, ← HT.out, tabV_get 256 k (by omega), if_pos (by omega)]
        obtain ⟨s, hs⟩ : ∃ s, stepN 8 k = s := ⟨_, rfl⟩
        rw [hs] at hcell
        obtain ⟨n', hn'⟩ : ∃ n', s ^^^ (n / 256) = n' := ⟨_, rfl⟩
        have hxs : Go.bits .xor .u32 (s : Int) ((n : Int) / 256) = (n' : Int) := by
          rw [← hn', show (n : Int) / 256 = ((n / 256 : Nat) : Int) from by omega]; exact u32_xor _ _ (by rw [← hs]; exact stepN_lt 8 (by omega)) (by omega)
        have HN' := Aside0.mk (show n' = crcN 4294967295 (l0.take (i + 1)) from by
          rw [List.take_succ_eq_append_getElem hlt', crcN_append, ← HN.out, crcN, hc, Int.toNat_natCast, table, hk, hs, hn']; rfl)
        have HX := Aside0.mk hc
        clear hs hn' hk hrd hc
        have hwi : wrap64 ((i : Int) + 1) = ((i + 1 : Nat) : Int) := by have := HE.out.2; rw [wrap_id (by omega) (by omega)]; omega
        go_wp2
        go_roundg g
        case measure => omega
        case rel => exact ⟨i + 1, n', by omega, congrArg (Value.int .i64) hwi, rfl, rfl, HN'⟩
  · rw [if_neg e0] at h; cases h
/-- The bytes of a constant string: the row is marked behind its last cell, and reads as it did. -/
theorem conv_mark {W : World} {base : Nat} {ok : Nat → Prop} {A : Option Addr} {n c : Nat} {xs : List Int} (h : Kd.R (Kd.int .u8) 5 W base ok (.slice A n c) xs) (hp : 0 < xs.length) :
    ∃ W', (convert 22 22 (.slice A n c)).run Try.prog W = .ok (.slice A n c) W' ∧ Kd.C (Kd.int .u8) W' A n xs ∧ n ≤ c ∧ W.grownBy W' (Value.slice A n c).ownBlock := by
  obtain ⟨hn, hc, hC⟩ := Kd.R_reads' h
  obtain ⟨g, cap, cells, e, _, _, hb⟩ : ∃ g cap, ∃ cells, Value.slice A n c = .slice (some ⟨g, 0, none⟩) xs.length cap ∧ base ≤ g ∧ g < W.heap.size ∧ W.heap[g]? = some (.cells cells 5 (0, 0)) := by
    obtain ⟨g, cap, e, h1, h2, cells, h3⟩ := Kd.R_form h hp
    exact ⟨g, cap, cells, e, h1, h2, h3⟩
  injection e with e1 e2 e3
  subst e1 e2 e3
  have hsh : W.shape? g = some (5, cells.size) := by unfold World.shape?; rw [hb]
  have ht := Try.underlying22
  have he := Try.underlying5
  refine ⟨W.freeze ⟨g, cells.size, none⟩ 1, ?_, ?_, hc, ?_⟩
  · simp [convert, run_underlying ht, run_underlying he, markStringish, hsh]
  · have hcell : ∀ a, (W.freeze ⟨g, cells.size, none⟩ 1).cell? a = W.cell? a := by
      intro a
      unfold World.freeze World.cell?
      rw [if_neg (by decide)]
      simp only [Array.getElem?_modify]
      by_cases hk : g = a.block
      · subst hk
        rw [if_pos rfl, hb]
        rfl
      · rw [if_neg hk]
    refine ⟨hC.1, hC.2.1, fun hq => ?_⟩
    obtain ⟨ad, e, hh⟩ := hC.2.2 hq
    refine ⟨ad, e, fun j p hj => ?_⟩
    obtain ⟨cs, a1, a2, a3⟩ := hh j p hj
    exact ⟨cs, a1, a2, fun i u hu => (hcell _).trans (a3 i u hu)⟩
  · refine ⟨rfl, rfl, rfl, ?_, fun k hk hne => ?_⟩
    · unfold World.freeze; rw [if_neg (by decide)]; simp
    · unfold World.freeze
      rw [if_neg (by decide)]
      simp only [Array.getElem?_modify]
      rw [if_neg (fun e => hne (by rw [← e]; rfl))]

end Go.Proofs.Ytafljcblglielaa.M
