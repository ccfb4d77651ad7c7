/- The machine side of laws, written by wip/tools/myprint.py (the printer's way, with functions proved by hand put in); Lean checks it. -/
import Derived.Test.YthcbcddnillipaaHonly
import Derived.Test.YthcbcddnillipaaHbits
import Derived.Test.YthcbcddnillipaaQx0
import Derived.Test.YthcbcddnillipaaQx1
import Derived.Test.YthcbcddnillipaaQx2
namespace Go.Proofs.Ythcbcddnillipaa.Q
open Go.RowKit Go.Proofs.YthcbcddnillipaaW.PrintWords Go.Proofs.YthcbcddnillipaaW.PrintLast Go.Proofs.YthcbcddnillipaaW.PrintMore
attribute [local go_sem] max2_int min2_int max_two min_two max_three min_three max_four min_four   -- for this text's walks alone
set_option linter.unusedVariables false
set_option linter.unusedSimpArgs false

-- BY HAND: Derived.Test.YthcbcddnillipaaHonly,Derived.Test.YthcbcddnillipaaHbits
/-! ### bits_Pack: function 10 -/
-- HAND winnower/bits.Pack making
-- SKIP winnower/bits.places winnower/bits.Pack$1
-- IMPORT Derived.Test.YthcbcddnillipaaHonly
-- IMPORT Derived.Test.YthcbcddnillipaaHbits
open Go.Proofs.Ythcbcddnillipaa.Honly Go.Proofs.Ythcbcddnillipaa.Hnum Go.Proofs.Ythcbcddnillipaa.Hbits
theorem own_free {w : World} {base g cap : Nat} {xs : List Int} {ok : Nat → Prop} {k : IntKind} {e : Nat} (h : Kd.R (Kd.int k) e w base ok (.slice (some ⟨g, 0, none⟩) xs.length cap) xs) (hp : 0 < xs.length) (j : Nat) : w.frozen? ⟨g, j, none⟩ = false := by
  obtain ⟨g', cap', e', _, _, cells, hc⟩ := Kd.R_form h hp
  cases e'
  simp [World.frozen?, hc]
/-- The bytes so far lie in the call's own row at block g. -/
structure Out (base g cap L N : Nat) (w : World) : Prop where
  row : Kd.R (Kd.int .u8) 5 w base (fun _ => True) (.slice (some ⟨g, 0, none⟩) L cap) (bytesN L N)
theorem Out.set {base g cap L N p b : Nat} {w : World} (h : Out base g cap L N w) (hN : N < 2 ^ p) (hb : b < 2) : Out base g cap L (N + b * 2 ^ p) (w.setCell ⟨g, p / 8, none⟩ (.int .u8 ((N / 256 ^ (p / 8) % 256 + b * 2 ^ (p % 8) : Nat) : Int))) := by
  have := (Kd.R_putg h.row ((p / 8 : Nat) : Int) ((N / 256 ^ (p / 8) % 256 + b * 2 ^ (p % 8) : Nat) : Int)).1
  rw [Int.toNat_natCast, bytesN_set hN hb] at this
  exact ⟨this⟩
theorem Out.drew {base g cap L N : Nat} {w : World} (h : Out base g cap L N w) : Out base g cap L N w.drew := ⟨Kd.R_drew h.row⟩
set_option maxHeartbeats 1000000 in
theorem bits_Pack_1.calls (base g cap L N p k go gn n : Nat) (w : World) (hO : Out base g cap L N w)
    (ho : w.heap[go]? = some (.cells #[.slice (some ⟨g, 0, none⟩) L cap] 24 (0, 0))) (hn : w.heap[gn]? = some (.cells #[.int .i64 (n : Int)] 3 (0, 0))) (hp : p < 8 * L) (hl : L ≤ 1000000000000) (hk : k < 62) (hn2 : n < 4611686018427387904) (hN : N < 2 ^ p) :
    Calls Try.prog 23 #[.int .i64 (p : Int), .int .i64 (k : Int), .pointer (some ⟨go, 0, none⟩), .pointer (some ⟨gn, 0, none⟩)] w fun e w' => e = .returned (.tuple #[]) ∧ Out base g cap L (N + n / 2 ^ k % 2 * 2 ^ p) w' ∧ Only g w w' := by
  have q0 : (0 : Int) ≤ (p : Int) / 8 := by omega
  have q1 : (p : Int) / 8 < (L : Int) := by omega
  have hlen := bytesN_length L N
  have hlt : p / 8 < (bytesN L N).length := by omega
  have hR : Kd.R (Kd.int .u8) 5 w base (fun _ => True) (.slice (some ⟨g, 0, none⟩) (bytesN L N).length cap) (bytesN L N) := by rw [hlen]; exact hO.row
  obtain ⟨A, c, eA, _, hC⟩ := Kd.R_reads hR
  cases eA
  obtain ⟨ad, e, hx⟩ := Kd.at_int hC ((p : Int) / 8) q0 (by omega)
  cases e
  have hf := own_free hR (by omega) (p / 8)
  have hrd : rd (bytesN L N) ((p / 8 : Nat) : Int) = (bytesN L N)[p / 8] := by rw [rd, Int.toNat_natCast, List.getD_eq_getElem?_getD, List.getElem?_eq_getElem hlt]; rfl
  rw [show ((p : Int) / 8) = ((p / 8 : Nat) : Int) from by omega, hrd, bytesN_get hlt, Int.toNat_natCast, show (⟨g, 0, none⟩ : Addr).add (p / 8) = ⟨g, p / 8, none⟩ from by unfold Addr.add; split <;> simp_all] at hx
  have hs := byte_small hN
  have hq := low_pow (q := p % 8) (Nat.mod_lt _ (by decide))
  have HS := Aside0.mk (pack_bit (x := N / 256 ^ (p / 8) % 256) (n := n) (k := k) (q := p % 8) (Nat.lt_of_le_of_lt (Nat.mod_le _ _) hs) (Nat.mod_lt _ (by decide)) hn2)
  have HO := Aside0.mk (hO.set hN (Nat.mod_lt (n / 2 ^ k) (show 2 > 0 by decide)))
  obtain ⟨x, hxe⟩ : ∃ x, x = ((N / 256 ^ (p / 8) % 256 : Nat) : Int) := ⟨_, rfl⟩
  rw [← hxe] at hx
  have HX := Aside0.mk hxe
  have c1 := cell_of_one hn
  have c2 := cell_of_one ho
  have hp' : (p : Int) ≤ 8000000000000 := by omega
  have hn' : (n : Int) < 4611686018427387904 := by omega
  clear hC hn ho hrd hxe hn2 hs hq hlen hlt hR hO hN
  go_enter Try.func23, Try.ntmps23
  go_wp2
  go_region
  all_goals go_end0
  all_goals refine ⟨rfl, ?_, ((Only.refl _ _).set _ _).drew⟩
  all_goals (rw [HX.out, HS.out]; exact HO.out.drew)
set_option maxHeartbeats 2000000 in
theorem bits_places.pack (base g cap L N i width go gn n : Nat) (w : World) (hO : Out base g cap L N w)
    (ho : w.heap[go]? = some (.cells #[.slice (some ⟨g, 0, none⟩) L cap] 24 (0, 0))) (hn : w.heap[gn]? = some (.cells #[.int .i64 (n : Int)] 3 (0, 0))) (hi : (i + 1) * width ≤ 8 * L) (hi2 : i ≤ 1000000) (hl : L ≤ 1000000000000) (hw : width ≤ 62)
    (hn2 : n < 4611686018427387904) (hN : N < 2 ^ (i * width)) (h1 : go ≠ g) (h2 : gn ≠ g) :
    Calls Try.prog 22 #[.int .i64 (i : Int), .int .i64 (width : Int), .func (.func 23) #[] #[.pointer (some ⟨go, 0, none⟩), .pointer (some ⟨gn, 0, none⟩)]] w fun e w' => e = .returned (.tuple #[]) ∧
      Out base g cap L (N + n % 2 ^ width * 2 ^ (i * width)) w' ∧ Only g w w' := by
  go_enter Try.func22, Try.ntmps22
  go_wp2
  go_loopg [6, 8] width (fun m v6 v8 w' => ∃ j : Nat, j + m = width ∧ v8 = .int .i64 (j : Int) ∧ Aside0 (Out base g cap L (N + n % 2 ^ j * 2 ^ (i * width)) w' ∧ Only g w w'))
  case atStart => exact ⟨0, by omega, rfl, ⟨by rw [Nat.pow_zero, Nat.mod_one, Nat.zero_mul, Nat.add_zero]; exact hO, Only.refl _ _⟩⟩
  case round =>
    obtain ⟨j, hj, rfl, HA⟩ := hrel
    have ho' := (HA.out.2.block go h1).trans ho
    have hn' := (HA.out.2.block gn h2).trans hn
    by_cases hlt : j < width
    · have hb0 : decide ((j : Int) < (width : Int)) = true := decide_eq_true (by omega)
      have hm : i * width + width ≤ 8 * L := by rw [Nat.add_mul, Nat.one_mul] at hi; exact hi
      have HP := Aside0.mk (part_lt (n := n) (j := j) hN)
      have HT := Aside0.mk (part_step N n (i * width) j)
      go_wp2_with fail
      rw [show ((i : Int) * (width : Int) + (j : Int)) = ((i * width + j : Nat) : Int) from by simp]
      refine (bits_Pack_1.calls base g cap L _ (i * width + j) j go gn n wr HA.out.1 ho' hn' (by omega) hl (by omega) hn2 HP.out).mono ?_
      rintro e w1 ⟨rfl, g1, g2⟩
      rw [HT.out] at g1
      have HA1 := Aside0.mk (And.intro g1 (HA.out.2.trans g2))
      clear g1 g2
      go_wp2
      go_roundg (gk - 1)
      case measure => omega
      case rel => exact ⟨j + 1, by omega, by go_num, HA1⟩
    · have hb0 : decide ((j : Int) < (width : Int)) = false := decide_eq_false (by omega)
      obtain rfl : j = width := by omega
      go_wp2
      go_end0
      exact ⟨rfl, HA.out.1, HA.out.2⟩
theorem bits_Width.tell {n : Int} (h : n ≤ 9223372036854775807) : bits_Width.f n = some (wide n) := by
  have e : IntKind.u64.wrap (mx n 0) = ((n.toNat : Nat) : Int) := by
    rw [wrap_u64]; unfold mx; split <;> omega
  unfold bits_Width.f bits_Len64.f
  rw [e, if_pos (by omega), if_pos (by omega), Int.toNat_natCast, Option.bind_some]
  rfl
def bits_Pack.f (l0 : List Int) (a1 : Int) : Option (List Int × Int) :=
  if a1 < 0 ∨ 62 < a1 then some ([], 1)
  else if 4096 < l0.length then some ([], 2)
  else if ∀ x ∈ l0, i64 x then (if ∀ x ∈ l0, good a1.toNat x then some (bytesN ((l0.length * a1.toNat + 7) / 8) (catN a1.toNat l0), 0) else some ([], 1))
  else none
theorem Out.below {base g cap L N : Nat} {w w1 : World} (h : Out base g cap L N w) (hb : Below w.heap.size w w1) : Out base g cap L N w1 := ⟨Kd.R_below h.row hb⟩
structure Packed (base g cap L go u : Nat) (l : List Int) (i : Nat) (w w' : World) : Prop where
  out : Out base g cap L (catN u (l.take i)) w'
  box : w'.heap[go]? = some (.cells #[.slice (some ⟨g, 0, none⟩) L cap] 24 (0, 0))
  below : Below w.heap.size w w'
  all : ∀ x ∈ l.take i, good u x
theorem Packed.mono {base g cap L go u : Nat} {l : List Int} {i : Nat} {w w1 w2 : World} (h : Packed base g cap L go u l i w w1) (hb : Below w1.heap.size w1 w2) : Packed base g cap L go u l i w w2 :=
  ⟨h.out.below hb, (hb.block _ (lt_of_block h.box)).trans h.box, h.below.trans (hb.mono h.below.size), h.all⟩
set_option maxHeartbeats 4000000 in
theorem bits_Pack.calls (A0 : Option Addr) (c0 : Nat) (l0 : List Int) (a1 : Int) (r1 : List Int) (r2 : Int) (w : World) (hr0 : Kd.C (Kd.int .i64) w A0 l0.length l0) (hc0 : l0.length ≤ c0) (h : bits_Pack.f l0 a1 = some (r1, r2)) :
    Calls Try.prog 10 #[.slice A0 l0.length c0, .int .i64 a1] w fun e w' => ∃ v0_ : Value, e = .returned (.tuple #[v0_, .int .i64 r2]) ∧ Kd.R (Kd.int .u8) 5 w' w.heap.size (fun _ => True) v0_ r1 ∧ Below w.heap.size w w' := by
  unfold bits_Pack.f at h
  by_cases hc : a1 < 0 ∨ 62 < a1
  · rw [if_pos hc] at h
    simp only [Option.some.injEq, Prod.mk.injEq] at h
    obtain ⟨rfl, rfl⟩ := h
    have hm : bits_may.f a1 = some false := by
      unfold bits_may.f
      by_cases h0 : a1 ≥ 0
      · rw [if_pos h0, decide_eq_false (by omega)]
      · rw [if_neg h0]
    go_enter Try.func10, Try.ntmps10
    go_wp2_with fail
    refine (bits_may.calls a1 false _ hm).mono ?_
    rintro e w1 ⟨rfl, ⟨nd, rfl⟩⟩
    go_wp2
    go_ret2
    exact ⟨_, rfl, Kd.R_nil _ _ _ _ _, pw_below_drewN (Below.refl _ _) _⟩
  · rw [if_neg hc] at h
    have hm : bits_may.f a1 = some true := by
      unfold bits_may.f
      rw [if_pos (by omega), decide_eq_true (by omega)]
    by_cases hl : 4096 < l0.length
    · rw [if_pos hl] at h
      simp only [Option.some.injEq, Prod.mk.injEq] at h
      obtain ⟨rfl, rfl⟩ := h
      go_enter Try.func10, Try.ntmps10
      go_wp2_with fail
      refine (bits_may.calls a1 true _ hm).mono ?_
      rintro e w1 ⟨rfl, ⟨nd, rfl⟩⟩
      go_wp2
      go_ret2
      exact ⟨_, rfl, Kd.R_nil _ _ _ _ _, pw_below_drewN (Below.refl _ _) _⟩
    · rw [if_neg hl] at h
      by_cases hi : ∀ x ∈ l0, i64 x
      · rw [if_pos hi] at h
        obtain ⟨u, rfl⟩ := Int.eq_ofNat_of_zero_le (show 0 ≤ a1 by omega)
        rw [Int.toNat_natCast] at h
        have hu : u ≤ 62 := by omega
        have hsz : bits_size.f (l0.length : Int) (u : Int) = some (((l0.length * u + 7) / 8 : Nat) : Int) := by
          have h1 : (l0.length : Int) * (u : Int) = ((l0.length * u : Nat) : Int) := by simp
          have h2 : l0.length * u ≤ 4096 * 62 := Nat.mul_le_mul (by omega) hu
          unfold bits_size.f
          rw [h1]
          generalize l0.length * u = q at h2 ⊢
          rw [wrap_id (x := (q : Int)) (by omega) (by omega), wrap_id (x := (q : Int) + 7) (by omega) (by omega), Int.tdiv_eq_ediv_of_nonneg (by omega), wrap_id (by omega) (by omega)]
          refine congrArg some ?_
          omega
        have HH := Aside0.mk h
        have HI := Aside0.mk hi
        clear h hi hc
        obtain ⟨L, hL⟩ : ∃ L, L = (l0.length * u + 7) / 8 := ⟨_, rfl⟩
        rw [← hL] at hsz
        have hL2 : L ≤ 100000 := by
          have : l0.length * u ≤ 4096 * 62 := Nat.mul_le_mul (by omega) hu
          omega
        have HL := Aside0.mk hL
        clear hL
        have hmk := print_make (P := Try.prog) 24 5 .u8 1 Try.underlying24 (by kernel_rfl) (by decide) L (by omega)
        go_enter Try.func10, Try.ntmps10
        go_wp2_with fail
        refine (bits_may.calls (u : Int) true _ hm).mono ?_
        rintro e w1 ⟨rfl, ⟨nd, rfl⟩⟩
        go_wp2_with fail
        refine (bits_size.calls (l0.length : Int) (u : Int) (L : Int) _ hsz).mono ?_
        rintro e w1 ⟨rfl, ⟨nd2, rfl⟩⟩
        go_wp2
        go_loopg [24] l0.length (fun m v24 w' => ∃ i : Nat, i + m = l0.length ∧ v24 = .int .i64 (i : Int) ∧ Aside0 (Packed w.heap.size w.heap.size L L (w.heap.size + 1) u l0 i w w'))
        case atStart =>
          refine ⟨0, by omega, rfl, ⟨⟨⟨?_⟩, ?_, ?_, fun x hx => by simp at hx⟩⟩⟩
          · have h1 := Kd.R_of_own (enc := Value.int .u8) (h1 := fun _ => rfl) (ok := fun _ => True) (xs := List.replicate L (0 : Int)) (by simpa [nums, encs] using own_made' (w.drewN (nd + nd2)) w.heap.size 5 .u8 L (by simp) (by omega)) (fun _ _ => trivial)
            rw [List.take_zero, catN, bytesN_zero]
            have h2 : Kd.R (Kd.int .u8) 5 ((w.drewN (nd + nd2)).alloc (Obj.cells (madeCells #[Value.int IntKind.u8 0] L) 5)) w.heap.size (fun _ => True) (.slice (some ⟨w.heap.size, 0, none⟩) L L) (List.replicate L 0) := h1
            exact Kd.R_alloc h2 _
          · have := heap_alloc_new ((w.drewN (nd + nd2)).alloc (Obj.cells (madeCells #[Value.int IntKind.u8 0] L) 5)) (Obj.cells #[Value.slice (some { block := w.heap.size, off := 0 }) L L] 24)
            simpa using this
          · exact ((pw_below_drewN (Below.refl _ _) _).alloc (by simp) _).alloc (by simp) _
        case round =>
          obtain ⟨i, hi, rfl, HA⟩ := hrel
          by_cases hlt : i < l0.length
          · have hb0 : decide ((i : Int) < (l0.length : Int)) = true := decide_eq_true (by omega)
            obtain ⟨ad, e, hx⟩ := Kd.at_int (Kd.C_below hr0 HA.out.below) (i : Int) (by omega) (by omega)
            cases e
            rw [show rd l0 (i : Int) = l0[i] from by rw [rd, Int.toNat_natCast, List.getD_eq_getElem?_getD, List.getElem?_eq_getElem hlt]; rfl, Int.toNat_natCast] at hx
            have h64 := HI.out _ (List.getElem_mem hlt)
            obtain ⟨n, hne⟩ : ∃ n, n = l0[i] := ⟨_, rfl⟩
            rw [← hne] at hx h64
            have HE := Aside0.mk hne
            have H64 := Aside0.mk h64
            clear hne h64
            by_cases hn0 : n < 0
            · have hb1 : decide (n < 0) = true := decide_eq_true hn0
              have h12 : r1 = [] ∧ r2 = 1 := by
                have hh := HH.out
                rw [if_neg (fun hall => by have := (hall _ (List.getElem_mem hlt)).1; have := HE.out; omega)] at hh
                simp only [Option.some.injEq, Prod.mk.injEq] at hh
                exact ⟨hh.1.symm, hh.2.symm⟩
              have HR := Aside0.mk h12
              clear h12
              go_wp2
              go_ret2
              exact ⟨_, by rw [HR.out.2]; rfl, by rw [HR.out.1]; exact Kd.R_nil _ _ _ _ _, HA.out.below.alloc HA.out.below.size _⟩
            · have hb1 : decide (n < 0) = false := decide_eq_false hn0
              obtain ⟨m, rfl⟩ := Int.eq_ofNat_of_zero_le (show 0 ≤ n by omega)
              have hwd := bits_Width.tell (n := (m : Int)) H64.out.2
              have h1 := HA.out.mono ((Below.refl _ _).alloc (Nat.le_refl _) (Obj.cells #[Value.int IntKind.i64 (m : Int)] 3))
              have h2 := heap_alloc_new wr (Obj.cells #[Value.int IntKind.i64 (m : Int)] 3)
              have HA1 := Aside0.mk h1
              have HN1 := Aside0.mk h2
              have hsz2 : w.heap.size + 1 < wr.heap.size := lt_of_block HA.out.box
              clear h1 h2
              by_cases hg : wide (m : Int) ≤ (u : Int)
              · have hb2 : decide ((u : Int) < wide (m : Int)) = false := decide_eq_false (by omega)
                go_wp2_with fail
                refine (bits_Width.calls (m : Int) (wide (m : Int)) _ hwd).mono ?_
                rintro e w1 ⟨rfl, hb⟩
                have HP := Aside0.mk (HA1.out.mono hb)
                have HN := Aside0.mk ((hb.block _ (by simp)).trans HN1.out)
                have hcell := cell_of_one HN.out
                clear hb
                go_wp2_with fail
                have hgood : good u l0[i] := by rw [← HE.out]; exact ⟨by omega, (wide_le H64.out).1 hg⟩
                have hN := take_lt (u := u) (i := i) (by omega) HA.out.all
                have hm2 : m < 2 ^ u := by
                  have := hgood.2
                  rwa [← HE.out, Int.toNat_natCast] at this
                have hp2 : 2 ^ u ≤ 4611686018427387904 := Nat.pow_le_pow_right (n := 2) (by decide) hu
                have hbits : (i + 1) * u ≤ 8 * L := by
                  have h3 : (i + 1) * u ≤ l0.length * u := Nat.mul_le_mul_right _ (by omega)
                  have := HL.out
                  omega
                refine (bits_places.pack w.heap.size w.heap.size L L _ i u (w.heap.size + 1) wr.heap.size m w1 HP.out.out HP.out.box HN.out hbits (by omega) (by omega) hu (by omega) hN (by omega) (by omega)).mono ?_
                rintro e w2 ⟨rfl, g1, g2⟩
                have hstep := catN_step (u := u) hlt hgood.2
                rw [← HE.out, Int.toNat_natCast] at hstep
                rw [hstep] at g1
                have HF := Aside0.mk (Packed.mk g1 ((g2.block _ (by omega)).trans HP.out.box) (HP.out.below.trans (g2.below (Nat.le_refl _))) (all_step hlt HA.out.all hgood))
                clear g1 g2 hN hm2 hp2 hbits hgood hstep
                go_wp2
                go_roundg (gk - 1)
                case measure => omega
                case rel => exact ⟨i + 1, by omega, by go_num, HF⟩
              · have hb2 : decide ((u : Int) < wide (m : Int)) = true := decide_eq_true (by omega)
                have h12 : r1 = [] ∧ r2 = 1 := by
                  have hh := HH.out
                  rw [if_neg (fun hall => by have := (hall _ (List.getElem_mem hlt)).2; rw [← HE.out] at this; exact hg ((wide_le H64.out).2 this))] at hh
                  simp only [Option.some.injEq, Prod.mk.injEq] at hh
                  exact ⟨hh.1.symm, hh.2.symm⟩
                have HR := Aside0.mk h12
                clear h12
                go_wp2_with fail
                refine (bits_Width.calls (m : Int) (wide (m : Int)) _ hwd).mono ?_
                rintro e w1 ⟨rfl, hb⟩
                have HP := Aside0.mk (HA1.out.mono hb)
                clear hb
                go_wp2
                go_ret2
                exact ⟨_, by rw [HR.out.2]; rfl, by rw [HR.out.1]; exact Kd.R_nil _ _ _ _ _, HP.out.below⟩
          · have hb0 : decide ((i : Int) < (l0.length : Int)) = false := decide_eq_false (by omega)
            obtain rfl : i = l0.length := by omega
            have hbx := cell_of_one HA.out.box
            have h12 : r1 = bytesN L (catN u l0) ∧ r2 = 0 := by
              have hh := HH.out
              have hall := HA.out.all
              rw [List.take_length] at hall
              rw [if_pos hall, ← HL.out] at hh
              simp only [Option.some.injEq, Prod.mk.injEq] at hh
              exact ⟨hh.1.symm, hh.2.symm⟩
            have HR := Aside0.mk h12
            clear h12
            go_wp2
            go_ret2
            have hrow := HA.out.out.row
            rw [List.take_length] at hrow
            exact ⟨_, by rw [HR.out.2]; rfl, by rw [HR.out.1]; exact hrow, HA.out.below⟩
      · rw [if_neg hi] at h; cases h

end Go.Proofs.Ythcbcddnillipaa.Q
