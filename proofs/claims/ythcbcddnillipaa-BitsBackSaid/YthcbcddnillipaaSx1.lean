/- The machine side of laws, written by wip/tools/myprint.py (the printer's way, with functions proved by hand put in); Lean checks it. -/
import Derived.Test.YthcbcddnillipaaHbitnum
import Derived.Test.YthcbcddnillipaaHbits
import Derived.Test.YthcbcddnillipaaHonly
import Derived.Test.YthcbcddnillipaaShelf
import Derived.Test.YthcbcddnillipaaSx0
namespace Go.Proofs.Ythcbcddnillipaa.S
open Go.RowKit Go.Proofs.YthcbcddnillipaaW.PrintWords Go.Proofs.YthcbcddnillipaaW.PrintLast Go.Proofs.YthcbcddnillipaaW.PrintMore
attribute [local go_sem] max2_int min2_int max_two min_two max_three min_three max_four min_four   -- for this text's walks alone
set_option linter.unusedVariables false
set_option linter.unusedSimpArgs false

-- BY HAND: Derived.Test.YthcbcddnillipaaShelf
/-! ### bits_Len64: function 26 -/
-- HAND math/bits.Len64
-- IMPORT Derived.Test.YthcbcddnillipaaShelf
/-- How many bits a number has: the library's function, by the kit's contract. -/
def bits_Len64.f (a0 : Int) : Option Int := if 0 ≤ a0 then (if a0 ≤ 18446744073709551615 then some ((Lib.bitLen a0.toNat : Nat) : Int) else none) else none
theorem bits_Len64.calls (a0 : Int) (r : Int) (w : World) (h : bits_Len64.f a0 = some r) : Calls Try.prog 26 #[.int .u64 a0] w fun e w' => e = .returned (.int .i64 r) ∧ Drawn0 w w' := by
  unfold bits_Len64.f at h
  by_cases h0 : 0 ≤ a0
  · rw [if_pos h0] at h
    by_cases h1 : a0 ≤ 18446744073709551615
    · rw [if_pos h1, Option.some.injEq] at h
      refine (Try.bits_Len64 a0 w h0 h1).mono ?_
      rintro e w' ⟨rfl, rfl⟩
      exact ⟨by rw [h], Drawn0.refl _⟩
    · rw [if_neg h1] at h; cases h
  · rw [if_neg h0] at h; cases h

/-! ### bits_Width: function 13 -/
def bits_Width.f (a0 : Int) : Option (Int) := (bits_Len64.f (IntKind.u64.wrap (mx a0 0))).bind fun t101 => (some t101)
set_option maxHeartbeats 8000000 in
set_option maxRecDepth 100000 in
theorem bits_Width.calls (a0 : Int) (r : Int) (w : World) (h : bits_Width.f a0 = some r) :
    Calls Try.prog 13 #[.int .i64 a0] w fun e w' => e = .returned (.int .i64 r) ∧ Below w.heap.size w w' := by
  have HB := Aside0.mk (Below.refl w.heap.size w)
  have H : ((bits_Len64.f (IntKind.u64.wrap (mx a0 0))).bind fun t101 => (some t101)) = some r := h
  clear h
  obtain ⟨ji2, hji2⟩ : ∃ j_ : Int, (mx a0 0) = j_ := ⟨_, rfl⟩
  replace H : ((bits_Len64.f (IntKind.u64.wrap (ji2))).bind fun t101 => (some t101)) = some r := by first | (rw [hji2] at H; exact H) | (simp only [hji2] at H ⊢; exact H)
  (try (have hji2l : 0 ≤ ji2 := by (rw [← hji2]; unfold mx; (repeat' split) <;> omega)))
  (try (have hji2m : 0 ≤ ji2 := by omega))
  have hji2_ : (if a0 < 0 then 0 else a0) = ji2 := hji2
  replace H := Option.bind_eq_some_iff.mp H
  obtain ⟨t101, A30, H⟩ := H
  replace H : (some t101) = some r := H
  have A3 := Aside0.mk A30
  clear A30
  obtain rfl := Option.some.inj H
  go_enter Try.func13, Try.ntmps13
  go_wp2_with (first | ((with_reducible refine gate_callee (f := 26) rfl ?_); refine goesL_ (some 6) rfl rfl Try.func26 (by kernel_rfl) rfl #[.int .u64 (IntKind.u64.wrap (ji2))] rfl (by (try simp only [List.map_toArray, List.map_cons, List.map_nil]); first | done | (simp only [hji2]; rfl) | rfl | (simp only [List.length_drop, List.length_take]; rfl)) ?_; (with_reducible refine (bits_Len64.calls (IntKind.u64.wrap (ji2)) t101 _ A3.out).mono ?_); rintro e w' ⟨rfl, ⟨nd, rfl⟩⟩; refine ⟨_, rfl, ?_⟩))
  go_ret
  exact ⟨by first | rfl | (simp [errW_none, errW_some] <;> rfl) | (simp only [← hji2]; first | rfl | (simp [errW_none, errW_some] <;> rfl)) | (simp [*, errW_none, errW_some] <;> rfl), by repeat (first | (with_reducible first | exact HB.out | apply below_alloc | apply pw_below_drewN | apply below_drew1) | exact HB.out)⟩

/-! ### bits_may: function 20 -/
def bits_may.f (a0 : Int) : Option (Bool) := if a0 ≥ 0 then (some (decide (a0 ≤ 62))) else (some false)
set_option maxHeartbeats 8000000 in
set_option maxRecDepth 100000 in
theorem bits_may.calls (a0 : Int) (r : Bool) (w : World) (h : bits_may.f a0 = some r) :
    Calls Try.prog 20 #[.int .i64 a0] w fun e w' => e = .returned (.bool r) ∧ Drawn0 w w' := by
  have H : (if a0 ≥ 0 then (some (decide (a0 ≤ 62))) else (some false)) = some r := h
  clear h
  by_cases c2 : a0 ≥ 0
  · rw [if_pos c2] at H
    have c2b0 : decide (0 ≤ a0) = true := decide_eq_true c2
    clear c2
    obtain rfl := Option.some.inj H
    go_enter Try.func20, Try.ntmps20
    go_wp2
    go_ret
    exact ⟨by first | rfl | (simp; done) | (simp [*]; done), by repeat (first | exact Drawn0.refl _ | apply Drawn0.step)⟩
  · rw [if_neg c2] at H
    have c2b0 : decide (0 ≤ a0) = false := decide_eq_false c2
    clear c2
    obtain rfl := Option.some.inj H
    go_enter Try.func20, Try.ntmps20
    go_wp2
    go_ret
    exact ⟨by first | rfl | (simp; done) | (simp [*]; done), by repeat (first | exact Drawn0.refl _ | apply Drawn0.step)⟩

/-! ### bits_size: function 21 -/
def bits_size.f (a0 : Int) (a1 : Int) : Option (Int) := some (wrap64 (Int.tdiv (wrap64 ((wrap64 (a0 * a1)) + 7)) 8))
set_option maxHeartbeats 8000000 in
set_option maxRecDepth 100000 in
theorem bits_size.calls (a0 : Int) (a1 : Int) (r : Int) (w : World) (h : bits_size.f a0 a1 = some r) :
    Calls Try.prog 21 #[.int .i64 a0, .int .i64 a1] w fun e w' => e = .returned (.int .i64 r) ∧ Drawn0 w w' := by
  have H : (some (wrap64 (Int.tdiv (wrap64 ((wrap64 (a0 * a1)) + 7)) 8))) = some r := h
  clear h
  obtain rfl := Option.some.inj H
  go_enter Try.func21, Try.ntmps21
  go_wp2
  go_ret
  exact ⟨by first | rfl | (simp; done) | (simp [*]; done), by repeat (first | exact Drawn0.refl _ | apply Drawn0.step)⟩

-- BY HAND: Derived.Test.YthcbcddnillipaaHonly,Derived.Test.YthcbcddnillipaaHbits
/-! ### bits_Pack: function 10 -/
-- HAND winnower/bits.Pack making
-- SKIP winnower/bits.places winnower/bits.Pack$1
-- IMPORT Derived.Test.YthcbcddnillipaaHonly
-- IMPORT Derived.Test.YthcbcddnillipaaHbits
open Go.Proofs.Ythcbcddnillipaa.Honly Go.Proofs.Ythcbcddnillipaa.Hnum Go.Proofs.Ythcbcddnillipaa.Hbits
theorem own_free {w : World} {base g cap : Nat} {xs : List Int} {ok : Nat → Prop} {k : IntKind} {e : Nat} (h : Kd.R (Kd.int k) e w base ok (.slice (some ⟨g, 0, none⟩) xs.length cap) xs) (hp : 0 < xs.length) (j : Nat) : w.frozen? ⟨g, j, none⟩ = false := by
  obtain ⟨g', cap', e', _, _, cells, hc⟩ := Kd.R_form h hp
  cases e'
  simp [World.frozen?, hc]
/-- The bytes so far lie in the call's own row at block g. -/
structure Out (base g cap L N : Nat) (w : World) : Prop where
  row : Kd.R (Kd.int .u8) 5 w base (fun _ => True) (.slice (some ⟨g, 0, none⟩) L cap) (bytesN L N)
theorem Out.set {base g cap L N p b : Nat} {w : World} (h : Out base g cap L N w) (hN : N < 2 ^ p) (hb : b < 2) : Out base g cap L (N + b * 2 ^ p) (w.setCell ⟨g, p / 8, none⟩ (.int .u8 ((N / 256 ^ (p / 8) % 256 + b * 2 ^ (p % 8) : Nat) : Int))) := by
  have := (Kd.R_putg h.row ((p / 8 : Nat) : Int) ((N / 256 ^ (p / 8) % 256 + b * 2 ^ (p % 8) : Nat) : Int)).1
  rw [Int.toNat_natCast, bytesN_set hN hb] at this
  exact ⟨this⟩
theorem Out.drew {base g cap L N : Nat} {w : World} (h : Out base g cap L N w) : Out base g cap L N w.drew := ⟨Kd.R_drew h.row⟩
set_option maxHeartbeats 1000000 in
theorem bits_Pack_1.calls (base g cap L N p k go gn n : Nat) (w : World) (hO : Out base g cap L N w)
    (ho : w.heap[go]? = some (.cells #[.slice (some ⟨g, 0, none⟩) L cap] 24 (0, 0))) (hn : w.heap[gn]? = some (.cells #[.int .i64 (n : Int)] 3 (0, 0))) (hp : p < 8 * L) (hl : L ≤ 1000000000000) (hk : k < 62) (hn2 : n < 4611686018427387904) (hN : N < 2 ^ p) :
    Calls Try.prog 23 #[.int .i64 (p : Int), .int .i64 (k : Int), .pointer (some ⟨go, 0, none⟩), .pointer (some ⟨gn, 0, none⟩)] w fun e w' => e = .returned (.tuple #[]) ∧ Out base g cap L (N + n / 2 ^ k % 2 * 2 ^ p) w' ∧ Only g w w' := by
  have q0 : (0 : Int) ≤ (p : Int) / 8 := by omega
  have q1 : (p : Int) / 8 < (L : Int) := by omega
  have hlen := bytesN_length L N
  have hlt : p / 8 < (bytesN L N).length := by omega
  have hR : Kd.R (Kd.int .u8) 5 w base (fun _ => True) (.slice (some ⟨g, 0, none⟩) (bytesN L N).length cap) (bytesN L N) := by rw [hlen]; exact hO.row
  obtain ⟨A, c, eA, _, hC⟩ := Kd.R_reads hR
  cases eA
  obtain ⟨ad, e, hx⟩ := Kd.at_int hC ((p : Int) / 8) q0 (by omega)
  cases e
  have hf := own_free hR (by omega) (p / 8)
  have hrd : rd (bytesN L N) ((p / 8 : Nat) : Int) = (bytesN L N)[p / 8] := by rw [rd, Int.toNat_natCast, List.getD_eq_getElem?_getD, List.getElem?_eq_getElem hlt]; rfl
  rw [show ((p : Int) / 8) = ((p / 8 : Nat) : Int) from by omega, hrd, bytesN_get hlt, Int.toNat_natCast, show (⟨g, 0, none⟩ : Addr).add (p / 8) = ⟨g, p / 8, none⟩ from by unfold Addr.add; split <;> simp_all] at hx
  have hs := byte_small hN
  have hq := low_pow (q := p % 8) (Nat.mod_lt _ (by decide))
  have HS := Aside0.mk (pack_bit (x := N / 256 ^ (p / 8) % 256) (n := n) (k := k) (q := p % 8) (Nat.lt_of_le_of_lt (Nat.mod_le _ _) hs) (Nat.mod_lt _ (by decide)) hn2)
  have HO := Aside0.mk (hO.set hN (Nat.mod_lt (n / 2 ^ k) (show 2 > 0 by decide)))
  obtain ⟨x, hxe⟩ : ∃ x, x = ((N / 256 ^ (p / 8) % 256 : Nat) : Int) := ⟨_, rfl⟩
  rw [← hxe] at hx
  have HX := Aside0.mk hxe
  have c1 := cell_of_one hn
  have c2 := cell_of_one ho
  have hp' : (p : Int) ≤ 8000000000000 := by omega
  have hn' : (n : Int) < 4611686018427387904 := by omega
  clear hC hn ho hrd hxe hn2 hs hq hlen hlt hR hO hN
  go_enter Try.func23, Try.ntmps23
  go_wp2
  go_region
  all_goals go_end0
  all_goals refine ⟨rfl, ?_, ((Only.refl _ _).set _ _).drew⟩
  all_goals (rw [HX.out, HS.out]; exact HO.out.drew)
set_option maxHeartbeats 2000000 in
theorem bits_places.pack (base g cap L N i width go gn n : Nat) (w : World) (hO : Out base g cap L N w)
    (ho : w.heap[go]? = some (.cells #[.slice (some ⟨g, 0, none⟩) L cap] 24 (0, 0))) (hn : w.heap[gn]? = some (.cells #[.int .i64 (n : Int)] 3 (0, 0))) (hi : (i + 1) * width ≤ 8 * L) (hi2 : i ≤ 1000000) (hl : L ≤ 1000000000000) (hw : width ≤ 62)
    (hn2 : n < 4611686018427387904) (hN : N < 2 ^ (i * width)) (h1 : go ≠ g) (h2 : gn ≠ g) :
    Calls Try.prog 22 #[.int .i64 (i : Int), .int .i64 (width : Int), .func (.func 23) #[] #[.pointer (some ⟨go, 0, none⟩), .pointer (some ⟨gn, 0, none⟩)]] w fun e w' => e = .returned (.tuple #[]) ∧
      Out base g cap L (N + n % 2 ^ width * 2 ^ (i * width)) w' ∧ Only g w w' := by
  go_enter Try.func22, Try.ntmps22
  go_wp2
  go_loopg [6, 8] width (fun m v6 v8 w' => ∃ j : Nat, j + m = width ∧ v8 = .int .i64 (j : Int) ∧ Aside0 (Out base g cap L (N + n % 2 ^ j * 2 ^ (i * width)) w' ∧ Only g w w'))
  case atStart => exact ⟨0, by omega, rfl, ⟨by rw [Nat.pow_zero, Nat.mod_one, Nat.zero_mul, Nat.add_zero]; exact hO, Only.refl _ _⟩⟩
  case round =>
    obtain ⟨j, hj, rfl, HA⟩ := hrel
    have ho' := (HA.out.2.block go h1).trans ho
    have hn' := (HA.out.2.block gn h2).trans hn
    by_cases hlt : j < width
    · have hb0 : decide ((j : Int) < (width : Int)) = true := decide_eq_true (by omega)
      have hm : i * width + width ≤ 8 * L := by rw [Nat.add_mul, Nat.one_mul] at hi; exact hi
      have HP := Aside0.mk (part_lt (n := n) (j := j) hN)
      have HT := Aside0.mk (part_step N n (i * width) j)
      go_wp2_with fail
      rw [show ((i : Int) * (width : Int) + (j : Int)) = ((i * width + j : Nat) : Int) from by simp]
      refine (bits_Pack_1.calls base g cap L _ (i * width + j) j go gn n wr HA.out.1 ho' hn' (by omega) hl (by omega) hn2 HP.out).mono ?_
      rintro e w1 ⟨rfl, g1, g2⟩
      rw [HT.out] at g1
      have HA1 := Aside0.mk (And.intro g1 (HA.out.2.trans g2))
      clear g1 g2
      go_wp2
      go_roundg (gk - 1)
      case measure => omega
      case rel => exact ⟨j + 1, by omega, by go_num, HA1⟩
    · have hb0 : decide ((j : Int) < (width : Int)) = false := decide_eq_false (by omega)
      obtain rfl : j = width := by omega
      go_wp2
      go_end0
      exact ⟨rfl, HA.out.1, HA.out.2⟩
theorem bits_Width.tell {n : Int} (h : n ≤ 9223372036854775807) : bits_Width.f n = some (wide n) := by
  have e : IntKind.u64.wrap (mx n 0) = ((n.toNat : Nat) : Int) := by
    rw [wrap_u64]; unfold mx; split <;> omega
  unfold bits_Width.f bits_Len64.f
  rw [e, if_pos (by omega), if_pos (by omega), Int.toNat_natCast, Option.bind_some]
  rfl
def bits_Pack.f (l0 : List Int) (a1 : Int) : Option (List Int × Int) :=
  if a1 < 0 ∨ 62 < a1 then some ([], 1)
  else if 4096 < l0.length then some ([], 2)
  else if ∀ x ∈ l0, i64 x then (if ∀ x ∈ l0, good a1.toNat x then some (bytesN ((l0.length * a1.toNat + 7) / 8) (catN a1.toNat l0), 0) else some ([], 1))
  else none
theorem Out.below {base g cap L N : Nat} {w w1 : World} (h : Out base g cap L N w) (hb : Below w.heap.size w w1) : Out base g cap L N w1 := ⟨Kd.R_below h.row hb⟩
structure Packed (base g cap L go u : Nat) (l : List Int) (i : Nat) (w w' : World) : Prop where
  out : Out base g cap L (catN u (l.take i)) w'
  box : w'.heap[go]? = some (.cells #[.slice (some ⟨g, 0, none⟩) L cap] 24 (0, 0))
  below : Below w.heap.size w w'
  all : ∀ x ∈ l.take i, good u x
theorem Packed.mono {base g cap L go u : Nat} {l : List Int} {i : Nat} {w w1 w2 : World} (h : Packed base g cap L go u l i w w1) (hb : Below w1.heap.size w1 w2) : Packed base g cap L go u l i w w2 :=
  ⟨h.out.below hb, (hb.block _ (lt_of_block h.box)).trans h.box, h.below.trans (hb.mono h.below.size), h.all⟩
set_option maxHeartbeats 4000000 in
theorem bits_Pack.calls (A0 : Option Addr) (c0 : Nat) (l0 : List Int) (a1 : Int) (r1 : List Int) (r2 : Int) (w : World) (hr0 : Kd.C (Kd.int .i64) w A0 l0.length l0) (hc0 : l0.length ≤ c0) (h : bits_Pack.f l0 a1 = some (r1, r2)) :
    Calls Try.prog 10 #[.slice A0 l0.length c0, .int .i64 a1] w fun e w' => ∃ v0_ : Value, e = .returned (.tuple #[v0_, .int .i64 r2]) ∧ Kd.R (Kd.int .u8) 5 w' w.heap.size (fun _ => True) v0_ r1 ∧ Below w.heap.size w w' := by
  unfold bits_Pack.f at h
  by_cases hc : a1 < 0 ∨ 62 < a1
  · rw [if_pos hc] at h
    simp only [Option.some.injEq, Prod.mk.injEq] at h
    obtain ⟨rfl, rfl⟩ := h
    have hm : bits_may.f a1 = some false := by
      unfold bits_may.f
      by_cases h0 : a1 ≥ 0
      · rw [if_pos h0, decide_eq_false (by omega)]
      · rw [if_neg h0]
    go_enter Try.func10, Try.ntmps10
    go_wp2_with fail
    refine (bits_may.calls a1 false _ hm).mono ?_
    rintro e w1 ⟨rfl, ⟨nd, rfl⟩⟩
    go_wp2
    go_ret2
    exact ⟨_, rfl, Kd.R_nil _ _ _ _ _, pw_below_drewN (Below.refl _ _) _⟩
  · rw [if_neg hc] at h
    have hm : bits_may.f a1 = some true := by
      unfold bits_may.f
      rw [if_pos (by omega), decide_eq_true (by omega)]
    by_cases hl : 4096 < l0.length
    · rw [if_pos hl] at h
      simp only [Option.some.injEq, Prod.mk.injEq] at h
      obtain ⟨rfl, rfl⟩ := h
      go_enter Try.func10, Try.ntmps10
      go_wp2_with fail
      refine (bits_may.calls a1 true _ hm).mono ?_
      rintro e w1 ⟨rfl, ⟨nd, rfl⟩⟩
      go_wp2
      go_ret2
      exact ⟨_, rfl, Kd.R_nil _ _ _ _ _, pw_below_drewN (Below.refl _ _) _⟩
    · rw [if_neg hl] at h
      by_cases hi : ∀ x ∈ l0, i64 x
      · rw [if_pos hi] at h
        obtain ⟨u, rfl⟩ := Int.eq_ofNat_of_zero_le (show 0 ≤ a1 by omega)
        rw [Int.toNat_natCast] at h
        have hu : u ≤ 62 := by omega
        have hsz : bits_size.f (l0.length : Int) (u : Int) = some (((l0.length * u + 7) / 8 : Nat) : Int) := by
          have h1 : (l0.length : Int) * (u : Int) = ((l0.length * u : Nat) : Int) := by simp
          have h2 : l0.length * u ≤ 4096 * 62 := Nat.mul_le_mul (by omega) hu
          unfold bits_size.f
          rw [h1]
          generalize l0.length * u = q at h2 ⊢
          rw [wrap_id (x := (q : Int)) (by omega) (by omega), wrap_id (x := (q : Int) + 7) (by omega) (by omega), Int.tdiv_eq_ediv_of_nonneg (by omega), wrap_id (by omega) (by omega)]
          refine congrArg some ?_
          omega
        have HH := Aside0.mk h
        have HI := Aside0.mk hi
        clear h hi hc
        obtain ⟨L, hL⟩ : ∃ L, L = (l0.length * u + 7) / 8 := ⟨_, rfl⟩
        rw [← hL] at hsz
        have hL2 : L ≤ 100000 := by
          have : l0.length * u ≤ 4096 * 62 := Nat.mul_le_mul (by omega) hu
          omega
        have HL := Aside0.mk hL
        clear hL
        have hmk := print_make (P := Try.prog) 24 5 .u8 1 Try.underlying24 (by kernel_rfl) (by decide) L (by omega)
        go_enter Try.func10, Try.ntmps10
        go_wp2_with fail
        refine (bits_may.calls (u : Int) true _ hm).mono ?_
        rintro e w1 ⟨rfl, ⟨nd, rfl⟩⟩
        go_wp2_with fail
        refine (bits_size.calls (l0.length : Int) (u : Int) (L : Int) _ hsz).mono ?_
        rintro e w1 ⟨rfl, ⟨nd2, rfl⟩⟩
        go_wp2
        go_loopg [24] l0.length (fun m v24 w' => ∃ i : Nat, i + m = l0.length ∧ v24 = .int .i64 (i : Int) ∧ Aside0 (Packed w.heap.size w.heap.size L L (w.heap.size + 1) u l0 i w w'))
        case atStart =>
          refine ⟨0, by omega, rfl, ⟨⟨⟨?_⟩, ?_, ?_, fun x hx => by simp at hx⟩⟩⟩
          · have h1 := Kd.R_of_own (enc := Value.int .u8) (h1 := fun _ => rfl) (ok := fun _ => True) (xs := List.replicate L (0 : Int)) (by simpa [nums, encs] using own_made' (w.drewN (nd + nd2)) w.heap.size 5 .u8 L (by simp) (by omega)) (fun _ _ => trivial)
            rw [List.take_zero, catN, bytesN_zero]
            have h2 : Kd.R (Kd.int .u8) 5 ((w.drewN (nd + nd2)).alloc (Obj.cells (madeCells #[Value.int IntKind.u8 0] L) 5)) w.heap.size (fun _ => True) (.slice (some ⟨w.heap.size, 0, none⟩) L L) (List.replicate L 0) := h1
            exact Kd.R_alloc h2 _
          · have := heap_alloc_new ((w.drewN (nd + nd2)).alloc (Obj.cells (madeCells #[Value.int IntKind.u8 0] L) 5)) (Obj.cells #[Value.slice (some { block := w.heap.size, off := 0 }) L L] 24)
            simpa using this
          · exact ((pw_below_drewN (Below.refl _ _) _).alloc (by simp) _).alloc (by simp) _
        case round =>
          obtain ⟨i, hi, rfl, HA⟩ := hrel
          by_cases hlt : i < l0.length
          · have hb0 : decide ((i : Int) < (l0.length : Int)) = true := decide_eq_true (by omega)
            obtain ⟨ad, e, hx⟩ := Kd.at_int (Kd.C_below hr0 HA.out.below) (i : Int) (by omega) (by omega)
            cases e
            rw [show rd l0 (i : Int) = l0[i] from by rw [rd, Int.toNat_natCast, List.getD_eq_getElem?_getD, List.getElem?_eq_getElem hlt]; rfl, Int.toNat_natCast] at hx
            have h64 := HI.out _ (List.getElem_mem hlt)
            obtain ⟨n, hne⟩ : ∃ n, n = l0[i] := ⟨_, rfl⟩
            rw [← hne] at hx h64
            have HE := Aside0.mk hne
            have H64 := Aside0.mk h64
            clear hne h64
            by_cases hn0 : n < 0
            · have hb1 : decide (n < 0) = true := decide_eq_true hn0
              have h12 : r1 = [] ∧ r2 = 1 := by
                have hh := HH.out
                rw [if_neg (fun hall => by have := (hall _ (List.getElem_mem hlt)).1; have := HE.out; omega)] at hh
                simp only [Option.some.injEq, Prod.mk.injEq] at hh
                exact ⟨hh.1.symm, hh.2.symm⟩
              have HR := Aside0.mk h12
              clear h12
              go_wp2
              go_ret2
              exact ⟨_, by rw [HR.out.2]; rfl, by rw [HR.out.1]; exact Kd.R_nil _ _ _ _ _, HA.out.below.alloc HA.out.below.size _⟩
            · have hb1 : decide (n < 0) = false := decide_eq_false hn0
              obtain ⟨m, rfl⟩ := Int.eq_ofNat_of_zero_le (show 0 ≤ n by omega)
              have hwd := bits_Width.tell (n := (m : Int)) H64.out.2
              have h1 := HA.out.mono ((Below.refl _ _).alloc (Nat.le_refl _) (Obj.cells #[Value.int IntKind.i64 (m : Int)] 3))
              have h2 := heap_alloc_new wr (Obj.cells #[Value.int IntKind.i64 (m : Int)] 3)
              have HA1 := Aside0.mk h1
              have HN1 := Aside0.mk h2
              have hsz2 : w.heap.size + 1 < wr.heap.size := lt_of_block HA.out.box
              clear h1 h2
              by_cases hg : wide (m : Int) ≤ (u : Int)
              · have hb2 : decide ((u : Int) < wide (m : Int)) = false := decide_eq_false (by omega)
                go_wp2_with fail
                refine (bits_Width.calls (m : Int) (wide (m : Int)) _ hwd).mono ?_
                rintro e w1 ⟨rfl, hb⟩
                have HP := Aside0.mk (HA1.out.mono hb)
                have HN := Aside0.mk ((hb.block _ (by simp)).trans HN1.out)
                have hcell := cell_of_one HN.out
                clear hb
                go_wp2_with fail
                have hgood : good u l0[i] := by rw [← HE.out]; exact ⟨by omega, (wide_le H64.out).1 hg⟩
                have hN := take_lt (u := u) (i := i) (by omega) HA.out.all
                have hm2 : m < 2 ^ u := by
                  have := hgood.2
                  rwa [← HE.out, Int.toNat_natCast] at this
                have hp2 : 2 ^ u ≤ 4611686018427387904 := Nat.pow_le_pow_right (n := 2) (by decide) hu
                have hbits : (i + 1) * u ≤ 8 * L := by
                  have h3 : (i + 1) * u ≤ l0.length * u := Nat.mul_le_mul_right _ (by omega)
                  have := HL.out
                  omega
                refine (bits_places.pack w.heap.size w.heap.size L L _ i u (w.heap.size + 1) wr.heap.size m w1 HP.out.out HP.out.box HN.out hbits (by omega) (by omega) hu (by omega) hN (by omega) (by omega)).mono ?_
                rintro e w2 ⟨rfl, g1, g2⟩
                have hstep := catN_step (u := u) hlt hgood.2
                rw [← HE.out, Int.toNat_natCast] at hstep
                rw [hstep] at g1
                have HF := Aside0.mk (Packed.mk g1 ((g2.block _ (by omega)).trans HP.out.box) (HP.out.below.trans (g2.below (Nat.le_refl _))) (all_step hlt HA.out.all hgood))
                clear g1 g2 hN hm2 hp2 hbits hgood hstep
                go_wp2
                go_roundg (gk - 1)
                case measure => omega
                case rel => exact ⟨i + 1, by omega, by go_num, HF⟩
              · have hb2 : decide ((u : Int) < wide (m : Int)) = true := decide_eq_true (by omega)
                have h12 : r1 = [] ∧ r2 = 1 := by
                  have hh := HH.out
                  rw [if_neg (fun hall => by have := (hall _ (List.getElem_mem hlt)).2; rw [← HE.out] at this; exact hg ((wide_le H64.out).2 this))] at hh
                  simp only [Option.some.injEq, Prod.mk.injEq] at hh
                  exact ⟨hh.1.symm, hh.2.symm⟩
                have HR := Aside0.mk h12
                clear h12
                go_wp2_with fail
                refine (bits_Width.calls (m : Int) (wide (m : Int)) _ hwd).mono ?_
                rintro e w1 ⟨rfl, hb⟩
                have HP := Aside0.mk (HA1.out.mono hb)
                clear hb
                go_wp2
                go_ret2
                exact ⟨_, by rw [HR.out.2]; rfl, by rw [HR.out.1]; exact Kd.R_nil _ _ _ _ _, HP.out.below⟩
          · have hb0 : decide ((i : Int) < (l0.length : Int)) = false := decide_eq_false (by omega)
            obtain rfl : i = l0.length := by omega
            have hbx := cell_of_one HA.out.box
            have h12 : r1 = bytesN L (catN u l0) ∧ r2 = 0 := by
              have hh := HH.out
              have hall := HA.out.all
              rw [List.take_length] at hall
              rw [if_pos hall, ← HL.out] at hh
              simp only [Option.some.injEq, Prod.mk.injEq] at hh
              exact ⟨hh.1.symm, hh.2.symm⟩
            have HR := Aside0.mk h12
            clear h12
            go_wp2
            go_ret2
            have hrow := HA.out.out.row
            rw [List.take_length] at hrow
            exact ⟨_, by rw [HR.out.2]; rfl, by rw [HR.out.1]; exact hrow, HA.out.below⟩
      · rw [if_neg hi] at h; cases h

/-! ### winnowerref01_Same_p: function 12 -/
def winnowerref01_Same_p.l0 : Nat → List Int → List Int → Int → Option (Bool)
  | 0, _, _, _ => none
  | k + 1, x0, x1, x5 => if x5 < (x0.length : Int) then (if 0 ≤ x5 then (if x5 < (x1.length : Int) then (if (rd x0 x5) = (rd x1 x5) then (winnowerref01_Same_p.l0 k x0 x1 (wrap64 (x5 + 1))) else (some false)) else (none)) else (none)) else (some true)
def winnowerref01_Same_p.f (k : Nat) (l0 : List Int) (l1 : List Int) : Option (Bool) := if (l0.length : Int) = (l1.length : Int) then (winnowerref01_Same_p.l0 k l0 l1 0) else (some false)
theorem winnowerref01_Same_p.mono_l : ∀ k, (∀ y0 y1 y2, LeO (winnowerref01_Same_p.l0 k y0 y1 y2) (winnowerref01_Same_p.l0 (k + 1) y0 y1 y2))
  | 0 => fun _ _ _ r h => by simp [winnowerref01_Same_p.l0] at h
  | k + 1 => by
    have ih0 := winnowerref01_Same_p.mono_l k
    · intro y0 y1 y2
      unfold winnowerref01_Same_p.l0
      repeat' first
      | (with_reducible exact ih0 _ _ _)
      | (with_reducible exact LeO.refl _)
      | (with_reducible exact LeO.none _)
      | (with_reducible refine LeO.ite ?_ ?_)
      | (with_reducible refine LeO.bind ?_ (fun _ => ?_))
      | exact ih0 _ _ _
      | exact LeO.none _
      | refine LeO.ite ?_ ?_
      | refine LeO.bind ?_ (fun _ => ?_)
theorem winnowerref01_Same_p.mono : ∀ a0 a1 k, LeO (winnowerref01_Same_p.f k a0 a1) (winnowerref01_Same_p.f (k + 1) a0 a1) := by
  intro a0 a1 k
  have ih0 := winnowerref01_Same_p.mono_l k
  unfold winnowerref01_Same_p.f
  repeat' first
      | (with_reducible exact ih0 _ _ _)
      | (with_reducible exact LeO.refl _)
      | (with_reducible exact LeO.none _)
      | (with_reducible refine LeO.ite ?_ ?_)
      | (with_reducible refine LeO.bind ?_ (fun _ => ?_))
      | exact ih0 _ _ _
      | exact LeO.none _
      | refine LeO.ite ?_ ?_
      | refine LeO.bind ?_ (fun _ => ?_)
set_option maxHeartbeats 8000000 in
set_option maxRecDepth 100000 in
theorem winnowerref01_Same_p.calls (k : Nat) (A0 : Option Addr) (c0 : Nat) (l0 : List Int) (A1 : Option Addr) (c1 : Nat) (l1 : List Int) (r : Bool) (w : World) (hr0 : Kd.C (Kd.int .u8) w A0 l0.length l0) (hc0 : l0.length ≤ c0) (hr1 : Kd.C (Kd.int .u8) w A1 l1.length l1) (hc1 : l1.length ≤ c1) (h : winnowerref01_Same_p.f k l0 l1 = some r) :
    Calls Try.prog 12 #[.slice A0 l0.length c0, .slice A1 l1.length c1] w fun e w' => e = .returned (.bool r) ∧ Drawn0 w w' := by
  have HR0 := Aside0.mk hr0
  have HC0 := Aside0.mk hc0
  clear hr0 hc0
  have HR1 := Aside0.mk hr1
  have HC1 := Aside0.mk hc1
  clear hr1 hc1
  have H : (if (l0.length : Int) = (l1.length : Int) then (winnowerref01_Same_p.l0 k l0 l1 0) else (some false)) = some r := h
  clear h
  by_cases c3 : (l0.length : Int) = (l1.length : Int)
  · rw [if_pos c3] at H
    have c3b0 : ((l0.length : Int) == (l1.length : Int)) = true := beq_iff_eq.mpr c3
    have c3b1 : ((l0.length : Int) != (l1.length : Int)) = false := bne_eq_false_iff_eq.mpr c3
    have c3b2 : (l0.length == l1.length) = true := by first | simpa using c3 | (simp at c3 ⊢; omega)
    clear c3
    have H' := Aside0.mk H
    clear H
    go_enter Try.func12, Try.ntmps12
    go_wp2
    repeat (go_quiet (fail); try go_wp2)
    go_loopg [5] k (fun kq v5 w' => ∃ (x5_1 : Int), v5 = .int .i64 x5_1 ∧ Aside0 (winnowerref01_Same_p.l0 kq l0 l1 x5_1 = some r) ∧ Aside0 (kq ≤ k) ∧ Drawn0 w w')
    case atStart => exact ⟨(0), (by first | rfl | (simp; done) | (simp [*]; done)), H', ⟨Nat.le_refl _⟩, by repeat (first | exact Drawn0.refl _ | apply Drawn0.step)⟩
    case round =>
      clear H'
      try clear c1
      try clear p2
      try clear c3
      try clear c3b0
      try clear c3b1
      try clear c3b2
      obtain ⟨x5_1, rfl, HA, HK1, ⟨m1, rfl⟩⟩ := hrel
      cases gk with
      | zero => exact absurd HA.out (by simp [winnowerref01_Same_p.l0])
      | succ k1 =>
        have H := HA.out
        clear HA
        simp only [winnowerref01_Same_p.l0] at H
        by_cases c4 : x5_1 < (l0.length : Int)
        · rw [if_pos c4] at H
          have c4b0 : decide (x5_1 < (l0.length : Int)) = true := decide_eq_true c4
          clear c4
          by_cases c5 : 0 ≤ x5_1
          · rw [if_pos c5] at H
            have c5b0 : decide (0 ≤ x5_1) = true := decide_eq_true c5
            clear c5
            by_cases c6 : x5_1 < (l1.length : Int)
            · rw [if_pos c6] at H
              have c6b0 : decide (x5_1 < (l1.length : Int)) = true := decide_eq_true c6
              clear c6
              by_cases c7 : (rd l0 x5_1) = (rd l1 x5_1)
              · rw [if_pos c7] at H
                have c7b0 : ((rd l0 x5_1) == (rd l1 x5_1)) = true := beq_iff_eq.mpr c7
                have c7b1 : ((rd l0 x5_1) != (rd l1 x5_1)) = false := bne_eq_false_iff_eq.mpr c7
                clear c7
                have H' := Aside0.mk H
                clear H
                have p102 : 0 ≤ (x5_1 : Int) := of_decide_eq_true (by first | (with_reducible assumption) | assumption)
                have q102 : x5_1 < (l0.length : Int) := of_decide_eq_true (by first | (with_reducible assumption) | assumption)
                obtain ⟨ad102, e102, hx102_0⟩ := Kd.at_int HR0.out x5_1 p102 q102
                cases e102
                replace p102 := eq_true p102
                replace q102 := eq_true q102
                have p103 : 0 ≤ (x5_1 : Int) := of_decide_eq_true (by first | (with_reducible assumption) | assumption)
                have q103 : x5_1 < (l1.length : Int) := of_decide_eq_true (by first | (with_reducible assumption) | assumption)
                obtain ⟨ad103, e103, hx103_0⟩ := Kd.at_int HR1.out x5_1 p103 q103
                cases e103
                replace p103 := eq_true p103
                replace q103 := eq_true q103
                go_wp2
                repeat (go_quiet (fail); try go_wp2)
                go_roundg k1
                case measure => have := HK1.out; omega
                case rel => exact ⟨(wrap64 (x5_1 + 1)), (by first | rfl | (simp; done) | (simp [*]; done)), H', ⟨by have := HK1.out; omega⟩, by repeat (first | exact Drawn0.refl _ | apply Drawn0.step)⟩
              · rw [if_neg c7] at H
                have c7b0 : ((rd l0 x5_1) == (rd l1 x5_1)) = false := beq_eq_false_iff_ne.mpr c7
                have c7b1 : ((rd l0 x5_1) != (rd l1 x5_1)) = true := bne_iff_ne.mpr c7
                obtain rfl := Option.some.inj H
                have p102 : 0 ≤ (x5_1 : Int) := of_decide_eq_true (by first | (with_reducible assumption) | assumption)
                have q102 : x5_1 < (l0.length : Int) := of_decide_eq_true (by first | (with_reducible assumption) | assumption)
                obtain ⟨ad102, e102, hx102_0⟩ := Kd.at_int HR0.out x5_1 p102 q102
                cases e102
                replace p102 := eq_true p102
                replace q102 := eq_true q102
                have p103 : 0 ≤ (x5_1 : Int) := of_decide_eq_true (by first | (with_reducible assumption) | assumption)
                have q103 : x5_1 < (l1.length : Int) := of_decide_eq_true (by first | (with_reducible assumption) | assumption)
                obtain ⟨ad103, e103, hx103_0⟩ := Kd.at_int HR1.out x5_1 p103 q103
                cases e103
                replace p103 := eq_true p103
                replace q103 := eq_true q103
                go_wp2
                repeat (go_quiet (fail); try go_wp2)
                go_ret
                exact ⟨by first | rfl | (simp; done) | (simp [*]; done), by repeat (first | exact Drawn0.refl _ | apply Drawn0.step)⟩
            · rw [if_neg c6] at H
              exact absurd H (by simp)
          · rw [if_neg c5] at H
            exact absurd H (by simp)
        · rw [if_neg c4] at H
          have c4b0 : decide (x5_1 < (l0.length : Int)) = false := decide_eq_false c4
          clear c4
          obtain rfl := Option.some.inj H
          go_wp2
          repeat (go_quiet (fail); try go_wp2)
          go_ret
          exact ⟨by first | rfl | (simp; done) | (simp [*]; done), by repeat (first | exact Drawn0.refl _ | apply Drawn0.step)⟩
  · rw [if_neg c3] at H
    have c3b0 : ((l0.length : Int) == (l1.length : Int)) = false := beq_eq_false_iff_ne.mpr c3
    have c3b1 : ((l0.length : Int) != (l1.length : Int)) = true := bne_iff_ne.mpr c3
    have c3b2 : (l0.length == l1.length) = false := by first | simpa using c3 | (simp at c3 ⊢; omega)
    obtain rfl := Option.some.inj H
    go_enter Try.func12, Try.ntmps12
    go_wp2
    repeat (go_quiet (fail); try go_wp2)
    go_ret
    exact ⟨by first | rfl | (simp; done) | (simp [*]; done), by repeat (first | exact Drawn0.refl _ | apply Drawn0.step)⟩

-- BY HAND: 
/-! ### winnowerref01_Same: function 12 -/
-- HAND winnower/winnowerref01.Same over
theorem winnowerref01_Same.tell (a b : List Int) (hl : a.length = b.length) (h63 : a.length ≤ 9223372036854775807) : ∀ (d k kq : Nat), k + d = a.length → d < kq →
    winnowerref01_Same_p.l0 kq a b (k : Int) = some (decide (a.drop k = b.drop k)) := by
  intro d
  induction d with
  | zero =>
    intro k kq hd hq
    obtain ⟨q, rfl⟩ : ∃ m, kq = m + 1 := ⟨kq - 1, by omega⟩
    simp only [winnowerref01_Same_p.l0]
    rw [if_neg (by omega), List.drop_of_length_le (by omega), List.drop_of_length_le (by omega)]
    rfl
  | succ d ih =>
    intro k kq hd hq
    obtain ⟨q, rfl⟩ : ∃ m, kq = m + 1 := ⟨kq - 1, by omega⟩
    have ha : k < a.length := by omega
    have hb : k < b.length := by omega
    have ra : rd a (k : Int) = a[k] := by rw [rd, Int.toNat_natCast, List.getD_eq_getElem?_getD, List.getElem?_eq_getElem ha]; rfl
    have rb : rd b (k : Int) = b[k] := by rw [rd, Int.toNat_natCast, List.getD_eq_getElem?_getD, List.getElem?_eq_getElem hb]; rfl
    simp only [winnowerref01_Same_p.l0]
    rw [if_pos (by omega), if_pos (by omega), if_pos (by omega), ra, rb, List.drop_eq_getElem_cons ha, List.drop_eq_getElem_cons hb]
    by_cases h : a[k] = b[k]
    · rw [if_pos h, show wrap64 ((k : Int) + 1) = ((k + 1 : Nat) : Int) from by unfold wrap64; omega, ih (k + 1) q (by omega) (by omega)]
      exact congrArg some (decide_eq_decide.2 ⟨fun e => by rw [h, e], fun e => (List.cons.inj e).2⟩)
    · rw [if_neg h]
      exact congrArg some (decide_eq_false (fun e => h (List.cons.inj e).1)).symm
def winnowerref01_Same.f (l0 l1 : List Int) : Option Bool := some (decide (l0 = l1))
theorem winnowerref01_Same.calls (A0 : Option Addr) (c0 : Nat) (l0 : List Int) (A1 : Option Addr) (c1 : Nat) (l1 : List Int) (r : Bool) (w : World) (hr0 : Kd.C (Kd.int .u8) w A0 l0.length l0) (hc0 : l0.length ≤ c0) (hr1 : Kd.C (Kd.int .u8) w A1 l1.length l1) (hc1 : l1.length ≤ c1) (h : winnowerref01_Same.f l0 l1 = some r) :
    Calls Try.prog 12 #[.slice A0 l0.length c0, .slice A1 l1.length c1] w fun e w' => e = .returned (.bool r) ∧ Drawn0 w w' := by
  refine winnowerref01_Same_p.calls (l0.length + 1) A0 c0 l0 A1 c1 l1 r w hr0 hc0 hr1 hc1 ?_
  rw [← h]
  unfold winnowerref01_Same_p.f winnowerref01_Same.f
  by_cases hl : l0.length = l1.length
  · rw [if_pos (by omega), show (0 : Int) = ((0 : Nat) : Int) from rfl, winnowerref01_Same.tell l0 l1 hl hr0.2.1 l0.length 0 _ (by omega) (by omega), List.drop_zero, List.drop_zero]
  · rw [if_neg (by omega)]
    congr 1
    symm
    simp only [decide_eq_false_iff_not]
    intro e; exact hl (by rw [e])

-- BY HAND: Derived.Test.YthcbcddnillipaaHonly,Derived.Test.YthcbcddnillipaaHbits
/-! ### bits_number: function 27 -/
-- HAND winnower/bits.number making
-- SKIP winnower/bits.places winnower/bits.number$1 winnower/bits.Pack$1
-- IMPORT Derived.Test.YthcbcddnillipaaHonly
-- IMPORT Derived.Test.YthcbcddnillipaaHbits
open Go.Proofs.Ythcbcddnillipaa.Honly Go.Proofs.Ythcbcddnillipaa.Hnum Go.Proofs.Ythcbcddnillipaa.Hbits
set_option maxHeartbeats 1000000 in
theorem bits_number_1.calls (A0 : Option Addr) (cap : Nat) (l : List Int) (p k gn gb acc : Nat) (w : World) (hC : Kd.C (Kd.int .u8) w A0 l.length l)
    (hn : w.heap[gn]? = some (.cells #[.int .i64 (acc : Int)] 3 (0, 0))) (hb : w.heap[gb]? = some (.cells #[.slice A0 l.length cap] 24 (0, 0))) (hp : p < 8 * l.length) (hl : l.length ≤ 1000000000000) (hk : k < 62)
    (hB : Bytes l) (ha : acc < 2 ^ k) :
    Calls Try.prog 29 #[.int .i64 (p : Int), .int .i64 (k : Int), .pointer (some ⟨gn, 0, none⟩), .pointer (some ⟨gb, 0, none⟩)] w fun e w' => e = .returned (.tuple #[]) ∧
      w'.heap[gn]? = some (.cells #[.int .i64 ((acc + bitAt l p * 2 ^ k : Nat) : Int)] 3 (0, 0)) ∧ Only gn w w' := by
  have q0 : (0 : Int) ≤ (p : Int) / 8 := by omega
  have q1 : (p : Int) / 8 < (l.length : Int) := by omega
  obtain ⟨ad, e, hx⟩ := Kd.at_int hC ((p : Int) / 8) q0 q1
  cases e
  have hlt : p / 8 < l.length := by omega
  have hrd : rd l ((p / 8 : Nat) : Int) = l[p / 8] := by rw [rd, Int.toNat_natCast, List.getD_eq_getElem?_getD, List.getElem?_eq_getElem hlt]; rfl
  have hby := hB _ (List.getElem_mem hlt)
  obtain ⟨x, hxe⟩ : ∃ x : Nat, l[p / 8] = (x : Int) := Int.eq_ofNat_of_zero_le hby.1
  have hbit : bitAt l p = x / 2 ^ (p % 8) % 2 := by unfold bitAt; rw [hrd, hxe, Int.toNat_natCast]
  have HS := Aside0.mk (bit_step (x := x) (q := p % 8) (by omega) ha hk)
  rw [show ((p : Int) / 8) = ((p / 8 : Nat) : Int) from by omega, hrd, hxe, Int.toNat_natCast] at hx
  have c1 := cell_of_one hn
  have f1 := free_of_one hn
  have c2 := cell_of_one hb
  have hp' : (p : Int) ≤ 8000000000000 := by omega
  have HN := Aside0.mk hn
  have HBit := Aside0.mk hbit
  clear hC hn hb hB hxe hrd hby hbit ha
  go_enter Try.func29, Try.ntmps29
  go_wp2
  go_region
  all_goals go_end0
  all_goals refine ⟨rfl, ?_, ((Only.refl _ _).set _ _).drew⟩
  all_goals (rw [HBit.out, ← HS.out]; exact one_setCell HN.out)
set_option maxHeartbeats 2000000 in
theorem bits_places.number (A0 : Option Addr) (cap : Nat) (l : List Int) (i width gn gb : Nat) (w : World) (hC : Kd.C (Kd.int .u8) w A0 l.length l)
    (hn : w.heap[gn]? = some (.cells #[.int .i64 0] 3 (0, 0))) (hb : w.heap[gb]? = some (.cells #[.slice A0 l.length cap] 24 (0, 0))) (hi : (i + 1) * width ≤ 8 * l.length) (hi2 : i ≤ 1099511627776) (hl : l.length ≤ 1000000000000) (hw : width ≤ 62)
    (hB : Bytes l) (hA : ∀ ad, A0 = some ad → 0 < l.length → ad.block ≠ gn) :
    Calls Try.prog 22 #[.int .i64 (i : Int), .int .i64 (width : Int), .func (.func 29) #[] #[.pointer (some ⟨gn, 0, none⟩), .pointer (some ⟨gb, 0, none⟩)]] w fun e w' => e = .returned (.tuple #[]) ∧
      w'.heap[gn]? = some (.cells #[.int .i64 ((numAt l (i * width) width : Nat) : Int)] 3 (0, 0)) ∧ Only gn w w' := by
  have hne : gb ≠ gn := by
    rintro rfl
    rw [hn] at hb; simp at hb
  go_enter Try.func22, Try.ntmps22
  go_wp2
  go_loopg [6, 8] width (fun m v6 v8 w' => ∃ j : Nat, j + m = width ∧ v8 = .int .i64 (j : Int) ∧ Aside0 (w'.heap[gn]? = some (.cells #[.int .i64 ((numAt l (i * width) j : Nat) : Int)] 3 (0, 0)) ∧ Only gn w w'))
  case atStart => exact ⟨0, by omega, rfl, ⟨hn, Only.refl _ _⟩⟩
  case round =>
    obtain ⟨j, hj, rfl, HA⟩ := hrel
    have hC' := C_only hC HA.out.2 hA
    have hb' := (HA.out.2.block gb hne).trans hb
    by_cases hlt : j < width
    · have hb0 : decide ((j : Int) < (width : Int)) = true := decide_eq_true (by omega)
      have hm : i * width + width ≤ 8 * l.length := by rw [Nat.add_mul, Nat.one_mul] at hi; exact hi
      go_wp2_with fail
      rw [show ((i : Int) * (width : Int) + (j : Int)) = ((i * width + j : Nat) : Int) from by simp]
      refine (bits_number_1.calls A0 cap l (i * width + j) j gn gb _ wr hC' HA.out.1 hb' (by omega) hl (by omega) hB (numAt_lt l (i * width) j)).mono ?_
      rintro e w1 ⟨rfl, h1, h2⟩
      have HA1 := Aside0.mk (And.intro h1 (HA.out.2.trans h2))
      clear h1 h2
      go_wp2
      go_roundg (gk - 1)
      case measure => omega
      case rel => exact ⟨j + 1, by omega, by go_num, HA1⟩
    · have hb0 : decide ((j : Int) < (width : Int)) = false := decide_eq_false (by omega)
      obtain rfl : j = width := by omega
      go_wp2
      go_end0
      exact ⟨rfl, HA.out.1, HA.out.2⟩
def bits_number.f (l0 : List Int) (a1 a2 : Int) : Option Int :=
  if 0 ≤ a1 ∧ a1 ≤ 1099511627776 ∧ 0 ≤ a2 ∧ a2 ≤ 62 ∧ (a1 + 1) * a2 ≤ 8 * (l0.length : Int) ∧ l0.length ≤ 1000000000000 ∧ Bytes l0 then some ((numAt l0 (a1.toNat * a2.toNat) a2.toNat : Nat) : Int) else none
set_option maxHeartbeats 2000000 in
theorem bits_number.calls (A0 : Option Addr) (c0 : Nat) (l0 : List Int) (a1 a2 : Int) (r : Int) (w : World) (hr0 : Kd.C (Kd.int .u8) w A0 l0.length l0) (hc0 : l0.length ≤ c0) (h : bits_number.f l0 a1 a2 = some r) :
    Calls Try.prog 27 #[.slice A0 l0.length c0, .int .i64 a1, .int .i64 a2] w fun e w' => e = .returned (.int .i64 r) ∧ Below w.heap.size w w' := by
  unfold bits_number.f at h
  by_cases hc : 0 ≤ a1 ∧ a1 ≤ 1099511627776 ∧ 0 ≤ a2 ∧ a2 ≤ 62 ∧ (a1 + 1) * a2 ≤ 8 * (l0.length : Int) ∧ l0.length ≤ 1000000000000 ∧ Bytes l0
  · rw [if_pos hc, Option.some.injEq] at h
    obtain ⟨h0, h1, h2, h3, h4, h5, h6⟩ := hc
    obtain ⟨i, rfl⟩ := Int.eq_ofNat_of_zero_le h0
    obtain ⟨u, rfl⟩ := Int.eq_ofNat_of_zero_le h2
    rw [Int.toNat_natCast, Int.toNat_natCast] at h
    have hlen : (i + 1) * u ≤ 8 * l0.length := by
      have : (((i + 1) * u : Nat) : Int) ≤ ((8 * l0.length : Nat) : Int) := by simpa using h4
      omega
    have HC := Aside0.mk hr0
    have HR := Aside0.mk h
    have HA := Aside0.mk (show ∀ ad, A0 = some ad → 0 < l0.length → ad.block < w.heap.size from fun ad e hp => by
      obtain ⟨ad', e', hx⟩ := Kd.at_int hr0 0 (by omega) (by omega)
      rw [e] at e'; cases e'
      have := World.block_lt_of_cell? _ _ hx
      rwa [show (ad.add (0 : Int).toNat).block = ad.block from by unfold Addr.add; split <;> rfl] at this)
    have hi2 : i ≤ 1099511627776 := by omega
    have hu2 : u ≤ 62 := by omega
    clear hr0 h h0 h1 h2 h3 h4
    go_enter Try.func27, Try.ntmps27
    go_wp2_with fail
    have hw1 : Below w.heap.size w ((w.alloc (.cells #[.slice A0 l0.length c0] 24)).alloc (.cells #[.int .i64 0] 3)) := ((Below.refl _ _).alloc (Nat.le_refl _) _).alloc (by simp) _
    have hn2 : ((w.alloc (.cells #[.slice A0 l0.length c0] 24)).alloc (.cells #[.int .i64 0] 3)).heap[w.heap.size + 1]? = some (.cells #[.int .i64 0] 3 (0, 0)) := by
      have := heap_alloc_new (w.alloc (.cells #[.slice A0 l0.length c0] 24)) (.cells #[.int .i64 0] 3)
      simpa using this
    have hb2 : ((w.alloc (.cells #[.slice A0 l0.length c0] 24)).alloc (.cells #[.int .i64 0] 3)).heap[w.heap.size]? = some (.cells #[.slice A0 l0.length c0] 24 (0, 0)) := by
      rw [Below.heap_alloc _ _ _ (by simp)]; exact heap_alloc_new _ _
    refine (bits_places.number A0 c0 l0 i u (w.heap.size + 1) w.heap.size _ (Kd.C_below HC.out hw1) hn2 hb2 hlen (by omega) h5 (by omega) h6 (fun ad e hp => by have := HA.out ad e hp; omega)).mono ?_
    rintro e w1 ⟨rfl, g1, g2⟩
    have hcell := cell_of_one g1
    have HB := Aside0.mk (hw1.trans (g2.below (by omega)))
    clear hn2 hb2 hw1 g1 g2
    go_wp2
    go_ret
    exact ⟨congrArg (fun x => Ending.returned (.int .i64 x)) HR.out, HB.out⟩
  · rw [if_neg hc] at h; cases h

/-! ### bits_Unpack_p: function 15 -/
mutual
def bits_Unpack_p.j1 : Nat → List Int → Int → Int → Option (List Int × Int)
  | 0, _, _, _ => none
  | k + 1, x0, x1, x2 => if 0 ≤ x1 then (if (x1 : Int).toNat ≤ 35184372088832 then ((some (List.replicate (x1 : Int).toNat 0 : List Int)).bind fun y108 => (bits_Unpack_p.l0 k x0 x2 y108 (y108.length : Int) 0)) else (none)) else (none)
def bits_Unpack_p.l0 : Nat → List Int → Int → List Int → Int → Int → Option (List Int × Int)
  | 0, _, _, _, _, _ => none
  | k + 1, x0, x2, x8, x55, x56 => if x56 < x55 then ((bits_number.f x0 x56 x2).bind fun t111 => (if 0 ≤ x56 then (if x56 < (x8.length : Int) then (bits_Unpack_p.l0 k x0 x2 (x8.set (x56 : Int).toNat t111) x55 (wrap64 (x56 + 1))) else (none)) else (none))) else (some (x8, 0))
def bits_Unpack_p.j0 : Nat → List Int → Int → Int → Bool → Option (List Int × Int)
  | 0, _, _, _, _ => none
  | k + 1, x0, x1, x2, x10 => if x10 = true then (some (([] : List Int), 1)) else (if x1 > 4096 then (some (([] : List Int), 2)) else ((bits_size.f x1 x2).bind fun t105 => (if (x0.length : Int) < t105 then (some (([] : List Int), 6)) else ((bits_size.f x1 x2).bind fun t106 => (if (x0.length : Int) > t106 then (some (([] : List Int), 7)) else (if (Int.tmod (wrap64 (x1 * x2)) 8) > 0 then (if 0 ≤ (wrap64 ((x0.length : Int) - 1)) then (if (wrap64 ((x0.length : Int) - 1)) < (x0.length : Int) then (if 0 ≤ (Int.tmod (wrap64 (x1 * x2)) 8) then (if (shr .u8 (rd x0 (wrap64 ((x0.length : Int) - 1))) (Int.tmod (wrap64 (x1 * x2)) 8)) > 0 then (some (([] : List Int), 7)) else (bits_Unpack_p.j1 k x0 x1 x2)) else (none)) else (none)) else (none)) else (bits_Unpack_p.j1 k x0 x1 x2)))))))
end
def bits_Unpack_p.f (k : Nat) (l0 : List Int) (a1 : Int) (a2 : Int) : Option (List Int × Int) := (bits_may.f a2).bind fun t104 => (if t104 = true then (bits_Unpack_p.j0 k l0 a1 a2 (decide (a1 < 0))) else (bits_Unpack_p.j0 k l0 a1 a2 (!t104)))
theorem bits_Unpack_p.mono_l : ∀ k, (∀ y0 y1 y2, LeO (bits_Unpack_p.j1 k y0 y1 y2) (bits_Unpack_p.j1 (k + 1) y0 y1 y2)) ∧ (∀ y0 y1 y2 y3 y4, LeO (bits_Unpack_p.l0 k y0 y1 y2 y3 y4) (bits_Unpack_p.l0 (k + 1) y0 y1 y2 y3 y4)) ∧ (∀ y0 y1 y2 y3, LeO (bits_Unpack_p.j0 k y0 y1 y2 y3) (bits_Unpack_p.j0 (k + 1) y0 y1 y2 y3))
  | 0 => ⟨fun _ _ _ r h => by simp [bits_Unpack_p.j1] at h, fun _ _ _ _ _ r h => by simp [bits_Unpack_p.l0] at h, fun _ _ _ _ r h => by simp [bits_Unpack_p.j0] at h⟩
  | k + 1 => by
    obtain ⟨ih0, ih1, ih2⟩ := bits_Unpack_p.mono_l k
    refine ⟨?_, ?_, ?_⟩
    · intro y0 y1 y2
      unfold bits_Unpack_p.j1
      repeat' first
      | (with_reducible exact ih0 _ _ _)
      | (with_reducible exact ih1 _ _ _ _ _)
      | (with_reducible exact ih2 _ _ _ _)
      | (with_reducible exact LeO.refl _)
      | (with_reducible exact LeO.none _)
      | (with_reducible refine LeO.ite ?_ ?_)
      | (with_reducible refine LeO.bind ?_ (fun _ => ?_))
      | exact ih0 _ _ _
      | exact ih1 _ _ _ _ _
      | exact ih2 _ _ _ _
      | exact LeO.none _
      | refine LeO.ite ?_ ?_
      | refine LeO.bind ?_ (fun _ => ?_)
    · intro y0 y1 y2 y3 y4
      unfold bits_Unpack_p.l0
      repeat' first
      | (with_reducible exact ih0 _ _ _)
      | (with_reducible exact ih1 _ _ _ _ _)
      | (with_reducible exact ih2 _ _ _ _)
      | (with_reducible exact LeO.refl _)
      | (with_reducible exact LeO.none _)
      | (with_reducible refine LeO.ite ?_ ?_)
      | (with_reducible refine LeO.bind ?_ (fun _ => ?_))
      | exact ih0 _ _ _
      | exact ih1 _ _ _ _ _
      | exact ih2 _ _ _ _
      | exact LeO.none _
      | refine LeO.ite ?_ ?_
      | refine LeO.bind ?_ (fun _ => ?_)
    · intro y0 y1 y2 y3
      unfold bits_Unpack_p.j0
      repeat' first
      | (with_reducible exact ih0 _ _ _)
      | (with_reducible exact ih1 _ _ _ _ _)
      | (with_reducible exact ih2 _ _ _ _)
      | (with_reducible exact LeO.refl _)
      | (with_reducible exact LeO.none _)
      | (with_reducible refine LeO.ite ?_ ?_)
      | (with_reducible refine LeO.bind ?_ (fun _ => ?_))
      | exact ih0 _ _ _
      | exact ih1 _ _ _ _ _
      | exact ih2 _ _ _ _
      | exact LeO.none _
      | refine LeO.ite ?_ ?_
      | refine LeO.bind ?_ (fun _ => ?_)
theorem bits_Unpack_p.mono : ∀ a0 a1 a2 k, LeO (bits_Unpack_p.f k a0 a1 a2) (bits_Unpack_p.f (k + 1) a0 a1 a2) := by
  intro a0 a1 a2 k
  obtain ⟨ih0, ih1, ih2⟩ := bits_Unpack_p.mono_l k
  unfold bits_Unpack_p.f
  repeat' first
      | (with_reducible exact ih0 _ _ _)
      | (with_reducible exact ih1 _ _ _ _ _)
      | (with_reducible exact ih2 _ _ _ _)
      | (with_reducible exact LeO.refl _)
      | (with_reducible exact LeO.none _)
      | (with_reducible refine LeO.ite ?_ ?_)
      | (with_reducible refine LeO.bind ?_ (fun _ => ?_))
      | exact ih0 _ _ _
      | exact ih1 _ _ _ _ _
      | exact ih2 _ _ _ _
      | exact LeO.none _
      | refine LeO.ite ?_ ?_
      | refine LeO.bind ?_ (fun _ => ?_)
set_option maxHeartbeats 8000000 in
set_option maxRecDepth 100000 in
theorem bits_Unpack_p.calls (k : Nat) (A0 : Option Addr) (c0 : Nat) (l0 : List Int) (a1 : Int) (a2 : Int) (r1 : List Int) (r2 : Int) (w : World) (hr0 : Kd.C (Kd.int .u8) w A0 l0.length l0) (hc0 : l0.length ≤ c0) (h : bits_Unpack_p.f k l0 a1 a2 = some (r1, r2)) :
    Calls Try.prog 15 #[.slice A0 l0.length c0, .int .i64 a1, .int .i64 a2] w fun e w' => ∃ v0_ : Value, e = .returned (.tuple #[v0_, .int .i64 r2]) ∧ Kd.R (Kd.int .i64) 3 w' w.heap.size (fun _ => True) v0_ r1 ∧ Below w.heap.size w w' := by
  have HR0 := Aside0.mk hr0
  have HC0 := Aside0.mk hc0
  clear hr0 hc0
  have HB := Aside0.mk (Below.refl w.heap.size w)
  have H : ((bits_may.f a2).bind fun t104 => (if t104 = true then (bits_Unpack_p.j0 k l0 a1 a2 (decide (a1 < 0))) else (bits_Unpack_p.j0 k l0 a1 a2 (!t104)))) = some (r1, r2) := h
  clear h
  have HC4 := Aside0.mk H
  clear H
  go_enter Try.func15, Try.ntmps15
  go_upto_block 0 with (fail)
  go_cut [] (fun wc => ∃ (kq : Nat), Aside0 (bits_Unpack_p.j1 kq l0 a1 a2 = some (r1, r2)) ∧ Aside0 (kq ≤ k) ∧ Aside0 (Below w.heap.size w wc))
  case first =>
    have H := HC4.out
    clear HC4
    replace H := Option.bind_eq_some_iff.mp H
    obtain ⟨t104, A50, H⟩ := H
    replace H : (if t104 = true then (bits_Unpack_p.j0 k l0 a1 a2 (decide (a1 < 0))) else (bits_Unpack_p.j0 k l0 a1 a2 (!t104))) = some (r1, r2) := H
    have A5 := Aside0.mk A50
    clear A50
    have HC6 := Aside0.mk H
    clear H
    go_upto_if 10 with (first | ((with_reducible refine gate_callee (f := 20) rfl ?_); refine goesL_ (some 12) rfl rfl Try.func20 (by kernel_rfl) rfl #[.int .i64 a2] rfl (by (try simp only [List.map_toArray, List.map_cons, List.map_nil]); first | done | rfl | (simp only [List.length_drop, List.length_take]; rfl)) ?_; (with_reducible refine (bits_may.calls a2 t104 _ A5.out).mono ?_); rintro e w' ⟨rfl, ⟨nd, rfl⟩⟩; refine ⟨_, rfl, ?_⟩))
    (try simp only [Act.put, List.setIfInBounds_toArray, List.set_cons_zero, List.set_cons_succ])
    go_cut [10] (fun v10 wc => ∃ (kq : Nat) (x10_5 : Bool), v10 = .bool x10_5 ∧ Aside0 (bits_Unpack_p.j0 kq l0 a1 a2 x10_5 = some (r1, r2)) ∧ Aside0 (kq ≤ k) ∧ Aside0 (Below w.heap.size w wc))
    case first =>
      have H := HC6.out
      clear HC6
      by_cases c7 : t104 = true
      · subst c7
        have H1 : (bits_Unpack_p.j0 k l0 a1 a2 (decide (a1 < 0))) = some (r1, r2) := by rw [if_pos rfl] at H; exact H
        clear H
        have H := H1
        clear H1
        have H' := Aside0.mk H
        clear H
        go_wp2
        go_meet
        case rel => exact ⟨_, (decide (a1 < 0)), (by first | rfl | (simp; done) | (simp [*]; done)), H', ⟨by first | omega | exact Nat.le_refl _⟩, ⟨by repeat (first | (with_reducible first | exact HB.out | apply below_alloc | apply pw_below_drewN | apply below_drew1) | exact HB.out)⟩⟩
      · replace c7 := Bool.eq_false_iff.mpr c7
        subst c7
        have H1 : (bits_Unpack_p.j0 k l0 a1 a2 (!false)) = some (r1, r2) := by rw [if_neg (show ¬ (false = true) by decide)] at H; exact H
        clear H
        have H := H1
        clear H1
        have H' := Aside0.mk H
        clear H
        go_wp2
        go_meet
        case rel => exact ⟨_, (!false), (by first | rfl | (simp; done) | (simp [*]; done)), H', ⟨by first | omega | exact Nat.le_refl _⟩, ⟨by repeat (first | (with_reducible first | exact HB.out | apply below_alloc | apply pw_below_drewN | apply below_drew1) | exact HB.out)⟩⟩
    case rest =>
      clear HC6
      try clear c1
      try clear c2
      try clear p2
      try clear c7
      obtain ⟨kq, x10_5, rfl, HA, HJ5, HB⟩ := hcut
      cases kq with
      | zero => exact absurd HA.out (by simp [bits_Unpack_p.j0])
      | succ kj5 =>
        have H := HA.out
        clear HA
        simp only [bits_Unpack_p.j0] at H
        by_cases c8 : x10_5 = true
        · subst c8
          have H1 : (some (([] : List Int), 1)) = some (r1, r2) := by rw [if_pos rfl] at H; exact H
          clear H
          have H := H1
          clear H1
          simp only [Option.some.injEq, Prod.mk.injEq] at H
          obtain ⟨rfl, rfl⟩ := H
          go_wp2
          go_ret2
          exact ⟨_, by first | rfl | (simp [errW_none, errW_some] <;> rfl) | (simp [*, errW_none, errW_some] <;> rfl), by first | exact Kd.R_nil _ _ _ _ _ | exact Kd.N_nil _ _ _ _ _ | exact Kd.V_nil _ _ _ _ _ | exact Kd.Q_nil _ _ _ _ _ | exact Kd.S_nil _ _ _ _ _, by repeat (first | (with_reducible first | exact HB.out | apply below_alloc | apply pw_below_drewN | apply below_drew1) | exact HB.out)⟩
        · replace c8 := Bool.eq_false_iff.mpr c8
          subst c8
          have H1 : (if a1 > 4096 then (some (([] : List Int), 2)) else ((bits_size.f a1 a2).bind fun t105 => (if (l0.length : Int) < t105 then (some (([] : List Int), 6)) else ((bits_size.f a1 a2).bind fun t106 => (if (l0.length : Int) > t106 then (some (([] : List Int), 7)) else (if (Int.tmod (wrap64 (a1 * a2)) 8) > 0 then (if 0 ≤ (wrap64 ((l0.length : Int) - 1)) then (if (wrap64 ((l0.length : Int) - 1)) < (l0.length : Int) then (if 0 ≤ (Int.tmod (wrap64 (a1 * a2)) 8) then (if (shr .u8 (rd l0 (wrap64 ((l0.length : Int) - 1))) (Int.tmod (wrap64 (a1 * a2)) 8)) > 0 then (some (([] : List Int), 7)) else (bits_Unpack_p.j1 kj5 l0 a1 a2)) else (none)) else (none)) else (none)) else (bits_Unpack_p.j1 kj5 l0 a1 a2))))))) = some (r1, r2) := by rw [if_neg (show ¬ (false = true) by decide)] at H; exact H
          clear H
          have H := H1
          clear H1
          by_cases c9 : a1 > 4096
          · rw [if_pos c9] at H
            have c9b0 : decide (4096 < a1) = true := decide_eq_true c9
            clear c9
            simp only [Option.some.injEq, Prod.mk.injEq] at H
            obtain ⟨rfl, rfl⟩ := H
            go_wp2
            go_ret2
            exact ⟨_, by first | rfl | (simp [errW_none, errW_some] <;> rfl) | (simp [*, errW_none, errW_some] <;> rfl), by first | exact Kd.R_nil _ _ _ _ _ | exact Kd.N_nil _ _ _ _ _ | exact Kd.V_nil _ _ _ _ _ | exact Kd.Q_nil _ _ _ _ _ | exact Kd.S_nil _ _ _ _ _, by repeat (first | (with_reducible first | exact HB.out | apply below_alloc | apply pw_below_drewN | apply below_drew1) | exact HB.out)⟩
          · rw [if_neg c9] at H
            have c9b0 : decide (4096 < a1) = false := decide_eq_false c9
            clear c9
            replace H := Option.bind_eq_some_iff.mp H
            obtain ⟨t105, A100, H⟩ := H
            replace H : (if (l0.length : Int) < t105 then (some (([] : List Int), 6)) else ((bits_size.f a1 a2).bind fun t106 => (if (l0.length : Int) > t106 then (some (([] : List Int), 7)) else (if (Int.tmod (wrap64 (a1 * a2)) 8) > 0 then (if 0 ≤ (wrap64 ((l0.length : Int) - 1)) then (if (wrap64 ((l0.length : Int) - 1)) < (l0.length : Int) then (if 0 ≤ (Int.tmod (wrap64 (a1 * a2)) 8) then (if (shr .u8 (rd l0 (wrap64 ((l0.length : Int) - 1))) (Int.tmod (wrap64 (a1 * a2)) 8)) > 0 then (some (([] : List Int), 7)) else (bits_Unpack_p.j1 kj5 l0 a1 a2)) else (none)) else (none)) else (none)) else (bits_Unpack_p.j1 kj5 l0 a1 a2))))) = some (r1, r2) := H
            have A10 := Aside0.mk A100
            clear A100
            by_cases c11 : (l0.length : Int) < t105
            · rw [if_pos c11] at H
              have c11b0 : decide ((l0.length : Int) < t105) = true := decide_eq_true c11
              have c11b0y0 := c11b0
              (try simp only [hl8_2] at c11b0y0)
              clear c11
              simp only [Option.some.injEq, Prod.mk.injEq] at H
              obtain ⟨rfl, rfl⟩ := H
              go_wp2_with (first | ((with_reducible refine gate_callee (f := 21) rfl ?_); refine goesL_ (some 24) rfl rfl Try.func21 (by kernel_rfl) rfl #[.int .i64 a1, .int .i64 a2] rfl (by (try simp only [List.map_toArray, List.map_cons, List.map_nil]); first | done | rfl | (simp only [List.length_drop, List.length_take]; rfl)) ?_; (with_reducible refine (bits_size.calls a1 a2 t105 _ A10.out).mono ?_); rintro e w' ⟨rfl, ⟨nd, rfl⟩⟩; refine ⟨_, rfl, ?_⟩))
              go_ret2
              exact ⟨_, by first | rfl | (simp [errW_none, errW_some] <;> rfl) | (simp [*, errW_none, errW_some] <;> rfl), by first | exact Kd.R_nil _ _ _ _ _ | exact Kd.N_nil _ _ _ _ _ | exact Kd.V_nil _ _ _ _ _ | exact Kd.Q_nil _ _ _ _ _ | exact Kd.S_nil _ _ _ _ _, by repeat (first | (with_reducible first | exact HB.out | apply below_alloc | apply pw_below_drewN | apply below_drew1) | exact HB.out)⟩
            · rw [if_neg c11] at H
              have c11b0 : decide ((l0.length : Int) < t105) = false := decide_eq_false c11
              have c11b0y0 := c11b0
              (try simp only [hl8_2] at c11b0y0)
              clear c11
              replace H := Option.bind_eq_some_iff.mp H
              obtain ⟨t106, A120, H⟩ := H
              replace H : (if (l0.length : Int) > t106 then (some (([] : List Int), 7)) else (if (Int.tmod (wrap64 (a1 * a2)) 8) > 0 then (if 0 ≤ (wrap64 ((l0.length : Int) - 1)) then (if (wrap64 ((l0.length : Int) - 1)) < (l0.length : Int) then (if 0 ≤ (Int.tmod (wrap64 (a1 * a2)) 8) then (if (shr .u8 (rd l0 (wrap64 ((l0.length : Int) - 1))) (Int.tmod (wrap64 (a1 * a2)) 8)) > 0 then (some (([] : List Int), 7)) else (bits_Unpack_p.j1 kj5 l0 a1 a2)) else (none)) else (none)) else (none)) else (bits_Unpack_p.j1 kj5 l0 a1 a2))) = some (r1, r2) := H
              have A12 := Aside0.mk A120
              clear A120
              by_cases c13 : (l0.length : Int) > t106
              · rw [if_pos c13] at H
                have c13b0 : decide (t106 < (l0.length : Int)) = true := decide_eq_true c13
                have c13b0y0 := c13b0
                (try simp only [hl8_2] at c13b0y0)
                clear c13
                simp only [Option.some.injEq, Prod.mk.injEq] at H
                obtain ⟨rfl, rfl⟩ := H
                go_wp2_with (first | ((with_reducible refine gate_callee (f := 21) rfl ?_); refine goesL_ (some 24) rfl rfl Try.func21 (by kernel_rfl) rfl #[.int .i64 a1, .int .i64 a2] rfl (by (try simp only [List.map_toArray, List.map_cons, List.map_nil]); first | done | rfl | (simp only [List.length_drop, List.length_take]; rfl)) ?_; (with_reducible refine (bits_size.calls a1 a2 t105 _ A10.out).mono ?_); rintro e w' ⟨rfl, ⟨nd, rfl⟩⟩; refine ⟨_, rfl, ?_⟩) | ((with_reducible refine gate_callee (f := 21) rfl ?_); refine goesL_ (some 31) rfl rfl Try.func21 (by kernel_rfl) rfl #[.int .i64 a1, .int .i64 a2] rfl (by (try simp only [List.map_toArray, List.map_cons, List.map_nil]); first | done | rfl | (simp only [List.length_drop, List.length_take]; rfl)) ?_; (with_reducible refine (bits_size.calls a1 a2 t106 _ A12.out).mono ?_); rintro e w' ⟨rfl, ⟨nd, rfl⟩⟩; refine ⟨_, rfl, ?_⟩))
                go_ret2
                exact ⟨_, by first | rfl | (simp [errW_none, errW_some] <;> rfl) | (simp [*, errW_none, errW_some] <;> rfl), by first | exact Kd.R_nil _ _ _ _ _ | exact Kd.N_nil _ _ _ _ _ | exact Kd.V_nil _ _ _ _ _ | exact Kd.Q_nil _ _ _ _ _ | exact Kd.S_nil _ _ _ _ _, by repeat (first | (with_reducible first | exact HB.out | apply below_alloc | apply pw_below_drewN | apply below_drew1) | exact HB.out)⟩
              · rw [if_neg c13] at H
                have c13b0 : decide (t106 < (l0.length : Int)) = false := decide_eq_false c13
                have c13b0y0 := c13b0
                (try simp only [hl8_2] at c13b0y0)
                clear c13
                by_cases c14 : (Int.tmod (wrap64 (a1 * a2)) 8) > 0
                · rw [if_pos c14] at H
                  have c14b0 : decide (0 < (Int.tmod (wrap64 (a1 * a2)) 8)) = true := decide_eq_true c14
                  clear c14
                  obtain ⟨ji15, hji15⟩ : ∃ j_ : Int, (wrap64 ((l0.length : Int) - 1)) = j_ := ⟨_, rfl⟩
                  replace H : (if 0 ≤ (ji15) then (if (ji15) < (l0.length : Int) then (if 0 ≤ (Int.tmod (wrap64 (a1 * a2)) 8) then (if (shr .u8 (rd l0 (ji15)) (Int.tmod (wrap64 (a1 * a2)) 8)) > 0 then (some (([] : List Int), 7)) else (bits_Unpack_p.j1 kj5 l0 a1 a2)) else (none)) else (none)) else (none)) = some (r1, r2) := by first | (rw [hji15] at H; exact H) | (simp only [hji15] at H ⊢; exact H)
                  (try rw [hji15] at A10)
                  (try rw [hji15] at A12)
                  have hji15w : (IntKind.i64.wrap ((l0.length : Int) - 1)) = ji15 := (i64_w _).trans hji15
                  by_cases c16 : 0 ≤ (ji15)
                  · rw [if_pos c16] at H
                    have c16b0 : decide (0 ≤ (ji15)) = true := decide_eq_true c16
                    clear c16
                    by_cases c17 : (ji15) < (l0.length : Int)
                    · rw [if_pos c17] at H
                      have c17b0 : decide ((ji15) < (l0.length : Int)) = true := decide_eq_true c17
                      have c17b0y0 := c17b0
                      (try simp only [hl8_2] at c17b0y0)
                      clear c17
                      obtain ⟨ji18, hji18⟩ : ∃ j_ : Int, (Int.tmod (wrap64 (a1 * a2)) 8) = j_ := ⟨_, rfl⟩
                      replace H : (if 0 ≤ (ji18) then (if (shr .u8 (rd l0 (ji15)) (ji18)) > 0 then (some (([] : List Int), 7)) else (bits_Unpack_p.j1 kj5 l0 a1 a2)) else (none)) = some (r1, r2) := by first | (rw [hji18] at H; exact H) | (simp only [hji18] at H ⊢; exact H)
                      (try rw [hji18] at c14b0)
                      (try rw [hji18] at A10)
                      (try rw [hji18] at A12)
                      by_cases c19 : 0 ≤ (ji18)
                      · rw [if_pos c19] at H
                        have c19b0 := eq_true c19
                        have c19b1 : decide (0 ≤ (ji18)) = true := decide_eq_true c19
                        clear c19
                        obtain ⟨ji20, hji20⟩ : ∃ j_ : Int, (shr .u8 (rd l0 (ji15)) (ji18)) = j_ := ⟨_, rfl⟩
                        replace H : (if (ji20) > 0 then (some (([] : List Int), 7)) else (bits_Unpack_p.j1 kj5 l0 a1 a2)) = some (r1, r2) := by first | (rw [hji20] at H; exact H) | (simp only [hji20] at H ⊢; exact H)
                        (try rw [hji20] at A10)
                        (try rw [hji20] at A12)
                        have hji20_ : ((rd l0 (ji15)) / 2 ^ min (ji18).toNat 8) = ji20 := hji20
                        have hji20z : (ji18) ≤ 8 → ((rd l0 (ji15)) / 2 ^ (ji18).toNat) = ji20 := shr_small hji20
                        by_cases c21 : (ji20) > 0
                        · rw [if_pos c21] at H
                          have c21b0 : decide (0 < (ji20)) = true := decide_eq_true c21
                          clear c21
                          simp only [Option.some.injEq, Prod.mk.injEq] at H
                          obtain ⟨rfl, rfl⟩ := H
                          go_wp2_with (first | ((with_reducible refine gate_callee (f := 21) rfl ?_); refine goesL_ (some 24) rfl rfl Try.func21 (by kernel_rfl) rfl #[.int .i64 a1, .int .i64 a2] rfl (by (try simp only [List.map_toArray, List.map_cons, List.map_nil]); first | done | rfl | (simp only [List.length_drop, List.length_take]; rfl)) ?_; (with_reducible refine (bits_size.calls a1 a2 t105 _ A10.out).mono ?_); rintro e w' ⟨rfl, ⟨nd, rfl⟩⟩; refine ⟨_, rfl, ?_⟩) | ((with_reducible refine gate_callee (f := 21) rfl ?_); refine goesL_ (some 31) rfl rfl Try.func21 (by kernel_rfl) rfl #[.int .i64 a1, .int .i64 a2] rfl (by (try simp only [List.map_toArray, List.map_cons, List.map_nil]); first | done | rfl | (simp only [List.length_drop, List.length_take]; rfl)) ?_; (with_reducible refine (bits_size.calls a1 a2 t106 _ A12.out).mono ?_); rintro e w' ⟨rfl, ⟨nd, rfl⟩⟩; refine ⟨_, rfl, ?_⟩; have p107 : 0 ≤ ((ji15) : Int) := of_decide_eq_true (by first | (with_reducible assumption) | assumption); have q107 : (ji15) < (l0.length : Int) := of_decide_eq_true (by first | (with_reducible assumption) | assumption); obtain ⟨ad107, e107, hx107_0⟩ := Kd.at_int HR0.out (ji15) p107 q107; cases e107; replace hx107_0 := (HB.out.cell (World.block_lt_of_cell? w _ hx107_0)).trans hx107_0; replace p107 := eq_true p107; replace q107 := eq_true q107))
                          go_ret2
                          exact ⟨_, by first | rfl | (simp [errW_none, errW_some] <;> rfl) | (simp only [← hji15, ← hji18, ← hji20]; first | rfl | (simp [errW_none, errW_some] <;> rfl)) | (simp [*, errW_none, errW_some] <;> rfl), by first | exact Kd.R_nil _ _ _ _ _ | exact Kd.N_nil _ _ _ _ _ | exact Kd.V_nil _ _ _ _ _ | exact Kd.Q_nil _ _ _ _ _ | exact Kd.S_nil _ _ _ _ _, by repeat (first | (with_reducible first | exact HB.out | apply below_alloc | apply pw_below_drewN | apply below_drew1) | exact HB.out)⟩
                        · rw [if_neg c21] at H
                          have c21b0 : decide (0 < (ji20)) = false := decide_eq_false c21
                          clear c21
                          have H' := Aside0.mk H
                          clear H
                          go_wp2_with (first | ((with_reducible refine gate_callee (f := 21) rfl ?_); refine goesL_ (some 24) rfl rfl Try.func21 (by kernel_rfl) rfl #[.int .i64 a1, .int .i64 a2] rfl (by (try simp only [List.map_toArray, List.map_cons, List.map_nil]); first | done | rfl | (simp only [List.length_drop, List.length_take]; rfl)) ?_; (with_reducible refine (bits_size.calls a1 a2 t105 _ A10.out).mono ?_); rintro e w' ⟨rfl, ⟨nd, rfl⟩⟩; refine ⟨_, rfl, ?_⟩) | ((with_reducible refine gate_callee (f := 21) rfl ?_); refine goesL_ (some 31) rfl rfl Try.func21 (by kernel_rfl) rfl #[.int .i64 a1, .int .i64 a2] rfl (by (try simp only [List.map_toArray, List.map_cons, List.map_nil]); first | done | rfl | (simp only [List.length_drop, List.length_take]; rfl)) ?_; (with_reducible refine (bits_size.calls a1 a2 t106 _ A12.out).mono ?_); rintro e w' ⟨rfl, ⟨nd, rfl⟩⟩; refine ⟨_, rfl, ?_⟩; have p107 : 0 ≤ ((ji15) : Int) := of_decide_eq_true (by first | (with_reducible assumption) | assumption); have q107 : (ji15) < (l0.length : Int) := of_decide_eq_true (by first | (with_reducible assumption) | assumption); obtain ⟨ad107, e107, hx107_0⟩ := Kd.at_int HR0.out (ji15) p107 q107; cases e107; replace hx107_0 := (HB.out.cell (World.block_lt_of_cell? w _ hx107_0)).trans hx107_0; replace p107 := eq_true p107; replace q107 := eq_true q107))
                          go_meet
                          case rel => exact ⟨_, H', ⟨by have := HJ5.out; first | omega | exact Nat.le_refl _⟩, ⟨by repeat (first | (with_reducible first | exact HB.out | apply below_alloc | apply pw_below_drewN | apply below_drew1) | exact HB.out)⟩⟩
                      · rw [if_neg c19] at H
                        exact absurd H (by simp)
                    · rw [if_neg c17] at H
                      exact absurd H (by simp)
                  · rw [if_neg c16] at H
                    exact absurd H (by simp)
                · rw [if_neg c14] at H
                  have c14b0 : decide (0 < (Int.tmod (wrap64 (a1 * a2)) 8)) = false := decide_eq_false c14
                  clear c14
                  have H' := Aside0.mk H
                  clear H
                  go_wp2_with (first | ((with_reducible refine gate_callee (f := 21) rfl ?_); refine goesL_ (some 24) rfl rfl Try.func21 (by kernel_rfl) rfl #[.int .i64 a1, .int .i64 a2] rfl (by (try simp only [List.map_toArray, List.map_cons, List.map_nil]); first | done | rfl | (simp only [List.length_drop, List.length_take]; rfl)) ?_; (with_reducible refine (bits_size.calls a1 a2 t105 _ A10.out).mono ?_); rintro e w' ⟨rfl, ⟨nd, rfl⟩⟩; refine ⟨_, rfl, ?_⟩) | ((with_reducible refine gate_callee (f := 21) rfl ?_); refine goesL_ (some 31) rfl rfl Try.func21 (by kernel_rfl) rfl #[.int .i64 a1, .int .i64 a2] rfl (by (try simp only [List.map_toArray, List.map_cons, List.map_nil]); first | done | rfl | (simp only [List.length_drop, List.length_take]; rfl)) ?_; (with_reducible refine (bits_size.calls a1 a2 t106 _ A12.out).mono ?_); rintro e w' ⟨rfl, ⟨nd, rfl⟩⟩; refine ⟨_, rfl, ?_⟩))
                  go_meet
                  case rel => exact ⟨_, H', ⟨by have := HJ5.out; first | omega | exact Nat.le_refl _⟩, ⟨by repeat (first | (with_reducible first | exact HB.out | apply below_alloc | apply pw_below_drewN | apply below_drew1) | exact HB.out)⟩⟩
  case rest =>
    clear HC4
    try clear c1
    try clear p1
    try clear q1
    try clear hx1
    try clear c2
    try clear p2
    try clear p6
    try clear c7
    try clear c8
    try clear c9
    try clear c9b0
    try clear p10
    try clear q10
    try clear hx10
    try clear c11
    try clear c11b0
    try clear c13
    try clear c13b0
    try clear c14
    try clear c14b0
    try clear c15
    try clear c16
    try clear c16b0
    try clear c17
    try clear c17b0
    try clear c19
    try clear c19b0
    try clear c19b1
    try clear c20
    try clear c21
    try clear c21b0
    try clear hx107_0
    try clear p107
    try clear p2
    try clear q107
    obtain ⟨kq, HA, HJ3, HB⟩ := hcut
    cases kq with
    | zero => exact absurd HA.out (by simp [bits_Unpack_p.j1])
    | succ kj3 =>
      have H := HA.out
      clear HA
      simp only [bits_Unpack_p.j1] at H
      by_cases c22 : 0 ≤ a1
      · rw [if_pos c22] at H
        have c22b0 := eq_true c22
        have c22b1 : decide (0 ≤ a1) = true := decide_eq_true c22
        clear c22
        by_cases c23 : (a1 : Int).toNat ≤ 35184372088832
        · rw [if_pos c23] at H
          have c23b0 := eq_true c23
          have c23b1 : decide ((a1 : Int).toNat ≤ 35184372088832) = true := decide_eq_true c23
          clear c23
          obtain ⟨y108, hy108⟩ : ∃ y_ : List Int, y_ = (List.replicate (a1 : Int).toNat 0) := ⟨_, rfl⟩
          replace H : (bits_Unpack_p.l0 kj3 l0 a2 y108 (y108.length : Int) 0) = some (r1, r2) := by first | (rw [hy108]; with_reducible exact H) | (have H2_ := (Option.bind_some _ _).symm.trans H; rw [hy108]; with_reducible exact H2_) | (have H2_ := (Option.bind_some _ _).symm.trans H; with_reducible exact H2_) | with_reducible exact H | (rw [hy108]; exact H) | exact H
          have Ny108 := Aside0.mk hy108
          clear hy108
          have H' := Aside0.mk H
          clear H
          go_wp2_with (first | ((with_reducible refine gate_dst (N := 53) rfl ?_); (try (refine gate_guard (by rfl) ?_; dsimp only)); refine Kd.R_make (Kd.int .i64) _ 3 rfl (N := 53) rfl 22 _ _ rfl a1 rfl rfl Try.underlying22 (.int .i64 0) 8 info3 rfl (by decide) (by omega) 0 (ok := fun _ => True) (okp := fun _ => True) rfl (fun _ hk => hk) trivial (of_decide_eq_true (by first | (with_reducible assumption) | assumption)) (Nat.le_trans (Nat.mul_le_mul_right _ (of_decide_eq_true (by first | (with_reducible assumption) | assumption) : a1.toNat ≤ 35184372088832)) (by omega)) (Below.refl _ _) (Nat.le_refl _) ?_; intro v109 w24 ho25 hb hg_ hnew_; clear hg_ hnew_; (first | rw [← Ny108.out] at ho25 | (simp only [Int.reduceToNat] at ho25; rw [← Ny108.out] at ho25)); have n0_ := Aside0.mk (Kd.R_lower ho25 (below_size (by repeat (first | (with_reducible first | exact HB.out | apply below_alloc | apply pw_below_drewN | apply below_drew1) | exact HB.out)))); have n1_ := Aside0.mk (below_step (by repeat (first | (with_reducible first | exact HB.out | apply below_alloc | apply pw_below_drewN | apply below_drew1) | exact HB.out)) hb); clear HB; have HO110 := n0_; have HB := n1_; clear n0_ n1_; clear hb ho25; obtain ⟨Ao26, co26, eo26⟩ := Kd.R_slice HO110.out; subst eo26))
          go_loopg [56] kj3 (fun kq v56 w' => ∃ (x8_2 : List Int) (x56_2 : Int), v56 = .int .i64 x56_2 ∧ Aside0 (bits_Unpack_p.l0 kq l0 a2 x8_2 (y108.length : Int) x56_2 = some (r1, r2)) ∧ Aside0 (kq ≤ kj3) ∧ Aside0 (Kd.R (Kd.int .i64) 3 w' w.heap.size (fun _ => True) (.slice Ao26 y108.length co26) x8_2) ∧ Aside0 (Below w.heap.size w w'))
          case atStart => exact ⟨(y108), (0), (by first | rfl | (simp; done) | (simp [*]; done)), H', ⟨Nat.le_refl _⟩, ⟨by (with_reducible repeat (first | apply Kd.R_alloc | apply Kd.R_drewN | apply Kd.R_drew)); exact HO110.out⟩, ⟨by repeat (first | (with_reducible first | exact HB.out | apply below_alloc | apply pw_below_drewN | apply below_drew1) | exact HB.out)⟩⟩
          case round =>
            clear H'
            try clear c1
            try clear p1
            try clear q1
            try clear hx1
            try clear c2
            try clear p2
            try clear p6
            try clear c7
            try clear c8
            try clear c9
            try clear c9b0
            try clear p10
            try clear q10
            try clear hx10
            try clear c11
            try clear c11b0
            try clear c13
            try clear c13b0
            try clear c14
            try clear c14b0
            try clear c15
            try clear c16
            try clear c16b0
            try clear c17
            try clear c17b0
            try clear c19
            try clear c19b0
            try clear c19b1
            try clear c20
            try clear c21
            try clear c21b0
            try clear c22
            try clear c22b0
            try clear c22b1
            try clear c23
            try clear c23b0
            try clear c23b1
            try clear hx107_0
            try clear p1
            try clear p10
            try clear p107
            try clear p2
            try clear p6
            try clear q1
            try clear q10
            try clear q107
            obtain ⟨x8_2, x56_2, rfl, HA, HK2, HO_8, HB⟩ := hrel
            have hl8_2 := (Kd.R_reads' HO_8.out).1
            rw [hl8_2] at HO_8
            (try simp only [hl8_2])
            cases gk with
            | zero => exact absurd HA.out (by simp [bits_Unpack_p.l0])
            | succ k2 =>
              have H := HA.out
              clear HA
              simp only [bits_Unpack_p.l0] at H
              by_cases c27 : x56_2 < (y108.length : Int)
              · rw [if_pos c27] at H
                have c27b0 : decide (x56_2 < (y108.length : Int)) = true := decide_eq_true c27
                have c27b0y0 := c27b0
                (try simp only [hl8_2] at c27b0y0)
                clear c27
                replace H := Option.bind_eq_some_iff.mp H
                obtain ⟨t111, A280, H⟩ := H
                replace H : (if 0 ≤ x56_2 then (if x56_2 < (x8_2.length : Int) then (bits_Unpack_p.l0 k2 l0 a2 (x8_2.set (x56_2 : Int).toNat t111) (y108.length : Int) (wrap64 (x56_2 + 1))) else (none)) else (none)) = some (r1, r2) := H
                have A28 := Aside0.mk A280
                clear A280
                by_cases c29 : 0 ≤ x56_2
                · rw [if_pos c29] at H
                  have c29b0 : decide (0 ≤ x56_2) = true := decide_eq_true c29
                  clear c29
                  by_cases c30 : x56_2 < (x8_2.length : Int)
                  · rw [if_pos c30] at H
                    have c30b0 : decide (x56_2 < (x8_2.length : Int)) = true := decide_eq_true c30
                    have c30b0y0 := c30b0
                    (try simp only [hl8_2] at c30b0y0)
                    clear c30
                    obtain ⟨y112, hy112⟩ : ∃ y_ : List Int, y_ = (x8_2.set (x56_2 : Int).toNat t111) := ⟨_, rfl⟩
                    replace H : (bits_Unpack_p.l0 k2 l0 a2 y112 (y108.length : Int) (wrap64 (x56_2 + 1))) = some (r1, r2) := by first | (rw [hy112]; with_reducible exact H) | (have H2_ := (Option.bind_some _ _).symm.trans H; rw [hy112]; with_reducible exact H2_) | (have H2_ := (Option.bind_some _ _).symm.trans H; with_reducible exact H2_) | with_reducible exact H | (rw [hy112]; exact H) | exact H
                    have Ny112 := Aside0.mk hy112
                    clear hy112
                    have H' := Aside0.mk H
                    clear H
                    go_wp2_with (first | ((with_reducible refine gate_callee (f := 27) rfl ?_); refine goesL_ (some 64) rfl rfl Try.func27 (by kernel_rfl) rfl #[.slice A0 l0.length c0, .int .i64 x56_2, .int .i64 a2] rfl (by (try simp only [List.map_toArray, List.map_cons, List.map_nil]); first | done | rfl | (simp only [List.length_drop, List.length_take]; rfl)) ?_; (with_reducible refine (bits_number.calls _ _ l0 x56_2 a2 t111 _ ?side1 ?side2 A28.out).mono ?_); (case side1 => repeat (first | exact (Kd.C_below HR0.out HB.out) | (with_reducible refine Kd.C_alloc ?_ _) | (with_reducible refine Kd.C_drewN ?_ _) | (with_reducible refine Kd.C_drew ?_))); (case side2 => exact HC0.out); rintro e w32 ⟨rfl, hb⟩; refine ⟨_, rfl, ?_⟩; have n0_ := Aside0.mk (Kd.R_below (by (with_reducible repeat (first | apply Kd.R_alloc | apply Kd.R_drewN | apply Kd.R_drew)); exact HO_8.out) hb); have n1_ := Aside0.mk (below_step (by repeat (first | (with_reducible first | exact HB.out | apply below_alloc | apply pw_below_drewN | apply below_drew1) | exact HB.out)) hb); clear HO_8; clear HB; have HO_8 := n0_; have HB := n1_; clear n0_ n1_; (try clear hb); (try clear hb2); (try clear hk); (try clear hi); have p31 : 0 ≤ (x56_2 : Int) := of_decide_eq_true (by first | (with_reducible assumption) | assumption); have q31 : (x56_2 : Int) < ((x8_2.length : Int) : Int) := of_decide_eq_true (by first | (with_reducible assumption) | assumption); obtain ⟨go31, co31, eo31, gb31, gl31, cl31, HG31⟩ := Kd.R_form HO_8.out (by omega); (first | cases eo31 | (injection eo31 with ea_ en_ ec_; (first | subst ea_ | (injection ea_ with ea_; subst ea_)); subst ec_; clear en_)); have GB31 := Aside0.mk gb31; have GG31 := Aside0.mk HG31; clear gb31 gl31 HG31; obtain ⟨hx31_0, hf31_0⟩ := Kd.R_celln 0 HO_8.out (x56_2 : Int) p31 q31; replace p31 := eq_true p31; replace q31 := eq_true q31; obtain ⟨hy33_, hz33_⟩ := Kd.R_celln 0 HO_8.out (x56_2 : Int) (of_decide_eq_true (by first | (with_reducible assumption) | assumption)) (of_decide_eq_true (by first | (with_reducible assumption) | assumption)); have HP33 := Kd.R_putg HO_8.out (x56_2 : Int) t111) | ((with_reducible refine gate_store (t := 3) (p := 65) rfl ?_); refine store_event (t := 3) (p := 65) (v := ?vo_w34) (w1 := (w32.setCell ⟨go31, (x56_2 : Int).toNat, none⟩ (.int .i64 t111))) ?hg ?ho ?hn ?hr ?_; (case ho => rfl); (case hg => rfl); (case hn => rfl); (case hr => first | (go_simp; done) | (go_simp; rfl)); intro w34 hw; have hg : w32.grownBy w34 (some go31) := (by rw [hw]; exact HP33.2); have hp_ : Kd.R (Kd.int .i64) 3 w34 w.heap.size (fun _ => True) (.slice (some ⟨go31, 0, none⟩) x8_2.length co26) y112 := (by rw [hw, Ny112.out]; exact HP33.1); clear HP33; have n0_ := Aside0.mk (hp_); have n1_ := Aside0.mk ((by rw [hw]; exact below_set (HB.out) GB31.out : Below w.heap.size w w34)); clear HO_8; clear HB; have HO_8 := n0_; have HB := n1_; clear n0_ n1_; clear hg hw hp_))
                    (try simp only [← hl8_2])
                    go_roundg k2
                    case measure => have := HJ3.out; have := HK2.out; omega
                    case rel => exact ⟨(y112), (wrap64 (x56_2 + 1)), (by first | rfl | (simp; done) | (simp [*]; done)), H', ⟨by have := HJ3.out; have := HK2.out; omega⟩, ⟨by (try simp only [hl8_2]); (with_reducible repeat (first | apply Kd.R_alloc | apply Kd.R_drewN | apply Kd.R_drew)); exact HO_8.out⟩, ⟨by repeat (first | (with_reducible first | exact HB.out | apply below_alloc | apply pw_below_drewN | apply below_drew1) | exact HB.out)⟩⟩
                  · rw [if_neg c30] at H
                    exact absurd H (by simp)
                · rw [if_neg c29] at H
                  exact absurd H (by simp)
              · rw [if_neg c27] at H
                have c27b0 : decide (x56_2 < (y108.length : Int)) = false := decide_eq_false c27
                have c27b0y0 := c27b0
                (try simp only [hl8_2] at c27b0y0)
                clear c27
                simp only [Option.some.injEq, Prod.mk.injEq] at H
                obtain ⟨rfl, rfl⟩ := H
                go_wp2
                go_ret2
                exact ⟨_, by first | rfl | (simp [errW_none, errW_some] <;> rfl) | (simp [*, errW_none, errW_some] <;> rfl), by (with_reducible repeat (first | apply Kd.R_alloc | apply Kd.R_drewN | apply Kd.R_drew)); exact HO_8.out, by repeat (first | (with_reducible first | exact HB.out | apply below_alloc | apply pw_below_drewN | apply below_drew1) | exact HB.out)⟩
        · rw [if_neg c23] at H
          exact absurd H (by simp)
      · rw [if_neg c22] at H
        exact absurd H (by simp)

-- BY HAND: Derived.Test.YthcbcddnillipaaHbitnum
/-! ### bits_Unpack: function 15 -/
-- HAND winnower/bits.Unpack over
-- IMPORT Derived.Test.YthcbcddnillipaaHbitnum
open Go.Proofs.Ythcbcddnillipaa.Hnum Go.Proofs.Ythcbcddnillipaa.Hbits Go.Proofs.Ythcbcddnillipaa.Hbitnum
theorem bits_number.tell {l : List Int} {i w : Nat} (hb : Bytes l) (hl : l.length ≤ 1000000) (hw : w ≤ 62) (hi : i ≤ 1099511627776) (hfit : i * w + w ≤ 8 * l.length) : bits_number.f l (i : Int) (w : Int) = some ((numN l / 2 ^ (i * w) % 2 ^ w : Nat) : Int) := by
  have hs : (i + 1) * w = i * w + w := by rw [Nat.add_mul, Nat.one_mul]
  have h1 : ((i : Int) + 1) * (w : Int) ≤ 8 * (l.length : Int) := by
    have e : ((i : Int) + 1) * (w : Int) = (((i + 1) * w : Nat) : Int) := by rw [Int.natCast_mul]; rfl
    rw [e, hs]; omega
  have hc : 0 ≤ (i : Int) ∧ (i : Int) ≤ 1099511627776 ∧ 0 ≤ (w : Int) ∧ (w : Int) ≤ 62 ∧ ((i : Int) + 1) * (w : Int) ≤ 8 * (l.length : Int) ∧ l.length ≤ 1000000000000 ∧ Bytes l :=
    ⟨by omega, by omega, by omega, by omega, h1, by omega, hb⟩
  unfold bits_number.f
  rw [if_pos hc, Int.toNat_natCast, Int.toNat_natCast, numAt_num hb _ _ hfit]
theorem set_next (w i m N : Nat) : (outs w i N ++ List.replicate (m + 1) 0).set i ((N / 2 ^ (i * w) % 2 ^ w : Nat) : Int) = outs w (i + 1) N ++ List.replicate m 0 := by
  have h1 := outs_length w i N
  rw [List.set_append_right _ _ (by omega), h1, Nat.sub_self, List.replicate_succ, List.set_cons_zero]
  unfold outs
  rw [List.range_succ, List.map_append, List.map_singleton, List.append_assoc, List.singleton_append]
theorem bits_Unpack.tell (l : List Int) (n w : Nat) (hb : Bytes l) (hl : l.length ≤ 1000000) (hw : w ≤ 62) (hn : n ≤ 4096) (hfit : n * w ≤ 8 * l.length) : ∀ (d i kq : Nat), i + d = n → d < kq →
    bits_Unpack_p.l0 kq l (w : Int) (outs w i (numN l) ++ List.replicate d 0) (n : Int) (i : Int) = some (outs w n (numN l), 0) := by
  intro d
  induction d with
  | zero =>
    intro i kq hi hq
    obtain ⟨q, rfl⟩ : ∃ m, kq = m + 1 := ⟨kq - 1, by omega⟩
    obtain rfl : i = n := by omega
    rw [bits_Unpack_p.l0, if_neg (show ¬ ((i : Int) < (i : Int)) from by omega)]
    simp
  | succ d ih =>
    intro i kq hi hq
    obtain ⟨q, rfl⟩ : ∃ m, kq = m + 1 := ⟨kq - 1, by omega⟩
    have h1 : (i : Int) < (n : Int) := by omega
    have h2 : (i : Int) < ((outs w i (numN l) ++ List.replicate (d + 1) 0).length : Int) := by rw [List.length_append, outs_length, List.length_replicate]; omega
    have h3 : wrap64 ((i : Int) + 1) = ((i + 1 : Nat) : Int) := by rw [wrap_id (by omega) (by omega)]; omega
    have h4 : i + 1 + d = n := by omega
    have h5 : d < q := by omega
    have h6 : i ≤ 1099511627776 := by omega
    have h7 : i * w + w ≤ 8 * l.length := Nat.le_trans (by rw [show i * w + w = (i + 1) * w from by rw [Nat.add_mul, Nat.one_mul]]; exact Nat.mul_le_mul_right _ (by omega)) hfit
    rw [bits_Unpack_p.l0, if_pos h1, bits_number.tell hb hl hw h6 h7, Option.bind_some, if_pos (Int.natCast_nonneg _), if_pos h2, Int.toNat_natCast, set_next, h3]
    exact ih (i + 1) q h4 h5
def bits_Unpack.f (l0 : List Int) (a1 a2 : Int) : Option (List Int × Int) := if Bytes l0 ∧ l0.length ≤ 1000000 then some (unpackT l0 a1 a2) else none
theorem last_bits {l : List Int} (hb : Bytes l) {q : Nat} (hq : 0 < q % 8) (hl : l.length = bsize q) : (l[q / 8]'(by unfold bsize at hl; omega)).toNat / 2 ^ (q % 8) = numN l / 2 ^ q := by
  have hlt : q / 8 < l.length := by unfold bsize at hl; omega
  have hN := numN_lt hb
  have hlen : l.length = q / 8 + 1 := by unfold bsize at hl; omega
  rw [hlen, Nat.pow_succ] at hN
  have h1 : numN l / 256 ^ (q / 8) < 256 := (Nat.div_lt_iff_lt_mul (Nat.pow_pos (by decide))).2 (by rw [Nat.mul_comm]; exact hN)
  rw [← numN_byte hb _ hlt, Nat.mod_eq_of_lt h1, Nat.div_div_eq_div_mul, Nat.mul_comm, ← pow_split]
theorem bits_Unpack.fits {l0 : List Int} {a1 a2 : Int} {r : List Int × Int} (_ : l0.length ≤ 9223372036854775807) (h : bits_Unpack.f l0 a1 a2 = some r) : ∃ k, bits_Unpack_p.f k l0 a1 a2 = some r := by
  unfold bits_Unpack.f at h
  by_cases hi : Bytes l0 ∧ l0.length ≤ 1000000
  · rw [if_pos hi] at h
    rw [← h]
    unfold unpackT
    by_cases hm : a2 < 0 ∨ 62 < a2
    · refine ⟨1, ?_⟩
      have hmay : bits_may.f a2 = some false := by
        unfold bits_may.f
        by_cases h0 : a2 ≥ 0
        · rw [if_pos h0, decide_eq_false (by omega)]
        · rw [if_neg h0]
      unfold bits_Unpack_p.f
      rw [if_pos (show a2 < 0 ∨ 62 < a2 ∨ a1 < 0 from hm.elim .inl (fun h => .inr (.inl h))), hmay, Option.bind_some, if_neg (by decide), bits_Unpack_p.j0, if_pos (by decide)]
    · have hmay : bits_may.f a2 = some true := by unfold bits_may.f; rw [if_pos (by omega), decide_eq_true (by omega)]
      by_cases hn0 : a1 < 0
      · refine ⟨1, ?_⟩
        unfold bits_Unpack_p.f
        rw [if_pos (show a2 < 0 ∨ 62 < a2 ∨ a1 < 0 from .inr (.inr hn0)), hmay, Option.bind_some, if_pos rfl, bits_Unpack_p.j0, if_pos (decide_eq_true hn0)]
      · rw [if_neg (show ¬ (a2 < 0 ∨ 62 < a2 ∨ a1 < 0) from by omega)]
        obtain ⟨w, rfl⟩ := Int.eq_ofNat_of_zero_le (show 0 ≤ a2 by omega)
        obtain ⟨n, rfl⟩ := Int.eq_ofNat_of_zero_le (show 0 ≤ a1 by omega)
        rw [Int.toNat_natCast, Int.toNat_natCast]
        refine ⟨n + 4, ?_⟩
        unfold unpackS bits_Unpack_p.f
        rw [hmay, Option.bind_some, if_pos rfl, bits_Unpack_p.j0, decide_eq_false hn0, if_neg (by decide)]
        have hw : w ≤ 62 := by omega
        by_cases hn : 4096 < n
        · rw [if_pos hn, if_pos (show (n : Int) > 4096 from by omega)]
        · have hnw : n * w ≤ 4096 * 62 := Nat.mul_le_mul (by omega) hw
          have e1 : (n : Int) * (w : Int) = ((n * w : Nat) : Int) := by rw [Int.natCast_mul]
          obtain ⟨hb, hl⟩ := hi
          have htell := fun hfit => bits_Unpack.tell l0 n w hb hl hw (by omega) hfit n 0 (n + 2) (by omega) (by omega)
          rw [if_neg hn, if_neg (show ¬ ((n : Int) > 4096) from by omega)]
          have hj1 : n * w ≤ 8 * l0.length → bits_Unpack_p.j1 (n + 3) l0 (n : Int) (w : Int) = some (outs w n (numN l0), 0) := by
            intro hfit
            rw [bits_Unpack_p.j1, if_pos (Int.natCast_nonneg _), Int.toNat_natCast, if_pos (show n ≤ 35184372088832 from by omega), Option.bind_some, List.length_replicate]
            exact htell hfit
          clear htell
          have hsz : bits_size.f (n : Int) (w : Int) = some ((bsize (n * w) : Nat) : Int) := by
            unfold bits_size.f
            rw [e1]
            generalize n * w = q at hnw ⊢
            rw [wrap_id (x := (q : Int)) (by omega) (by omega), wrap_id (x := (q : Int) + 7) (by omega) (by omega), Int.tdiv_eq_ediv_of_nonneg (by omega), wrap_id (by omega) (by omega)]
            refine congrArg some ?_
            unfold bsize
            omega
          rw [hsz, Option.bind_some, e1]
          generalize hq : n * w = q at hnw hj1
          have e2 : wrap64 ((q : Nat) : Int) = (q : Int) := wrap_id (by omega) (by omega)
          have e3 : Int.tmod (q : Int) 8 = ((q % 8 : Nat) : Int) := by rw [Int.tmod_eq_emod_of_nonneg (by omega)]; omega
          rw [e2, e3]
          by_cases h6 : l0.length < bsize q
          · rw [if_pos h6, if_pos (show (l0.length : Int) < ((bsize q : Nat) : Int) from by omega)]
          · rw [if_neg h6, if_neg (show ¬ ((l0.length : Int) < ((bsize q : Nat) : Int)) from by omega), Option.bind_some]
            by_cases h7 : bsize q < l0.length
            · rw [if_pos (show (l0.length : Int) > ((bsize q : Nat) : Int) from by omega), if_pos (show bsize q < l0.length ∨ 2 ^ q ≤ numN l0 from .inl h7)]
            · have hlen : l0.length = bsize q := by omega
              have hfit : q ≤ 8 * l0.length := by unfold bsize at hlen; omega
              rw [if_neg (show ¬ ((l0.length : Int) > ((bsize q : Nat) : Int)) from by omega)]
              by_cases hr : 0 < q % 8
              · have hlt : q / 8 < l0.length := by unfold bsize at hlen; omega
                have e4 : wrap64 ((l0.length : Int) - 1) = ((q / 8 : Nat) : Int) := by rw [wrap_id (by omega) (by omega)]; unfold bsize at hlen; omega
                have hx := hb _ (List.getElem_mem hlt)
                have hlast := last_bits hb hr hlen
                have e5 : shr .u8 l0[q / 8] ((q % 8 : Nat) : Int) = ((numN l0 / 2 ^ q : Nat) : Int) := by
                  unfold shr
                  rw [Int.toNat_natCast, Nat.min_eq_left (show q % 8 ≤ IntKind.u8.bits from by simp only [IntKind.bits]; omega), ← hlast]
                  obtain ⟨x, hxe⟩ := Int.eq_ofNat_of_zero_le hx.1
                  rw [hxe, Int.toNat_natCast, Int.natCast_ediv, Int.natCast_pow]
                  rfl
                rw [if_pos (show ((q % 8 : Nat) : Int) > 0 from by omega), e4, if_pos (Int.natCast_nonneg _), if_pos (show ((q / 8 : Nat) : Int) < (l0.length : Int) from by omega), if_pos (Int.natCast_nonneg _), rd_get hlt, e5]
                have hp : 0 < 2 ^ q := Nat.pow_pos (by decide)
                by_cases h8 : 2 ^ q ≤ numN l0
                · have : 0 < numN l0 / 2 ^ q := Nat.div_pos h8 hp
                  rw [if_pos (show ((numN l0 / 2 ^ q : Nat) : Int) > 0 from by omega), if_pos (show bsize q < l0.length ∨ 2 ^ q ≤ numN l0 from .inr h8)]
                · have : numN l0 / 2 ^ q = 0 := Nat.div_eq_of_lt (by omega)
                  rw [if_neg (show ¬ (((numN l0 / 2 ^ q : Nat) : Int) > 0) from by omega), if_neg (show ¬ (bsize q < l0.length ∨ 2 ^ q ≤ numN l0) from fun h => h.elim h7 h8)]
                  exact hj1 hfit
              · have h8 : ¬ 2 ^ q ≤ numN l0 := by
                  have hN := numN_lt hb
                  rw [hlen, pow256, show 8 * bsize q = q from by unfold bsize; omega] at hN
                  omega
                rw [if_neg (show ¬ (((q % 8 : Nat) : Int) > 0) from by omega), if_neg (show ¬ (bsize q < l0.length ∨ 2 ^ q ≤ numN l0) from fun h => h.elim h7 h8)]
                exact hj1 hfit
  · rw [if_neg hi] at h; cases h
theorem bits_Unpack.calls (A0 : Option Addr) (c0 : Nat) (l0 : List Int) (a1 : Int) (a2 : Int) (r1 : List Int) (r2 : Int) (w : World) (hr0 : Kd.C (Kd.int .u8) w A0 l0.length l0) (hc0 : l0.length ≤ c0) (h : bits_Unpack.f l0 a1 a2 = some (r1, r2)) :
    Calls Try.prog 15 #[.slice A0 l0.length c0, .int .i64 a1, .int .i64 a2] w fun e w' => ∃ v0_ : Value, e = .returned (.tuple #[v0_, .int .i64 r2]) ∧ Kd.R (Kd.int .i64) 3 w' w.heap.size (fun _ => True) v0_ r1 ∧ Below w.heap.size w w' := by
  obtain ⟨k, hk⟩ := bits_Unpack.fits hr0.2.1 h
  exact bits_Unpack_p.calls k A0 c0 l0 a1 a2 r1 r2 w hr0 hc0 hk


/-! ### winnowerref01_Ints_p: function 17 -/
def winnowerref01_Ints_p.l0 : Nat → List Int → List Int → Int → Option (Bool)
  | 0, _, _, _ => none
  | k + 1, x0, x1, x5 => if x5 < (x0.length : Int) then (if 0 ≤ x5 then (if x5 < (x1.length : Int) then (if (rd x0 x5) = (rd x1 x5) then (winnowerref01_Ints_p.l0 k x0 x1 (wrap64 (x5 + 1))) else (some false)) else (none)) else (none)) else (some true)
def winnowerref01_Ints_p.f (k : Nat) (l0 : List Int) (l1 : List Int) : Option (Bool) := if (l0.length : Int) = (l1.length : Int) then (winnowerref01_Ints_p.l0 k l0 l1 0) else (some false)
theorem winnowerref01_Ints_p.mono_l : ∀ k, (∀ y0 y1 y2, LeO (winnowerref01_Ints_p.l0 k y0 y1 y2) (winnowerref01_Ints_p.l0 (k + 1) y0 y1 y2))
  | 0 => fun _ _ _ r h => by simp [winnowerref01_Ints_p.l0] at h
  | k + 1 => by
    have ih0 := winnowerref01_Ints_p.mono_l k
    · intro y0 y1 y2
      unfold winnowerref01_Ints_p.l0
      repeat' first
      | (with_reducible exact ih0 _ _ _)
      | (with_reducible exact LeO.refl _)
      | (with_reducible exact LeO.none _)
      | (with_reducible refine LeO.ite ?_ ?_)
      | (with_reducible refine LeO.bind ?_ (fun _ => ?_))
      | exact ih0 _ _ _
      | exact LeO.none _
      | refine LeO.ite ?_ ?_
      | refine LeO.bind ?_ (fun _ => ?_)
theorem winnowerref01_Ints_p.mono : ∀ a0 a1 k, LeO (winnowerref01_Ints_p.f k a0 a1) (winnowerref01_Ints_p.f (k + 1) a0 a1) := by
  intro a0 a1 k
  have ih0 := winnowerref01_Ints_p.mono_l k
  unfold winnowerref01_Ints_p.f
  repeat' first
      | (with_reducible exact ih0 _ _ _)
      | (with_reducible exact LeO.refl _)
      | (with_reducible exact LeO.none _)
      | (with_reducible refine LeO.ite ?_ ?_)
      | (with_reducible refine LeO.bind ?_ (fun _ => ?_))
      | exact ih0 _ _ _
      | exact LeO.none _
      | refine LeO.ite ?_ ?_
      | refine LeO.bind ?_ (fun _ => ?_)
set_option maxHeartbeats 8000000 in
set_option maxRecDepth 100000 in
theorem winnowerref01_Ints_p.calls (k : Nat) (A0 : Option Addr) (c0 : Nat) (l0 : List Int) (A1 : Option Addr) (c1 : Nat) (l1 : List Int) (r : Bool) (w : World) (hr0 : Kd.C (Kd.int .i64) w A0 l0.length l0) (hc0 : l0.length ≤ c0) (hr1 : Kd.C (Kd.int .i64) w A1 l1.length l1) (hc1 : l1.length ≤ c1) (h : winnowerref01_Ints_p.f k l0 l1 = some r) :
    Calls Try.prog 17 #[.slice A0 l0.length c0, .slice A1 l1.length c1] w fun e w' => e = .returned (.bool r) ∧ Drawn0 w w' := by
  have HR0 := Aside0.mk hr0
  have HC0 := Aside0.mk hc0
  clear hr0 hc0
  have HR1 := Aside0.mk hr1
  have HC1 := Aside0.mk hc1
  clear hr1 hc1
  have H : (if (l0.length : Int) = (l1.length : Int) then (winnowerref01_Ints_p.l0 k l0 l1 0) else (some false)) = some r := h
  clear h
  by_cases c3 : (l0.length : Int) = (l1.length : Int)
  · rw [if_pos c3] at H
    have c3b0 : ((l0.length : Int) == (l1.length : Int)) = true := beq_iff_eq.mpr c3
    have c3b1 : ((l0.length : Int) != (l1.length : Int)) = false := bne_eq_false_iff_eq.mpr c3
    have c3b2 : (l0.length == l1.length) = true := by first | simpa using c3 | (simp at c3 ⊢; omega)
    clear c3
    have H' := Aside0.mk H
    clear H
    go_enter Try.func17, Try.ntmps17
    go_wp2
    repeat (go_quiet (fail); try go_wp2)
    go_loopg [5] k (fun kq v5 w' => ∃ (x5_1 : Int), v5 = .int .i64 x5_1 ∧ Aside0 (winnowerref01_Ints_p.l0 kq l0 l1 x5_1 = some r) ∧ Aside0 (kq ≤ k) ∧ Drawn0 w w')
    case atStart => exact ⟨(0), (by first | rfl | (simp; done) | (simp [*]; done)), H', ⟨Nat.le_refl _⟩, by repeat (first | exact Drawn0.refl _ | apply Drawn0.step)⟩
    case round =>
      clear H'
      try clear c1
      try clear p2
      try clear c3
      try clear c3b0
      try clear c3b1
      try clear c3b2
      obtain ⟨x5_1, rfl, HA, HK1, ⟨m1, rfl⟩⟩ := hrel
      cases gk with
      | zero => exact absurd HA.out (by simp [winnowerref01_Ints_p.l0])
      | succ k1 =>
        have H := HA.out
        clear HA
        simp only [winnowerref01_Ints_p.l0] at H
        by_cases c4 : x5_1 < (l0.length : Int)
        · rw [if_pos c4] at H
          have c4b0 : decide (x5_1 < (l0.length : Int)) = true := decide_eq_true c4
          clear c4
          by_cases c5 : 0 ≤ x5_1
          · rw [if_pos c5] at H
            have c5b0 : decide (0 ≤ x5_1) = true := decide_eq_true c5
            clear c5
            by_cases c6 : x5_1 < (l1.length : Int)
            · rw [if_pos c6] at H
              have c6b0 : decide (x5_1 < (l1.length : Int)) = true := decide_eq_true c6
              clear c6
              by_cases c7 : (rd l0 x5_1) = (rd l1 x5_1)
              · rw [if_pos c7] at H
                have c7b0 : ((rd l0 x5_1) == (rd l1 x5_1)) = true := beq_iff_eq.mpr c7
                have c7b1 : ((rd l0 x5_1) != (rd l1 x5_1)) = false := bne_eq_false_iff_eq.mpr c7
                clear c7
                have H' := Aside0.mk H
                clear H
                have p113 : 0 ≤ (x5_1 : Int) := of_decide_eq_true (by first | (with_reducible assumption) | assumption)
                have q113 : x5_1 < (l0.length : Int) := of_decide_eq_true (by first | (with_reducible assumption) | assumption)
                obtain ⟨ad113, e113, hx113_0⟩ := Kd.at_int HR0.out x5_1 p113 q113
                cases e113
                replace p113 := eq_true p113
                replace q113 := eq_true q113
                have p114 : 0 ≤ (x5_1 : Int) := of_decide_eq_true (by first | (with_reducible assumption) | assumption)
                have q114 : x5_1 < (l1.length : Int) := of_decide_eq_true (by first | (with_reducible assumption) | assumption)
                obtain ⟨ad114, e114, hx114_0⟩ := Kd.at_int HR1.out x5_1 p114 q114
                cases e114
                replace p114 := eq_true p114
                replace q114 := eq_true q114
                go_wp2
                repeat (go_quiet (fail); try go_wp2)
                go_roundg k1
                case measure => have := HK1.out; omega
                case rel => exact ⟨(wrap64 (x5_1 + 1)), (by first | rfl | (simp; done) | (simp [*]; done)), H', ⟨by have := HK1.out; omega⟩, by repeat (first | exact Drawn0.refl _ | apply Drawn0.step)⟩
              · rw [if_neg c7] at H
                have c7b0 : ((rd l0 x5_1) == (rd l1 x5_1)) = false := beq_eq_false_iff_ne.mpr c7
                have c7b1 : ((rd l0 x5_1) != (rd l1 x5_1)) = true := bne_iff_ne.mpr c7
                obtain rfl := Option.some.inj H
                have p113 : 0 ≤ (x5_1 : Int) := of_decide_eq_true (by first | (with_reducible assumption) | assumption)
                have q113 : x5_1 < (l0.length : Int) := of_decide_eq_true (by first | (with_reducible assumption) | assumption)
                obtain ⟨ad113, e113, hx113_0⟩ := Kd.at_int HR0.out x5_1 p113 q113
                cases e113
                replace p113 := eq_true p113
                replace q113 := eq_true q113
                have p114 : 0 ≤ (x5_1 : Int) := of_decide_eq_true (by first | (with_reducible assumption) | assumption)
                have q114 : x5_1 < (l1.length : Int) := of_decide_eq_true (by first | (with_reducible assumption) | assumption)
                obtain ⟨ad114, e114, hx114_0⟩ := Kd.at_int HR1.out x5_1 p114 q114
                cases e114
                replace p114 := eq_true p114
                replace q114 := eq_true q114
                go_wp2
                repeat (go_quiet (fail); try go_wp2)
                go_ret
                exact ⟨by first | rfl | (simp; done) | (simp [*]; done), by repeat (first | exact Drawn0.refl _ | apply Drawn0.step)⟩
            · rw [if_neg c6] at H
              exact absurd H (by simp)
          · rw [if_neg c5] at H
            exact absurd H (by simp)
        · rw [if_neg c4] at H
          have c4b0 : decide (x5_1 < (l0.length : Int)) = false := decide_eq_false c4
          clear c4
          obtain rfl := Option.some.inj H
          go_wp2
          repeat (go_quiet (fail); try go_wp2)
          go_ret
          exact ⟨by first | rfl | (simp; done) | (simp [*]; done), by repeat (first | exact Drawn0.refl _ | apply Drawn0.step)⟩
  · rw [if_neg c3] at H
    have c3b0 : ((l0.length : Int) == (l1.length : Int)) = false := beq_eq_false_iff_ne.mpr c3
    have c3b1 : ((l0.length : Int) != (l1.length : Int)) = true := bne_iff_ne.mpr c3
    have c3b2 : (l0.length == l1.length) = false := by first | simpa using c3 | (simp at c3 ⊢; omega)
    obtain rfl := Option.some.inj H
    go_enter Try.func17, Try.ntmps17
    go_wp2
    repeat (go_quiet (fail); try go_wp2)
    go_ret
    exact ⟨by first | rfl | (simp; done) | (simp [*]; done), by repeat (first | exact Drawn0.refl _ | apply Drawn0.step)⟩

-- BY HAND: 
/-! ### winnowerref01_Ints: function 17 -/
-- HAND winnower/winnowerref01.Ints over
theorem winnowerref01_Ints.tell (a b : List Int) (hl : a.length = b.length) (h63 : a.length ≤ 9223372036854775807) : ∀ (d k kq : Nat), k + d = a.length → d < kq →
    winnowerref01_Ints_p.l0 kq a b (k : Int) = some (decide (a.drop k = b.drop k)) := by
  intro d
  induction d with
  | zero =>
    intro k kq hd hq
    obtain ⟨q, rfl⟩ : ∃ m, kq = m + 1 := ⟨kq - 1, by omega⟩
    simp only [winnowerref01_Ints_p.l0]
    rw [if_neg (by omega), List.drop_of_length_le (by omega), List.drop_of_length_le (by omega)]
    rfl
  | succ d ih =>
    intro k kq hd hq
    obtain ⟨q, rfl⟩ : ∃ m, kq = m + 1 := ⟨kq - 1, by omega⟩
    have ha : k < a.length := by omega
    have hb : k < b.length := by omega
    have ra : rd a (k : Int) = a[k] := by rw [rd, Int.toNat_natCast, List.getD_eq_getElem?_getD, List.getElem?_eq_getElem ha]; rfl
    have rb : rd b (k : Int) = b[k] := by rw [rd, Int.toNat_natCast, List.getD_eq_getElem?_getD, List.getElem?_eq_getElem hb]; rfl
    simp only [winnowerref01_Ints_p.l0]
    rw [if_pos (by omega), if_pos (by omega), if_pos (by omega), ra, rb, List.drop_eq_getElem_cons ha, List.drop_eq_getElem_cons hb]
    by_cases h : a[k] = b[k]
    · rw [if_pos h, show wrap64 ((k : Int) + 1) = ((k + 1 : Nat) : Int) from by unfold wrap64; omega, ih (k + 1) q (by omega) (by omega)]
      exact congrArg some (decide_eq_decide.2 ⟨fun e => by rw [h, e], fun e => (List.cons.inj e).2⟩)
    · rw [if_neg h]
      exact congrArg some (decide_eq_false (fun e => h (List.cons.inj e).1)).symm
def winnowerref01_Ints.f (l0 l1 : List Int) : Option Bool := some (decide (l0 = l1))
theorem winnowerref01_Ints.fits {l0 l1 : List Int} {r : Bool} (h0 : l0.length ≤ 9223372036854775807) (h1 : l1.length ≤ 9223372036854775807) (h : winnowerref01_Ints.f l0 l1 = some r) : ∃ k, winnowerref01_Ints_p.f k l0 l1 = some r := by
  refine ⟨l0.length + 1, ?_⟩
  rw [← h]
  unfold winnowerref01_Ints_p.f winnowerref01_Ints.f
  by_cases hl : l0.length = l1.length
  · rw [if_pos (by omega), show (0 : Int) = ((0 : Nat) : Int) from rfl, winnowerref01_Ints.tell l0 l1 hl h0 l0.length 0 _ (by omega) (by omega), List.drop_zero, List.drop_zero]
  · rw [if_neg (by omega)]
    congr 1
    symm
    simp only [decide_eq_false_iff_not]
    intro e; exact hl (by rw [e])
theorem winnowerref01_Ints.calls (A0 : Option Addr) (c0 : Nat) (l0 : List Int) (A1 : Option Addr) (c1 : Nat) (l1 : List Int) (r : Bool) (w : World) (hr0 : Kd.C (Kd.int .i64) w A0 l0.length l0) (hc0 : l0.length ≤ c0) (hr1 : Kd.C (Kd.int .i64) w A1 l1.length l1) (hc1 : l1.length ≤ c1) (h : winnowerref01_Ints.f l0 l1 = some r) :
    Calls Try.prog 17 #[.slice A0 l0.length c0, .slice A1 l1.length c1] w fun e w' => e = .returned (.bool r) ∧ Drawn0 w w' := by
  obtain ⟨k, hk⟩ := winnowerref01_Ints.fits hr0.2.1 hr1.2.1 h
  exact winnowerref01_Ints_p.calls k A0 c0 l0 A1 c1 l1 r w hr0 hc0 hr1 hc1 hk


/-! ### bits_At: function 18 -/
def bits_At.f (l0 : List Int) (a1 : Int) (a2 : Int) : Option (Int) := (bits_may.f a2).bind fun t115 => (if t115 = true then (if a1 < 0 then (some 0) else (if a1 > 1099511627776 then (some 0) else (if (wrap64 ((wrap64 (a1 + 1)) * a2)) > (wrap64 (8 * (l0.length : Int))) then (some 0) else ((bits_number.f l0 a1 a2).bind fun t116 => (some t116))))) else (some 0))
set_option maxHeartbeats 8000000 in
set_option maxRecDepth 100000 in
theorem bits_At.calls (A0 : Option Addr) (c0 : Nat) (l0 : List Int) (a1 : Int) (a2 : Int) (r : Int) (w : World) (hr0 : Kd.C (Kd.int .u8) w A0 l0.length l0) (hc0 : l0.length ≤ c0) (h : bits_At.f l0 a1 a2 = some r) :
    Calls Try.prog 18 #[.slice A0 l0.length c0, .int .i64 a1, .int .i64 a2] w fun e w' => e = .returned (.int .i64 r) ∧ Below w.heap.size w w' := by
  have HR0 := Aside0.mk hr0
  have HC0 := Aside0.mk hc0
  clear hr0 hc0
  have HB := Aside0.mk (Below.refl w.heap.size w)
  have H : ((bits_may.f a2).bind fun t115 => (if t115 = true then (if a1 < 0 then (some 0) else (if a1 > 1099511627776 then (some 0) else (if (wrap64 ((wrap64 (a1 + 1)) * a2)) > (wrap64 (8 * (l0.length : Int))) then (some 0) else ((bits_number.f l0 a1 a2).bind fun t116 => (some t116))))) else (some 0))) = some r := h
  clear h
  replace H := Option.bind_eq_some_iff.mp H
  obtain ⟨t115, A40, H⟩ := H
  replace H : (if t115 = true then (if a1 < 0 then (some 0) else (if a1 > 1099511627776 then (some 0) else (if (wrap64 ((wrap64 (a1 + 1)) * a2)) > (wrap64 (8 * (l0.length : Int))) then (some 0) else ((bits_number.f l0 a1 a2).bind fun t116 => (some t116))))) else (some 0)) = some r := H
  have A4 := Aside0.mk A40
  clear A40
  by_cases c5 : t115 = true
  · subst c5
    have H1 : (if a1 < 0 then (some 0) else (if a1 > 1099511627776 then (some 0) else (if (wrap64 ((wrap64 (a1 + 1)) * a2)) > (wrap64 (8 * (l0.length : Int))) then (some 0) else ((bits_number.f l0 a1 a2).bind fun t116 => (some t116))))) = some r := by rw [if_pos rfl] at H; exact H
    clear H
    have H := H1
    clear H1
    by_cases c6 : a1 < 0
    · rw [if_pos c6] at H
      have c6b0 : decide (a1 < 0) = true := decide_eq_true c6
      clear c6
      obtain rfl := Option.some.inj H
      go_enter Try.func18, Try.ntmps18
      go_wp2_with (first | ((with_reducible refine gate_callee (f := 20) rfl ?_); refine goesL_ (some 8) rfl rfl Try.func20 (by kernel_rfl) rfl #[.int .i64 a2] rfl (by (try simp only [List.map_toArray, List.map_cons, List.map_nil]); first | done | rfl | (simp only [List.length_drop, List.length_take]; rfl)) ?_; (with_reducible refine (bits_may.calls a2 true _ A4.out).mono ?_); rintro e w' ⟨rfl, ⟨nd, rfl⟩⟩; refine ⟨_, rfl, ?_⟩))
      go_ret
      exact ⟨by first | rfl | (simp [errW_none, errW_some] <;> rfl) | (simp [*, errW_none, errW_some] <;> rfl), by repeat (first | (with_reducible first | exact HB.out | apply below_alloc | apply pw_below_drewN | apply below_drew1) | exact HB.out)⟩
    · rw [if_neg c6] at H
      have c6b0 : decide (a1 < 0) = false := decide_eq_false c6
      clear c6
      by_cases c7 : a1 > 1099511627776
      · rw [if_pos c7] at H
        have c7b0 : decide (1099511627776 < a1) = true := decide_eq_true c7
        clear c7
        obtain rfl := Option.some.inj H
        go_enter Try.func18, Try.ntmps18
        go_wp2_with (first | ((with_reducible refine gate_callee (f := 20) rfl ?_); refine goesL_ (some 8) rfl rfl Try.func20 (by kernel_rfl) rfl #[.int .i64 a2] rfl (by (try simp only [List.map_toArray, List.map_cons, List.map_nil]); first | done | rfl | (simp only [List.length_drop, List.length_take]; rfl)) ?_; (with_reducible refine (bits_may.calls a2 true _ A4.out).mono ?_); rintro e w' ⟨rfl, ⟨nd, rfl⟩⟩; refine ⟨_, rfl, ?_⟩))
        go_ret
        exact ⟨by first | rfl | (simp [errW_none, errW_some] <;> rfl) | (simp [*, errW_none, errW_some] <;> rfl), by repeat (first | (with_reducible first | exact HB.out | apply below_alloc | apply pw_below_drewN | apply below_drew1) | exact HB.out)⟩
      · rw [if_neg c7] at H
        have c7b0 : decide (1099511627776 < a1) = false := decide_eq_false c7
        clear c7
        by_cases c8 : (wrap64 ((wrap64 (a1 + 1)) * a2)) > (wrap64 (8 * (l0.length : Int)))
        · rw [if_pos c8] at H
          have c8b0 : decide ((wrap64 (8 * (l0.length : Int))) < (wrap64 ((wrap64 (a1 + 1)) * a2))) = true := decide_eq_true c8
          clear c8
          obtain rfl := Option.some.inj H
          go_enter Try.func18, Try.ntmps18
          go_wp2_with (first | ((with_reducible refine gate_callee (f := 20) rfl ?_); refine goesL_ (some 8) rfl rfl Try.func20 (by kernel_rfl) rfl #[.int .i64 a2] rfl (by (try simp only [List.map_toArray, List.map_cons, List.map_nil]); first | done | rfl | (simp only [List.length_drop, List.length_take]; rfl)) ?_; (with_reducible refine (bits_may.calls a2 true _ A4.out).mono ?_); rintro e w' ⟨rfl, ⟨nd, rfl⟩⟩; refine ⟨_, rfl, ?_⟩))
          go_ret
          exact ⟨by first | rfl | (simp [errW_none, errW_some] <;> rfl) | (simp [*, errW_none, errW_some] <;> rfl), by repeat (first | (with_reducible first | exact HB.out | apply below_alloc | apply pw_below_drewN | apply below_drew1) | exact HB.out)⟩
        · rw [if_neg c8] at H
          have c8b0 : decide ((wrap64 (8 * (l0.length : Int))) < (wrap64 ((wrap64 (a1 + 1)) * a2))) = false := decide_eq_false c8
          clear c8
          replace H := Option.bind_eq_some_iff.mp H
          obtain ⟨t116, A90, H⟩ := H
          replace H : (some t116) = some r := H
          have A9 := Aside0.mk A90
          clear A90
          obtain rfl := Option.some.inj H
          go_enter Try.func18, Try.ntmps18
          go_wp2_with (first | ((with_reducible refine gate_callee (f := 20) rfl ?_); refine goesL_ (some 8) rfl rfl Try.func20 (by kernel_rfl) rfl #[.int .i64 a2] rfl (by (try simp only [List.map_toArray, List.map_cons, List.map_nil]); first | done | rfl | (simp only [List.length_drop, List.length_take]; rfl)) ?_; (with_reducible refine (bits_may.calls a2 true _ A4.out).mono ?_); rintro e w' ⟨rfl, ⟨nd, rfl⟩⟩; refine ⟨_, rfl, ?_⟩) | ((with_reducible refine gate_callee (f := 27) rfl ?_); refine goesL_ (some 31) rfl rfl Try.func27 (by kernel_rfl) rfl #[.slice A0 l0.length c0, .int .i64 a1, .int .i64 a2] rfl (by (try simp only [List.map_toArray, List.map_cons, List.map_nil]); first | done | rfl | (simp only [List.length_drop, List.length_take]; rfl)) ?_; (with_reducible refine (bits_number.calls _ _ l0 a1 a2 t116 _ ?side1 ?side2 A9.out).mono ?_); (case side1 => repeat (first | exact HR0.out | (with_reducible refine Kd.C_alloc ?_ _) | (with_reducible refine Kd.C_drewN ?_ _) | (with_reducible refine Kd.C_drew ?_))); (case side2 => exact HC0.out); rintro e w10 ⟨rfl, hb⟩; refine ⟨_, rfl, ?_⟩; have n0_ := Aside0.mk (below_step (by repeat (first | (with_reducible first | exact HB.out | apply below_alloc | apply pw_below_drewN | apply below_drew1) | exact HB.out)) hb); clear HB; have HB := n0_; clear n0_; (try clear hb); (try clear hb2); (try clear hk); (try clear hi)))
          go_ret
          exact ⟨by first | rfl | (simp [errW_none, errW_some] <;> rfl) | (simp [*, errW_none, errW_some] <;> rfl), by repeat (first | (with_reducible first | exact HB.out | apply below_alloc | apply pw_below_drewN | apply below_drew1) | exact HB.out)⟩
  · replace c5 := Bool.eq_false_iff.mpr c5
    subst c5
    have H1 : (some 0) = some r := by rw [if_neg (show ¬ (false = true) by decide)] at H; exact H
    clear H
    have H := H1
    clear H1
    obtain rfl := Option.some.inj H
    go_enter Try.func18, Try.ntmps18
    go_wp2_with (first | ((with_reducible refine gate_callee (f := 20) rfl ?_); refine goesL_ (some 8) rfl rfl Try.func20 (by kernel_rfl) rfl #[.int .i64 a2] rfl (by (try simp only [List.map_toArray, List.map_cons, List.map_nil]); first | done | rfl | (simp only [List.length_drop, List.length_take]; rfl)) ?_; (with_reducible refine (bits_may.calls a2 false _ A4.out).mono ?_); rintro e w' ⟨rfl, ⟨nd, rfl⟩⟩; refine ⟨_, rfl, ?_⟩))
    go_ret
    exact ⟨by first | rfl | (simp [errW_none, errW_some] <;> rfl) | (simp [*, errW_none, errW_some] <;> rfl), by repeat (first | (with_reducible first | exact HB.out | apply below_alloc | apply pw_below_drewN | apply below_drew1) | exact HB.out)⟩

/-! ### winnowerlaw02_awake: function 9 -/
def winnowerlaw02_awake.f  : Option (Bool) := (bits_Pack.f (([1, 2, 3] : List Int)) 3).bind fun bt120 => ((bits_Unpack.f bt120.1 3 3).bind fun bt124 => ((winnowerref01_Same.f bt120.1 (([209, 0] : List Int))).bind fun t131 => ((winnowerref01_Ints.f bt124.1 (([1, 2, 3] : List Int))).bind fun t135 => (if t131 = true then (if t135 = true then (if bt120.2 = 0 then (if bt124.2 = 0 then ((bits_At.f bt120.1 2 3).bind fun t136 => (if t136 = 3 then ((bits_Width.f 8).bind fun t137 => (some (t137 == 4))) else (some false))) else (some false)) else (some false)) else (some false)) else (some false)))))
set_option maxHeartbeats 8000000 in
set_option maxRecDepth 100000 in
theorem winnowerlaw02_awake.calls  (r : Bool) (w : World) (h : winnowerlaw02_awake.f  = some r) :
    Calls Try.prog 9 #[] w fun e w' => e = .returned (.bool r) ∧ Below w.heap.size w w' := by
  have HB := Aside0.mk (Below.refl w.heap.size w)
  have H : ((bits_Pack.f (([1, 2, 3] : List Int)) 3).bind fun bt120 => ((bits_Unpack.f bt120.1 3 3).bind fun bt124 => ((winnowerref01_Same.f bt120.1 (([209, 0] : List Int))).bind fun t131 => ((winnowerref01_Ints.f bt124.1 (([1, 2, 3] : List Int))).bind fun t135 => (if t131 = true then (if t135 = true then (if bt120.2 = 0 then (if bt124.2 = 0 then ((bits_At.f bt120.1 2 3).bind fun t136 => (if t136 = 3 then ((bits_Width.f 8).bind fun t137 => (some (t137 == 4))) else (some false))) else (some false)) else (some false)) else (some false)) else (some false)))))) = some r := h
  clear h
  obtain ⟨y117, hy117⟩ : ∃ y_ : List Int, y_ = (([1, 2, 3] : List Int)) := ⟨_, rfl⟩
  replace H : ((bits_Pack.f y117 3).bind fun bt120 => ((bits_Unpack.f bt120.1 3 3).bind fun bt124 => ((winnowerref01_Same.f bt120.1 (([209, 0] : List Int))).bind fun t131 => ((winnowerref01_Ints.f bt124.1 (([1, 2, 3] : List Int))).bind fun t135 => (if t131 = true then (if t135 = true then (if bt120.2 = 0 then (if bt124.2 = 0 then ((bits_At.f bt120.1 2 3).bind fun t136 => (if t136 = 3 then ((bits_Width.f 8).bind fun t137 => (some (t137 == 4))) else (some false))) else (some false)) else (some false)) else (some false)) else (some false)))))) = some r := by first | (rw [hy117]; with_reducible exact H) | (have H2_ := (Option.bind_some _ _).symm.trans H; rw [hy117]; with_reducible exact H2_) | (have H2_ := (Option.bind_some _ _).symm.trans H; with_reducible exact H2_) | with_reducible exact H | (rw [hy117]; exact H) | exact H
  have Ny117 := Aside0.mk hy117
  clear hy117
  replace H := Option.bind_eq_some_iff.mp H
  obtain ⟨⟨t120, t121⟩, A10, H⟩ := H
  replace H : ((bits_Unpack.f t120 3 3).bind fun bt124 => ((winnowerref01_Same.f t120 (([209, 0] : List Int))).bind fun t131 => ((winnowerref01_Ints.f bt124.1 (([1, 2, 3] : List Int))).bind fun t135 => (if t131 = true then (if t135 = true then (if t121 = 0 then (if bt124.2 = 0 then ((bits_At.f t120 2 3).bind fun t136 => (if t136 = 3 then ((bits_Width.f 8).bind fun t137 => (some (t137 == 4))) else (some false))) else (some false)) else (some false)) else (some false)) else (some false))))) = some r := H
  have A1 := Aside0.mk A10
  clear A10
  replace H := Option.bind_eq_some_iff.mp H
  obtain ⟨⟨t124, t125⟩, A20, H⟩ := H
  replace H : ((winnowerref01_Same.f t120 (([209, 0] : List Int))).bind fun t131 => ((winnowerref01_Ints.f t124 (([1, 2, 3] : List Int))).bind fun t135 => (if t131 = true then (if t135 = true then (if t121 = 0 then (if t125 = 0 then ((bits_At.f t120 2 3).bind fun t136 => (if t136 = 3 then ((bits_Width.f 8).bind fun t137 => (some (t137 == 4))) else (some false))) else (some false)) else (some false)) else (some false)) else (some false)))) = some r := H
  have A2 := Aside0.mk A20
  clear A20
  obtain ⟨y128, hy128⟩ : ∃ y_ : List Int, y_ = (([209, 0] : List Int)) := ⟨_, rfl⟩
  replace H : ((winnowerref01_Same.f t120 y128).bind fun t131 => ((winnowerref01_Ints.f t124 (([1, 2, 3] : List Int))).bind fun t135 => (if t131 = true then (if t135 = true then (if t121 = 0 then (if t125 = 0 then ((bits_At.f t120 2 3).bind fun t136 => (if t136 = 3 then ((bits_Width.f 8).bind fun t137 => (some (t137 == 4))) else (some false))) else (some false)) else (some false)) else (some false)) else (some false)))) = some r := by first | (rw [hy128]; with_reducible exact H) | (have H2_ := (Option.bind_some _ _).symm.trans H; rw [hy128]; with_reducible exact H2_) | (have H2_ := (Option.bind_some _ _).symm.trans H; with_reducible exact H2_) | with_reducible exact H | (rw [hy128]; exact H) | exact H
  have Ny128 := Aside0.mk hy128
  clear hy128
  replace H := Option.bind_eq_some_iff.mp H
  obtain ⟨t131, A30, H⟩ := H
  replace H : ((winnowerref01_Ints.f t124 (([1, 2, 3] : List Int))).bind fun t135 => (if t131 = true then (if t135 = true then (if t121 = 0 then (if t125 = 0 then ((bits_At.f t120 2 3).bind fun t136 => (if t136 = 3 then ((bits_Width.f 8).bind fun t137 => (some (t137 == 4))) else (some false))) else (some false)) else (some false)) else (some false)) else (some false))) = some r := H
  have A3 := Aside0.mk A30
  clear A30
  obtain ⟨y132, hy132⟩ : ∃ y_ : List Int, y_ = (([1, 2, 3] : List Int)) := ⟨_, rfl⟩
  replace H : ((winnowerref01_Ints.f t124 y132).bind fun t135 => (if t131 = true then (if t135 = true then (if t121 = 0 then (if t125 = 0 then ((bits_At.f t120 2 3).bind fun t136 => (if t136 = 3 then ((bits_Width.f 8).bind fun t137 => (some (t137 == 4))) else (some false))) else (some false)) else (some false)) else (some false)) else (some false))) = some r := by first | (rw [hy132]; with_reducible exact H) | (have H2_ := (Option.bind_some _ _).symm.trans H; rw [hy132]; with_reducible exact H2_) | (have H2_ := (Option.bind_some _ _).symm.trans H; with_reducible exact H2_) | with_reducible exact H | (rw [hy132]; exact H) | exact H
  have Ny132 := Aside0.mk hy132
  clear hy132
  replace H := Option.bind_eq_some_iff.mp H
  obtain ⟨t135, A40, H⟩ := H
  replace H : (if t131 = true then (if t135 = true then (if t121 = 0 then (if t125 = 0 then ((bits_At.f t120 2 3).bind fun t136 => (if t136 = 3 then ((bits_Width.f 8).bind fun t137 => (some (t137 == 4))) else (some false))) else (some false)) else (some false)) else (some false)) else (some false)) = some r := H
  have A4 := Aside0.mk A40
  clear A40
  by_cases c5 : t131 = true
  · subst c5
    have H1 : (if t135 = true then (if t121 = 0 then (if t125 = 0 then ((bits_At.f t120 2 3).bind fun t136 => (if t136 = 3 then ((bits_Width.f 8).bind fun t137 => (some (t137 == 4))) else (some false))) else (some false)) else (some false)) else (some false)) = some r := by rw [if_pos rfl] at H; exact H
    clear H
    have H := H1
    clear H1
    by_cases c6 : t135 = true
    · subst c6
      have H1 : (if t121 = 0 then (if t125 = 0 then ((bits_At.f t120 2 3).bind fun t136 => (if t136 = 3 then ((bits_Width.f 8).bind fun t137 => (some (t137 == 4))) else (some false))) else (some false)) else (some false)) = some r := by rw [if_pos rfl] at H; exact H
      clear H
      have H := H1
      clear H1
      by_cases c7 : t121 = 0
      · rw [if_pos c7] at H
        have c7b0 : (t121 == 0) = true := beq_iff_eq.mpr c7
        have c7b1 : (t121 != 0) = false := bne_eq_false_iff_eq.mpr c7
        clear c7
        by_cases c8 : t125 = 0
        · rw [if_pos c8] at H
          have c8b0 : (t125 == 0) = true := beq_iff_eq.mpr c8
          have c8b1 : (t125 != 0) = false := bne_eq_false_iff_eq.mpr c8
          clear c8
          replace H := Option.bind_eq_some_iff.mp H
          obtain ⟨t136, A90, H⟩ := H
          replace H : (if t136 = 3 then ((bits_Width.f 8).bind fun t137 => (some (t137 == 4))) else (some false)) = some r := H
          have A9 := Aside0.mk A90
          clear A90
          by_cases c10 : t136 = 3
          · rw [if_pos c10] at H
            have c10b0 : (t136 == 3) = true := beq_iff_eq.mpr c10
            have c10b1 : (t136 != 3) = false := bne_eq_false_iff_eq.mpr c10
            clear c10
            replace H := Option.bind_eq_some_iff.mp H
            obtain ⟨t137, A110, H⟩ := H
            replace H : (some (t137 == 4)) = some r := H
            have A11 := Aside0.mk A110
            clear A110
            obtain rfl := Option.some.inj H
            go_enter Try.func9, Try.ntmps9
            go_wp2_with (first | ((with_reducible refine gate_dst (N := 8) rfl ?_); refine Kd.R_lit (Kd.int .i64) _ 3 ?hg (N := 8) ?hd (xs := ([1, 2, 3] : List Int)) (inner := [.int .i64 1, .int .i64 2, .int .i64 3]) (ok := fun _ => True) (okp := fun _ => True) ?hr ?hp (fun _ hk => hk) trivial (Below.refl _ _) (Nat.le_refl _) (by simp) ?_; (case hd => rfl); (case hg => rfl); (case hr => first | (go_simp; done) | (go_simp; rfl)); (case hp => exact (Reps.one (show Kd.M (Kd.int .i64) _ _ _ 1 [.int .i64 1] from rfl) (Reps.one (show Kd.M (Kd.int .i64) _ _ _ 2 [.int .i64 2] from rfl) (Reps.one (show Kd.M (Kd.int .i64) _ _ _ 3 [.int .i64 3] from rfl) (Reps.none _ _))))); intro v118 w12 ho13 hb hg_ hnew_; clear hg_ hnew_; (first | rw [← Ny117.out] at ho13 | (simp only [Int.reduceToNat] at ho13; rw [← Ny117.out] at ho13)); have n0_ := Aside0.mk (Kd.R_lower ho13 (below_size (by repeat (first | (with_reducible first | exact HB.out | apply below_alloc | apply pw_below_drewN | apply below_drew1) | exact HB.out)))); have n1_ := Aside0.mk (below_step (by repeat (first | (with_reducible first | exact HB.out | apply below_alloc | apply pw_below_drewN | apply below_drew1) | exact HB.out)) hb); clear HB; have HO119 := n0_; have HB := n1_; clear n0_ n1_; clear hb ho13; obtain ⟨Ao14, co14, eo14⟩ := Kd.R_slice HO119.out; subst eo14) | ((with_reducible refine gate_callee (f := 10) rfl ?_); refine goesL_ (some 9) rfl rfl Try.func10 (by kernel_rfl) rfl #[.slice Ao14 y117.length co14, .int .i64 3] rfl (by (try simp only [List.map_toArray, List.map_cons, List.map_nil]); first | done | rfl | (simp only [List.length_drop, List.length_take]; rfl)) ?_; (with_reducible refine (bits_Pack.calls _ _ y117 3 t120 t121 _ ?side1 ?side2 A1.out).mono ?_); (case side1 => repeat (first | exact (Kd.R_reads' HO119.out).2.2 | (with_reducible refine Kd.C_alloc ?_ _) | (with_reducible refine Kd.C_drewN ?_ _) | (with_reducible refine Kd.C_drew ?_))); (case side2 => exact (Kd.R_reads' HO119.out).2.1); rintro e w15 ⟨v122, rfl, ho0, hb⟩; refine ⟨_, rfl, ?_⟩; have n0_ := Aside0.mk (Kd.R_below (by (with_reducible repeat (first | apply Kd.R_alloc | apply Kd.R_drewN | apply Kd.R_drew)); exact HO119.out) hb); have n1_ := Aside0.mk (Kd.R_lower ho0 (below_size (by repeat (first | (with_reducible first | exact HB.out | apply below_alloc | apply pw_below_drewN | apply below_drew1) | exact HB.out)))); have n2_ := Aside0.mk (below_step (by repeat (first | (with_reducible first | exact HB.out | apply below_alloc | apply pw_below_drewN | apply below_drew1) | exact HB.out)) hb); clear HO119; clear HB; have HO119 := n0_; have HO123 := n1_; have HB := n2_; clear n0_ n1_ n2_; (try clear hb); (try clear hb2); (try clear hk); (try clear hi); (try clear ho0); obtain ⟨Ao16, co16, eo16⟩ := Kd.R_slice HO123.out; subst eo16) | ((with_reducible refine gate_callee (f := 15) rfl ?_); refine goesL_ (some 14) rfl rfl Try.func15 (by kernel_rfl) rfl #[.slice Ao16 t120.length co16, .int .i64 3, .int .i64 3] rfl (by (try simp only [List.map_toArray, List.map_cons, List.map_nil]); first | done | rfl | (simp only [List.length_drop, List.length_take]; rfl)) ?_; (with_reducible refine (bits_Unpack.calls _ _ t120 3 3 t124 t125 _ ?side1 ?side2 A2.out).mono ?_); (case side1 => repeat (first | exact (Kd.R_reads' HO123.out).2.2 | (with_reducible refine Kd.C_alloc ?_ _) | (with_reducible refine Kd.C_drewN ?_ _) | (with_reducible refine Kd.C_drew ?_))); (case side2 => exact (Kd.R_reads' HO123.out).2.1); rintro e w17 ⟨v126, rfl, ho0, hb⟩; refine ⟨_, rfl, ?_⟩; have n0_ := Aside0.mk (Kd.R_elder' (by (with_reducible repeat (first | apply Kd.R_alloc | apply Kd.R_drewN | apply Kd.R_drew)); exact HO119.out) (Kd.R_base ho0) hb); have n1_ := Aside0.mk (Kd.R_below (by (with_reducible repeat (first | apply Kd.R_alloc | apply Kd.R_drewN | apply Kd.R_drew)); exact HO123.out) hb); have n2_ := Aside0.mk (Kd.R_lower (Kd.R_new' ho0 (Kd.R_lt (by (with_reducible repeat (first | apply Kd.R_alloc | apply Kd.R_drewN | apply Kd.R_drew)); exact HO119.out))) (below_size (by repeat (first | (with_reducible first | exact HB.out | apply below_alloc | apply pw_below_drewN | apply below_drew1) | exact HB.out)))); have n3_ := Aside0.mk (below_step (by repeat (first | (with_reducible first | exact HB.out | apply below_alloc | apply pw_below_drewN | apply below_drew1) | exact HB.out)) hb); clear HO119; clear HO123; clear HB; have HO119 := n0_; have HO123 := n1_; have HO127 := n2_; have HB := n3_; clear n0_ n1_ n2_ n3_; (try clear hb); (try clear hb2); (try clear hk); (try clear hi); (try clear ho0)) | ((with_reducible refine gate_dst (N := 18) rfl ?_); refine Kd.R_lit (Kd.int .u8) _ 5 ?hg (N := 18) ?hd (xs := ([209, 0] : List Int)) (inner := [.int .u8 209, .int .u8 0]) (ok := fun _ => True) (okp := fun _ => True) ?hr ?hp (fun _ hk => hk) trivial (Below.refl _ _) (Nat.le_refl _) (by simp) ?_; (case hd => rfl); (case hg => rfl); (case hr => first | (go_simp; done) | (go_simp; rfl)); (case hp => exact (Reps.one (show Kd.M (Kd.int .u8) _ _ _ 209 [.int .u8 209] from rfl) (Reps.one (show Kd.M (Kd.int .u8) _ _ _ 0 [.int .u8 0] from rfl) (Reps.none _ _)))); intro v129 w18 ho19 hb hg_ hnew_; clear hg_ hnew_; (first | rw [← Ny128.out] at ho19 | (simp only [Int.reduceToNat] at ho19; rw [← Ny128.out] at ho19)); have n0_ := Aside0.mk (Kd.R_below (by (with_reducible repeat (first | apply Kd.R_alloc | apply Kd.R_drewN | apply Kd.R_drew)); exact HO119.out) hb); have n1_ := Aside0.mk (Kd.R_elder' (by (with_reducible repeat (first | apply Kd.R_alloc | apply Kd.R_drewN | apply Kd.R_drew)); exact HO123.out) (Kd.R_base ho19) hb); have n2_ := Aside0.mk (Kd.R_below (by (with_reducible repeat (first | apply Kd.R_alloc | apply Kd.R_drewN | apply Kd.R_drew)); exact HO127.out) hb); have n3_ := Aside0.mk (Kd.R_lower (Kd.R_new' ho19 (Kd.R_lt (by (with_reducible repeat (first | apply Kd.R_alloc | apply Kd.R_drewN | apply Kd.R_drew)); exact HO123.out))) (below_size (by repeat (first | (with_reducible first | exact HB.out | apply below_alloc | apply pw_below_drewN | apply below_drew1) | exact HB.out)))); have n4_ := Aside0.mk (below_step (by repeat (first | (with_reducible first | exact HB.out | apply below_alloc | apply pw_below_drewN | apply below_drew1) | exact HB.out)) hb); clear HO119; clear HO123; clear HO127; clear HB; have HO119 := n0_; have HO123 := n1_; have HO127 := n2_; have HO130 := n3_; have HB := n4_; clear n0_ n1_ n2_ n3_ n4_; clear hb ho19; obtain ⟨Ao20, co20, eo20⟩ := Kd.R_slice HO130.out; subst eo20) | ((with_reducible refine gate_callee (f := 12) rfl ?_); refine goesL_ (some 19) rfl rfl Try.func12 (by kernel_rfl) rfl #[.slice Ao16 t120.length co16, .slice Ao20 y128.length co20] rfl (by (try simp only [List.map_toArray, List.map_cons, List.map_nil]); first | done | rfl | (simp only [List.length_drop, List.length_take]; rfl)) ?_; (with_reducible refine (winnowerref01_Same.calls _ _ t120 _ _ y128 true _ ?side1 ?side2 ?side3 ?side4 A3.out).mono ?_); (case side1 => repeat (first | exact (Kd.R_reads' HO123.out).2.2 | (with_reducible refine Kd.C_alloc ?_ _) | (with_reducible refine Kd.C_drewN ?_ _) | (with_reducible refine Kd.C_drew ?_))); (case side2 => exact (Kd.R_reads' HO123.out).2.1); (case side3 => repeat (first | exact (Kd.R_reads' HO130.out).2.2 | (with_reducible refine Kd.C_alloc ?_ _) | (with_reducible refine Kd.C_drewN ?_ _) | (with_reducible refine Kd.C_drew ?_))); (case side4 => exact (Kd.R_reads' HO130.out).2.1); rintro e w' ⟨rfl, ⟨nd, rfl⟩⟩; refine ⟨_, rfl, ?_⟩) | ((with_reducible refine gate_dst (N := 21) rfl ?_); refine Kd.R_lit (Kd.int .i64) _ 3 ?hg (N := 21) ?hd (xs := ([1, 2, 3] : List Int)) (inner := [.int .i64 1, .int .i64 2, .int .i64 3]) (ok := fun _ => True) (okp := fun _ => True) ?hr ?hp (fun _ hk => hk) trivial (Below.refl _ _) (Nat.le_refl _) (by simp) ?_; (case hd => rfl); (case hg => rfl); (case hr => first | (go_simp; done) | (go_simp; rfl)); (case hp => exact (Reps.one (show Kd.M (Kd.int .i64) _ _ _ 1 [.int .i64 1] from rfl) (Reps.one (show Kd.M (Kd.int .i64) _ _ _ 2 [.int .i64 2] from rfl) (Reps.one (show Kd.M (Kd.int .i64) _ _ _ 3 [.int .i64 3] from rfl) (Reps.none _ _))))); intro v133 w21 ho22 hb hg_ hnew_; clear hg_ hnew_; (first | rw [← Ny132.out] at ho22 | (simp only [Int.reduceToNat] at ho22; rw [← Ny132.out] at ho22)); have n0_ := Aside0.mk (Kd.R_elder' (by (with_reducible repeat (first | apply Kd.R_alloc | apply Kd.R_drewN | apply Kd.R_drew)); exact HO119.out) (Kd.R_base ho22) hb); have n1_ := Aside0.mk (Kd.R_below (by (with_reducible repeat (first | apply Kd.R_alloc | apply Kd.R_drewN | apply Kd.R_drew)); exact HO123.out) hb); have n2_ := Aside0.mk (Kd.R_elder' (by (with_reducible repeat (first | apply Kd.R_alloc | apply Kd.R_drewN | apply Kd.R_drew)); exact HO127.out) (Kd.R_base ho22) hb); have n3_ := Aside0.mk (Kd.R_below (by (with_reducible repeat (first | apply Kd.R_alloc | apply Kd.R_drewN | apply Kd.R_drew)); exact HO130.out) hb); have n4_ := Aside0.mk (Kd.R_lower (Kd.R_new' (Kd.R_new' ho22 (Kd.R_lt (by (with_reducible repeat (first | apply Kd.R_alloc | apply Kd.R_drewN | apply Kd.R_drew)); exact HO119.out))) (Kd.R_lt (by (with_reducible repeat (first | apply Kd.R_alloc | apply Kd.R_drewN | apply Kd.R_drew)); exact HO127.out))) (below_size (by repeat (first | (with_reducible first | exact HB.out | apply below_alloc | apply pw_below_drewN | apply below_drew1) | exact HB.out)))); have n5_ := Aside0.mk (below_step (by repeat (first | (with_reducible first | exact HB.out | apply below_alloc | apply pw_below_drewN | apply below_drew1) | exact HB.out)) hb); clear HO119; clear HO123; clear HO127; clear HO130; clear HB; have HO119 := n0_; have HO123 := n1_; have HO127 := n2_; have HO130 := n3_; have HO134 := n4_; have HB := n5_; clear n0_ n1_ n2_ n3_ n4_ n5_; clear hb ho22; obtain ⟨Ao23, co23, eo23⟩ := Kd.R_slice HO127.out; subst eo23; obtain ⟨Ao24, co24, eo24⟩ := Kd.R_slice HO134.out; subst eo24) | ((with_reducible refine gate_callee (f := 17) rfl ?_); refine goesL_ (some 22) rfl rfl Try.func17 (by kernel_rfl) rfl #[.slice Ao23 t124.length co23, .slice Ao24 y132.length co24] rfl (by (try simp only [List.map_toArray, List.map_cons, List.map_nil]); first | done | rfl | (simp only [List.length_drop, List.length_take]; rfl)) ?_; (with_reducible refine (winnowerref01_Ints.calls _ _ t124 _ _ y132 true _ ?side1 ?side2 ?side3 ?side4 A4.out).mono ?_); (case side1 => repeat (first | exact (Kd.R_reads' HO127.out).2.2 | (with_reducible refine Kd.C_alloc ?_ _) | (with_reducible refine Kd.C_drewN ?_ _) | (with_reducible refine Kd.C_drew ?_))); (case side2 => exact (Kd.R_reads' HO127.out).2.1); (case side3 => repeat (first | exact (Kd.R_reads' HO134.out).2.2 | (with_reducible refine Kd.C_alloc ?_ _) | (with_reducible refine Kd.C_drewN ?_ _) | (with_reducible refine Kd.C_drew ?_))); (case side4 => exact (Kd.R_reads' HO134.out).2.1); rintro e w' ⟨rfl, ⟨nd, rfl⟩⟩; refine ⟨_, rfl, ?_⟩) | (go_at_call 18; (with_reducible refine (bits_At.calls _ _ t120 2 3 t136 _ ?side1 ?side2 A9.out).mono ?_); (case side1 => repeat (first | exact (Kd.R_reads' HO123.out).2.2 | (with_reducible refine Kd.C_alloc ?_ _) | (with_reducible refine Kd.C_drewN ?_ _) | (with_reducible refine Kd.C_drew ?_))); (case side2 => exact (Kd.R_reads' HO123.out).2.1); rintro e w25 ⟨rfl, hb⟩; have n0_ := Aside0.mk (Kd.R_below (by (with_reducible repeat (first | apply Kd.R_alloc | apply Kd.R_drewN | apply Kd.R_drew)); exact HO119.out) hb); have n1_ := Aside0.mk (Kd.R_below (by (with_reducible repeat (first | apply Kd.R_alloc | apply Kd.R_drewN | apply Kd.R_drew)); exact HO123.out) hb); have n2_ := Aside0.mk (Kd.R_below (by (with_reducible repeat (first | apply Kd.R_alloc | apply Kd.R_drewN | apply Kd.R_drew)); exact HO127.out) hb); have n3_ := Aside0.mk (Kd.R_below (by (with_reducible repeat (first | apply Kd.R_alloc | apply Kd.R_drewN | apply Kd.R_drew)); exact HO130.out) hb); have n4_ := Aside0.mk (Kd.R_below (by (with_reducible repeat (first | apply Kd.R_alloc | apply Kd.R_drewN | apply Kd.R_drew)); exact HO134.out) hb); have n5_ := Aside0.mk (below_step (by repeat (first | (with_reducible first | exact HB.out | apply below_alloc | apply pw_below_drewN | apply below_drew1) | exact HB.out)) hb); clear HO119; clear HO123; clear HO127; clear HO130; clear HO134; clear HB; have HO119 := n0_; have HO123 := n1_; have HO127 := n2_; have HO130 := n3_; have HO134 := n4_; have HB := n5_; clear n0_ n1_ n2_ n3_ n4_ n5_; (try clear hb); (try clear hb2); (try clear hk); (try clear hi)) | (go_at_call 13; (with_reducible refine (bits_Width.calls 8 t137 _ A11.out).mono ?_); rintro e w26 ⟨rfl, hb⟩; have n0_ := Aside0.mk (Kd.R_below (by (with_reducible repeat (first | apply Kd.R_alloc | apply Kd.R_drewN | apply Kd.R_drew)); exact HO119.out) hb); have n1_ := Aside0.mk (Kd.R_below (by (with_reducible repeat (first | apply Kd.R_alloc | apply Kd.R_drewN | apply Kd.R_drew)); exact HO123.out) hb); have n2_ := Aside0.mk (Kd.R_below (by (with_reducible repeat (first | apply Kd.R_alloc | apply Kd.R_drewN | apply Kd.R_drew)); exact HO127.out) hb); have n3_ := Aside0.mk (Kd.R_below (by (with_reducible repeat (first | apply Kd.R_alloc | apply Kd.R_drewN | apply Kd.R_drew)); exact HO130.out) hb); have n4_ := Aside0.mk (Kd.R_below (by (with_reducible repeat (first | apply Kd.R_alloc | apply Kd.R_drewN | apply Kd.R_drew)); exact HO134.out) hb); have n5_ := Aside0.mk (below_step (by repeat (first | (with_reducible first | exact HB.out | apply below_alloc | apply pw_below_drewN | apply below_drew1) | exact HB.out)) hb); clear HO119; clear HO123; clear HO127; clear HO130; clear HO134; clear HB; have HO119 := n0_; have HO123 := n1_; have HO127 := n2_; have HO130 := n3_; have HO134 := n4_; have HB := n5_; clear n0_ n1_ n2_ n3_ n4_ n5_; (try clear hb); (try clear hb2); (try clear hk); (try clear hi)))
            go_ret
            exact ⟨by first | rfl | (simp [errW_none, errW_some] <;> rfl) | (simp [*, errW_none, errW_some] <;> rfl), by repeat (first | (with_reducible first | exact HB.out | apply below_alloc | apply pw_below_drewN | apply below_drew1) | exact HB.out)⟩
          · rw [if_neg c10] at H
            have c10b0 : (t136 == 3) = false := beq_eq_false_iff_ne.mpr c10
            have c10b1 : (t136 != 3) = true := bne_iff_ne.mpr c10
            obtain rfl := Option.some.inj H
            go_enter Try.func9, Try.ntmps9
            go_wp2_with (first | ((with_reducible refine gate_dst (N := 8) rfl ?_); refine Kd.R_lit (Kd.int .i64) _ 3 ?hg (N := 8) ?hd (xs := ([1, 2, 3] : List Int)) (inner := [.int .i64 1, .int .i64 2, .int .i64 3]) (ok := fun _ => True) (okp := fun _ => True) ?hr ?hp (fun _ hk => hk) trivial (Below.refl _ _) (Nat.le_refl _) (by simp) ?_; (case hd => rfl); (case hg => rfl); (case hr => first | (go_simp; done) | (go_simp; rfl)); (case hp => exact (Reps.one (show Kd.M (Kd.int .i64) _ _ _ 1 [.int .i64 1] from rfl) (Reps.one (show Kd.M (Kd.int .i64) _ _ _ 2 [.int .i64 2] from rfl) (Reps.one (show Kd.M (Kd.int .i64) _ _ _ 3 [.int .i64 3] from rfl) (Reps.none _ _))))); intro v118 w27 ho28 hb hg_ hnew_; clear hg_ hnew_; (first | rw [← Ny117.out] at ho28 | (simp only [Int.reduceToNat] at ho28; rw [← Ny117.out] at ho28)); have n0_ := Aside0.mk (Kd.R_lower ho28 (below_size (by repeat (first | (with_reducible first | exact HB.out | apply below_alloc | apply pw_below_drewN | apply below_drew1) | exact HB.out)))); have n1_ := Aside0.mk (below_step (by repeat (first | (with_reducible first | exact HB.out | apply below_alloc | apply pw_below_drewN | apply below_drew1) | exact HB.out)) hb); clear HB; have HO119 := n0_; have HB := n1_; clear n0_ n1_; clear hb ho28; obtain ⟨Ao29, co29, eo29⟩ := Kd.R_slice HO119.out; subst eo29) | ((with_reducible refine gate_callee (f := 10) rfl ?_); refine goesL_ (some 9) rfl rfl Try.func10 (by kernel_rfl) rfl #[.slice Ao29 y117.length co29, .int .i64 3] rfl (by (try simp only [List.map_toArray, List.map_cons, List.map_nil]); first | done | rfl | (simp only [List.length_drop, List.length_take]; rfl)) ?_; (with_reducible refine (bits_Pack.calls _ _ y117 3 t120 t121 _ ?side1 ?side2 A1.out).mono ?_); (case side1 => repeat (first | exact (Kd.R_reads' HO119.out).2.2 | (with_reducible refine Kd.C_alloc ?_ _) | (with_reducible refine Kd.C_drewN ?_ _) | (with_reducible refine Kd.C_drew ?_))); (case side2 => exact (Kd.R_reads' HO119.out).2.1); rintro e w30 ⟨v122, rfl, ho0, hb⟩; refine ⟨_, rfl, ?_⟩; have n0_ := Aside0.mk (Kd.R_below (by (with_reducible repeat (first | apply Kd.R_alloc | apply Kd.R_drewN | apply Kd.R_drew)); exact HO119.out) hb); have n1_ := Aside0.mk (Kd.R_lower ho0 (below_size (by repeat (first | (with_reducible first | exact HB.out | apply below_alloc | apply pw_below_drewN | apply below_drew1) | exact HB.out)))); have n2_ := Aside0.mk (below_step (by repeat (first | (with_reducible first | exact HB.out | apply below_alloc | apply pw_below_drewN | apply below_drew1) | exact HB.out)) hb); clear HO119; clear HB; have HO119 := n0_; have HO123 := n1_; have HB := n2_; clear n0_ n1_ n2_; (try clear hb); (try clear hb2); (try clear hk); (try clear hi); (try clear ho0); obtain ⟨Ao31, co31, eo31⟩ := Kd.R_slice HO123.out; subst eo31) | ((with_reducible refine gate_callee (f := 15) rfl ?_); refine goesL_ (some 14) rfl rfl Try.func15 (by kernel_rfl) rfl #[.slice Ao31 t120.length co31, .int .i64 3, .int .i64 3] rfl (by (try simp only [List.map_toArray, List.map_cons, List.map_nil]); first | done | rfl | (simp only [List.length_drop, List.length_take]; rfl)) ?_; (with_reducible refine (bits_Unpack.calls _ _ t120 3 3 t124 t125 _ ?side1 ?side2 A2.out).mono ?_); (case side1 => repeat (first | exact (Kd.R_reads' HO123.out).2.2 | (with_reducible refine Kd.C_alloc ?_ _) | (with_reducible refine Kd.C_drewN ?_ _) | (with_reducible refine Kd.C_drew ?_))); (case side2 => exact (Kd.R_reads' HO123.out).2.1); rintro e w32 ⟨v126, rfl, ho0, hb⟩; refine ⟨_, rfl, ?_⟩; have n0_ := Aside0.mk (Kd.R_elder' (by (with_reducible repeat (first | apply Kd.R_alloc | apply Kd.R_drewN | apply Kd.R_drew)); exact HO119.out) (Kd.R_base ho0) hb); have n1_ := Aside0.mk (Kd.R_below (by (with_reducible repeat (first | apply Kd.R_alloc | apply Kd.R_drewN | apply Kd.R_drew)); exact HO123.out) hb); have n2_ := Aside0.mk (Kd.R_lower (Kd.R_new' ho0 (Kd.R_lt (by (with_reducible repeat (first | apply Kd.R_alloc | apply Kd.R_drewN | apply Kd.R_drew)); exact HO119.out))) (below_size (by repeat (first | (with_reducible first | exact HB.out | apply below_alloc | apply pw_below_drewN | apply below_drew1) | exact HB.out)))); have n3_ := Aside0.mk (below_step (by repeat (first | (with_reducible first | exact HB.out | apply below_alloc | apply pw_below_drewN | apply below_drew1) | exact HB.out)) hb); clear HO119; clear HO123; clear HB; have HO119 := n0_; have HO123 := n1_; have HO127 := n2_; have HB := n3_; clear n0_ n1_ n2_ n3_; (try clear hb); (try clear hb2); (try clear hk); (try clear hi); (try clear ho0)) | ((with_reducible refine gate_dst (N := 18) rfl ?_); refine Kd.R_lit (Kd.int .u8) _ 5 ?hg (N := 18) ?hd (xs := ([209, 0] : List Int)) (inner := [.int .u8 209, .int .u8 0]) (ok := fun _ => True) (okp := fun _ => True) ?hr ?hp (fun _ hk => hk) trivial (Below.refl _ _) (Nat.le_refl _) (by simp) ?_; (case hd => rfl); (case hg => rfl); (case hr => first | (go_simp; done) | (go_simp; rfl)); (case hp => exact (Reps.one (show Kd.M (Kd.int .u8) _ _ _ 209 [.int .u8 209] from rfl) (Reps.one (show Kd.M (Kd.int .u8) _ _ _ 0 [.int .u8 0] from rfl) (Reps.none _ _)))); intro v129 w33 ho34 hb hg_ hnew_; clear hg_ hnew_; (first | rw [← Ny128.out] at ho34 | (simp only [Int.reduceToNat] at ho34; rw [← Ny128.out] at ho34)); have n0_ := Aside0.mk (Kd.R_below (by (with_reducible repeat (first | apply Kd.R_alloc | apply Kd.R_drewN | apply Kd.R_drew)); exact HO119.out) hb); have n1_ := Aside0.mk (Kd.R_elder' (by (with_reducible repeat (first | apply Kd.R_alloc | apply Kd.R_drewN | apply Kd.R_drew)); exact HO123.out) (Kd.R_base ho34) hb); have n2_ := Aside0.mk (Kd.R_below (by (with_reducible repeat (first | apply Kd.R_alloc | apply Kd.R_drewN | apply Kd.R_drew)); exact HO127.out) hb); have n3_ := Aside0.mk (Kd.R_lower (Kd.R_new' ho34 (Kd.R_lt (by (with_reducible repeat (first | apply Kd.R_alloc | apply Kd.R_drewN | apply Kd.R_drew)); exact HO123.out))) (below_size (by repeat (first | (with_reducible first | exact HB.out | apply below_alloc | apply pw_below_drewN | apply below_drew1) | exact HB.out)))); have n4_ := Aside0.mk (below_step (by repeat (first | (with_reducible first | exact HB.out | apply below_alloc | apply pw_below_drewN | apply below_drew1) | exact HB.out)) hb); clear HO119; clear HO123; clear HO127; clear HB; have HO119 := n0_; have HO123 := n1_; have HO127 := n2_; have HO130 := n3_; have HB := n4_; clear n0_ n1_ n2_ n3_ n4_; clear hb ho34; obtain ⟨Ao35, co35, eo35⟩ := Kd.R_slice HO130.out; subst eo35) | ((with_reducible refine gate_callee (f := 12) rfl ?_); refine goesL_ (some 19) rfl rfl Try.func12 (by kernel_rfl) rfl #[.slice Ao31 t120.length co31, .slice Ao35 y128.length co35] rfl (by (try simp only [List.map_toArray, List.map_cons, List.map_nil]); first | done | rfl | (simp only [List.length_drop, List.length_take]; rfl)) ?_; (with_reducible refine (winnowerref01_Same.calls _ _ t120 _ _ y128 true _ ?side1 ?side2 ?side3 ?side4 A3.out).mono ?_); (case side1 => repeat (first | exact (Kd.R_reads' HO123.out).2.2 | (with_reducible refine Kd.C_alloc ?_ _) | (with_reducible refine Kd.C_drewN ?_ _) | (with_reducible refine Kd.C_drew ?_))); (case side2 => exact (Kd.R_reads' HO123.out).2.1); (case side3 => repeat (first | exact (Kd.R_reads' HO130.out).2.2 | (with_reducible refine Kd.C_alloc ?_ _) | (with_reducible refine Kd.C_drewN ?_ _) | (with_reducible refine Kd.C_drew ?_))); (case side4 => exact (Kd.R_reads' HO130.out).2.1); rintro e w' ⟨rfl, ⟨nd, rfl⟩⟩; refine ⟨_, rfl, ?_⟩) | ((with_reducible refine gate_dst (N := 21) rfl ?_); refine Kd.R_lit (Kd.int .i64) _ 3 ?hg (N := 21) ?hd (xs := ([1, 2, 3] : List Int)) (inner := [.int .i64 1, .int .i64 2, .int .i64 3]) (ok := fun _ => True) (okp := fun _ => True) ?hr ?hp (fun _ hk => hk) trivial (Below.refl _ _) (Nat.le_refl _) (by simp) ?_; (case hd => rfl); (case hg => rfl); (case hr => first | (go_simp; done) | (go_simp; rfl)); (case hp => exact (Reps.one (show Kd.M (Kd.int .i64) _ _ _ 1 [.int .i64 1] from rfl) (Reps.one (show Kd.M (Kd.int .i64) _ _ _ 2 [.int .i64 2] from rfl) (Reps.one (show Kd.M (Kd.int .i64) _ _ _ 3 [.int .i64 3] from rfl) (Reps.none _ _))))); intro v133 w36 ho37 hb hg_ hnew_; clear hg_ hnew_; (first | rw [← Ny132.out] at ho37 | (simp only [Int.reduceToNat] at ho37; rw [← Ny132.out] at ho37)); have n0_ := Aside0.mk (Kd.R_elder' (by (with_reducible repeat (first | apply Kd.R_alloc | apply Kd.R_drewN | apply Kd.R_drew)); exact HO119.out) (Kd.R_base ho37) hb); have n1_ := Aside0.mk (Kd.R_below (by (with_reducible repeat (first | apply Kd.R_alloc | apply Kd.R_drewN | apply Kd.R_drew)); exact HO123.out) hb); have n2_ := Aside0.mk (Kd.R_elder' (by (with_reducible repeat (first | apply Kd.R_alloc | apply Kd.R_drewN | apply Kd.R_drew)); exact HO127.out) (Kd.R_base ho37) hb); have n3_ := Aside0.mk (Kd.R_below (by (with_reducible repeat (first | apply Kd.R_alloc | apply Kd.R_drewN | apply Kd.R_drew)); exact HO130.out) hb); have n4_ := Aside0.mk (Kd.R_lower (Kd.R_new' (Kd.R_new' ho37 (Kd.R_lt (by (with_reducible repeat (first | apply Kd.R_alloc | apply Kd.R_drewN | apply Kd.R_drew)); exact HO119.out))) (Kd.R_lt (by (with_reducible repeat (first | apply Kd.R_alloc | apply Kd.R_drewN | apply Kd.R_drew)); exact HO127.out))) (below_size (by repeat (first | (with_reducible first | exact HB.out | apply below_alloc | apply pw_below_drewN | apply below_drew1) | exact HB.out)))); have n5_ := Aside0.mk (below_step (by repeat (first | (with_reducible first | exact HB.out | apply below_alloc | apply pw_below_drewN | apply below_drew1) | exact HB.out)) hb); clear HO119; clear HO123; clear HO127; clear HO130; clear HB; have HO119 := n0_; have HO123 := n1_; have HO127 := n2_; have HO130 := n3_; have HO134 := n4_; have HB := n5_; clear n0_ n1_ n2_ n3_ n4_ n5_; clear hb ho37; obtain ⟨Ao38, co38, eo38⟩ := Kd.R_slice HO127.out; subst eo38; obtain ⟨Ao39, co39, eo39⟩ := Kd.R_slice HO134.out; subst eo39) | ((with_reducible refine gate_callee (f := 17) rfl ?_); refine goesL_ (some 22) rfl rfl Try.func17 (by kernel_rfl) rfl #[.slice Ao38 t124.length co38, .slice Ao39 y132.length co39] rfl (by (try simp only [List.map_toArray, List.map_cons, List.map_nil]); first | done | rfl | (simp only [List.length_drop, List.length_take]; rfl)) ?_; (with_reducible refine (winnowerref01_Ints.calls _ _ t124 _ _ y132 true _ ?side1 ?side2 ?side3 ?side4 A4.out).mono ?_); (case side1 => repeat (first | exact (Kd.R_reads' HO127.out).2.2 | (with_reducible refine Kd.C_alloc ?_ _) | (with_reducible refine Kd.C_drewN ?_ _) | (with_reducible refine Kd.C_drew ?_))); (case side2 => exact (Kd.R_reads' HO127.out).2.1); (case side3 => repeat (first | exact (Kd.R_reads' HO134.out).2.2 | (with_reducible refine Kd.C_alloc ?_ _) | (with_reducible refine Kd.C_drewN ?_ _) | (with_reducible refine Kd.C_drew ?_))); (case side4 => exact (Kd.R_reads' HO134.out).2.1); rintro e w' ⟨rfl, ⟨nd, rfl⟩⟩; refine ⟨_, rfl, ?_⟩) | (go_at_call 18; (with_reducible refine (bits_At.calls _ _ t120 2 3 t136 _ ?side1 ?side2 A9.out).mono ?_); (case side1 => repeat (first | exact (Kd.R_reads' HO123.out).2.2 | (with_reducible refine Kd.C_alloc ?_ _) | (with_reducible refine Kd.C_drewN ?_ _) | (with_reducible refine Kd.C_drew ?_))); (case side2 => exact (Kd.R_reads' HO123.out).2.1); rintro e w40 ⟨rfl, hb⟩; have n0_ := Aside0.mk (Kd.R_below (by (with_reducible repeat (first | apply Kd.R_alloc | apply Kd.R_drewN | apply Kd.R_drew)); exact HO119.out) hb); have n1_ := Aside0.mk (Kd.R_below (by (with_reducible repeat (first | apply Kd.R_alloc | apply Kd.R_drewN | apply Kd.R_drew)); exact HO123.out) hb); have n2_ := Aside0.mk (Kd.R_below (by (with_reducible repeat (first | apply Kd.R_alloc | apply Kd.R_drewN | apply Kd.R_drew)); exact HO127.out) hb); have n3_ := Aside0.mk (Kd.R_below (by (with_reducible repeat (first | apply Kd.R_alloc | apply Kd.R_drewN | apply Kd.R_drew)); exact HO130.out) hb); have n4_ := Aside0.mk (Kd.R_below (by (with_reducible repeat (first | apply Kd.R_alloc | apply Kd.R_drewN | apply Kd.R_drew)); exact HO134.out) hb); have n5_ := Aside0.mk (below_step (by repeat (first | (with_reducible first | exact HB.out | apply below_alloc | apply pw_below_drewN | apply below_drew1) | exact HB.out)) hb); clear HO119; clear HO123; clear HO127; clear HO130; clear HO134; clear HB; have HO119 := n0_; have HO123 := n1_; have HO127 := n2_; have HO130 := n3_; have HO134 := n4_; have HB := n5_; clear n0_ n1_ n2_ n3_ n4_ n5_; (try clear hb); (try clear hb2); (try clear hk); (try clear hi)))
            go_ret
            exact ⟨by first | rfl | (simp [errW_none, errW_some] <;> rfl) | (simp [*, errW_none, errW_some] <;> rfl), by repeat (first | (with_reducible first | exact HB.out | apply below_alloc | apply pw_below_drewN | apply below_drew1) | exact HB.out)⟩
        · rw [if_neg c8] at H
          have c8b0 : (t125 == 0) = false := beq_eq_false_iff_ne.mpr c8
          have c8b1 : (t125 != 0) = true := bne_iff_ne.mpr c8
          obtain rfl := Option.some.inj H
          go_enter Try.func9, Try.ntmps9
          go_wp2_with (first | ((with_reducible refine gate_dst (N := 8) rfl ?_); refine Kd.R_lit (Kd.int .i64) _ 3 ?hg (N := 8) ?hd (xs := ([1, 2, 3] : List Int)) (inner := [.int .i64 1, .int .i64 2, .int .i64 3]) (ok := fun _ => True) (okp := fun _ => True) ?hr ?hp (fun _ hk => hk) trivial (Below.refl _ _) (Nat.le_refl _) (by simp) ?_; (case hd => rfl); (case hg => rfl); (case hr => first | (go_simp; done) | (go_simp; rfl)); (case hp => exact (Reps.one (show Kd.M (Kd.int .i64) _ _ _ 1 [.int .i64 1] from rfl) (Reps.one (show Kd.M (Kd.int .i64) _ _ _ 2 [.int .i64 2] from rfl) (Reps.one (show Kd.M (Kd.int .i64) _ _ _ 3 [.int .i64 3] from rfl) (Reps.none _ _))))); intro v118 w41 ho42 hb hg_ hnew_; clear hg_ hnew_; (first | rw [← Ny117.out] at ho42 | (simp only [Int.reduceToNat] at ho42; rw [← Ny117.out] at ho42)); have n0_ := Aside0.mk (Kd.R_lower ho42 (below_size (by repeat (first | (with_reducible first | exact HB.out | apply below_alloc | apply pw_below_drewN | apply below_drew1) | exact HB.out)))); have n1_ := Aside0.mk (below_step (by repeat (first | (with_reducible first | exact HB.out | apply below_alloc | apply pw_below_drewN | apply below_drew1) | exact HB.out)) hb); clear HB; have HO119 := n0_; have HB := n1_; clear n0_ n1_; clear hb ho42; obtain ⟨Ao43, co43, eo43⟩ := Kd.R_slice HO119.out; subst eo43) | ((with_reducible refine gate_callee (f := 10) rfl ?_); refine goesL_ (some 9) rfl rfl Try.func10 (by kernel_rfl) rfl #[.slice Ao43 y117.length co43, .int .i64 3] rfl (by (try simp only [List.map_toArray, List.map_cons, List.map_nil]); first | done | rfl | (simp only [List.length_drop, List.length_take]; rfl)) ?_; (with_reducible refine (bits_Pack.calls _ _ y117 3 t120 t121 _ ?side1 ?side2 A1.out).mono ?_); (case side1 => repeat (first | exact (Kd.R_reads' HO119.out).2.2 | (with_reducible refine Kd.C_alloc ?_ _) | (with_reducible refine Kd.C_drewN ?_ _) | (with_reducible refine Kd.C_drew ?_))); (case side2 => exact (Kd.R_reads' HO119.out).2.1); rintro e w44 ⟨v122, rfl, ho0, hb⟩; refine ⟨_, rfl, ?_⟩; have n0_ := Aside0.mk (Kd.R_below (by (with_reducible repeat (first | apply Kd.R_alloc | apply Kd.R_drewN | apply Kd.R_drew)); exact HO119.out) hb); have n1_ := Aside0.mk (Kd.R_lower ho0 (below_size (by repeat (first | (with_reducible first | exact HB.out | apply below_alloc | apply pw_below_drewN | apply below_drew1) | exact HB.out)))); have n2_ := Aside0.mk (below_step (by repeat (first | (with_reducible first | exact HB.out | apply below_alloc | apply pw_below_drewN | apply below_drew1) | exact HB.out)) hb); clear HO119; clear HB; have HO119 := n0_; have HO123 := n1_; have HB := n2_; clear n0_ n1_ n2_; (try clear hb); (try clear hb2); (try clear hk); (try clear hi); (try clear ho0); obtain ⟨Ao45, co45, eo45⟩ := Kd.R_slice HO123.out; subst eo45) | ((with_reducible refine gate_callee (f := 15) rfl ?_); refine goesL_ (some 14) rfl rfl Try.func15 (by kernel_rfl) rfl #[.slice Ao45 t120.length co45, .int .i64 3, .int .i64 3] rfl (by (try simp only [List.map_toArray, List.map_cons, List.map_nil]); first | done | rfl | (simp only [List.length_drop, List.length_take]; rfl)) ?_; (with_reducible refine (bits_Unpack.calls _ _ t120 3 3 t124 t125 _ ?side1 ?side2 A2.out).mono ?_); (case side1 => repeat (first | exact (Kd.R_reads' HO123.out).2.2 | (with_reducible refine Kd.C_alloc ?_ _) | (with_reducible refine Kd.C_drewN ?_ _) | (with_reducible refine Kd.C_drew ?_))); (case side2 => exact (Kd.R_reads' HO123.out).2.1); rintro e w46 ⟨v126, rfl, ho0, hb⟩; refine ⟨_, rfl, ?_⟩; have n0_ := Aside0.mk (Kd.R_elder' (by (with_reducible repeat (first | apply Kd.R_alloc | apply Kd.R_drewN | apply Kd.R_drew)); exact HO119.out) (Kd.R_base ho0) hb); have n1_ := Aside0.mk (Kd.R_below (by (with_reducible repeat (first | apply Kd.R_alloc | apply Kd.R_drewN | apply Kd.R_drew)); exact HO123.out) hb); have n2_ := Aside0.mk (Kd.R_lower (Kd.R_new' ho0 (Kd.R_lt (by (with_reducible repeat (first | apply Kd.R_alloc | apply Kd.R_drewN | apply Kd.R_drew)); exact HO119.out))) (below_size (by repeat (first | (with_reducible first | exact HB.out | apply below_alloc | apply pw_below_drewN | apply below_drew1) | exact HB.out)))); have n3_ := Aside0.mk (below_step (by repeat (first | (with_reducible first | exact HB.out | apply below_alloc | apply pw_below_drewN | apply below_drew1) | exact HB.out)) hb); clear HO119; clear HO123; clear HB; have HO119 := n0_; have HO123 := n1_; have HO127 := n2_; have HB := n3_; clear n0_ n1_ n2_ n3_; (try clear hb); (try clear hb2); (try clear hk); (try clear hi); (try clear ho0)) | ((with_reducible refine gate_dst (N := 18) rfl ?_); refine Kd.R_lit (Kd.int .u8) _ 5 ?hg (N := 18) ?hd (xs := ([209, 0] : List Int)) (inner := [.int .u8 209, .int .u8 0]) (ok := fun _ => True) (okp := fun _ => True) ?hr ?hp (fun _ hk => hk) trivial (Below.refl _ _) (Nat.le_refl _) (by simp) ?_; (case hd => rfl); (case hg => rfl); (case hr => first | (go_simp; done) | (go_simp; rfl)); (case hp => exact (Reps.one (show Kd.M (Kd.int .u8) _ _ _ 209 [.int .u8 209] from rfl) (Reps.one (show Kd.M (Kd.int .u8) _ _ _ 0 [.int .u8 0] from rfl) (Reps.none _ _)))); intro v129 w47 ho48 hb hg_ hnew_; clear hg_ hnew_; (first | rw [← Ny128.out] at ho48 | (simp only [Int.reduceToNat] at ho48; rw [← Ny128.out] at ho48)); have n0_ := Aside0.mk (Kd.R_below (by (with_reducible repeat (first | apply Kd.R_alloc | apply Kd.R_drewN | apply Kd.R_drew)); exact HO119.out) hb); have n1_ := Aside0.mk (Kd.R_elder' (by (with_reducible repeat (first | apply Kd.R_alloc | apply Kd.R_drewN | apply Kd.R_drew)); exact HO123.out) (Kd.R_base ho48) hb); have n2_ := Aside0.mk (Kd.R_below (by (with_reducible repeat (first | apply Kd.R_alloc | apply Kd.R_drewN | apply Kd.R_drew)); exact HO127.out) hb); have n3_ := Aside0.mk (Kd.R_lower (Kd.R_new' ho48 (Kd.R_lt (by (with_reducible repeat (first | apply Kd.R_alloc | apply Kd.R_drewN | apply Kd.R_drew)); exact HO123.out))) (below_size (by repeat (first | (with_reducible first | exact HB.out | apply below_alloc | apply pw_below_drewN | apply below_drew1) | exact HB.out)))); have n4_ := Aside0.mk (below_step (by repeat (first | (with_reducible first | exact HB.out | apply below_alloc | apply pw_below_drewN | apply below_drew1) | exact HB.out)) hb); clear HO119; clear HO123; clear HO127; clear HB; have HO119 := n0_; have HO123 := n1_; have HO127 := n2_; have HO130 := n3_; have HB := n4_; clear n0_ n1_ n2_ n3_ n4_; clear hb ho48; obtain ⟨Ao49, co49, eo49⟩ := Kd.R_slice HO130.out; subst eo49) | ((with_reducible refine gate_callee (f := 12) rfl ?_); refine goesL_ (some 19) rfl rfl Try.func12 (by kernel_rfl) rfl #[.slice Ao45 t120.length co45, .slice Ao49 y128.length co49] rfl (by (try simp only [List.map_toArray, List.map_cons, List.map_nil]); first | done | rfl | (simp only [List.length_drop, List.length_take]; rfl)) ?_; (with_reducible refine (winnowerref01_Same.calls _ _ t120 _ _ y128 true _ ?side1 ?side2 ?side3 ?side4 A3.out).mono ?_); (case side1 => repeat (first | exact (Kd.R_reads' HO123.out).2.2 | (with_reducible refine Kd.C_alloc ?_ _) | (with_reducible refine Kd.C_drewN ?_ _) | (with_reducible refine Kd.C_drew ?_))); (case side2 => exact (Kd.R_reads' HO123.out).2.1); (case side3 => repeat (first | exact (Kd.R_reads' HO130.out).2.2 | (with_reducible refine Kd.C_alloc ?_ _) | (with_reducible refine Kd.C_drewN ?_ _) | (with_reducible refine Kd.C_drew ?_))); (case side4 => exact (Kd.R_reads' HO130.out).2.1); rintro e w' ⟨rfl, ⟨nd, rfl⟩⟩; refine ⟨_, rfl, ?_⟩) | ((with_reducible refine gate_dst (N := 21) rfl ?_); refine Kd.R_lit (Kd.int .i64) _ 3 ?hg (N := 21) ?hd (xs := ([1, 2, 3] : List Int)) (inner := [.int .i64 1, .int .i64 2, .int .i64 3]) (ok := fun _ => True) (okp := fun _ => True) ?hr ?hp (fun _ hk => hk) trivial (Below.refl _ _) (Nat.le_refl _) (by simp) ?_; (case hd => rfl); (case hg => rfl); (case hr => first | (go_simp; done) | (go_simp; rfl)); (case hp => exact (Reps.one (show Kd.M (Kd.int .i64) _ _ _ 1 [.int .i64 1] from rfl) (Reps.one (show Kd.M (Kd.int .i64) _ _ _ 2 [.int .i64 2] from rfl) (Reps.one (show Kd.M (Kd.int .i64) _ _ _ 3 [.int .i64 3] from rfl) (Reps.none _ _))))); intro v133 w50 ho51 hb hg_ hnew_; clear hg_ hnew_; (first | rw [← Ny132.out] at ho51 | (simp only [Int.reduceToNat] at ho51; rw [← Ny132.out] at ho51)); have n0_ := Aside0.mk (Kd.R_elder' (by (with_reducible repeat (first | apply Kd.R_alloc | apply Kd.R_drewN | apply Kd.R_drew)); exact HO119.out) (Kd.R_base ho51) hb); have n1_ := Aside0.mk (Kd.R_below (by (with_reducible repeat (first | apply Kd.R_alloc | apply Kd.R_drewN | apply Kd.R_drew)); exact HO123.out) hb); have n2_ := Aside0.mk (Kd.R_elder' (by (with_reducible repeat (first | apply Kd.R_alloc | apply Kd.R_drewN | apply Kd.R_drew)); exact HO127.out) (Kd.R_base ho51) hb); have n3_ := Aside0.mk (Kd.R_below (by (with_reducible repeat (first | apply Kd.R_alloc | apply Kd.R_drewN | apply Kd.R_drew)); exact HO130.out) hb); have n4_ := Aside0.mk (Kd.R_lower (Kd.R_new' (Kd.R_new' ho51 (Kd.R_lt (by (with_reducible repeat (first | apply Kd.R_alloc | apply Kd.R_drewN | apply Kd.R_drew)); exact HO119.out))) (Kd.R_lt (by (with_reducible repeat (first | apply Kd.R_alloc | apply Kd.R_drewN | apply Kd.R_drew)); exact HO127.out))) (below_size (by repeat (first | (with_reducible first | exact HB.out | apply below_alloc | apply pw_below_drewN | apply below_drew1) | exact HB.out)))); have n5_ := Aside0.mk (below_step (by repeat (first | (with_reducible first | exact HB.out | apply below_alloc | apply pw_below_drewN | apply below_drew1) | exact HB.out)) hb); clear HO119; clear HO123; clear HO127; clear HO130; clear HB; have HO119 := n0_; have HO123 := n1_; have HO127 := n2_; have HO130 := n3_; have HO134 := n4_; have HB := n5_; clear n0_ n1_ n2_ n3_ n4_ n5_; clear hb ho51; obtain ⟨Ao52, co52, eo52⟩ := Kd.R_slice HO127.out; subst eo52; obtain ⟨Ao53, co53, eo53⟩ := Kd.R_slice HO134.out; subst eo53) | ((with_reducible refine gate_callee (f := 17) rfl ?_); refine goesL_ (some 22) rfl rfl Try.func17 (by kernel_rfl) rfl #[.slice Ao52 t124.length co52, .slice Ao53 y132.length co53] rfl (by (try simp only [List.map_toArray, List.map_cons, List.map_nil]); first | done | rfl | (simp only [List.length_drop, List.length_take]; rfl)) ?_; (with_reducible refine (winnowerref01_Ints.calls _ _ t124 _ _ y132 true _ ?side1 ?side2 ?side3 ?side4 A4.out).mono ?_); (case side1 => repeat (first | exact (Kd.R_reads' HO127.out).2.2 | (with_reducible refine Kd.C_alloc ?_ _) | (with_reducible refine Kd.C_drewN ?_ _) | (with_reducible refine Kd.C_drew ?_))); (case side2 => exact (Kd.R_reads' HO127.out).2.1); (case side3 => repeat (first | exact (Kd.R_reads' HO134.out).2.2 | (with_reducible refine Kd.C_alloc ?_ _) | (with_reducible refine Kd.C_drewN ?_ _) | (with_reducible refine Kd.C_drew ?_))); (case side4 => exact (Kd.R_reads' HO134.out).2.1); rintro e w' ⟨rfl, ⟨nd, rfl⟩⟩; refine ⟨_, rfl, ?_⟩))
          go_ret
          exact ⟨by first | rfl | (simp [errW_none, errW_some] <;> rfl) | (simp [*, errW_none, errW_some] <;> rfl), by repeat (first | (with_reducible first | exact HB.out | apply below_alloc | apply pw_below_drewN | apply below_drew1) | exact HB.out)⟩
      · rw [if_neg c7] at H
        have c7b0 : (t121 == 0) = false := beq_eq_false_iff_ne.mpr c7
        have c7b1 : (t121 != 0) = true := bne_iff_ne.mpr c7
        obtain rfl := Option.some.inj H
        go_enter Try.func9, Try.ntmps9
        go_wp2_with (first | ((with_reducible refine gate_dst (N := 8) rfl ?_); refine Kd.R_lit (Kd.int .i64) _ 3 ?hg (N := 8) ?hd (xs := ([1, 2, 3] : List Int)) (inner := [.int .i64 1, .int .i64 2, .int .i64 3]) (ok := fun _ => True) (okp := fun _ => True) ?hr ?hp (fun _ hk => hk) trivial (Below.refl _ _) (Nat.le_refl _) (by simp) ?_; (case hd => rfl); (case hg => rfl); (case hr => first | (go_simp; done) | (go_simp; rfl)); (case hp => exact (Reps.one (show Kd.M (Kd.int .i64) _ _ _ 1 [.int .i64 1] from rfl) (Reps.one (show Kd.M (Kd.int .i64) _ _ _ 2 [.int .i64 2] from rfl) (Reps.one (show Kd.M (Kd.int .i64) _ _ _ 3 [.int .i64 3] from rfl) (Reps.none _ _))))); intro v118 w54 ho55 hb hg_ hnew_; clear hg_ hnew_; (first | rw [← Ny117.out] at ho55 | (simp only [Int.reduceToNat] at ho55; rw [← Ny117.out] at ho55)); have n0_ := Aside0.mk (Kd.R_lower ho55 (below_size (by repeat (first | (with_reducible first | exact HB.out | apply below_alloc | apply pw_below_drewN | apply below_drew1) | exact HB.out)))); have n1_ := Aside0.mk (below_step (by repeat (first | (with_reducible first | exact HB.out | apply below_alloc | apply pw_below_drewN | apply below_drew1) | exact HB.out)) hb); clear HB; have HO119 := n0_; have HB := n1_; clear n0_ n1_; clear hb ho55; obtain ⟨Ao56, co56, eo56⟩ := Kd.R_slice HO119.out; subst eo56) | ((with_reducible refine gate_callee (f := 10) rfl ?_); refine goesL_ (some 9) rfl rfl Try.func10 (by kernel_rfl) rfl #[.slice Ao56 y117.length co56, .int .i64 3] rfl (by (try simp only [List.map_toArray, List.map_cons, List.map_nil]); first | done | rfl | (simp only [List.length_drop, List.length_take]; rfl)) ?_; (with_reducible refine (bits_Pack.calls _ _ y117 3 t120 t121 _ ?side1 ?side2 A1.out).mono ?_); (case side1 => repeat (first | exact (Kd.R_reads' HO119.out).2.2 | (with_reducible refine Kd.C_alloc ?_ _) | (with_reducible refine Kd.C_drewN ?_ _) | (with_reducible refine Kd.C_drew ?_))); (case side2 => exact (Kd.R_reads' HO119.out).2.1); rintro e w57 ⟨v122, rfl, ho0, hb⟩; refine ⟨_, rfl, ?_⟩; have n0_ := Aside0.mk (Kd.R_below (by (with_reducible repeat (first | apply Kd.R_alloc | apply Kd.R_drewN | apply Kd.R_drew)); exact HO119.out) hb); have n1_ := Aside0.mk (Kd.R_lower ho0 (below_size (by repeat (first | (with_reducible first | exact HB.out | apply below_alloc | apply pw_below_drewN | apply below_drew1) | exact HB.out)))); have n2_ := Aside0.mk (below_step (by repeat (first | (with_reducible first | exact HB.out | apply below_alloc | apply pw_below_drewN | apply below_drew1) | exact HB.out)) hb); clear HO119; clear HB; have HO119 := n0_; have HO123 := n1_; have HB := n2_; clear n0_ n1_ n2_; (try clear hb); (try clear hb2); (try clear hk); (try clear hi); (try clear ho0); obtain ⟨Ao58, co58, eo58⟩ := Kd.R_slice HO123.out; subst eo58) | ((with_reducible refine gate_callee (f := 15) rfl ?_); refine goesL_ (some 14) rfl rfl Try.func15 (by kernel_rfl) rfl #[.slice Ao58 t120.length co58, .int .i64 3, .int .i64 3] rfl (by (try simp only [List.map_toArray, List.map_cons, List.map_nil]); first | done | rfl | (simp only [List.length_drop, List.length_take]; rfl)) ?_; (with_reducible refine (bits_Unpack.calls _ _ t120 3 3 t124 t125 _ ?side1 ?side2 A2.out).mono ?_); (case side1 => repeat (first | exact (Kd.R_reads' HO123.out).2.2 | (with_reducible refine Kd.C_alloc ?_ _) | (with_reducible refine Kd.C_drewN ?_ _) | (with_reducible refine Kd.C_drew ?_))); (case side2 => exact (Kd.R_reads' HO123.out).2.1); rintro e w59 ⟨v126, rfl, ho0, hb⟩; refine ⟨_, rfl, ?_⟩; have n0_ := Aside0.mk (Kd.R_elder' (by (with_reducible repeat (first | apply Kd.R_alloc | apply Kd.R_drewN | apply Kd.R_drew)); exact HO119.out) (Kd.R_base ho0) hb); have n1_ := Aside0.mk (Kd.R_below (by (with_reducible repeat (first | apply Kd.R_alloc | apply Kd.R_drewN | apply Kd.R_drew)); exact HO123.out) hb); have n2_ := Aside0.mk (Kd.R_lower (Kd.R_new' ho0 (Kd.R_lt (by (with_reducible repeat (first | apply Kd.R_alloc | apply Kd.R_drewN | apply Kd.R_drew)); exact HO119.out))) (below_size (by repeat (first | (with_reducible first | exact HB.out | apply below_alloc | apply pw_below_drewN | apply below_drew1) | exact HB.out)))); have n3_ := Aside0.mk (below_step (by repeat (first | (with_reducible first | exact HB.out | apply below_alloc | apply pw_below_drewN | apply below_drew1) | exact HB.out)) hb); clear HO119; clear HO123; clear HB; have HO119 := n0_; have HO123 := n1_; have HO127 := n2_; have HB := n3_; clear n0_ n1_ n2_ n3_; (try clear hb); (try clear hb2); (try clear hk); (try clear hi); (try clear ho0)) | ((with_reducible refine gate_dst (N := 18) rfl ?_); refine Kd.R_lit (Kd.int .u8) _ 5 ?hg (N := 18) ?hd (xs := ([209, 0] : List Int)) (inner := [.int .u8 209, .int .u8 0]) (ok := fun _ => True) (okp := fun _ => True) ?hr ?hp (fun _ hk => hk) trivial (Below.refl _ _) (Nat.le_refl _) (by simp) ?_; (case hd => rfl); (case hg => rfl); (case hr => first | (go_simp; done) | (go_simp; rfl)); (case hp => exact (Reps.one (show Kd.M (Kd.int .u8) _ _ _ 209 [.int .u8 209] from rfl) (Reps.one (show Kd.M (Kd.int .u8) _ _ _ 0 [.int .u8 0] from rfl) (Reps.none _ _)))); intro v129 w60 ho61 hb hg_ hnew_; clear hg_ hnew_; (first | rw [← Ny128.out] at ho61 | (simp only [Int.reduceToNat] at ho61; rw [← Ny128.out] at ho61)); have n0_ := Aside0.mk (Kd.R_below (by (with_reducible repeat (first | apply Kd.R_alloc | apply Kd.R_drewN | apply Kd.R_drew)); exact HO119.out) hb); have n1_ := Aside0.mk (Kd.R_elder' (by (with_reducible repeat (first | apply Kd.R_alloc | apply Kd.R_drewN | apply Kd.R_drew)); exact HO123.out) (Kd.R_base ho61) hb); have n2_ := Aside0.mk (Kd.R_below (by (with_reducible repeat (first | apply Kd.R_alloc | apply Kd.R_drewN | apply Kd.R_drew)); exact HO127.out) hb); have n3_ := Aside0.mk (Kd.R_lower (Kd.R_new' ho61 (Kd.R_lt (by (with_reducible repeat (first | apply Kd.R_alloc | apply Kd.R_drewN | apply Kd.R_drew)); exact HO123.out))) (below_size (by repeat (first | (with_reducible first | exact HB.out | apply below_alloc | apply pw_below_drewN | apply below_drew1) | exact HB.out)))); have n4_ := Aside0.mk (below_step (by repeat (first | (with_reducible first | exact HB.out | apply below_alloc | apply pw_below_drewN | apply below_drew1) | exact HB.out)) hb); clear HO119; clear HO123; clear HO127; clear HB; have HO119 := n0_; have HO123 := n1_; have HO127 := n2_; have HO130 := n3_; have HB := n4_; clear n0_ n1_ n2_ n3_ n4_; clear hb ho61; obtain ⟨Ao62, co62, eo62⟩ := Kd.R_slice HO130.out; subst eo62) | ((with_reducible refine gate_callee (f := 12) rfl ?_); refine goesL_ (some 19) rfl rfl Try.func12 (by kernel_rfl) rfl #[.slice Ao58 t120.length co58, .slice Ao62 y128.length co62] rfl (by (try simp only [List.map_toArray, List.map_cons, List.map_nil]); first | done | rfl | (simp only [List.length_drop, List.length_take]; rfl)) ?_; (with_reducible refine (winnowerref01_Same.calls _ _ t120 _ _ y128 true _ ?side1 ?side2 ?side3 ?side4 A3.out).mono ?_); (case side1 => repeat (first | exact (Kd.R_reads' HO123.out).2.2 | (with_reducible refine Kd.C_alloc ?_ _) | (with_reducible refine Kd.C_drewN ?_ _) | (with_reducible refine Kd.C_drew ?_))); (case side2 => exact (Kd.R_reads' HO123.out).2.1); (case side3 => repeat (first | exact (Kd.R_reads' HO130.out).2.2 | (with_reducible refine Kd.C_alloc ?_ _) | (with_reducible refine Kd.C_drewN ?_ _) | (with_reducible refine Kd.C_drew ?_))); (case side4 => exact (Kd.R_reads' HO130.out).2.1); rintro e w' ⟨rfl, ⟨nd, rfl⟩⟩; refine ⟨_, rfl, ?_⟩) | ((with_reducible refine gate_dst (N := 21) rfl ?_); refine Kd.R_lit (Kd.int .i64) _ 3 ?hg (N := 21) ?hd (xs := ([1, 2, 3] : List Int)) (inner := [.int .i64 1, .int .i64 2, .int .i64 3]) (ok := fun _ => True) (okp := fun _ => True) ?hr ?hp (fun _ hk => hk) trivial (Below.refl _ _) (Nat.le_refl _) (by simp) ?_; (case hd => rfl); (case hg => rfl); (case hr => first | (go_simp; done) | (go_simp; rfl)); (case hp => exact (Reps.one (show Kd.M (Kd.int .i64) _ _ _ 1 [.int .i64 1] from rfl) (Reps.one (show Kd.M (Kd.int .i64) _ _ _ 2 [.int .i64 2] from rfl) (Reps.one (show Kd.M (Kd.int .i64) _ _ _ 3 [.int .i64 3] from rfl) (Reps.none _ _))))); intro v133 w63 ho64 hb hg_ hnew_; clear hg_ hnew_; (first | rw [← Ny132.out] at ho64 | (simp only [Int.reduceToNat] at ho64; rw [← Ny132.out] at ho64)); have n0_ := Aside0.mk (Kd.R_elder' (by (with_reducible repeat (first | apply Kd.R_alloc | apply Kd.R_drewN | apply Kd.R_drew)); exact HO119.out) (Kd.R_base ho64) hb); have n1_ := Aside0.mk (Kd.R_below (by (with_reducible repeat (first | apply Kd.R_alloc | apply Kd.R_drewN | apply Kd.R_drew)); exact HO123.out) hb); have n2_ := Aside0.mk (Kd.R_elder' (by (with_reducible repeat (first | apply Kd.R_alloc | apply Kd.R_drewN | apply Kd.R_drew)); exact HO127.out) (Kd.R_base ho64) hb); have n3_ := Aside0.mk (Kd.R_below (by (with_reducible repeat (first | apply Kd.R_alloc | apply Kd.R_drewN | apply Kd.R_drew)); exact HO130.out) hb); have n4_ := Aside0.mk (Kd.R_lower (Kd.R_new' (Kd.R_new' ho64 (Kd.R_lt (by (with_reducible repeat (first | apply Kd.R_alloc | apply Kd.R_drewN | apply Kd.R_drew)); exact HO119.out))) (Kd.R_lt (by (with_reducible repeat (first | apply Kd.R_alloc | apply Kd.R_drewN | apply Kd.R_drew)); exact HO127.out))) (below_size (by repeat (first | (with_reducible first | exact HB.out | apply below_alloc | apply pw_below_drewN | apply below_drew1) | exact HB.out)))); have n5_ := Aside0.mk (below_step (by repeat (first | (with_reducible first | exact HB.out | apply below_alloc | apply pw_below_drewN | apply below_drew1) | exact HB.out)) hb); clear HO119; clear HO123; clear HO127; clear HO130; clear HB; have HO119 := n0_; have HO123 := n1_; have HO127 := n2_; have HO130 := n3_; have HO134 := n4_; have HB := n5_; clear n0_ n1_ n2_ n3_ n4_ n5_; clear hb ho64; obtain ⟨Ao65, co65, eo65⟩ := Kd.R_slice HO127.out; subst eo65; obtain ⟨Ao66, co66, eo66⟩ := Kd.R_slice HO134.out; subst eo66) | ((with_reducible refine gate_callee (f := 17) rfl ?_); refine goesL_ (some 22) rfl rfl Try.func17 (by kernel_rfl) rfl #[.slice Ao65 t124.length co65, .slice Ao66 y132.length co66] rfl (by (try simp only [List.map_toArray, List.map_cons, List.map_nil]); first | done | rfl | (simp only [List.length_drop, List.length_take]; rfl)) ?_; (with_reducible refine (winnowerref01_Ints.calls _ _ t124 _ _ y132 true _ ?side1 ?side2 ?side3 ?side4 A4.out).mono ?_); (case side1 => repeat (first | exact (Kd.R_reads' HO127.out).2.2 | (with_reducible refine Kd.C_alloc ?_ _) | (with_reducible refine Kd.C_drewN ?_ _) | (with_reducible refine Kd.C_drew ?_))); (case side2 => exact (Kd.R_reads' HO127.out).2.1); (case side3 => repeat (first | exact (Kd.R_reads' HO134.out).2.2 | (with_reducible refine Kd.C_alloc ?_ _) | (with_reducible refine Kd.C_drewN ?_ _) | (with_reducible refine Kd.C_drew ?_))); (case side4 => exact (Kd.R_reads' HO134.out).2.1); rintro e w' ⟨rfl, ⟨nd, rfl⟩⟩; refine ⟨_, rfl, ?_⟩))
        go_ret
        exact ⟨by first | rfl | (simp [errW_none, errW_some] <;> rfl) | (simp [*, errW_none, errW_some] <;> rfl), by repeat (first | (with_reducible first | exact HB.out | apply below_alloc | apply pw_below_drewN | apply below_drew1) | exact HB.out)⟩
    · replace c6 := Bool.eq_false_iff.mpr c6
      subst c6
      have H1 : (some false) = some r := by rw [if_neg (show ¬ (false = true) by decide)] at H; exact H
      clear H
      have H := H1
      clear H1
      obtain rfl := Option.some.inj H
      go_enter Try.func9, Try.ntmps9
      go_wp2_with (first | ((with_reducible refine gate_dst (N := 8) rfl ?_); refine Kd.R_lit (Kd.int .i64) _ 3 ?hg (N := 8) ?hd (xs := ([1, 2, 3] : List Int)) (inner := [.int .i64 1, .int .i64 2, .int .i64 3]) (ok := fun _ => True) (okp := fun _ => True) ?hr ?hp (fun _ hk => hk) trivial (Below.refl _ _) (Nat.le_refl _) (by simp) ?_; (case hd => rfl); (case hg => rfl); (case hr => first | (go_simp; done) | (go_simp; rfl)); (case hp => exact (Reps.one (show Kd.M (Kd.int .i64) _ _ _ 1 [.int .i64 1] from rfl) (Reps.one (show Kd.M (Kd.int .i64) _ _ _ 2 [.int .i64 2] from rfl) (Reps.one (show Kd.M (Kd.int .i64) _ _ _ 3 [.int .i64 3] from rfl) (Reps.none _ _))))); intro v118 w67 ho68 hb hg_ hnew_; clear hg_ hnew_; (first | rw [← Ny117.out] at ho68 | (simp only [Int.reduceToNat] at ho68; rw [← Ny117.out] at ho68)); have n0_ := Aside0.mk (Kd.R_lower ho68 (below_size (by repeat (first | (with_reducible first | exact HB.out | apply below_alloc | apply pw_below_drewN | apply below_drew1) | exact HB.out)))); have n1_ := Aside0.mk (below_step (by repeat (first | (with_reducible first | exact HB.out | apply below_alloc | apply pw_below_drewN | apply below_drew1) | exact HB.out)) hb); clear HB; have HO119 := n0_; have HB := n1_; clear n0_ n1_; clear hb ho68; obtain ⟨Ao69, co69, eo69⟩ := Kd.R_slice HO119.out; subst eo69) | ((with_reducible refine gate_callee (f := 10) rfl ?_); refine goesL_ (some 9) rfl rfl Try.func10 (by kernel_rfl) rfl #[.slice Ao69 y117.length co69, .int .i64 3] rfl (by (try simp only [List.map_toArray, List.map_cons, List.map_nil]); first | done | rfl | (simp only [List.length_drop, List.length_take]; rfl)) ?_; (with_reducible refine (bits_Pack.calls _ _ y117 3 t120 t121 _ ?side1 ?side2 A1.out).mono ?_); (case side1 => repeat (first | exact (Kd.R_reads' HO119.out).2.2 | (with_reducible refine Kd.C_alloc ?_ _) | (with_reducible refine Kd.C_drewN ?_ _) | (with_reducible refine Kd.C_drew ?_))); (case side2 => exact (Kd.R_reads' HO119.out).2.1); rintro e w70 ⟨v122, rfl, ho0, hb⟩; refine ⟨_, rfl, ?_⟩; have n0_ := Aside0.mk (Kd.R_below (by (with_reducible repeat (first | apply Kd.R_alloc | apply Kd.R_drewN | apply Kd.R_drew)); exact HO119.out) hb); have n1_ := Aside0.mk (Kd.R_lower ho0 (below_size (by repeat (first | (with_reducible first | exact HB.out | apply below_alloc | apply pw_below_drewN | apply below_drew1) | exact HB.out)))); have n2_ := Aside0.mk (below_step (by repeat (first | (with_reducible first | exact HB.out | apply below_alloc | apply pw_below_drewN | apply below_drew1) | exact HB.out)) hb); clear HO119; clear HB; have HO119 := n0_; have HO123 := n1_; have HB := n2_; clear n0_ n1_ n2_; (try clear hb); (try clear hb2); (try clear hk); (try clear hi); (try clear ho0); obtain ⟨Ao71, co71, eo71⟩ := Kd.R_slice HO123.out; subst eo71) | ((with_reducible refine gate_callee (f := 15) rfl ?_); refine goesL_ (some 14) rfl rfl Try.func15 (by kernel_rfl) rfl #[.slice Ao71 t120.length co71, .int .i64 3, .int .i64 3] rfl (by (try simp only [List.map_toArray, List.map_cons, List.map_nil]); first | done | rfl | (simp only [List.length_drop, List.length_take]; rfl)) ?_; (with_reducible refine (bits_Unpack.calls _ _ t120 3 3 t124 t125 _ ?side1 ?side2 A2.out).mono ?_); (case side1 => repeat (first | exact (Kd.R_reads' HO123.out).2.2 | (with_reducible refine Kd.C_alloc ?_ _) | (with_reducible refine Kd.C_drewN ?_ _) | (with_reducible refine Kd.C_drew ?_))); (case side2 => exact (Kd.R_reads' HO123.out).2.1); rintro e w72 ⟨v126, rfl, ho0, hb⟩; refine ⟨_, rfl, ?_⟩; have n0_ := Aside0.mk (Kd.R_elder' (by (with_reducible repeat (first | apply Kd.R_alloc | apply Kd.R_drewN | apply Kd.R_drew)); exact HO119.out) (Kd.R_base ho0) hb); have n1_ := Aside0.mk (Kd.R_below (by (with_reducible repeat (first | apply Kd.R_alloc | apply Kd.R_drewN | apply Kd.R_drew)); exact HO123.out) hb); have n2_ := Aside0.mk (Kd.R_lower (Kd.R_new' ho0 (Kd.R_lt (by (with_reducible repeat (first | apply Kd.R_alloc | apply Kd.R_drewN | apply Kd.R_drew)); exact HO119.out))) (below_size (by repeat (first | (with_reducible first | exact HB.out | apply below_alloc | apply pw_below_drewN | apply below_drew1) | exact HB.out)))); have n3_ := Aside0.mk (below_step (by repeat (first | (with_reducible first | exact HB.out | apply below_alloc | apply pw_below_drewN | apply below_drew1) | exact HB.out)) hb); clear HO119; clear HO123; clear HB; have HO119 := n0_; have HO123 := n1_; have HO127 := n2_; have HB := n3_; clear n0_ n1_ n2_ n3_; (try clear hb); (try clear hb2); (try clear hk); (try clear hi); (try clear ho0)) | ((with_reducible refine gate_dst (N := 18) rfl ?_); refine Kd.R_lit (Kd.int .u8) _ 5 ?hg (N := 18) ?hd (xs := ([209, 0] : List Int)) (inner := [.int .u8 209, .int .u8 0]) (ok := fun _ => True) (okp := fun _ => True) ?hr ?hp (fun _ hk => hk) trivial (Below.refl _ _) (Nat.le_refl _) (by simp) ?_; (case hd => rfl); (case hg => rfl); (case hr => first | (go_simp; done) | (go_simp; rfl)); (case hp => exact (Reps.one (show Kd.M (Kd.int .u8) _ _ _ 209 [.int .u8 209] from rfl) (Reps.one (show Kd.M (Kd.int .u8) _ _ _ 0 [.int .u8 0] from rfl) (Reps.none _ _)))); intro v129 w73 ho74 hb hg_ hnew_; clear hg_ hnew_; (first | rw [← Ny128.out] at ho74 | (simp only [Int.reduceToNat] at ho74; rw [← Ny128.out] at ho74)); have n0_ := Aside0.mk (Kd.R_below (by (with_reducible repeat (first | apply Kd.R_alloc | apply Kd.R_drewN | apply Kd.R_drew)); exact HO119.out) hb); have n1_ := Aside0.mk (Kd.R_elder' (by (with_reducible repeat (first | apply Kd.R_alloc | apply Kd.R_drewN | apply Kd.R_drew)); exact HO123.out) (Kd.R_base ho74) hb); have n2_ := Aside0.mk (Kd.R_below (by (with_reducible repeat (first | apply Kd.R_alloc | apply Kd.R_drewN | apply Kd.R_drew)); exact HO127.out) hb); have n3_ := Aside0.mk (Kd.R_lower (Kd.R_new' ho74 (Kd.R_lt (by (with_reducible repeat (first | apply Kd.R_alloc | apply Kd.R_drewN | apply Kd.R_drew)); exact HO123.out))) (below_size (by repeat (first | (with_reducible first | exact HB.out | apply below_alloc | apply pw_below_drewN | apply below_drew1) | exact HB.out)))); have n4_ := Aside0.mk (below_step (by repeat (first | (with_reducible first | exact HB.out | apply below_alloc | apply pw_below_drewN | apply below_drew1) | exact HB.out)) hb); clear HO119; clear HO123; clear HO127; clear HB; have HO119 := n0_; have HO123 := n1_; have HO127 := n2_; have HO130 := n3_; have HB := n4_; clear n0_ n1_ n2_ n3_ n4_; clear hb ho74; obtain ⟨Ao75, co75, eo75⟩ := Kd.R_slice HO130.out; subst eo75) | ((with_reducible refine gate_callee (f := 12) rfl ?_); refine goesL_ (some 19) rfl rfl Try.func12 (by kernel_rfl) rfl #[.slice Ao71 t120.length co71, .slice Ao75 y128.length co75] rfl (by (try simp only [List.map_toArray, List.map_cons, List.map_nil]); first | done | rfl | (simp only [List.length_drop, List.length_take]; rfl)) ?_; (with_reducible refine (winnowerref01_Same.calls _ _ t120 _ _ y128 true _ ?side1 ?side2 ?side3 ?side4 A3.out).mono ?_); (case side1 => repeat (first | exact (Kd.R_reads' HO123.out).2.2 | (with_reducible refine Kd.C_alloc ?_ _) | (with_reducible refine Kd.C_drewN ?_ _) | (with_reducible refine Kd.C_drew ?_))); (case side2 => exact (Kd.R_reads' HO123.out).2.1); (case side3 => repeat (first | exact (Kd.R_reads' HO130.out).2.2 | (with_reducible refine Kd.C_alloc ?_ _) | (with_reducible refine Kd.C_drewN ?_ _) | (with_reducible refine Kd.C_drew ?_))); (case side4 => exact (Kd.R_reads' HO130.out).2.1); rintro e w' ⟨rfl, ⟨nd, rfl⟩⟩; refine ⟨_, rfl, ?_⟩) | ((with_reducible refine gate_dst (N := 21) rfl ?_); refine Kd.R_lit (Kd.int .i64) _ 3 ?hg (N := 21) ?hd (xs := ([1, 2, 3] : List Int)) (inner := [.int .i64 1, .int .i64 2, .int .i64 3]) (ok := fun _ => True) (okp := fun _ => True) ?hr ?hp (fun _ hk => hk) trivial (Below.refl _ _) (Nat.le_refl _) (by simp) ?_; (case hd => rfl); (case hg => rfl); (case hr => first | (go_simp; done) | (go_simp; rfl)); (case hp => exact (Reps.one (show Kd.M (Kd.int .i64) _ _ _ 1 [.int .i64 1] from rfl) (Reps.one (show Kd.M (Kd.int .i64) _ _ _ 2 [.int .i64 2] from rfl) (Reps.one (show Kd.M (Kd.int .i64) _ _ _ 3 [.int .i64 3] from rfl) (Reps.none _ _))))); intro v133 w76 ho77 hb hg_ hnew_; clear hg_ hnew_; (first | rw [← Ny132.out] at ho77 | (simp only [Int.reduceToNat] at ho77; rw [← Ny132.out] at ho77)); have n0_ := Aside0.mk (Kd.R_elder' (by (with_reducible repeat (first | apply Kd.R_alloc | apply Kd.R_drewN | apply Kd.R_drew)); exact HO119.out) (Kd.R_base ho77) hb); have n1_ := Aside0.mk (Kd.R_below (by (with_reducible repeat (first | apply Kd.R_alloc | apply Kd.R_drewN | apply Kd.R_drew)); exact HO123.out) hb); have n2_ := Aside0.mk (Kd.R_elder' (by (with_reducible repeat (first | apply Kd.R_alloc | apply Kd.R_drewN | apply Kd.R_drew)); exact HO127.out) (Kd.R_base ho77) hb); have n3_ := Aside0.mk (Kd.R_below (by (with_reducible repeat (first | apply Kd.R_alloc | apply Kd.R_drewN | apply Kd.R_drew)); exact HO130.out) hb); have n4_ := Aside0.mk (Kd.R_lower (Kd.R_new' (Kd.R_new' ho77 (Kd.R_lt (by (with_reducible repeat (first | apply Kd.R_alloc | apply Kd.R_drewN | apply Kd.R_drew)); exact HO119.out))) (Kd.R_lt (by (with_reducible repeat (first | apply Kd.R_alloc | apply Kd.R_drewN | apply Kd.R_drew)); exact HO127.out))) (below_size (by repeat (first | (with_reducible first | exact HB.out | apply below_alloc | apply pw_below_drewN | apply below_drew1) | exact HB.out)))); have n5_ := Aside0.mk (below_step (by repeat (first | (with_reducible first | exact HB.out | apply below_alloc | apply pw_below_drewN | apply below_drew1) | exact HB.out)) hb); clear HO119; clear HO123; clear HO127; clear HO130; clear HB; have HO119 := n0_; have HO123 := n1_; have HO127 := n2_; have HO130 := n3_; have HO134 := n4_; have HB := n5_; clear n0_ n1_ n2_ n3_ n4_ n5_; clear hb ho77; obtain ⟨Ao78, co78, eo78⟩ := Kd.R_slice HO127.out; subst eo78; obtain ⟨Ao79, co79, eo79⟩ := Kd.R_slice HO134.out; subst eo79) | ((with_reducible refine gate_callee (f := 17) rfl ?_); refine goesL_ (some 22) rfl rfl Try.func17 (by kernel_rfl) rfl #[.slice Ao78 t124.length co78, .slice Ao79 y132.length co79] rfl (by (try simp only [List.map_toArray, List.map_cons, List.map_nil]); first | done | rfl | (simp only [List.length_drop, List.length_take]; rfl)) ?_; (with_reducible refine (winnowerref01_Ints.calls _ _ t124 _ _ y132 false _ ?side1 ?side2 ?side3 ?side4 A4.out).mono ?_); (case side1 => repeat (first | exact (Kd.R_reads' HO127.out).2.2 | (with_reducible refine Kd.C_alloc ?_ _) | (with_reducible refine Kd.C_drewN ?_ _) | (with_reducible refine Kd.C_drew ?_))); (case side2 => exact (Kd.R_reads' HO127.out).2.1); (case side3 => repeat (first | exact (Kd.R_reads' HO134.out).2.2 | (with_reducible refine Kd.C_alloc ?_ _) | (with_reducible refine Kd.C_drewN ?_ _) | (with_reducible refine Kd.C_drew ?_))); (case side4 => exact (Kd.R_reads' HO134.out).2.1); rintro e w' ⟨rfl, ⟨nd, rfl⟩⟩; refine ⟨_, rfl, ?_⟩))
      go_ret
      exact ⟨by first | rfl | (simp [errW_none, errW_some] <;> rfl) | (simp [*, errW_none, errW_some] <;> rfl), by repeat (first | (with_reducible first | exact HB.out | apply below_alloc | apply pw_below_drewN | apply below_drew1) | exact HB.out)⟩
  · replace c5 := Bool.eq_false_iff.mpr c5
    subst c5
    have H1 : (some false) = some r := by rw [if_neg (show ¬ (false = true) by decide)] at H; exact H
    clear H
    have H := H1
    clear H1
    obtain rfl := Option.some.inj H
    go_enter Try.func9, Try.ntmps9
    go_wp2_with (first | ((with_reducible refine gate_dst (N := 8) rfl ?_); refine Kd.R_lit (Kd.int .i64) _ 3 ?hg (N := 8) ?hd (xs := ([1, 2, 3] : List Int)) (inner := [.int .i64 1, .int .i64 2, .int .i64 3]) (ok := fun _ => True) (okp := fun _ => True) ?hr ?hp (fun _ hk => hk) trivial (Below.refl _ _) (Nat.le_refl _) (by simp) ?_; (case hd => rfl); (case hg => rfl); (case hr => first | (go_simp; done) | (go_simp; rfl)); (case hp => exact (Reps.one (show Kd.M (Kd.int .i64) _ _ _ 1 [.int .i64 1] from rfl) (Reps.one (show Kd.M (Kd.int .i64) _ _ _ 2 [.int .i64 2] from rfl) (Reps.one (show Kd.M (Kd.int .i64) _ _ _ 3 [.int .i64 3] from rfl) (Reps.none _ _))))); intro v118 w80 ho81 hb hg_ hnew_; clear hg_ hnew_; (first | rw [← Ny117.out] at ho81 | (simp only [Int.reduceToNat] at ho81; rw [← Ny117.out] at ho81)); have n0_ := Aside0.mk (Kd.R_lower ho81 (below_size (by repeat (first | (with_reducible first | exact HB.out | apply below_alloc | apply pw_below_drewN | apply below_drew1) | exact HB.out)))); have n1_ := Aside0.mk (below_step (by repeat (first | (with_reducible first | exact HB.out | apply below_alloc | apply pw_below_drewN | apply below_drew1) | exact HB.out)) hb); clear HB; have HO119 := n0_; have HB := n1_; clear n0_ n1_; clear hb ho81; obtain ⟨Ao82, co82, eo82⟩ := Kd.R_slice HO119.out; subst eo82) | ((with_reducible refine gate_callee (f := 10) rfl ?_); refine goesL_ (some 9) rfl rfl Try.func10 (by kernel_rfl) rfl #[.slice Ao82 y117.length co82, .int .i64 3] rfl (by (try simp only [List.map_toArray, List.map_cons, List.map_nil]); first | done | rfl | (simp only [List.length_drop, List.length_take]; rfl)) ?_; (with_reducible refine (bits_Pack.calls _ _ y117 3 t120 t121 _ ?side1 ?side2 A1.out).mono ?_); (case side1 => repeat (first | exact (Kd.R_reads' HO119.out).2.2 | (with_reducible refine Kd.C_alloc ?_ _) | (with_reducible refine Kd.C_drewN ?_ _) | (with_reducible refine Kd.C_drew ?_))); (case side2 => exact (Kd.R_reads' HO119.out).2.1); rintro e w83 ⟨v122, rfl, ho0, hb⟩; refine ⟨_, rfl, ?_⟩; have n0_ := Aside0.mk (Kd.R_below (by (with_reducible repeat (first | apply Kd.R_alloc | apply Kd.R_drewN | apply Kd.R_drew)); exact HO119.out) hb); have n1_ := Aside0.mk (Kd.R_lower ho0 (below_size (by repeat (first | (with_reducible first | exact HB.out | apply below_alloc | apply pw_below_drewN | apply below_drew1) | exact HB.out)))); have n2_ := Aside0.mk (below_step (by repeat (first | (with_reducible first | exact HB.out | apply below_alloc | apply pw_below_drewN | apply below_drew1) | exact HB.out)) hb); clear HO119; clear HB; have HO119 := n0_; have HO123 := n1_; have HB := n2_; clear n0_ n1_ n2_; (try clear hb); (try clear hb2); (try clear hk); (try clear hi); (try clear ho0); obtain ⟨Ao84, co84, eo84⟩ := Kd.R_slice HO123.out; subst eo84) | ((with_reducible refine gate_callee (f := 15) rfl ?_); refine goesL_ (some 14) rfl rfl Try.func15 (by kernel_rfl) rfl #[.slice Ao84 t120.length co84, .int .i64 3, .int .i64 3] rfl (by (try simp only [List.map_toArray, List.map_cons, List.map_nil]); first | done | rfl | (simp only [List.length_drop, List.length_take]; rfl)) ?_; (with_reducible refine (bits_Unpack.calls _ _ t120 3 3 t124 t125 _ ?side1 ?side2 A2.out).mono ?_); (case side1 => repeat (first | exact (Kd.R_reads' HO123.out).2.2 | (with_reducible refine Kd.C_alloc ?_ _) | (with_reducible refine Kd.C_drewN ?_ _) | (with_reducible refine Kd.C_drew ?_))); (case side2 => exact (Kd.R_reads' HO123.out).2.1); rintro e w85 ⟨v126, rfl, ho0, hb⟩; refine ⟨_, rfl, ?_⟩; have n0_ := Aside0.mk (Kd.R_elder' (by (with_reducible repeat (first | apply Kd.R_alloc | apply Kd.R_drewN | apply Kd.R_drew)); exact HO119.out) (Kd.R_base ho0) hb); have n1_ := Aside0.mk (Kd.R_below (by (with_reducible repeat (first | apply Kd.R_alloc | apply Kd.R_drewN | apply Kd.R_drew)); exact HO123.out) hb); have n2_ := Aside0.mk (Kd.R_lower (Kd.R_new' ho0 (Kd.R_lt (by (with_reducible repeat (first | apply Kd.R_alloc | apply Kd.R_drewN | apply Kd.R_drew)); exact HO119.out))) (below_size (by repeat (first | (with_reducible first | exact HB.out | apply below_alloc | apply pw_below_drewN | apply below_drew1) | exact HB.out)))); have n3_ := Aside0.mk (below_step (by repeat (first | (with_reducible first | exact HB.out | apply below_alloc | apply pw_below_drewN | apply below_drew1) | exact HB.out)) hb); clear HO119; clear HO123; clear HB; have HO119 := n0_; have HO123 := n1_; have HO127 := n2_; have HB := n3_; clear n0_ n1_ n2_ n3_; (try clear hb); (try clear hb2); (try clear hk); (try clear hi); (try clear ho0)) | ((with_reducible refine gate_dst (N := 18) rfl ?_); refine Kd.R_lit (Kd.int .u8) _ 5 ?hg (N := 18) ?hd (xs := ([209, 0] : List Int)) (inner := [.int .u8 209, .int .u8 0]) (ok := fun _ => True) (okp := fun _ => True) ?hr ?hp (fun _ hk => hk) trivial (Below.refl _ _) (Nat.le_refl _) (by simp) ?_; (case hd => rfl); (case hg => rfl); (case hr => first | (go_simp; done) | (go_simp; rfl)); (case hp => exact (Reps.one (show Kd.M (Kd.int .u8) _ _ _ 209 [.int .u8 209] from rfl) (Reps.one (show Kd.M (Kd.int .u8) _ _ _ 0 [.int .u8 0] from rfl) (Reps.none _ _)))); intro v129 w86 ho87 hb hg_ hnew_; clear hg_ hnew_; (first | rw [← Ny128.out] at ho87 | (simp only [Int.reduceToNat] at ho87; rw [← Ny128.out] at ho87)); have n0_ := Aside0.mk (Kd.R_below (by (with_reducible repeat (first | apply Kd.R_alloc | apply Kd.R_drewN | apply Kd.R_drew)); exact HO119.out) hb); have n1_ := Aside0.mk (Kd.R_elder' (by (with_reducible repeat (first | apply Kd.R_alloc | apply Kd.R_drewN | apply Kd.R_drew)); exact HO123.out) (Kd.R_base ho87) hb); have n2_ := Aside0.mk (Kd.R_below (by (with_reducible repeat (first | apply Kd.R_alloc | apply Kd.R_drewN | apply Kd.R_drew)); exact HO127.out) hb); have n3_ := Aside0.mk (Kd.R_lower (Kd.R_new' ho87 (Kd.R_lt (by (with_reducible repeat (first | apply Kd.R_alloc | apply Kd.R_drewN | apply Kd.R_drew)); exact HO123.out))) (below_size (by repeat (first | (with_reducible first | exact HB.out | apply below_alloc | apply pw_below_drewN | apply below_drew1) | exact HB.out)))); have n4_ := Aside0.mk (below_step (by repeat (first | (with_reducible first | exact HB.out | apply below_alloc | apply pw_below_drewN | apply below_drew1) | exact HB.out)) hb); clear HO119; clear HO123; clear HO127; clear HB; have HO119 := n0_; have HO123 := n1_; have HO127 := n2_; have HO130 := n3_; have HB := n4_; clear n0_ n1_ n2_ n3_ n4_; clear hb ho87; obtain ⟨Ao88, co88, eo88⟩ := Kd.R_slice HO130.out; subst eo88) | ((with_reducible refine gate_callee (f := 12) rfl ?_); refine goesL_ (some 19) rfl rfl Try.func12 (by kernel_rfl) rfl #[.slice Ao84 t120.length co84, .slice Ao88 y128.length co88] rfl (by (try simp only [List.map_toArray, List.map_cons, List.map_nil]); first | done | rfl | (simp only [List.length_drop, List.length_take]; rfl)) ?_; (with_reducible refine (winnowerref01_Same.calls _ _ t120 _ _ y128 false _ ?side1 ?side2 ?side3 ?side4 A3.out).mono ?_); (case side1 => repeat (first | exact (Kd.R_reads' HO123.out).2.2 | (with_reducible refine Kd.C_alloc ?_ _) | (with_reducible refine Kd.C_drewN ?_ _) | (with_reducible refine Kd.C_drew ?_))); (case side2 => exact (Kd.R_reads' HO123.out).2.1); (case side3 => repeat (first | exact (Kd.R_reads' HO130.out).2.2 | (with_reducible refine Kd.C_alloc ?_ _) | (with_reducible refine Kd.C_drewN ?_ _) | (with_reducible refine Kd.C_drew ?_))); (case side4 => exact (Kd.R_reads' HO130.out).2.1); rintro e w' ⟨rfl, ⟨nd, rfl⟩⟩; refine ⟨_, rfl, ?_⟩) | ((with_reducible refine gate_dst (N := 21) rfl ?_); refine Kd.R_lit (Kd.int .i64) _ 3 ?hg (N := 21) ?hd (xs := ([1, 2, 3] : List Int)) (inner := [.int .i64 1, .int .i64 2, .int .i64 3]) (ok := fun _ => True) (okp := fun _ => True) ?hr ?hp (fun _ hk => hk) trivial (Below.refl _ _) (Nat.le_refl _) (by simp) ?_; (case hd => rfl); (case hg => rfl); (case hr => first | (go_simp; done) | (go_simp; rfl)); (case hp => exact (Reps.one (show Kd.M (Kd.int .i64) _ _ _ 1 [.int .i64 1] from rfl) (Reps.one (show Kd.M (Kd.int .i64) _ _ _ 2 [.int .i64 2] from rfl) (Reps.one (show Kd.M (Kd.int .i64) _ _ _ 3 [.int .i64 3] from rfl) (Reps.none _ _))))); intro v133 w89 ho90 hb hg_ hnew_; clear hg_ hnew_; (first | rw [← Ny132.out] at ho90 | (simp only [Int.reduceToNat] at ho90; rw [← Ny132.out] at ho90)); have n0_ := Aside0.mk (Kd.R_elder' (by (with_reducible repeat (first | apply Kd.R_alloc | apply Kd.R_drewN | apply Kd.R_drew)); exact HO119.out) (Kd.R_base ho90) hb); have n1_ := Aside0.mk (Kd.R_below (by (with_reducible repeat (first | apply Kd.R_alloc | apply Kd.R_drewN | apply Kd.R_drew)); exact HO123.out) hb); have n2_ := Aside0.mk (Kd.R_elder' (by (with_reducible repeat (first | apply Kd.R_alloc | apply Kd.R_drewN | apply Kd.R_drew)); exact HO127.out) (Kd.R_base ho90) hb); have n3_ := Aside0.mk (Kd.R_below (by (with_reducible repeat (first | apply Kd.R_alloc | apply Kd.R_drewN | apply Kd.R_drew)); exact HO130.out) hb); have n4_ := Aside0.mk (Kd.R_lower (Kd.R_new' (Kd.R_new' ho90 (Kd.R_lt (by (with_reducible repeat (first | apply Kd.R_alloc | apply Kd.R_drewN | apply Kd.R_drew)); exact HO119.out))) (Kd.R_lt (by (with_reducible repeat (first | apply Kd.R_alloc | apply Kd.R_drewN | apply Kd.R_drew)); exact HO127.out))) (below_size (by repeat (first | (with_reducible first | exact HB.out | apply below_alloc | apply pw_below_drewN | apply below_drew1) | exact HB.out)))); have n5_ := Aside0.mk (below_step (by repeat (first | (with_reducible first | exact HB.out | apply below_alloc | apply pw_below_drewN | apply below_drew1) | exact HB.out)) hb); clear HO119; clear HO123; clear HO127; clear HO130; clear HB; have HO119 := n0_; have HO123 := n1_; have HO127 := n2_; have HO130 := n3_; have HO134 := n4_; have HB := n5_; clear n0_ n1_ n2_ n3_ n4_ n5_; clear hb ho90; obtain ⟨Ao91, co91, eo91⟩ := Kd.R_slice HO127.out; subst eo91; obtain ⟨Ao92, co92, eo92⟩ := Kd.R_slice HO134.out; subst eo92) | ((with_reducible refine gate_callee (f := 17) rfl ?_); refine goesL_ (some 22) rfl rfl Try.func17 (by kernel_rfl) rfl #[.slice Ao91 t124.length co91, .slice Ao92 y132.length co92] rfl (by (try simp only [List.map_toArray, List.map_cons, List.map_nil]); first | done | rfl | (simp only [List.length_drop, List.length_take]; rfl)) ?_; (with_reducible refine (winnowerref01_Ints.calls _ _ t124 _ _ y132 t135 _ ?side1 ?side2 ?side3 ?side4 A4.out).mono ?_); (case side1 => repeat (first | exact (Kd.R_reads' HO127.out).2.2 | (with_reducible refine Kd.C_alloc ?_ _) | (with_reducible refine Kd.C_drewN ?_ _) | (with_reducible refine Kd.C_drew ?_))); (case side2 => exact (Kd.R_reads' HO127.out).2.1); (case side3 => repeat (first | exact (Kd.R_reads' HO134.out).2.2 | (with_reducible refine Kd.C_alloc ?_ _) | (with_reducible refine Kd.C_drewN ?_ _) | (with_reducible refine Kd.C_drew ?_))); (case side4 => exact (Kd.R_reads' HO134.out).2.1); rintro e w' ⟨rfl, ⟨nd, rfl⟩⟩; refine ⟨_, rfl, ?_⟩))
    go_ret
    exact ⟨by first | rfl | (simp [errW_none, errW_some] <;> rfl) | (simp [*, errW_none, errW_some] <;> rfl), by repeat (first | (with_reducible first | exact HB.out | apply below_alloc | apply pw_below_drewN | apply below_drew1) | exact HB.out)⟩

/-! ### winnowerref02_value_p: function 25 -/
def winnowerref02_value_p.l0 : Nat → List Int → Int → Int → Option (Int)
  | 0, _, _, _ => none
  | k + 1, x0, x3, x4 => if x4 ≥ 0 then (if 0 ≤ x4 then (if x4 < (x0.length : Int) then (winnowerref02_value_p.l0 k x0 (wrap64 ((wrap64 (2 * x3)) + (rd x0 x4))) (wrap64 (x4 - 1))) else (none)) else (none)) else (some x3)
def winnowerref02_value_p.f (k : Nat) (l0 : List Int) : Option (Int) := winnowerref02_value_p.l0 k l0 0 (wrap64 ((l0.length : Int) - 1))
theorem winnowerref02_value_p.mono_l : ∀ k, (∀ y0 y1 y2, LeO (winnowerref02_value_p.l0 k y0 y1 y2) (winnowerref02_value_p.l0 (k + 1) y0 y1 y2))
  | 0 => fun _ _ _ r h => by simp [winnowerref02_value_p.l0] at h
  | k + 1 => by
    have ih0 := winnowerref02_value_p.mono_l k
    · intro y0 y1 y2
      unfold winnowerref02_value_p.l0
      repeat' first
      | (with_reducible exact ih0 _ _ _)
      | (with_reducible exact LeO.refl _)
      | (with_reducible exact LeO.none _)
      | (with_reducible refine LeO.ite ?_ ?_)
      | (with_reducible refine LeO.bind ?_ (fun _ => ?_))
      | exact ih0 _ _ _
      | exact LeO.none _
      | refine LeO.ite ?_ ?_
      | refine LeO.bind ?_ (fun _ => ?_)
theorem winnowerref02_value_p.mono : ∀ a0 k, LeO (winnowerref02_value_p.f k a0) (winnowerref02_value_p.f (k + 1) a0) := by
  intro a0 k
  have ih0 := winnowerref02_value_p.mono_l k
  unfold winnowerref02_value_p.f
  repeat' first
      | (with_reducible exact ih0 _ _ _)
      | (with_reducible exact LeO.refl _)
      | (with_reducible exact LeO.none _)
      | (with_reducible refine LeO.ite ?_ ?_)
      | (with_reducible refine LeO.bind ?_ (fun _ => ?_))
      | exact ih0 _ _ _
      | exact LeO.none _
      | refine LeO.ite ?_ ?_
      | refine LeO.bind ?_ (fun _ => ?_)
set_option maxHeartbeats 8000000 in
set_option maxRecDepth 100000 in
theorem winnowerref02_value_p.calls (k : Nat) (A0 : Option Addr) (c0 : Nat) (l0 : List Int) (r : Int) (w : World) (hr0 : Kd.C (Kd.int .i64) w A0 l0.length l0) (hc0 : l0.length ≤ c0) (h : winnowerref02_value_p.f k l0 = some r) :
    Calls Try.prog 25 #[.slice A0 l0.length c0] w fun e w' => e = .returned (.int .i64 r) ∧ Drawn0 w w' := by
  have HR0 := Aside0.mk hr0
  have HC0 := Aside0.mk hc0
  clear hr0 hc0
  have H : (winnowerref02_value_p.l0 k l0 0 (wrap64 ((l0.length : Int) - 1))) = some r := h
  clear h
  have H' := Aside0.mk H
  clear H
  go_enter Try.func25, Try.ntmps25
  go_wp2
  go_loopg [3, 4] k (fun kq v3 v4 w' => ∃ (x3_1 : Int) (x4_1 : Int), v3 = .int .i64 x3_1 ∧ v4 = .int .i64 x4_1 ∧ Aside0 (winnowerref02_value_p.l0 kq l0 x3_1 x4_1 = some r) ∧ Aside0 (kq ≤ k) ∧ Drawn0 w w')
  case atStart => exact ⟨(0), (wrap64 ((l0.length : Int) - 1)), (by first | rfl | (simp; done) | (simp [*]; done)), (by first | rfl | (simp; done) | (simp [*]; done)), H', ⟨Nat.le_refl _⟩, by repeat (first | exact Drawn0.refl _ | apply Drawn0.step)⟩
  case round =>
    clear H'
    obtain ⟨x3_1, x4_1, rfl, rfl, HA, HK1, ⟨m1, rfl⟩⟩ := hrel
    cases gk with
    | zero => exact absurd HA.out (by simp [winnowerref02_value_p.l0])
    | succ k1 =>
      have H := HA.out
      clear HA
      simp only [winnowerref02_value_p.l0] at H
      by_cases c2 : x4_1 ≥ 0
      · rw [if_pos c2] at H
        have c2b0 : decide (0 ≤ x4_1) = true := decide_eq_true c2
        clear c2
        by_cases c3 : 0 ≤ x4_1
        · rw [if_pos c3] at H
          have c3b0 : decide (0 ≤ x4_1) = true := decide_eq_true c3
          clear c3
          by_cases c4 : x4_1 < (l0.length : Int)
          · rw [if_pos c4] at H
            have c4b0 : decide (x4_1 < (l0.length : Int)) = true := decide_eq_true c4
            clear c4
            have H' := Aside0.mk H
            clear H
            have p138 : 0 ≤ (x4_1 : Int) := of_decide_eq_true (by first | (with_reducible assumption) | assumption)
            have q138 : x4_1 < (l0.length : Int) := of_decide_eq_true (by first | (with_reducible assumption) | assumption)
            obtain ⟨ad138, e138, hx138_0⟩ := Kd.at_int HR0.out x4_1 p138 q138
            cases e138
            replace p138 := eq_true p138
            replace q138 := eq_true q138
            go_wp2
            go_roundg k1
            case measure => have := HK1.out; omega
            case rel => exact ⟨(wrap64 ((wrap64 (2 * x3_1)) + (rd l0 x4_1))), (wrap64 (x4_1 - 1)), (by first | rfl | (simp; done) | (simp [*]; done)), (by first | rfl | (simp; done) | (simp [*]; done)), H', ⟨by have := HK1.out; omega⟩, by repeat (first | exact Drawn0.refl _ | apply Drawn0.step)⟩
          · rw [if_neg c4] at H
            exact absurd H (by simp)
        · rw [if_neg c3] at H
          exact absurd H (by simp)
      · rw [if_neg c2] at H
        have c2b0 : decide (0 ≤ x4_1) = false := decide_eq_false c2
        clear c2
        obtain rfl := Option.some.inj H
        go_wp2
        go_ret
        exact ⟨by first | rfl | (simp; done) | (simp [*]; done), by repeat (first | exact Drawn0.refl _ | apply Drawn0.step)⟩

-- BY HAND: Derived.Test.YthcbcddnillipaaHbitnum
/-! ### winnowerref02_value: function 25 -/
-- HAND winnower/winnowerref02.value over
-- IMPORT Derived.Test.YthcbcddnillipaaHbitnum
open Go.Proofs.Ythcbcddnillipaa.Hnum Go.Proofs.Ythcbcddnillipaa.Hbits Go.Proofs.Ythcbcddnillipaa.Hbitnum
theorem winnowerref02_value.tell (l : List Int) (hb : Bits l) (hl : l.length ≤ 62) : ∀ (j kq : Nat), j ≤ l.length → j < kq → winnowerref02_value_p.l0 kq l ((valB (l.drop j) : Nat) : Int) ((j : Int) - 1) = some ((valB l : Nat) : Int) := by
  intro j
  induction j with
  | zero =>
    intro kq hj hq
    obtain ⟨q, rfl⟩ : ∃ m, kq = m + 1 := ⟨kq - 1, by omega⟩
    rw [winnowerref02_value_p.l0, if_neg (by omega), List.drop_zero]
  | succ j ih =>
    intro kq hj hq
    obtain ⟨q, rfl⟩ : ∃ m, kq = m + 1 := ⟨kq - 1, by omega⟩
    have hlt : j < l.length := by omega
    have hx := hb _ (List.getElem_mem hlt)
    have hd : valB (l.drop j) = l[j].toNat + 2 * valB (l.drop (j + 1)) := by rw [List.drop_eq_getElem_cons hlt, valB]
    have hv := valB_lt (hb.drop j)
    rw [List.length_drop] at hv
    have hp : 2 ^ (l.length - j) ≤ 4611686018427387904 := Nat.pow_le_pow_right (n := 2) (by decide) (show l.length - j ≤ 62 by omega)
    have e0 : (((j + 1 : Nat) : Int) - 1) = (j : Int) := by omega
    have e1 : wrap64 (2 * ((valB (l.drop (j + 1)) : Nat) : Int)) = 2 * ((valB (l.drop (j + 1)) : Nat) : Int) := wrap_id (by omega) (by omega)
    have e2 : 2 * ((valB (l.drop (j + 1)) : Nat) : Int) + l[j] = ((valB (l.drop j) : Nat) : Int) := by omega
    have e3 : wrap64 ((valB (l.drop j) : Nat) : Int) = ((valB (l.drop j) : Nat) : Int) := wrap_id (by omega) (by omega)
    have e4 : wrap64 ((j : Int) - 1) = (j : Int) - 1 := wrap_id (by omega) (by omega)
    rw [winnowerref02_value_p.l0, e0, if_pos (by omega), if_pos (by omega), if_pos (by omega), rd_get hlt, e1, e2, e3, e4]
    exact ih q (by omega) (by omega)
def winnowerref02_value.f (l0 : List Int) : Option Int := if Bits l0 ∧ l0.length ≤ 62 then some ((valB l0 : Nat) : Int) else none
theorem winnowerref02_value.fits {l0 : List Int} {r : Int} (_ : l0.length ≤ 9223372036854775807) (h : winnowerref02_value.f l0 = some r) : ∃ k, winnowerref02_value_p.f k l0 = some r := by
  unfold winnowerref02_value.f at h
  by_cases hc : Bits l0 ∧ l0.length ≤ 62
  · rw [if_pos hc] at h
    rw [← h]
    refine ⟨l0.length + 1, ?_⟩
    have := winnowerref02_value.tell l0 hc.1 hc.2 l0.length (l0.length + 1) (by omega) (by omega)
    rw [List.drop_length] at this
    unfold winnowerref02_value_p.f
    have hl := hc.2
    rw [wrap_id (x := (l0.length : Int) - 1) (by omega) (by omega)]
    exact this
  · rw [if_neg hc] at h; cases h
theorem winnowerref02_value.calls (A0 : Option Addr) (c0 : Nat) (l0 : List Int) (r : Int) (w : World) (hr0 : Kd.C (Kd.int .i64) w A0 l0.length l0) (hc0 : l0.length ≤ c0) (h : winnowerref02_value.f l0 = some r) :
    Calls Try.prog 25 #[.slice A0 l0.length c0] w fun e w' => e = .returned (.int .i64 r) ∧ Drawn0 w w' := by
  obtain ⟨k, hk⟩ := winnowerref02_value.fits hr0.2.1 h
  exact winnowerref02_value_p.calls k A0 c0 l0 r w hr0 hc0 hk


/-! ### winnowerref02_number_p: function 24 -/
def winnowerref02_number_p.l0 : Nat → Int → Int → List Int → Int → Option (List Int)
  | 0, _, _, _, _ => none
  | k + 1, x0, x1, x5, x6 => if x6 < x1 then (if x5.length < 17592186044416 then (winnowerref02_number_p.l0 k (wrap64 (Int.tdiv x0 2)) x1 (x5 ++ [Int.tmod x0 2]) (wrap64 (x6 + 1))) else (none)) else (some x5)
def winnowerref02_number_p.f (k : Nat) (a0 : Int) (a1 : Int) : Option (List Int) := winnowerref02_number_p.l0 k a0 a1 ([] : List Int) 0
theorem winnowerref02_number_p.mono_l : ∀ k, (∀ y0 y1 y2 y3, LeO (winnowerref02_number_p.l0 k y0 y1 y2 y3) (winnowerref02_number_p.l0 (k + 1) y0 y1 y2 y3))
  | 0 => fun _ _ _ _ r h => by simp [winnowerref02_number_p.l0] at h
  | k + 1 => by
    have ih0 := winnowerref02_number_p.mono_l k
    · intro y0 y1 y2 y3
      unfold winnowerref02_number_p.l0
      repeat' first
      | (with_reducible exact ih0 _ _ _ _)
      | (with_reducible exact LeO.refl _)
      | (with_reducible exact LeO.none _)
      | (with_reducible refine LeO.ite ?_ ?_)
      | (with_reducible refine LeO.bind ?_ (fun _ => ?_))
      | exact ih0 _ _ _ _
      | exact LeO.none _
      | refine LeO.ite ?_ ?_
      | refine LeO.bind ?_ (fun _ => ?_)
theorem winnowerref02_number_p.mono : ∀ a0 a1 k, LeO (winnowerref02_number_p.f k a0 a1) (winnowerref02_number_p.f (k + 1) a0 a1) := by
  intro a0 a1 k
  have ih0 := winnowerref02_number_p.mono_l k
  unfold winnowerref02_number_p.f
  repeat' first
      | (with_reducible exact ih0 _ _ _ _)
      | (with_reducible exact LeO.refl _)
      | (with_reducible exact LeO.none _)
      | (with_reducible refine LeO.ite ?_ ?_)
      | (with_reducible refine LeO.bind ?_ (fun _ => ?_))
      | exact ih0 _ _ _ _
      | exact LeO.none _
      | refine LeO.ite ?_ ?_
      | refine LeO.bind ?_ (fun _ => ?_)
set_option maxHeartbeats 8000000 in
set_option maxRecDepth 100000 in
theorem winnowerref02_number_p.calls (k : Nat) (a0 : Int) (a1 : Int) (r : List Int) (w : World) (h : winnowerref02_number_p.f k a0 a1 = some r) :
    Calls Try.prog 24 #[.int .i64 a0, .int .i64 a1] w fun e w' => ∃ v0_ : Value, e = .returned (v0_) ∧ Kd.R (Kd.int .i64) 3 w' w.heap.size (fun _ => True) v0_ r ∧ Below w.heap.size w w' := by
  have HB := Aside0.mk (Below.refl w.heap.size w)
  have H : (winnowerref02_number_p.l0 k a0 a1 ([] : List Int) 0) = some r := h
  clear h
  have H' := Aside0.mk H
  clear H
  go_enter Try.func24, Try.ntmps24
  go_wp2
  go_loopg [0, 5, 6] k (fun kq v0 v5 v6 w' => ∃ (x0_1 : Int) (x5_1 : List Int) (x6_1 : Int), v0 = .int .i64 x0_1 ∧ v6 = .int .i64 x6_1 ∧ Aside0 (winnowerref02_number_p.l0 kq x0_1 a1 x5_1 x6_1 = some r) ∧ Aside0 (kq ≤ k) ∧ Aside0 (Kd.R (Kd.int .i64) 3 w' w.heap.size (fun _ => True) v5 x5_1) ∧ Aside0 (Below w.heap.size w w'))
  case atStart => exact ⟨(a0), (([] : List Int)), (0), (by first | rfl | (simp; done) | (simp [*]; done)), (by first | rfl | (simp; done) | (simp [*]; done)), H', ⟨Nat.le_refl _⟩, ⟨by first | exact Kd.R_nil _ _ _ _ _ | exact Kd.N_nil _ _ _ _ _ | exact Kd.V_nil _ _ _ _ _ | exact Kd.Q_nil _ _ _ _ _ | exact Kd.S_nil _ _ _ _ _⟩, ⟨by repeat (first | (with_reducible first | exact HB.out | apply below_alloc | apply pw_below_drewN | apply below_drew1) | exact HB.out)⟩⟩
  case round =>
    clear H'
    try clear c2
    try clear p2
    obtain ⟨x0_1, x5_1, x6_1, rfl, rfl, HA, HK1, HO_5, HB⟩ := hrel
    cases gk with
    | zero => exact absurd HA.out (by simp [winnowerref02_number_p.l0])
    | succ k1 =>
      have H := HA.out
      clear HA
      simp only [winnowerref02_number_p.l0] at H
      by_cases c3 : x6_1 < a1
      · rw [if_pos c3] at H
        have c3b0 : decide (x6_1 < a1) = true := decide_eq_true c3
        clear c3
        by_cases c4 : x5_1.length < 17592186044416
        · rw [if_pos c4] at H
          have LMc4 := Aside0.mk c4
          clear c4
          obtain ⟨y139, hy139⟩ : ∃ y_ : List Int, y_ = (x5_1 ++ [Int.tmod x0_1 2]) := ⟨_, rfl⟩
          replace H : (winnowerref02_number_p.l0 k1 (wrap64 (Int.tdiv x0_1 2)) a1 y139 (wrap64 (x6_1 + 1))) = some r := by first | (rw [hy139]; with_reducible exact H) | (have H2_ := (Option.bind_some _ _).symm.trans H; rw [hy139]; with_reducible exact H2_) | (have H2_ := (Option.bind_some _ _).symm.trans H; with_reducible exact H2_) | with_reducible exact H | (rw [hy139]; exact H) | exact H
          have Ny139 := Aside0.mk hy139
          clear hy139
          have H' := Aside0.mk H
          clear H
          go_wp2_with (first | ((with_reducible refine gate_builtin (b := .append) (xs := #[.tmp 12, .tmp 15]) rfl ?_); at_builtin; refine Kd.R_append (Kd.int .i64) (w0 := w) w.heap.size rfl (.tmp 12) (.tmp 15) 22 3 (.int .i64 0) 8 rfl Try.underlying22 info3 rfl (by decide) (by omega) u5 x5_1 (Int.tmod x0_1 2) [.int .i64 (Int.tmod x0_1 2)] (fun _ => True) (fun _ => False) rfl rfl ?aP (fun _ hk => hk.elim) ?aF ?aO ?aB ?aS ?aL ?_; (case aP => exact rfl); (case aB => exact (by repeat (first | (with_reducible first | exact HB.out | apply below_alloc | apply pw_below_drewN | apply below_drew1) | exact HB.out))); (case aF => exact (fun _ _ => trivial)); (case aO => exact (by (with_reducible repeat (first | apply Kd.R_alloc | apply Kd.R_drewN | apply Kd.R_drew)); exact HO_5.out)); (case aS => exact (below_size (by repeat (first | (with_reducible first | exact HB.out | apply below_alloc | apply pw_below_drewN | apply below_drew1) | exact HB.out)))); (case aL => have := LMc4.out; omega); intro v140 w5 ho hb hg hat; rw [← Ny139.out] at ho; have n0_ := Aside0.mk (hb); have n1_ := Aside0.mk (ho); clear HB; clear HO_5; have HB := n0_; have HO141 := n1_; clear n0_ n1_; clear ho hb hg hat))
          go_roundg k1
          case measure => have := HK1.out; omega
          case rel => exact ⟨(wrap64 (Int.tdiv x0_1 2)), (y139), (wrap64 (x6_1 + 1)), (by first | rfl | (simp; done) | (simp [*]; done)), (by first | rfl | (simp; done) | (simp [*]; done)), H', ⟨by have := HK1.out; omega⟩, ⟨by (with_reducible repeat (first | apply Kd.R_alloc | apply Kd.R_drewN | apply Kd.R_drew)); exact HO141.out⟩, ⟨by repeat (first | (with_reducible first | exact HB.out | apply below_alloc | apply pw_below_drewN | apply below_drew1) | exact HB.out)⟩⟩
        · rw [if_neg c4] at H
          exact absurd H (by simp)
      · rw [if_neg c3] at H
        have c3b0 : decide (x6_1 < a1) = false := decide_eq_false c3
        clear c3
        obtain rfl := Option.some.inj H
        go_wp2
        go_ret
        exact ⟨_, by first | rfl | (simp [errW_none, errW_some] <;> rfl) | (simp [*, errW_none, errW_some] <;> rfl), by (with_reducible repeat (first | apply Kd.R_alloc | apply Kd.R_drewN | apply Kd.R_drew)); exact HO_5.out, by repeat (first | (with_reducible first | exact HB.out | apply below_alloc | apply pw_below_drewN | apply below_drew1) | exact HB.out)⟩

-- BY HAND: Derived.Test.YthcbcddnillipaaHbitnum
/-! ### winnowerref02_number: function 24 -/
-- HAND winnower/winnowerref02.number over
-- IMPORT Derived.Test.YthcbcddnillipaaHbitnum
open Go.Proofs.Ythcbcddnillipaa.Hnum Go.Proofs.Ythcbcddnillipaa.Hbits Go.Proofs.Ythcbcddnillipaa.Hbitnum
theorem winnowerref02_number.tell (w : Nat) (hw : w ≤ 1000) : ∀ (d j n kq : Nat) (acc : List Int), j + d = w → acc.length ≤ 1000 → n ≤ 9223372036854775807 → d < kq → acc.length + d ≤ 1000 →
    winnowerref02_number_p.l0 kq (n : Int) (w : Int) acc (j : Int) = some (acc ++ bitsOf n d) := by
  intro d
  induction d with
  | zero =>
    intro j n kq acc hj ha hn hq hl
    obtain ⟨q, rfl⟩ : ∃ m, kq = m + 1 := ⟨kq - 1, by omega⟩
    rw [winnowerref02_number_p.l0, if_neg (by omega), bitsOf, List.append_nil]
  | succ d ih =>
    intro j n kq acc hj ha hn hq hl
    obtain ⟨q, rfl⟩ : ∃ m, kq = m + 1 := ⟨kq - 1, by omega⟩
    have e1 : wrap64 (Int.tdiv (n : Int) 2) = ((n / 2 : Nat) : Int) := by rw [Int.tdiv_eq_ediv_of_nonneg (by omega), wrap_id (by omega) (by omega)]; omega
    have e2 : Int.tmod (n : Int) 2 = ((n % 2 : Nat) : Int) := by rw [Int.tmod_eq_emod_of_nonneg (by omega)]; omega
    have e3 : wrap64 ((j : Int) + 1) = ((j + 1 : Nat) : Int) := by rw [wrap_id (by omega) (by omega)]; omega
    rw [winnowerref02_number_p.l0, if_pos (by omega), if_pos (by omega), e1, e2, e3, ih (j + 1) (n / 2) q _ (by omega) (by rw [List.length_append, List.length_singleton]; omega) (by omega) (by omega) (by rw [List.length_append, List.length_singleton]; omega),
      bitsOf, List.append_assoc, List.singleton_append]
def winnowerref02_number.f (a0 a1 : Int) : Option (List Int) := if 0 ≤ a0 ∧ a0 ≤ 9223372036854775807 ∧ a1 ≤ 1000 then some (bitsOf a0.toNat a1.toNat) else none
theorem winnowerref02_number.fits {a0 a1 : Int} {r : List Int} (h : winnowerref02_number.f a0 a1 = some r) : ∃ k, winnowerref02_number_p.f k a0 a1 = some r := by
  unfold winnowerref02_number.f at h
  by_cases hc : 0 ≤ a0 ∧ a0 ≤ 9223372036854775807 ∧ a1 ≤ 1000
  · rw [if_pos hc] at h
    rw [← h]
    obtain ⟨h0, h1, h2⟩ := hc
    obtain ⟨n, rfl⟩ := Int.eq_ofNat_of_zero_le h0
    refine ⟨a1.toNat + 1, ?_⟩
    unfold winnowerref02_number_p.f
    by_cases hw : 0 ≤ a1
    · obtain ⟨w, rfl⟩ := Int.eq_ofNat_of_zero_le hw
      have := winnowerref02_number.tell w (by omega) w 0 n (w + 1) [] (by omega) (by simp) (by omega) (by omega) (by simp; omega)
      rw [List.nil_append] at this
      rw [Int.toNat_natCast, Int.toNat_natCast]
      exact this
    · rw [show a1.toNat = 0 from by omega, winnowerref02_number_p.l0, if_neg (by omega)]
      rfl
  · rw [if_neg hc] at h; cases h
theorem winnowerref02_number.calls (a0 : Int) (a1 : Int) (r : List Int) (w : World) (h : winnowerref02_number.f a0 a1 = some r) :
    Calls Try.prog 24 #[.int .i64 a0, .int .i64 a1] w fun e w' => ∃ v0_ : Value, e = .returned (v0_) ∧ Kd.R (Kd.int .i64) 3 w' w.heap.size (fun _ => True) v0_ r ∧ Below w.heap.size w w' := by
  obtain ⟨k, hk⟩ := winnowerref02_number.fits  h
  exact winnowerref02_number_p.calls k a0 a1 r w hk


/-! ### winnowerref02_spread_p: function 28 -/
def winnowerref02_spread_p.l0 : Nat → List Int → List Int → Int → Option (List Int)
  | 0, _, _, _ => none
  | k + 1, x0, x3, x4 => if x4 < (x0.length : Int) then (if 0 ≤ x4 then ((winnowerref02_number.f (wrap64 (rd x0 x4)) 8).bind fun t143 => (if x3.length + t143.length < 17592186044416 then (winnowerref02_spread_p.l0 k x0 (x3 ++ t143) (wrap64 (x4 + 1))) else (none))) else (none)) else (some x3)
def winnowerref02_spread_p.f (k : Nat) (l0 : List Int) : Option (List Int) := winnowerref02_spread_p.l0 k l0 ([] : List Int) 0
theorem winnowerref02_spread_p.mono_l : ∀ k, (∀ y0 y1 y2, LeO (winnowerref02_spread_p.l0 k y0 y1 y2) (winnowerref02_spread_p.l0 (k + 1) y0 y1 y2))
  | 0 => fun _ _ _ r h => by simp [winnowerref02_spread_p.l0] at h
  | k + 1 => by
    have ih0 := winnowerref02_spread_p.mono_l k
    · intro y0 y1 y2
      unfold winnowerref02_spread_p.l0
      repeat' first
      | (with_reducible exact ih0 _ _ _)
      | (with_reducible exact LeO.refl _)
      | (with_reducible exact LeO.none _)
      | (with_reducible refine LeO.ite ?_ ?_)
      | (with_reducible refine LeO.bind ?_ (fun _ => ?_))
      | exact ih0 _ _ _
      | exact LeO.none _
      | refine LeO.ite ?_ ?_
      | refine LeO.bind ?_ (fun _ => ?_)
theorem winnowerref02_spread_p.mono : ∀ a0 k, LeO (winnowerref02_spread_p.f k a0) (winnowerref02_spread_p.f (k + 1) a0) := by
  intro a0 k
  have ih0 := winnowerref02_spread_p.mono_l k
  unfold winnowerref02_spread_p.f
  repeat' first
      | (with_reducible exact ih0 _ _ _)
      | (with_reducible exact LeO.refl _)
      | (with_reducible exact LeO.none _)
      | (with_reducible refine LeO.ite ?_ ?_)
      | (with_reducible refine LeO.bind ?_ (fun _ => ?_))
      | exact ih0 _ _ _
      | exact LeO.none _
      | refine LeO.ite ?_ ?_
      | refine LeO.bind ?_ (fun _ => ?_)
set_option maxHeartbeats 8000000 in
set_option maxRecDepth 100000 in
theorem winnowerref02_spread_p.calls (k : Nat) (A0 : Option Addr) (c0 : Nat) (l0 : List Int) (r : List Int) (w : World) (hr0 : Kd.C (Kd.int .u8) w A0 l0.length l0) (hc0 : l0.length ≤ c0) (h : winnowerref02_spread_p.f k l0 = some r) :
    Calls Try.prog 28 #[.slice A0 l0.length c0] w fun e w' => ∃ v0_ : Value, e = .returned (v0_) ∧ Kd.R (Kd.int .i64) 3 w' w.heap.size (fun _ => True) v0_ r ∧ Below w.heap.size w w' := by
  have HR0 := Aside0.mk hr0
  have HC0 := Aside0.mk hc0
  clear hr0 hc0
  have HB := Aside0.mk (Below.refl w.heap.size w)
  have H : (winnowerref02_spread_p.l0 k l0 ([] : List Int) 0) = some r := h
  clear h
  have H' := Aside0.mk H
  clear H
  go_enter Try.func28, Try.ntmps28
  go_wp2
  go_loopg [3, 4] k (fun kq v3 v4 w' => ∃ (x3_1 : List Int) (x4_1 : Int), v4 = .int .i64 x4_1 ∧ Aside0 (winnowerref02_spread_p.l0 kq l0 x3_1 x4_1 = some r) ∧ Aside0 (kq ≤ k) ∧ Aside0 (Kd.R (Kd.int .i64) 3 w' w.heap.size (fun _ => True) v3 x3_1) ∧ Aside0 (Below w.heap.size w w'))
  case atStart => exact ⟨(([] : List Int)), (0), (by first | rfl | (simp; done) | (simp [*]; done)), H', ⟨Nat.le_refl _⟩, ⟨by first | exact Kd.R_nil _ _ _ _ _ | exact Kd.N_nil _ _ _ _ _ | exact Kd.V_nil _ _ _ _ _ | exact Kd.Q_nil _ _ _ _ _ | exact Kd.S_nil _ _ _ _ _⟩, ⟨by repeat (first | (with_reducible first | exact HB.out | apply below_alloc | apply pw_below_drewN | apply below_drew1) | exact HB.out)⟩⟩
  case round =>
    clear H'
    obtain ⟨x3_1, x4_1, rfl, HA, HK1, HO_3, HB⟩ := hrel
    cases gk with
    | zero => exact absurd HA.out (by simp [winnowerref02_spread_p.l0])
    | succ k1 =>
      have H := HA.out
      clear HA
      simp only [winnowerref02_spread_p.l0] at H
      by_cases c2 : x4_1 < (l0.length : Int)
      · rw [if_pos c2] at H
        have c2b0 : decide (x4_1 < (l0.length : Int)) = true := decide_eq_true c2
        clear c2
        by_cases c3 : 0 ≤ x4_1
        · rw [if_pos c3] at H
          have c3b0 : decide (0 ≤ x4_1) = true := decide_eq_true c3
          clear c3
          replace H := Option.bind_eq_some_iff.mp H
          obtain ⟨t143, A40, H⟩ := H
          replace H : (if x3_1.length + t143.length < 17592186044416 then (winnowerref02_spread_p.l0 k1 l0 (x3_1 ++ t143) (wrap64 (x4_1 + 1))) else (none)) = some r := H
          have A4 := Aside0.mk A40
          clear A40
          by_cases c5 : x3_1.length + t143.length < 17592186044416
          · rw [if_pos c5] at H
            have LMc5 := Aside0.mk c5
            clear c5
            obtain ⟨y146, hy146⟩ : ∃ y_ : List Int, y_ = (x3_1 ++ t143) := ⟨_, rfl⟩
            replace H : (winnowerref02_spread_p.l0 k1 l0 y146 (wrap64 (x4_1 + 1))) = some r := by first | (rw [hy146]; with_reducible exact H) | (have H2_ := (Option.bind_some _ _).symm.trans H; rw [hy146]; with_reducible exact H2_) | (have H2_ := (Option.bind_some _ _).symm.trans H; with_reducible exact H2_) | with_reducible exact H | (rw [hy146]; exact H) | exact H
            have Ny146 := Aside0.mk hy146
            clear hy146
            have H' := Aside0.mk H
            clear H
            have p142 : 0 ≤ (x4_1 : Int) := of_decide_eq_true (by first | (with_reducible assumption) | assumption)
            have q142 : x4_1 < (l0.length : Int) := of_decide_eq_true (by first | (with_reducible assumption) | assumption)
            obtain ⟨ad142, e142, hx142_0⟩ := Kd.at_int HR0.out x4_1 p142 q142
            cases e142
            replace hx142_0 := (HB.out.cell (World.block_lt_of_cell? w _ hx142_0)).trans hx142_0
            replace p142 := eq_true p142
            replace q142 := eq_true q142
            go_wp2_with (first | ((with_reducible refine gate_callee (f := 24) rfl ?_); refine goesL_ (some 17) rfl rfl Try.func24 (by kernel_rfl) rfl #[.int .i64 (wrap64 (rd l0 x4_1)), .int .i64 8] rfl (by (try simp only [List.map_toArray, List.map_cons, List.map_nil]); first | done | rfl | (simp only [List.length_drop, List.length_take]; rfl)) ?_; (with_reducible refine (winnowerref02_number.calls (wrap64 (rd l0 x4_1)) 8 t143 _ A4.out).mono ?_); rintro e w6 ⟨v144, rfl, ho0, hb⟩; refine ⟨_, rfl, ?_⟩; have n0_ := Aside0.mk (Kd.R_elder' (by (with_reducible repeat (first | apply Kd.R_alloc | apply Kd.R_drewN | apply Kd.R_drew)); exact HO_3.out) (Kd.R_base ho0) hb); have n1_ := Aside0.mk (Kd.R_lower (Kd.R_new' ho0 (Kd.R_lt (by (with_reducible repeat (first | apply Kd.R_alloc | apply Kd.R_drewN | apply Kd.R_drew)); exact HO_3.out))) (below_size (by repeat (first | (with_reducible first | exact HB.out | apply below_alloc | apply pw_below_drewN | apply below_drew1) | exact HB.out)))); have n2_ := Aside0.mk (below_step (by repeat (first | (with_reducible first | exact HB.out | apply below_alloc | apply pw_below_drewN | apply below_drew1) | exact HB.out)) hb); clear HO_3; clear HB; have HO_3 := n0_; have HO145 := n1_; have HB := n2_; clear n0_ n1_ n2_; (try clear hb); (try clear hb2); (try clear hk); (try clear hi); (try clear ho0); obtain ⟨Ao8, co8, eo8⟩ := Kd.R_slice HO145.out; subst eo8) | ((with_reducible refine gate_builtin (b := .append) (xs := #[.tmp 11, .tmp 17]) rfl ?_); at_builtin; refine Kd.R_append_rows (Kd.int .i64) (w0 := w) w.heap.size rfl (.tmp 11) (.tmp 17) 22 3 (.int .i64 0) 8 rfl Try.underlying22 info3 rfl (by decide) (by omega) u3 x3_1 t143 _ _ _ (fun k_ => some k_ ≠ (.slice Ao8 t143.length co8 : Value).ownBlock) (fun _ => False) rfl rfl ?aO ?aR (fun _ _ h => h) (fun _ h => h.elim) ?aF ?aB ?aS ?aL ?_; (case aR => repeat (first | exact (Kd.R_reads' HO145.out).2.2 | (with_reducible refine Kd.C_alloc ?_ _) | (with_reducible refine Kd.C_drewN ?_ _) | (with_reducible refine Kd.C_drew ?_))); (case aB => exact (by repeat (first | (with_reducible first | exact HB.out | apply below_alloc | apply pw_below_drewN | apply below_drew1) | exact HB.out))); (case aF => exact (fun k_ hk => Kd.fresh' (Kd.R_lt (by (with_reducible repeat (first | apply Kd.R_alloc | apply Kd.R_drewN | apply Kd.R_drew)); exact HO145.out)) k_ hk)); (case aO => exact (by (with_reducible repeat (first | apply Kd.R_alloc | apply Kd.R_drewN | apply Kd.R_drew)); exact Kd.R_mono HO_3.out (fun _ hk => hk.2))); (case aS => exact (below_size (by repeat (first | (with_reducible first | exact HB.out | apply below_alloc | apply pw_below_drewN | apply below_drew1) | exact HB.out)))); (case aL => have := LMc5.out; omega); intro v147 w7 ho hb hg hat; rw [← Ny146.out] at ho; have n0_ := Aside0.mk (Kd.R_after (ok := (fun _ => True)) (by (with_reducible repeat (first | apply Kd.R_alloc | apply Kd.R_drewN | apply Kd.R_drew)); exact HO145.out) hg hat); have n1_ := Aside0.mk (hb); have n2_ := Aside0.mk (ho); clear HO145; clear HB; clear HO_3; have HO145 := n0_; have HB := n1_; have HO148 := n2_; clear n0_ n1_ n2_; clear ho hb hg hat))
            go_roundg k1
            case measure => have := HK1.out; omega
            case rel => exact ⟨(y146), (wrap64 (x4_1 + 1)), (by first | rfl | (simp; done) | (simp [*]; done)), H', ⟨by have := HK1.out; omega⟩, ⟨by (with_reducible repeat (first | apply Kd.R_alloc | apply Kd.R_drewN | apply Kd.R_drew)); exact Kd.R_mono HO148.out (fun _ hk => trivial)⟩, ⟨by repeat (first | (with_reducible first | exact HB.out | apply below_alloc | apply pw_below_drewN | apply below_drew1) | exact HB.out)⟩⟩
          · rw [if_neg c5] at H
            exact absurd H (by simp)
        · rw [if_neg c3] at H
          exact absurd H (by simp)
      · rw [if_neg c2] at H
        have c2b0 : decide (x4_1 < (l0.length : Int)) = false := decide_eq_false c2
        clear c2
        obtain rfl := Option.some.inj H
        go_wp2
        go_ret
        exact ⟨_, by first | rfl | (simp [errW_none, errW_some] <;> rfl) | (simp [*, errW_none, errW_some] <;> rfl), by (with_reducible repeat (first | apply Kd.R_alloc | apply Kd.R_drewN | apply Kd.R_drew)); exact HO_3.out, by repeat (first | (with_reducible first | exact HB.out | apply below_alloc | apply pw_below_drewN | apply below_drew1) | exact HB.out)⟩

-- BY HAND: Derived.Test.YthcbcddnillipaaHbitnum
/-! ### winnowerref02_spread: function 28 -/
-- HAND winnower/winnowerref02.spread over
-- IMPORT Derived.Test.YthcbcddnillipaaHbitnum
open Go.Proofs.Ythcbcddnillipaa.Hnum Go.Proofs.Ythcbcddnillipaa.Hbits Go.Proofs.Ythcbcddnillipaa.Hbitnum
theorem winnowerref02_spread.tell (l : List Int) (hb : Bytes l) (hl : l.length ≤ 1000000) : ∀ (d i kq : Nat), i + d = l.length → d < kq → winnowerref02_spread_p.l0 kq l (spreadB (l.take i)) (i : Int) = some (spreadB l) := by
  intro d
  induction d with
  | zero =>
    intro i kq hi hq
    obtain ⟨q, rfl⟩ : ∃ m, kq = m + 1 := ⟨kq - 1, by omega⟩
    rw [winnowerref02_spread_p.l0, if_neg (by omega), List.take_of_length_le (by omega)]
  | succ d ih =>
    intro i kq hi hq
    obtain ⟨q, rfl⟩ : ∃ m, kq = m + 1 := ⟨kq - 1, by omega⟩
    have hlt : i < l.length := by omega
    have hx := hb _ (List.getElem_mem hlt)
    have hn : winnowerref02_number.f (wrap64 l[i]) 8 = some (bitsOf l[i].toNat 8) := by
      unfold winnowerref02_number.f
      rw [wrap_id (by omega) (by omega), if_pos ⟨by omega, by omega, by omega⟩]
      rfl
    have e3 : wrap64 ((i : Int) + 1) = ((i + 1 : Nat) : Int) := by rw [wrap_id (by omega) (by omega)]; omega
    have hs : spreadB (l.take i) ++ bitsOf l[i].toNat 8 = spreadB (l.take (i + 1)) := flat_snoc (f := fun a => bitsOf a.toNat 8) hlt
    rw [winnowerref02_spread_p.l0, if_pos (by omega), if_pos (by omega), rd_get hlt, hn, Option.bind_some, if_pos (by rw [spreadB_length, bitsOf_length, List.length_take]; omega), hs, e3]
    exact ih (i + 1) q (by omega) (by omega)
def winnowerref02_spread.f (l0 : List Int) : Option (List Int) := if Bytes l0 ∧ l0.length ≤ 1000000 then some (spreadB l0) else none
theorem winnowerref02_spread.fits {l0 r : List Int} (_ : l0.length ≤ 9223372036854775807) (h : winnowerref02_spread.f l0 = some r) : ∃ k, winnowerref02_spread_p.f k l0 = some r := by
  unfold winnowerref02_spread.f at h
  by_cases hc : Bytes l0 ∧ l0.length ≤ 1000000
  · rw [if_pos hc] at h
    rw [← h]
    exact ⟨l0.length + 1, winnowerref02_spread.tell l0 hc.1 hc.2 l0.length 0 _ (by omega) (by omega)⟩
  · rw [if_neg hc] at h; cases h
theorem winnowerref02_spread.calls (A0 : Option Addr) (c0 : Nat) (l0 : List Int) (r : List Int) (w : World) (hr0 : Kd.C (Kd.int .u8) w A0 l0.length l0) (hc0 : l0.length ≤ c0) (h : winnowerref02_spread.f l0 = some r) :
    Calls Try.prog 28 #[.slice A0 l0.length c0] w fun e w' => ∃ v0_ : Value, e = .returned (v0_) ∧ Kd.R (Kd.int .i64) 3 w' w.heap.size (fun _ => True) v0_ r ∧ Below w.heap.size w w' := by
  obtain ⟨k, hk⟩ := winnowerref02_spread.fits hr0.2.1 h
  exact winnowerref02_spread_p.calls k A0 c0 l0 r w hr0 hc0 hk


end Go.Proofs.Ythcbcddnillipaa.S
