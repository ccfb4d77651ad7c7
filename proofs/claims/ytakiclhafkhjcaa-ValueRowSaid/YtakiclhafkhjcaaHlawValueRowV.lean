/- The law ValueRow, walked. -/
import Derived.Test.YtakiclhafkhjcaaHnum
import Derived.Test.YtakiclhafkhjcaaHval
import Derived.Test.YtakiclhafkhjcaaHvalputV
import Derived.Test.YtakiclhafkhjcaaHvalgetV
import Derived.Test.YtakiclhafkhjcaaHawake06V
import Derived.Deep.RegionHeld3
import Derived.Deep.QuietTactic
import Derived.BigQuiet
import Derived.Test.YtakiclhafkhjcaaVx0
import Derived.Test.YtakiclhafkhjcaaVx1
import Derived.Test.YtakiclhafkhjcaaVx5
import Derived.Test.YtakiclhafkhjcaaVx7
import Derived.Test.YtakiclhafkhjcaaVx10
namespace Go.Proofs.Ytakiclhafkhjcaa.V
open Go.RowKit Go.Proofs.YtakiclhafkhjcaaW.PrintWords Go.Proofs.YtakiclhafkhjcaaW.PrintLast Go.Proofs.YtakiclhafkhjcaaW.PrintMore
attribute [local go_sem] max2_int min2_int max_two min_two max_three min_three max_four min_four   -- for this text's walks alone
set_option linter.unusedVariables false
set_option linter.unusedSimpArgs false

-- SAYS The law ValueRow, walked.
-- FUNCS winnower/winnowerlaw06.ValueRow
-- NEEDS value_Put.f value_Any.f value_May.f winnowerlaw06_awake.f
-- IMPORT Derived.Test.YtakiclhafkhjcaaHnum
-- IMPORT Derived.Test.YtakiclhafkhjcaaHval
-- IMPORT Derived.Test.YtakiclhafkhjcaaHvalputV
-- IMPORT Derived.Test.YtakiclhafkhjcaaHvalgetV
-- IMPORT Derived.Test.YtakiclhafkhjcaaHawake06V
-- IMPORT Derived.Deep.RegionHeld3
-- IMPORT Derived.Deep.QuietTactic
-- IMPORT Derived.BigQuiet
open Go.Proofs.Ytakiclhafkhjcaa.Hnum Go.Proofs.Ytakiclhafkhjcaa.Hval
abbrev SV := S23
def SV.v (x : SV) : V := ⟨x.f0, x.f1, x.f2, x.f3⟩
def catB (l : List SV) : List Int := l.flatMap fun x => x.f0 :: x.v.bytes
theorem catB_nil : catB [] = [] := rfl
theorem catB_cons (x : SV) (l : List SV) : catB (x :: l) = x.f0 :: (x.v.bytes ++ catB l) := by unfold catB; rw [List.flatMap_cons]; rfl
theorem catB_snoc (l : List SV) (x : SV) : catB (l ++ [x]) = catB l ++ x.f0 :: x.v.bytes := by unfold catB; rw [List.flatMap_append]; simp
def Fine (x : SV) : Prop := x.v.may = true ∧ i64 x.f1
theorem catB_bytes {l : List SV} (h : ∀ x ∈ l, Fine x) : Bytes (catB l) := by
  induction l with
  | nil => exact Bytes.nil
  | cons x l ih =>
    rw [catB_cons]
    have hk := may_kind (h x (List.mem_cons_self ..)).1
    have hk : 0 ≤ x.f0 ∧ x.f0 ≤ 3 := hk
    exact Bytes.cons (by omega) (by omega) ((V.bytes_bytes _).append (ih (fun y hy => h y (List.mem_cons_of_mem _ hy))))
theorem catB_len {l : List SV} (h : ∀ x ∈ l, Fine x) : (catB l).length ≤ 101 * l.length := by
  induction l with
  | nil => simp [catB_nil]
  | cons x l ih =>
    rw [catB_cons, List.length_cons, List.length_append, List.length_cons]
    have h1 := h x (List.mem_cons_self ..)
    have := bytes_short h1.1 h1.2
    have := ih (fun y hy => h y (List.mem_cons_of_mem _ hy))
    omega
/-- The cells of an element. -/
structure At (w : World) (ad : Addr) (i : Nat) (x : SV) : Prop where
  c0 : w.cell? (ad.add (i * 4)) = some (.int .i64 x.f0)
  c1 : w.cell? ⟨(ad.add (i * 4)).block, (ad.add (i * 4)).off + 1, none⟩ = some (.int .i64 x.f1)
  c2 : w.cell? ⟨(ad.add (i * 4)).block, (ad.add (i * 4)).off + 2, none⟩ = some (.string x.f2)
  c3 : w.cell? ⟨(ad.add (i * 4)).block, (ad.add (i * 4)).off + 3, none⟩ = some (.bool x.f3)
theorem At.of {w : World} {ad : Addr} {l : List SV} (h : Kd.C k23 w (some ad) l.length l) {i : Nat} (hi : i < l.length) : At w ad i l[i] := by
  obtain ⟨ad', e, h0, h1, h2, h3⟩ := at_T23 h (i : Int) (by omega) (by omega)
  cases e
  have e2 : rd_T23 l (i : Int) = l[i] := by unfold rd_T23; rw [Int.toNat_natCast, List.getD_eq_getElem?_getD, List.getElem?_eq_getElem hi]; rfl
  rw [e2, Int.toNat_natCast] at h0 h1 h2 h3
  exact ⟨h0, h1, h2, h3⟩
def AtS (w : World) (ad : Addr) (i : Nat) (x : SV) : Prop := w.cell? (ad.add (i * 4)) = some (.int .i64 x.f0) ∧ w.cell? ⟨(ad.add (i * 4)).block, (ad.add (i * 4)).off + 1, none⟩ = some (.int .i64 x.f1) ∧ w.cell? ⟨(ad.add (i * 4)).block, (ad.add (i * 4)).off + 2, none⟩ = some (.string x.f2) ∧ w.cell? ⟨(ad.add (i * 4)).block, (ad.add (i * 4)).off + 3, none⟩ = some (.bool x.f3)
theorem At.s {w W : World} {ad : Addr} {l : List SV} (h : Kd.C k23 w (some ad) l.length l) {i : Nat} (hi : i < l.length) {x : SV} (hx : x = l[i]) (hb : Below w.heap.size w W) : AtS W ad i x := by
  subst hx
  have := At.of (Kd.C_below h hb) hi
  exact ⟨this.c0, this.c1, this.c2, this.c3⟩
structure Row1 (l : List SV) (w : World) (i : Nat) (v : Value) (w' : World) : Prop where
  row : Kd.R (Kd.int .u8) 5 w' w.heap.size (fun _ => True) v (catB (l.take i))
  below : Below w.heap.size w w'
  all : ∀ x ∈ l.take i, Fine x
def Row2 (l : List SV) (w : World) (i : Nat) (v : Value) (w' : World) : Prop :=
  ∃ A c, v = .slice A (catB (l.drop i)).length c ∧ (catB (l.drop i)).length ≤ c ∧ Kd.C (Kd.int .u8) w' A (catB (l.drop i)).length (catB (l.drop i)) ∧ Below w.heap.size w w'
theorem value_Put.ok {l : List Int} {x : SV} (hl : l.length < 1000000000) (hx : Fine x) : value_Put.f l x.f0 x.f1 x.f2 x.f3 = some (l ++ x.v.bytes, 0) := by
  rw [value_Put.tell hl hx.2]
  unfold V.put
  exact congrArg some (if_pos hx.1)
theorem eqRow_ (d : Nat) (w : World) (x0 y0 : Int) (x1 y1 : Int) (x2 y2 : ByteArray) (x3 y3 : Bool) :
    (Op.equalIn (d + 2) 23 (.agg #[.int .i64 x0, .int .i64 x1, .string x2, .bool x3]) (.agg #[.int .i64 y0, .int .i64 y1, .string y2, .bool y3])).run Try.prog w = .ok (x0 == y0 && (x1 == y1 && (x2.toList == y2.toList && (x3 == y3)))) w := by
  refine eqA_of Try.underlying23 (by kernel_rfl) ?_
  refine eqf_cons (by rfl) (by go_simp; rfl) (by go_simp; rfl) (by go_simp) ?_
  refine eqf_cons (by rfl) (by go_simp; rfl) (by go_simp; rfl) (by go_simp) ?_
  refine eqf_cons (by rfl) (by go_simp; rfl) (by go_simp; rfl) (by go_simp) ?_
  exact eqf_last (by rfl) (by go_simp; rfl) (by go_simp; rfl) (by go_simp)
attribute [local go_sem high] eqRow_
set_option maxHeartbeats 8000000 in
set_option maxRecDepth 100000 in
theorem winnowerlaw06_ValueRow.calls (A0 : Option Addr) (c0 : Nat) (l : List SV) (w : World) (hr : Kd.C k23 w A0 l.length l) (hc : l.length ≤ c0) (h64 : ∀ x ∈ l, i64 x.f1) :
    Calls Try.prog 7 #[.slice A0 l.length c0] w fun e w' => e = .returned (.bool true) ∧ Below w.heap.size w w' := by
  have HR := Aside0.mk hr
  have H64 := Aside0.mk h64
  have HAw := Aside0.mk awake06
  clear hr h64
  have huV := Try.underlying23
  by_cases h40 : 40 < l.length
  · have hb0 : decide ((40 : Int) < (l.length : Int)) = true := decide_eq_true (by omega)
    go_enter Try.func7, Try.ntmps7
    go_wp2_with fail
    refine (winnowerlaw06_awake.calls true _ HAw.out).mono ?_
    rintro e w1 ⟨rfl, hb⟩
    go_wp2
    go_ret
    exact ⟨rfl, hb⟩
  · have hb0 : decide ((40 : Int) < (l.length : Int)) = false := decide_eq_false (by omega)
    go_enter Try.func7, Try.ntmps7
    go_wp2_with fail
    refine (winnowerlaw06_awake.calls true _ HAw.out).mono ?_
    rintro e w1 ⟨rfl, hb⟩
    have HB := Aside0.mk hb
    clear hb
    go_wp2
    go_loopg [4, 5] l.length (fun m v4 v5 w' => ∃ i : Nat, i + m = l.length ∧ v5 = .int .i64 (i : Int) ∧ Aside0 (Row1 l w i v4 w'))
    case atStart => exact ⟨0, by omega, rfl, ⟨⟨by rw [List.take_zero]; exact Kd.R_nil _ _ _ _ _, HB.out, fun x hx => by simp at hx⟩⟩⟩
    case round =>
      obtain ⟨i, hi, rfl, HA⟩ := hrel
      by_cases hlt : i < l.length
      · have hb1 : decide ((i : Int) < (l.length : Int)) = true := decide_eq_true (by omega)
        obtain ⟨ad, rfl⟩ : ∃ ad, A0 = some ad := by obtain ⟨ad, e, _⟩ := HR.out.2.2 (by omega); exact ⟨ad, e⟩
        obtain ⟨x, hx⟩ : ∃ x, x = l[i] := ⟨_, rfl⟩
        have hat := At.of (Kd.C_below HR.out HA.out.below) hlt
        rw [← hx] at hat
        have hx64 := H64.out _ (List.getElem_mem hlt)
        rw [← hx] at hx64
        have HX := Aside0.mk hx
        have HX64 := Aside0.mk hx64
        have x0 := hat.c0
        have x1 := hat.c1
        have x2 := hat.c2
        have x3 := hat.c3
        clear hx hat hx64
        by_cases h3 : 300 < x.f2.size
        · have hb2 : decide ((300 : Int) < (x.f2.size : Int)) = true := decide_eq_true (by omega)
          go_wp2
          go_ret
          exact ⟨rfl, HA.out.below⟩
        · have hb2 : decide ((300 : Int) < (x.f2.size : Int)) = false := decide_eq_false (by omega)
          have hmt := value_May.tell x.f0 x.f1 x.f2 x.f3
          by_cases hm : x.v.may = true
          · rw [show V.may ⟨x.f0, x.f1, x.f2, x.f3⟩ = true from hm] at hmt
            have HT := Aside0.mk hmt
            have HM := Aside0.mk hm
            clear hm hmt
            go_wp2_with fail
            refine (value_May.calls _ _ _ _ true _ HT.out).mono ?_
            rintro e w2 ⟨rfl, hb⟩
            have HB2 := Aside0.mk hb
            clear hb
            have HBw := Aside0.mk (HA.out.below.trans (HB2.out.mono HA.out.below.size))
            have hat2 := At.s HR.out hlt HX.out HBw.out
            have y0 := hat2.1
            have y1 := hat2.2.1
            have y2 := hat2.2.2.1
            have y3 := hat2.2.2.2
            have HRow := Aside0.mk (Kd.R_drew (Kd.R_below HA.out.row HB2.out))
            have hk := may_kind HM.out
            have hk0 : 0 ≤ x.f0 := hk.1
            have hk3 : x.f0 ≤ 3 := hk.2
            have hwr : IntKind.u8.wrap x.f0 = x.f0 := by simp [IntKind.wrap, IntKind.bits, IntKind.signed]; omega
            have hcl := catB_len HA.out.all
            rw [List.length_take, Nat.min_eq_left (by omega)] at hcl
            have hp := value_Put.ok (l := catB (l.take i) ++ [x.f0]) (x := x) (by rw [List.length_append]; simp only [List.length_singleton]; omega) ⟨HM.out, HX64.out⟩
            have HP := Aside0.mk hp
            have HCL := Aside0.mk (show (catB (l.take i)).length ≤ 5000 by omega)
            clear hat2 hk hp hcl x0 x1 x2 x3
            go_wp2_with fail
            go_region_held3 (fun w' => w'.cell? (ad.add (i * 4)) = some (.int .i64 x.f0) ∧ w'.cell? ⟨(ad.add (i * 4)).block, (ad.add (i * 4)).off + 1, none⟩ = some (.int .i64 x.f1) ∧ w'.cell? ⟨(ad.add (i * 4)).block, (ad.add (i * 4)).off + 2, none⟩ = some (.string x.f2) ∧ w'.cell? ⟨(ad.add (i * 4)).block, (ad.add (i * 4)).off + 3, none⟩ = some (.bool x.f3))
              (first
                | exact At.s HR.out hlt HX.out (by assumption)
                | exact At.s HR.out hlt HX.out HBw.out.drew
                | exact At.s HR.out hlt HX.out (HBw.out.drew.alloc HBw.out.size _)
                | go_keep)
              (first
                | (refine Kd.R_append_step (Kd.int .u8) (w0 := w) (W := w2.drew) w.heap.size (by rfl) (.tmp 43) (.tmp 50) 24 5 (.int .u8 0) 1 rfl Try.underlying24 info5 rfl Nat.one_pos (by decide) u4 (catB (l.take i)) x.f0 [.int .u8 x.f0] (fun _ => True) (fun _ => False) rfl rfl rfl (fun _ hk => hk.elim) (fun _ _ => trivial) HRow.out HBw.out.drew HBw.out.size (by have := HCL.out; omega) ?_; intro v3 w3 hr3 hb3 hg3 ho3; have HR3 := Aside0.mk hr3; clear hr3 hg3 ho3)
                | (go_at_call 9; refine (value_Put.calls (fun _ => True) _ _ _ _ _ _ _ _ w _ hb3 HR3.out HP.out).mono ?_; rintro e w4 ⟨v4, rfl, hr4, hb4, _⟩; have HR4 := Aside0.mk hr4; clear hr4))
            have hnew : Row1 l w (i + 1) v4 w4 := ⟨by
                rw [List.take_succ_eq_append_getElem hlt, catB_snoc, ← HX.out]
                have := HR4.out
                rw [List.append_assoc, List.singleton_append] at this
                exact Kd.R_mono this (fun _ _ => trivial), hb4, fun y hy => by
                  rw [List.take_succ_eq_append_getElem hlt, List.mem_append, List.mem_singleton, ← HX.out] at hy
                  rcases hy with hy | rfl
                  · exact HA.out.all y hy
                  · exact ⟨HM.out, HX64.out⟩⟩
            have HN := Aside0.mk hnew
            clear hnew
            go_wp2
            go_roundg (gk - 1)
            case measure => omega
            case rel => exact ⟨i + 1, by omega, by go_num, HN⟩
          · rw [show V.may ⟨x.f0, x.f1, x.f2, x.f3⟩ = false from Bool.eq_false_iff.mpr hm] at hmt
            have HT := Aside0.mk hmt
            clear hm hmt
            go_wp2_with fail
            refine (value_May.calls _ _ _ _ false _ HT.out).mono ?_
            rintro e w2 ⟨rfl, hb⟩
            have HB2 := Aside0.mk hb
            clear hb
            go_wp2
            go_ret
            exact ⟨rfl, HA.out.below.trans (HB2.out.mono HA.out.below.size)⟩
      · have hb1 : decide ((i : Int) < (l.length : Int)) = false := decide_eq_false (by omega)
        obtain rfl : i = l.length := by omega
        have hrow := HA.out.row
        have hfine := HA.out.all
        rw [List.take_length] at hrow hfine
        have HF := Aside0.mk hfine
        obtain ⟨A, c, rfl, hle, hC⟩ := Kd.R_reads hrow
        have HC := Aside0.mk hC
        have HBw := Aside0.mk HA.out.below
        have hlen := catB_len HF.out
        have HCL := Aside0.mk (show (catB l).length ≤ 5000 by omega)
        clear hC hrow hfine HA hlen hb1
        obtain ⟨i05, hi05, _, hsz05, _⟩ := info_parts info5
        have Hi := Aside0.mk (And.intro hi05 hsz05)
        clear hi05 hsz05
        go_wp2
        go_loopg [4, 8] l.length (fun m v4 v8 w' => ∃ i : Nat, i + m = l.length ∧ v8 = .int .i64 (i : Int) ∧ Aside0 (Row2 l w i v4 w'))
        case atStart => exact ⟨0, by omega, rfl, ⟨A, c, rfl, hle, by rw [List.drop_zero]; exact HC.out, HBw.out⟩⟩
        case round =>
          obtain ⟨i, hi, rfl, HA⟩ := hrel
          obtain ⟨A, c, rfl, hle, hC, hB⟩ := HA.out
          have HC := Aside0.mk hC
          have HBw := Aside0.mk hB
          clear HA hC hB
          by_cases hlt : i < l.length
          · have hb1 : decide ((i : Int) < (l.length : Int)) = true := decide_eq_true (by omega)
            obtain ⟨ad, rfl⟩ : ∃ ad, A0 = some ad := by obtain ⟨ad, e, _⟩ := HR.out.2.2 (by omega); exact ⟨ad, e⟩
            obtain ⟨x, hx⟩ : ∃ x, x = l[i] := ⟨_, rfl⟩
            have hfx : Fine x := by rw [hx]; exact HF.out _ (List.getElem_mem hlt)
            have hsplit : catB (l.drop i) = x.f0 :: (x.v.bytes ++ catB (l.drop (i + 1))) := by rw [List.drop_eq_getElem_cons hlt, catB_cons, ← hx]
            have hbytes : Bytes (catB (l.drop i)) := catB_bytes (fun y hy => HF.out y (List.mem_of_mem_drop hy))
            have hcl2 : (catB (l.drop i)).length ≤ 5000 := by
              have := catB_len (l := l.drop i) (fun y hy => HF.out y (List.mem_of_mem_drop hy))
              rw [List.length_drop] at this
              omega
            have hany : value_Any.f (catB (l.drop i)) = some (x.f0, x.f1, x.f2, x.f3, ((x.v.bytes.length + 1 : Nat) : Int), 0) := by
              rw [value_Any.tell hbytes (by omega), hsplit]
              exact congrArg some (anyV_bytes hfx.1 hfx.2 _)
            have hl2 : (catB (l.drop i)).length = x.v.bytes.length + 1 + (catB (l.drop (i + 1))).length := by rw [hsplit]; simp only [List.length_cons, List.length_append]; omega
            have hd2 : (catB (l.drop i)).drop (x.v.bytes.length + 1) = catB (l.drop (i + 1)) := by rw [hsplit, List.drop_succ_cons, List.drop_left]
            obtain ⟨A', hcut, hrd', hc'⟩ := print_drop_of (P := Try.prog) (Value.int .u8) (0 : Int) 24 5 .i64 Try.underlying24 Hi.out.1 Hi.out.2 A c (catB (l.drop i)) ((x.v.bytes.length + 1 : Nat) : Int) (by omega) (by omega) hle
            rw [Int.toNat_natCast, hd2] at hcut hrd' hc'
            have HRD := Aside0.mk hrd'
            have HC' := Aside0.mk hc'
            have HX := Aside0.mk hx
            have HAny := Aside0.mk hany
            have HD2 := Aside0.mk hd2
            have hq1 : x.v.bytes.length + 1 ≤ (catB (l.drop i)).length := by omega
            obtain ⟨nb, hnb⟩ : ∃ nb : Nat, nb = x.v.bytes.length + 1 := ⟨_, rfl⟩
            rw [← hnb] at HAny hcut HC' hq1
            have hnb1 : (nb : Int) ≥ 1 := by omega
            clear hfx hsplit hbytes hx hany hd2 hrd' hc' hl2 hnb
            have hb3 : decide ((nb : Int) < 1) = false := decide_eq_false (by omega)
            have hb4 : decide ((((catB (l.drop i)).length : Nat) : Int) < (nb : Int)) = false := decide_eq_false (by omega)
            go_wp2_with fail
            refine (value_Any.calls A c (catB (l.drop i)) _ _ _ _ _ _ _ HC.out hle HAny.out).mono ?_
            rintro e w2 ⟨rfl, hb⟩
            have HB2 := Aside0.mk (HBw.out.trans (hb.mono HBw.out.size))
            have HBr := Aside0.mk (hb.alloc hb.size (.cells #[.int .i64 x.f0, .int .i64 x.f1, .string x.f2, .bool x.f3] 23))
            have HBv := Aside0.mk (HB2.out.alloc HB2.out.size (.cells #[.int .i64 x.f0, .int .i64 x.f1, .string x.f2, .bool x.f3] 23))
            clear hb
            have hat2 := At.s HR.out hlt HX.out (HB2.out.alloc HB2.out.size (.cells #[.int .i64 x.f0, .int .i64 x.f1, .string x.f2, .bool x.f3] 23))
            have y0 := hat2.1
            have y1 := hat2.2.1
            have y2 := hat2.2.2.1
            have y3 := hat2.2.2.2
            clear hat2
            go_wp2_with fail
            go_quiet (fail)
            go_wp2
            have hnew : Row2 l w (i + 1) (.slice A' (catB (l.drop (i + 1))).length (c - nb)) ((w2.alloc (.cells #[.int .i64 x.f0, .int .i64 x.f1, .string x.f2, .bool x.f3] 23)).drewN nq) :=
              ⟨A', c - nb, rfl, HC'.out, Kd.C_of_reads (enc := Value.int .u8) (h1 := fun _ => rfl) (d := (0 : Int)) (HRD.out _ (Kd.reads_of_C (enc := Value.int .u8) (h1 := fun _ => rfl) (d := (0 : Int)) (Kd.C_below HC.out (pw_below_drewN HBr.out nq)))), pw_below_drewN HBv.out nq⟩
            have HN := Aside0.mk hnew
            clear hnew
            go_roundg (gk - 1)
            case measure => omega
            case rel => exact ⟨i + 1, by omega, by go_num, HN⟩
          · have hb1 : decide ((i : Int) < (l.length : Int)) = false := decide_eq_false (by omega)
            obtain rfl : i = l.length := by omega
            rw [List.drop_length, catB_nil] at *
            go_wp2
            go_ret
            exact ⟨rfl, HBw.out⟩

end Go.Proofs.Ytakiclhafkhjcaa.V
