/- The machine side of laws, written by wip/tools/myprint.py (the printer's way, with functions proved by hand put in); Lean checks it. -/
import Derived.Shelf.Abstract
import Derived.Test.YtimomihjghefdaaDoorJ0
import Derived.Test.YtimomihjghefdaaDoorJ1
namespace Go.Proofs.YtimomihjghefdaaDoor.Q
open Go.RowKit Go.Proofs.YtimomihjghefdaaDoorW.PrintWords Go.Proofs.YtimomihjghefdaaDoorW.PrintLast Go.Proofs.YtimomihjghefdaaDoorW.PrintMore
attribute [local go_sem] max2_int min2_int max_two min_two max_three min_three max_four min_four   -- for this text's walks alone
set_option linter.unusedVariables false
set_option linter.unusedSimpArgs false

-- BY HAND: Derived.Shelf.Abstract,Derived.Test.YtimomihjghefdaaDoorHnum
/-! ### schema_Find: function 24 -/
-- HAND winnower/schema.Find making
-- SKIP slices.IndexFunc[[]winnower/api.Col,winnower/api.Col] winnower/schema.Find$1
-- IMPORT Derived.Shelf.Abstract
-- IMPORT Derived.Test.YtimomihjghefdaaDoorHnum
open Go.Shelf Go.Proofs.YtimomihjghefdaaDoor.Hnum
def findC (a1 : ByteArray) : List S45 → Int → Int
  | [], _ => -1
  | x :: t, i => if x.f0.toList == a1.toList then i else findC a1 t (i + 1)
def schema_Find.f (l0_0 : List S45) (a0_1 a0_2 a0_3 a0_4 : Int) (a1 : ByteArray) : Option Int := some (findC a1 l0_0 0)
set_option maxHeartbeats 4000000 in
set_option maxRecDepth 100000 in
theorem schema_Find_1.calls (x : S45) (a1 : ByteArray) (gn : Nat) (W : World) (hb : W.heap[gn]? = some (.cells #[.string a1] 9 (0, 0))) :
    Calls Tryd.prog 34 #[.agg #[.string x.f0, .int .i64 x.f1, .bool x.f2], .pointer (some ⟨gn, 0, none⟩)] W fun e W' => e = .returned (.bool (x.f0.toList == a1.toList)) ∧ Below W.heap.size W W' := by
  have hu := Tryd.underlying45
  have HB := Aside0.mk (Below.refl W.heap.size W)
  have BN := Aside0.mk hb
  clear hb
  go_enter Tryd.func34, Tryd.ntmps34
  go_wp2_with (first | ((with_reducible refine gate_dst (N := 2) rfl ?_); refine box_event ?hg (N := 2) ?hd (cs := #[.string x.f0, .int .i64 x.f1, .bool x.f2]) (t := 45) ?hr ?_; (case hd => rfl); (case hg => rfl); (case hr => first | (go_simp; done) | (go_simp; rfl)); intro gb hg w2 hbox hb; have n0_ := Aside0.mk (below_step HB.out hb); have hx0 : w2.cell? ⟨gb, 0, none⟩ = some (.string x.f0) := (blk_cell hbox 0).trans rfl; have hn0 : w2.cell? ⟨gn, 0, none⟩ = some (.string a1) := (blk_cell (blk_below BN.out hb) 0).trans rfl; clear HB; have HB := n0_; clear n0_ hb hbox hg))
  go_ret
  exact ⟨rfl, HB.out⟩
set_option maxHeartbeats 4000000 in
set_option maxRecDepth 100000 in
theorem indexFunc.calls (l : List S45) (A : Option Addr) (c : Nat) (a1 : ByteArray) (gn : Nat) (w : World) (hr : Kd.C k45 w A l.length l) (hb : w.heap[gn]? = some (.cells #[.string a1] 9 (0, 0))) :
    Calls Tryd.prog 33 #[.slice A l.length c, .func (.func 34) #[] #[.pointer (some ⟨gn, 0, none⟩)]] w fun e w' => e = .returned (.int .i64 (findC a1 l 0)) ∧ Below w.heap.size w w' := by
  have HB := Aside0.mk (Below.refl w.heap.size w)
  have HR := Aside0.mk hr
  have BN := Aside0.mk hb
  have HL := Aside0.mk hr.2.1
  have eg := enters_of Tryd.func34 (by kernel_rfl) rfl
  clear hr hb
  go_enter Tryd.func33, Tryd.ntmps33
  go_wp2
  go_loopg [8] l.length (fun m_ v8 wr => ∃ (k : Nat), v8 = .int .i64 (k : Int) ∧ Aside0 (k + m_ = l.length) ∧ Aside0 (findC a1 (l.drop k) (k : Int) = findC a1 l 0) ∧ Aside0 (Below w.heap.size w wr))
  case atStart => exact ⟨0, rfl, ⟨by omega⟩, ⟨by simp⟩, ⟨HB.out⟩⟩
  case round =>
    clear HB
    obtain ⟨k, rfl, HK, HF, HB⟩ := hrel
    cases gk with
    | zero =>
      have hk : k = l.length := by have := HK.out; omega
      have r1 : decide ((k : Int) < (l.length : Int)) = false := decide_eq_false (by omega)
      have r2 : decide (k < l.length) = false := decide_eq_false (by omega)
      have HE := Aside0.mk (show (-1 : Int) = findC a1 l 0 by have h := HF.out; rw [hk, List.drop_length] at h; exact h)
      clear hk
      go_wp2
      go_ret
      exact ⟨congrArg (fun z => Ending.returned (Value.int .i64 z)) HE.out, HB.out⟩
    | succ m_ =>
      have hk : k < l.length := by have := HK.out; omega
      have hkI : (k : Int) < (l.length : Int) := by omega
      have r1 : decide ((k : Int) < (l.length : Int)) = true := decide_eq_true hkI
      have r2 : decide (k < l.length) = true := decide_eq_true hk
      have r3 : (0 : Int) ≤ (k : Int) := by omega
      obtain ⟨ad, e1, x0, x1, x2⟩ := at_T45 (Kd.C_below HR.out HB.out) (k : Int) r3 hkI
      cases e1
      rw [Int.toNat_natCast] at x0 x1 x2
      have hd : l.drop k = rd_T45 l (k : Int) :: l.drop (k + 1) := by
        unfold rd_T45
        rw [List.drop_eq_getElem_cons hk, Int.toNat_natCast, List.getD_eq_getElem?_getD, List.getElem?_eq_getElem hk]
        rfl
      have HD := Aside0.mk (show (if (rd_T45 l (k : Int)).f0.toList == a1.toList then (k : Int) else findC a1 (l.drop (k + 1)) ((k : Int) + 1)) = findC a1 l 0 by rw [← HF.out, hd]; rfl)
      clear hd
      generalize rd_T45 l (k : Int) = x at x0 x1 x2 HD
      cases hq : (x.f0.toList == a1.toList) with
      | true =>
        have HD2 := Aside0.mk (show (k : Int) = findC a1 l 0 by have h := HD.out; rw [hq] at h; exact h)
        go_wp2_with (go_at_call 34; refine (schema_Find_1.calls x a1 gn _ (blk_below BN.out HB.out)).mono ?_; rintro e W ⟨rfl, hb⟩; rw [hq]; have HBn := Aside0.mk (below_step HB.out hb); clear HB hb; have HB := HBn; clear HBn)
        go_ret
        exact ⟨congrArg (fun z => Ending.returned (Value.int .i64 z)) HD2.out, HB.out⟩
      | false =>
        have HD2 := Aside0.mk (show findC a1 (l.drop (k + 1)) ((k : Int) + 1) = findC a1 l 0 by have h := HD.out; rw [hq] at h; exact h)
        go_wp2_with (go_at_call 34; refine (schema_Find_1.calls x a1 gn _ (blk_below BN.out HB.out)).mono ?_; rintro e W ⟨rfl, hb⟩; rw [hq]; have HBn := Aside0.mk (below_step HB.out hb); clear HB hb; have HB := HBn; clear HBn)
        go_roundg m_
        case measure => omega
        case rel => exact ⟨k + 1, by rw [show ((k + 1 : Nat) : Int) = (k : Int) + 1 from by omega, wrap_id (by omega) (by have := HL.out; omega)], ⟨by have := HK.out; omega⟩, ⟨HD2.out⟩, ⟨HB.out⟩⟩
set_option maxHeartbeats 4000000 in
set_option maxRecDepth 100000 in
theorem schema_Find.calls (A0_0 : Option Addr) (c0_0 : Nat) (l0_0 : List (S45)) (a0_1 : Int) (a0_2 : Int) (a0_3 : Int) (a0_4 : Int) (a1 : ByteArray) (r : Int) (w : World) (hr0_0 : Kd.C k45 w A0_0 l0_0.length l0_0) (hc0_0 : l0_0.length ≤ c0_0) (h : schema_Find.f l0_0 a0_1 a0_2 a0_3 a0_4 a1 = some r) :
    Calls Tryd.prog 24 #[.agg #[.slice A0_0 l0_0.length c0_0, .int .i64 a0_1, .int .i64 a0_2, .int .i64 a0_3, .int .i64 a0_4], .string a1] w fun e w' => e = .returned (.int .i64 r) ∧ Below w.heap.size w w' := by
  obtain rfl := Option.some.inj h
  have hu := Tryd.underlying24
  have HB := Aside0.mk (Below.refl w.heap.size w)
  have HR := Aside0.mk hr0_0
  clear hr0_0 hc0_0 h
  go_enter Tryd.func24, Tryd.ntmps24
  go_wp2_with (first
    | ((with_reducible refine gate_dst (N := 2) rfl ?_); refine box_event ?hg (N := 2) ?hd (cs := #[.slice A0_0 l0_0.length c0_0, .int .i64 a0_1, .int .i64 a0_2, .int .i64 a0_3, .int .i64 a0_4]) (t := 24) ?hr ?_; (case hd => rfl); (case hg => rfl); (case hr => first | (go_simp; done) | (go_simp; rfl)); intro gb hg w2 hbox hb; have BS := Aside0.mk hbox; have n0_ := Aside0.mk (below_step HB.out hb); clear HB; have HB := n0_; clear n0_ hb hbox hg)
    | ((with_reducible refine gate_dst (N := 3) rfl ?_); refine box_event ?hg (N := 3) ?hd (cs := #[.string a1]) (t := 9) ?hr ?_; (case hd => rfl); (case hg => rfl); (case hr => first | (go_simp; done) | (go_simp; rfl)); intro gn hg w3 hbox hb; have BN := Aside0.mk hbox; have n0_ := Aside0.mk (below_step HB.out hb); have hs0 : w3.cell? ⟨gb, 0, none⟩ = some (.slice A0_0 l0_0.length c0_0) := (blk_cell (blk_below BS.out hb) 0).trans rfl; clear HB BS; have HB := n0_; clear n0_ hb hbox hg)
    | (go_at_call 33; refine (indexFunc.calls l0_0 A0_0 c0_0 a1 gn _ (Kd.C_below HR.out HB.out) BN.out).mono ?_; rintro e w4 ⟨rfl, hb⟩; have n0_ := Aside0.mk (below_step HB.out hb); clear HB hb; have HB := n0_; clear n0_))
  go_ret
  exact ⟨rfl, HB.out⟩

end Go.Proofs.YtimomihjghefdaaDoor.Q
