/- The machine side of laws, written by wip/tools/myprint.py (the printer's way, with functions proved by hand put in); Lean checks it. -/
import Derived.Deep.MidRow
import Derived.Deep.RegionHeld3
import Derived.Deep.RegionLaw
import Derived.Deep.WholeRow
import Derived.LaidEql
import Derived.RowKitTokens
import Derived.Stop.Asserts
import Derived.Test.YtimomihjghefdaaDoorJ0
import Derived.Test.YtimomihjghefdaaDoorJ5
import Derived.WalkKit
import Derived.Test.YtimomihjghefdaaDoorJ1
import Derived.Test.YtimomihjghefdaaDoorJ2
namespace Go.Proofs.YtimomihjghefdaaDoor.Q
open Go.RowKit Go.Proofs.YtimomihjghefdaaDoorW.PrintWords Go.Proofs.YtimomihjghefdaaDoorW.PrintLast Go.Proofs.YtimomihjghefdaaDoorW.PrintMore
attribute [local go_sem] z0y z0v z0z z10 z0s z0t z0w z0x   -- for this text's walks alone
set_option linter.unusedVariables false
set_option linter.unusedSimpArgs false

-- BY HAND: Derived.WalkKit,Derived.LaidEql,Derived.Stop.Asserts,Derived.RowKitTokens,Derived.Deep.RegionHeld3,Derived.Deep.RegionLaw,Derived.Deep.MidRow,Derived.Deep.WholeRow,Derived.Test.YtimomihjghefdaaDoorHstep,Derived.Test.YtimomihjghefdaaDoorHnum
/-! ### schema_Decode: function 18 -/
-- HAND winnower/schema.Decode making glob
-- SKIP winnower/schema.column winnower/schema.decode winnower/schema.number errors.Is errors.As errors.is errors.as
-- IMPORT Derived.WalkKit
-- IMPORT Derived.LaidEql
-- IMPORT Derived.Stop.Asserts
-- IMPORT Derived.RowKitTokens
-- IMPORT Derived.Deep.RegionHeld3
-- IMPORT Derived.Deep.RegionLaw
-- IMPORT Derived.Deep.MidRow
-- IMPORT Derived.Deep.WholeRow
-- IMPORT Derived.Test.YtimomihjghefdaaDoorHstep
-- IMPORT Derived.Test.YtimomihjghefdaaDoorHnum
open Go.Extern.Stop Go.Stop Go.Extern Go.Proofs.YtimomihjghefdaaDoor.Hstep Go.Proofs.YtimomihjghefdaaDoor.Hnum
def z2a : Array Value → Sem Value := ReflectliteType.method fun t => do Rtype.noPackHeld "Comparable" t; pure (.bool (← typeInfo t).comparable)
abbrev LEFT : Value := .iface 74 (.agg #[])
theorem z9f (w : World) : Calls Tryd.prog 37 #[.nilIface, LEFT] w fun e w' => e = .returned (.bool false) ∧ w' = w := by
  have hn := run_eql_iface_nil_left (P := Tryd.prog) w 74 (.agg #[]) Tryd.underlying57
  go_enter Tryd.func37, Tryd.ntmps37
  go_wp2
  go_ret
  exact ⟨rfl, rfl⟩
theorem Is.typeOf (v : Value) (w : World) : (Extern.ReflectliteType.typeOf #[.iface 74 v]).run Tryd.prog w = .ok (.iface 113 (.agg #[.pointer (some ⟨4, 74, none⟩)])) w := by kernel_rfl
theorem Is.comparable (w : World) : (z2a #[.agg #[.pointer (some ⟨4, 74, none⟩)]]).run Tryd.prog w = .ok (.bool true) w := by kernel_rfl
theorem Is.methodComparable (v : Value) (w : World) : (Go.method 272 113 v "Comparable").run Tryd.prog w = .ok (102, v) w := by kernel_rfl
theorem Is.lacksIs (v : Value) (xT : TypeId) (w : World) : (Instr.typeAssert (.iface 72 v) xT 115 true).run Tryd.prog w = .ok (.tuple #[.nilIface, .bool false]) w := run_typeAssert_lacksB Tryd.underlying115 (by kernel_rfl) (by kernel_rfl) v xT w
theorem Is.hasUnwrap (v : Value) (xT : TypeId) (w : World) : (Instr.typeAssert (.iface 72 v) xT 118 true).run Tryd.prog w = .ok (.tuple #[.iface 72 v, .bool true]) w := run_typeAssert_hasB Tryd.underlying118 (by kernel_rfl) v xT w
theorem Is.methodUnwrap (v : Value) (w : World) : (Go.method 272 72 v "Unwrap").run Tryd.prog w = .ok (95, v) w := by kernel_rfl
theorem wrong_Unwrap.calls (g : Nat) (ci er : Int) (m : Value) (w : World) (hg : w.heap[g]? = some (.cells #[.int .i64 ci, .int .i64 er, m] 76 (0, 0))) :
    Calls Tryd.prog 95 #[.pointer (some ⟨g, 0, none⟩)] w fun e w' => e = .returned m ∧ w' = w := by
  have hw2 : w.cell? ⟨g, 2, none⟩ = some m := (z04 hg 2).trans rfl
  have hu := Tryd.underlying76
  clear hg
  go_enter Tryd.func95, Tryd.ntmps95
  go_wp2
  go_ret
  exact ⟨rfl, rfl⟩
set_option maxHeartbeats 4000000 in
set_option maxRecDepth 100000 in
theorem z6n (g : Nat) (ci er : Int) (w : World) (hg : w.heap[g]? = some (.cells #[.int .i64 ci, .int .i64 er, .nilIface] 76 (0, 0))) :
    Calls Tryd.prog 37 #[.iface 72 (.pointer (some ⟨g, 0, none⟩)), LEFT] w fun e w' => e = .returned (.bool false) ∧ w' = w := by
  have h8 := @run_callFunc_extern Tryd.prog 49 _ Extern.ReflectliteType.typeOf Tryd.func49 (by kernel_rfl) (by kernel_rfl) (by kernel_rfl) (by kernel_rfl)
  have h32 := @run_callFunc_extern Tryd.prog 102 _ z2a Tryd.func102 (by kernel_rfl) (by kernel_rfl) (by kernel_rfl) (by kernel_rfl)
  have tT := Is.typeOf
  have cT := Is.comparable
  have mC := Is.methodComparable
  have lI := Is.lacksIs
  have hU := Is.hasUnwrap
  have mU := Is.methodUnwrap
  have BG := z05.mk hg
  clear hg
  have hty := run_eql_iface_types (P := Tryd.prog) 72 74 (.pointer (some ⟨g, 0, none⟩)) (.agg #[]) Tryd.underlying57 (by decide) w
  go_enter Tryd.func37, Tryd.ntmps37
  go_wp2
  refine wp_loop_rounds 1 ?_
  rw [rounds_succ]
  go_wp2_with (go_at_call 95; refine (wrong_Unwrap.calls g ci er _ w BG.out).mono ?_; rintro e w' ⟨rfl, hw⟩; rw [hw]; clear hw)
  go_ret
  exact ⟨rfl, rfl⟩
theorem z3q (w : World) : (binOp .eql 57 LEFT LEFT).run Tryd.prog w = .ok (.bool true) w := by kernel_rfl
set_option maxHeartbeats 4000000 in
set_option maxRecDepth 100000 in
theorem z82 (g : Nat) (ci er : Int) (w : World) (hg : w.heap[g]? = some (.cells #[.int .i64 ci, .int .i64 er, LEFT] 76 (0, 0))) :
    Calls Tryd.prog 37 #[.iface 72 (.pointer (some ⟨g, 0, none⟩)), LEFT] w fun e w' => e = .returned (.bool true) ∧ w' = w := by
  have h8 := @run_callFunc_extern Tryd.prog 49 _ Extern.ReflectliteType.typeOf Tryd.func49 (by kernel_rfl) (by kernel_rfl) (by kernel_rfl) (by kernel_rfl)
  have h32 := @run_callFunc_extern Tryd.prog 102 _ z2a Tryd.func102 (by kernel_rfl) (by kernel_rfl) (by kernel_rfl) (by kernel_rfl)
  have tT := Is.typeOf
  have cT := Is.comparable
  have mC := Is.methodComparable
  have lI := Is.lacksIs
  have hU := Is.hasUnwrap
  have mU := Is.methodUnwrap
  have BG := z05.mk hg
  clear hg
  have hlt := z3q
  have hty := run_eql_iface_types (P := Tryd.prog) 72 74 (.pointer (some ⟨g, 0, none⟩)) (.agg #[]) Tryd.underlying57 (by decide) w
  go_enter Tryd.func37, Tryd.ntmps37
  go_wp2
  refine wp_loop_rounds 2 ?_
  rw [rounds_succ]
  go_wp2_with (go_at_call 95; refine (wrong_Unwrap.calls g ci er _ w BG.out).mono ?_; rintro e w' ⟨rfl, hw⟩; rw [hw]; clear hw)
  rw [rounds_succ]
  go_wp2
  go_ret
  exact ⟨rfl, rfl⟩
def xKind : Array Value → Sem Value := ReflectliteType.abiMethod fun t => do pure (.int .u8 (← Rtype.kind t))
def z8f : Array Value → Sem Value := ReflectliteType.method ReflectliteType.elem
def xImpl : Array Value → Sem Value := ReflectliteType.relation "Implements" ReflectliteType.implements_
def z5t : Array Value → Sem Value := ReflectliteType.relation "AssignableTo" ReflectliteType.assignableTo
def z44 : Array Value → Sem Value := fun args => ReflectliteValue.unpack (args.getD 0 (.tuple #[]))
def xType : Array Value → Sem Value := ReflectliteValue.methodAny (ReflectliteValue.valueError "reflectlite.Value.Type" 0) fun t _ _ _ => ReflectliteType.toType t
def z5w : Array Value → Sem Value := ReflectliteValue.method (ReflectliteValue.valueError "reflectlite.Value.IsNil" 0) ReflectliteValue.isNil
def z78 : Array Value → Sem Value := ReflectliteValue.method (ReflectliteValue.valueError "reflectlite.Value.Elem" 0) ReflectliteValue.elem
def xSet : Array Value → Sem Value := ReflectliteValue.set
abbrev RT (t : Nat) : Value := .iface 113 (.agg #[.pointer (some ⟨4, t, none⟩)])
/-- What a library's variable holds: the handle of the type error. -/
def Globs (w : World) : Prop := w.cell? ⟨0, 0, none⟩ = some (RT 57)
theorem z1j {w W : World} (h : Globs w) (hb : Below w.heap.size w W) : Globs W := (hb.cell (World.block_lt_of_cell? w _ h)).trans h
theorem As.valueOf2 (t : Addr) (w : World) : (z44 #[.iface 79 (.pointer (some t))]).run Tryd.prog w
    = .ok (.agg #[.pointer (some ⟨4, 79, none⟩), .pointer (some ⟨w.heap.size, 0, none⟩), .int .u64 150]) (w.alloc (.cells #[.pointer (some t)] 79)) := by kernel_rfl
theorem As.type2 (a : Addr) (w : World) : (xType #[.agg #[.pointer (some ⟨4, 79, none⟩), .pointer (some a), .int .u64 150]]).run Tryd.prog w = .ok (.iface 113 (.agg #[.pointer (some ⟨4, 79, none⟩)])) w := by kernel_rfl
theorem As.methodKind (h : Value) (w : World) : (Go.method 272 113 (.agg #[h]) "Kind").run Tryd.prog w = .ok (91, h) w := by kernel_rfl
theorem As.kind2 (w : World) : (xKind #[.pointer (some ⟨4, 79, none⟩)]).run Tryd.prog w = .ok (.int .u8 22) w := by kernel_rfl
theorem As.kind1 (w : World) : (xKind #[.pointer (some ⟨4, 72, none⟩)]).run Tryd.prog w = .ok (.int .u8 22) w := by kernel_rfl
theorem rlm (z : Sem Value) (f : TypeId → Addr → Nat → Nat → Sem Value) (v : Value) :
    ReflectliteValue.method z f #[v] = (do match ← ReflectliteValue.parts v with | none => z | some (t, a, fl) => f t a fl (fl % 32)) := rfl
theorem As.parts2 (a : Addr) (w : World) : (ReflectliteValue.parts (.agg #[.pointer (some ⟨4, 79, none⟩), .pointer (some a), .int .u64 150])).run Tryd.prog w = .ok (some (79, a, 150)) w := by kernel_rfl
theorem As.isNil2 (a p : Addr) (W : World) (ha : W.cell? a = some (.pointer (some p))) :
    (z5w #[.agg #[.pointer (some ⟨4, 79, none⟩), .pointer (some a), .int .u64 150]]).run Tryd.prog W = .ok (.bool false) W := by
  unfold z5w
  rw [rlm]
  simp only [Sem.run_bind, As.parts2, Result.andThen]
  simp [ReflectliteValue.isNil, loadVar, isAgg, underlying, Tryd.underlying79, ha, Result.andThen]
theorem As.methodElem (h : Value) (w : World) : (Go.method 272 113 (.agg #[h]) "Elem").run Tryd.prog w = .ok (103, .agg #[h]) w := by kernel_rfl
theorem As.methodImplements (h : Value) (w : World) : (Go.method 272 113 (.agg #[h]) "Implements").run Tryd.prog w = .ok (104, .agg #[h]) w := by kernel_rfl
theorem As.methodAssignableTo (h : Value) (w : World) : (Go.method 272 113 (.agg #[h]) "AssignableTo").run Tryd.prog w = .ok (101, .agg #[h]) w := by kernel_rfl
theorem As.elem2 (w : World) : (z8f #[.agg #[.pointer (some ⟨4, 79, none⟩)]]).run Tryd.prog w = .ok (.iface 113 (.agg #[.pointer (some ⟨4, 72, none⟩)])) w := by kernel_rfl
theorem As.implements1 (w : World) : (xImpl #[.agg #[.pointer (some ⟨4, 72, none⟩)], .iface 113 (.agg #[.pointer (some ⟨4, 57, none⟩)])]).run Tryd.prog w = .ok (.bool true) w := by kernel_rfl
theorem As.typeOf1 (v : Value) (w : World) : (ReflectliteType.typeOf #[.iface 72 v]).run Tryd.prog w = .ok (.iface 113 (.agg #[.pointer (some ⟨4, 72, none⟩)])) w := by kernel_rfl
theorem As.assignable1 (w : World) : (z5t #[.agg #[.pointer (some ⟨4, 72, none⟩)], .iface 113 (.agg #[.pointer (some ⟨4, 72, none⟩)])]).run Tryd.prog w = .ok (.bool true) w := by kernel_rfl
theorem As.valueOf1 (e : Addr) (w : World) : (z44 #[.iface 72 (.pointer (some e))]).run Tryd.prog w
    = .ok (.agg #[.pointer (some ⟨4, 72, none⟩), .pointer (some ⟨w.heap.size, 0, none⟩), .int .u64 150]) (w.alloc (.cells #[.pointer (some e)] 72)) := by kernel_rfl
theorem As.elemOf2 (w : World) : (Rtype.elem? 79).run Tryd.prog w = .ok (some 72) w := by kernel_rfl
theorem As.mk1 (p : Addr) (w : World) : (ReflectliteValue.mk 72 p ReflectliteValue.flagAddr).run Tryd.prog w = .ok (.agg #[.pointer (some ⟨4, 72, none⟩), .pointer (some p), .int .u64 406]) w := by kernel_rfl
theorem As.elemV2 (a p : Addr) (W : World) (ha : W.cell? a = some (.pointer (some p))) :
    (z78 #[.agg #[.pointer (some ⟨4, 79, none⟩), .pointer (some a), .int .u64 150]]).run Tryd.prog W
      = .ok (.agg #[.pointer (some ⟨4, 72, none⟩), .pointer (some p), .int .u64 406]) W := by
  unfold z78
  rw [rlm]
  simp only [Sem.run_bind, As.parts2, Result.andThen]
  simp [ReflectliteValue.elem, loadVar, isAgg, underlying, Tryd.underlying79, ha, Result.andThen, As.elemOf2, As.mk1]
theorem rls (v x : Value) : xSet #[v, x] = (do
    let (some (dst, a, fl), some (src, b, _)) := (← ReflectliteValue.parts v, ← ReflectliteValue.parts x)
      | unsupported (.noEntry "extern/(internal/reflectlite.Value).Set.zeroValue")
    if fl / ReflectliteValue.flagAddr % 2 == 0 then unsupported (.noEntry "extern/(internal/reflectlite.Value).Set.unaddressable")
    let val ← loadVar src b
    if ← Rtype.directlyAssignable dst src then storeVar dst a val
    else if ← Rtype.implements dst src then
      if (← Rtype.kind src) == 20 then
        match val with
        | .nilIface => unsupported (.noEntry "extern/reflectlite: a nil value of one interface type handed on as a value of another")
        | _ => storeVar dst a val
      else storeVar dst a (.iface src val)
    else panicString ("reflectlite.Set: value of type " ++ (← Rtype.spelt src) ++ " is not assignable to type " ++ (← Rtype.spelt dst))
    pure (.tuple #[])) := rfl
theorem As.parts1a (a : Addr) (w : World) : (ReflectliteValue.parts (.agg #[.pointer (some ⟨4, 72, none⟩), .pointer (some a), .int .u64 406])).run Tryd.prog w = .ok (some (72, a, 406)) w := by kernel_rfl
theorem As.parts1 (a : Addr) (w : World) : (ReflectliteValue.parts (.agg #[.pointer (some ⟨4, 72, none⟩), .pointer (some a), .int .u64 150])).run Tryd.prog w = .ok (some (72, a, 150)) w := by kernel_rfl
theorem As.direct1 (w : World) : (Rtype.directlyAssignable 72 72).run Tryd.prog w = .ok true w := by kernel_rfl
theorem As.set1 (ta b e : Addr) (old : Value) (W : World) (hb : W.cell? b = some (.pointer (some e))) (ht : W.cell? ta = some old) (hf : W.frozen? ta = false) :
    (xSet #[.agg #[.pointer (some ⟨4, 72, none⟩), .pointer (some ta), .int .u64 406], .agg #[.pointer (some ⟨4, 72, none⟩), .pointer (some b), .int .u64 150]]).run Tryd.prog W
      = .ok (.tuple #[]) (W.setCell ta (.pointer (some e))) := by
  rw [rls]
  simp only [Sem.run_bind, As.parts1a, As.parts1, Result.andThen]
  simp [ReflectliteValue.flagAddr, loadVar, isAgg, underlying, Tryd.underlying72, hb, Result.andThen, As.direct1, storeVar, Value.cells, storeCells, Addr.add]
  rw [run_store Tryd.prog W ta _ _ (by rfl)]
  simp [ht, hf]
theorem z92 (t : Value) (w : World) : Calls Tryd.prog 38 #[.nilIface, t] w fun e w' => e = .returned (.bool false) ∧ w' = w := by
  go_enter Tryd.func38, Tryd.ntmps38
  go_wp2
  go_ret
  exact ⟨rfl, rfl⟩
set_option maxHeartbeats 8000000 in
set_option maxRecDepth 100000 in
theorem z8u (e t : Addr) (old : Value) (w : World) (hg : Globs w) (ht0 : w.cell? t = some old) (hf0 : w.frozen? t = false) :
    Calls Tryd.prog 38 #[.iface 72 (.pointer (some e)), .iface 79 (.pointer (some t))] w fun ev w' => ev = .returned (.bool true) ∧ w' = ((((w.alloc (.cells #[.pointer (some t)] 79)).alloc (.cells #[.pointer (some ⟨4, 79, none⟩), .pointer (some ⟨w.heap.size, 0, none⟩), .int .u64 150] 96)).alloc (.cells #[.pointer (some ⟨4, 79, none⟩), .pointer (some ⟨w.heap.size, 0, none⟩), .int .u64 150] 96)).alloc (.cells #[.pointer (some e)] 72)).setCell t (.pointer (some e)) := by
  have h6 := @run_callFunc_extern Tryd.prog 51 _ z44 Tryd.func51 (by kernel_rfl) (by kernel_rfl) (by kernel_rfl) (by kernel_rfl)
  have h7 := @run_callFunc_extern Tryd.prog 52 _ xType Tryd.func52 (by kernel_rfl) (by kernel_rfl) (by kernel_rfl) (by kernel_rfl)
  have h8 := @run_callFunc_extern Tryd.prog 53 _ z5w Tryd.func53 (by kernel_rfl) (by kernel_rfl) (by kernel_rfl) (by kernel_rfl)
  have h27 := @run_callFunc_extern Tryd.prog 91 _ xKind Tryd.func91 (by kernel_rfl) (by kernel_rfl) (by kernel_rfl) (by kernel_rfl)
  have h37 := @run_callFunc_extern Tryd.prog 103 _ z8f Tryd.func103 (by kernel_rfl) (by kernel_rfl) (by kernel_rfl) (by kernel_rfl)
  have h38 := @run_callFunc_extern Tryd.prog 104 _ xImpl Tryd.func104 (by kernel_rfl) (by kernel_rfl) (by kernel_rfl) (by kernel_rfl)
  have h10 := @run_callFunc_extern Tryd.prog 49 _ ReflectliteType.typeOf Tryd.func49 (by kernel_rfl) (by kernel_rfl) (by kernel_rfl) (by kernel_rfl)
  have h35 := @run_callFunc_extern Tryd.prog 101 _ z5t Tryd.func101 (by kernel_rfl) (by kernel_rfl) (by kernel_rfl) (by kernel_rfl)
  have h11 := @run_callFunc_extern Tryd.prog 63 _ z78 Tryd.func63 (by kernel_rfl) (by kernel_rfl) (by kernel_rfl) (by kernel_rfl)
  have h12 := @run_callFunc_extern Tryd.prog 64 _ xSet Tryd.func64 (by kernel_rfl) (by kernel_rfl) (by kernel_rfl) (by kernel_rfl)
  have tO := As.typeOf1
  have mA := As.methodAssignableTo
  have a25 := As.assignable1
  have v25 := As.valueOf1
  have f6 := As.valueOf2
  have f7 := As.type2
  have mK := As.methodKind
  have mE := As.methodElem
  have mI := As.methodImplements
  have k29 := As.kind2
  have k39 := As.kind1
  have e27 := As.elem2
  have i25 := As.implements1
  have n8 := As.isNil2 ⟨w.heap.size, 0, none⟩ t ((w.alloc (.cells #[.pointer (some t)] 79)).alloc (.cells #[.pointer (some ⟨4, 79, none⟩), .pointer (some ⟨w.heap.size, 0, none⟩), .int .u64 150] 96)) (by simp)
  unfold Globs at hg
  have hlt : 0 < w.heap.size := World.block_lt_of_cell? w _ hg
  have hg2 : ((w.alloc (.cells #[.pointer (some t)] 79)).alloc (.cells #[.pointer (some ⟨4, 79, none⟩), .pointer (some ⟨w.heap.size, 0, none⟩), .int .u64 150] 96)).cell? ⟨0, 0, none⟩ = some (.iface 113 (.agg #[.pointer (some ⟨4, 57, none⟩)])) := by
    rw [World.cell?_alloc_lt _ _ ⟨0, 0, none⟩ (by simp), World.cell?_alloc_lt _ _ ⟨0, 0, none⟩ hlt]; exact hg
  have htl : t.block < w.heap.size := World.block_lt_of_cell? w _ ht0
  have el := As.elemV2 ⟨w.heap.size, 0, none⟩ t (((w.alloc (.cells #[.pointer (some t)] 79)).alloc (.cells #[.pointer (some ⟨4, 79, none⟩), .pointer (some ⟨w.heap.size, 0, none⟩), .int .u64 150] 96)).alloc (.cells #[.pointer (some ⟨4, 79, none⟩), .pointer (some ⟨w.heap.size, 0, none⟩), .int .u64 150] 96)) (by rw [World.cell?_alloc_lt _ _ ⟨w.heap.size, 0, none⟩ (by simp; omega)]; simp)
  have st := As.set1 t ⟨w.heap.size + 1 + 1 + 1, 0, none⟩ e old ((((w.alloc (.cells #[.pointer (some t)] 79)).alloc (.cells #[.pointer (some ⟨4, 79, none⟩), .pointer (some ⟨w.heap.size, 0, none⟩), .int .u64 150] 96)).alloc (.cells #[.pointer (some ⟨4, 79, none⟩), .pointer (some ⟨w.heap.size, 0, none⟩), .int .u64 150] 96)).alloc (.cells #[.pointer (some e)] 72))
    (by rw [World.cell?_alloc_at _ _ _ _ (by simp)]; rfl)
    (by rw [World.cell?_alloc_lt _ _ t (by simp; omega), World.cell?_alloc_lt _ _ t (by simp; omega), World.cell?_alloc_lt _ _ t (by simp; omega), World.cell?_alloc_lt _ _ t htl]; exact ht0)
    (by rw [World.frozen?_alloc_old _ _ t (by simp; omega), World.frozen?_alloc_old _ _ t (by simp; omega), World.frozen?_alloc_old _ _ t (by simp; omega), World.frozen?_alloc_old _ _ t (Nat.ne_of_lt htl)]; exact hf0)
  go_enter Tryd.func38, Tryd.ntmps38
  go_wp2
  refine wp_loop_rounds 1 ?_
  rw [rounds_succ]
  go_wp2
  go_ret
  exact ⟨rfl, rfl⟩
theorem z9b (e : Addr) (gt : Nat) (w : World) (hg : Globs w) (hb : w.heap[gt]? = some (.cells #[.pointer none] 72 (0, 0))) :
    Calls Tryd.prog 38 #[.iface 72 (.pointer (some e)), .iface 79 (.pointer (some ⟨gt, 0, none⟩))] w fun ev w' => ev = .returned (.bool true) ∧ w'.heap[gt]? = some (.cells #[.pointer (some e)] 72 (0, 0)) ∧ Step gt w w' := by
  refine (z8u e ⟨gt, 0, none⟩ (.pointer none) w hg ((z04 hb 0).trans rfl) (z01 hb 0)).mono ?_
  rintro ev w' ⟨he, hw⟩
  subst hw
  refine ⟨he, ?_, (Step.of_below (z02 (z02 (z02 (z02 (Below.refl _ _) _) _) _) _)).set_ 0 _⟩
  have h_ := z26 (z06 (z06 (z06 (z06 hb (.cells #[.pointer (some ⟨gt, 0, none⟩)] 79)) (.cells #[.pointer (some ⟨4, 79, none⟩), .pointer (some ⟨w.heap.size, 0, none⟩), .int .u64 150] 96)) (.cells #[.pointer (some ⟨4, 79, none⟩), .pointer (some ⟨w.heap.size, 0, none⟩), .int .u64 150] 96)) (.cells #[.pointer (some e)] 72)) 0 (.pointer (some e))
  simp only [List.setIfInBounds_toArray, List.set_cons_zero] at h_
  exact h_
/-- An error of this package, by its number. -/
def ErrD (w : World) (E : Value) (er : Int) : Prop := (er = 0 ∧ E = .nilIface) ∨ (∃ g ci, E = .iface 72 (.pointer (some ⟨g, 0, none⟩)) ∧ w.heap[g]? = some (.cells #[.int .i64 ci, .int .i64 er, .nilIface] 76 (0, 0))) ∨
  (er = 7 ∧ ∃ g ci e', E = .iface 72 (.pointer (some ⟨g, 0, none⟩)) ∧ w.heap[g]? = some (.cells #[.int .i64 ci, .int .i64 e', LEFT] 76 (0, 0)))
theorem ErrD.below {w W : World} {E : Value} {er : Int} (h : ErrD w E er) (hb : Below w.heap.size w W) : ErrD W E er := by
  rcases h with h | ⟨g, ci, h1, h2⟩ | ⟨h0, g, ci, e', h1, h2⟩
  · exact .inl h
  · exact .inr (.inl ⟨g, ci, h1, z0e h2 hb⟩)
  · exact .inr (.inr ⟨h0, g, ci, e', h1, z0e h2 hb⟩)
set_option maxHeartbeats 8000000 in
set_option maxRecDepth 100000 in
theorem schema_number.calls (E : Value) (er : Int) (w : World) (hG : Globs w) (hE : ErrD w E er) : Calls Tryd.prog 28 #[E] w fun e w' => e = .returned (.int .i64 er) ∧ Below w.heap.size w w' := by
  have HB := z05.mk (Below.refl w.heap.size w)
  have HG := z05.mk hG
  have hu75 := Tryd.underlying76
  have ar : ∀ {W : World}, True := trivial
  rcases hE with ⟨rfl, rfl⟩ | ⟨g, ci, rfl, hg⟩ | ⟨rfl, g, ci, e', rfl, hg⟩
  · clear hG
    go_enter Tryd.func28, Tryd.ntmps28
    go_wp2_with (first
      | ((with_reducible refine z0h (N := 3) rfl ?_); refine z0g ?hg (N := 3) ?hd (cs := #[.pointer none]) (t := 72) ?hr ?_; (case hd => rfl); (case hg => rfl); (case hr => first | (go_simp; done) | (go_simp; rfl)); intro gt hgt w1 hbox hb; have n0_ := z05.mk (z0a HB.out hb); clear HB; have HB := n0_; clear n0_ hb hbox hgt)
      | (go_at_call 37; refine (z9f _).mono ?_; rintro e w' ⟨rfl, hw⟩; rw [hw]; clear hw)
      | (go_at_call 38; refine (z92 _ _).mono ?_; rintro e w' ⟨rfl, hw⟩; rw [hw]; clear hw))
    go_ret
    exact ⟨rfl, HB.out⟩
  · have BG := z05.mk hg
    clear hg hG
    go_enter Tryd.func28, Tryd.ntmps28
    go_wp2_with (first
      | ((with_reducible refine z0h (N := 3) rfl ?_); refine z0g ?hg (N := 3) ?hd (cs := #[.pointer none]) (t := 72) ?hr ?_; (case hd => rfl); (case hg => rfl); (case hr => first | (go_simp; done) | (go_simp; rfl)); intro gt hgt w1 hbox hb; have n0_ := z05.mk (z0a HB.out hb); have BT := z05.mk hbox; have GT := z05.mk (show w.heap.size ≤ gt by rw [hgt]; exact HB.out.size); have NE := z05.mk (show g ≠ gt by rw [hgt]; exact Nat.ne_of_lt (z0q BG.out)); have BG2 := z05.mk (z0e BG.out hb); have HG2 := z05.mk (z1j HG.out hb); clear HB BG HG; have HB := n0_; have BG := BG2; have HG := HG2; clear n0_ hb hbox hgt BG2 HG2)
      | (go_at_call 37; refine (z6n g ci er _ BG.out).mono ?_; rintro e w' ⟨rfl, hw⟩; rw [hw]; clear hw)
      | (go_at_call 38; refine (z9b ⟨g, 0, none⟩ gt _ HG.out BT.out).mono ?_; rintro e w2 ⟨rfl, hb, st⟩; have BT2 := z05.mk hb; have BG2 := z05.mk (st.blk BG.out NE.out); have HB2 := z05.mk (st.fresh HB.out GT.out); clear HB BG BT hb st; have HB := HB2; have BG := BG2; have BT := BT2; clear HB2 BG2 BT2; have ht0 : w2.cell? ⟨gt, 0, none⟩ = some (.pointer (some ⟨g, 0, none⟩)) := (z04 BT.out 0).trans rfl; have hg1 : w2.cell? ⟨g, 1, none⟩ = some (.int .i64 er) := (z04 BG.out 1).trans rfl))
    go_ret
    exact ⟨rfl, HB.out⟩
  · have BG := z05.mk hg
    clear hg hG
    go_enter Tryd.func28, Tryd.ntmps28
    go_wp2_with (first
      | ((with_reducible refine z0h (N := 3) rfl ?_); refine z0g ?hg (N := 3) ?hd (cs := #[.pointer none]) (t := 72) ?hr ?_; (case hd => rfl); (case hg => rfl); (case hr => first | (go_simp; done) | (go_simp; rfl)); intro gt hgt w1 hbox hb; have n0_ := z05.mk (z0a HB.out hb); have BG2 := z05.mk (z0e BG.out hb); clear HB BG; have HB := n0_; have BG := BG2; clear n0_ hb hbox hgt BG2)
      | (go_at_call 37; refine (z82 g ci e' _ BG.out).mono ?_; rintro e w' ⟨rfl, hw⟩; rw [hw]; clear hw))
    go_ret
    exact ⟨rfl, HB.out⟩
theorem z1m : (Tryd.prog.info? 63).map (·.size) = some 4 := by kernel_rfl
theorem z8b (w : World) (g : Nat) (t : TypeId) (z0 z1 z2 z3 u0 u1 u2 u3 : Value) (h : w.heap[g]? = some (.cells #[z0, z1, z2, z3] t (0, 0))) : ∃ W, W = ((((w.setCell ⟨g, 0, none⟩ u0).setCell ⟨g, 1, none⟩ u1).setCell ⟨g, 2, none⟩ u2).setCell ⟨g, 3, none⟩ u3) ∧ W.heap[g]? = some (.cells #[u0, u1, u2, u3] t (0, 0)) ∧ Step g w W := by
  refine ⟨_, rfl, ?_, ((((Step.refl g w).set_ 0 u0).set_ 1 u1).set_ 2 u2).set_ 3 u3⟩
  have h_ := z26 (z26 (z26 (z26 h 0 u0) 1 u1) 2 u2) 3 u3
  simp only [List.setIfInBounds_toArray, List.set_cons_zero, List.set_cons_succ] at h_
  exact h_
set_option maxHeartbeats 8000000 in
set_option maxRecDepth 100000 in
theorem z1r (x : S45) (i : Int) (l : List Int) (A : Option Addr) (c : Nat) (hd : Nat) (hI : Int) (hhI : hI = (hd : Int)) (v1 v2 : Int) (v3 : ByteArray) (v4 : Bool) (n er : Int) (g3 g6 : Nat) {t0 t4 t5 t7 t8 t10 t11 t12 t13 t14 t15 t16 t17 t18 t19 t20 t21 t22 t23 t24 t25 t26 t27 t28 t29 t30 t31 t32 t33 t34 t35 t36 t37 t38 t39 t40 t41 t42 t43 t44 t45 t46 t47 t48 t49 t50 t51 t52 t53 t54 t55 t56 t57 t58 t59 t60 t61 : Value} (w0_ : World) (hb3 : w0_.heap[g3]? = some (.cells #[.string x.f0, .int .i64 x.f1, .bool x.f2] 45 (0, 0))) (hr : Kd.C (Kd.int .u8) w0_ A l.length l) (hc : l.length ≤ c) (hhd : hd ≤ l.length) (hV : value_Get.f (l.drop hd) x.f1 = some (v1, v2, v3, v4, n, er)) (Q : Exit → Act → World → Prop) (hP : ∀ c (a : Act) (d : Option Nat) (u : Value) (w : World), Q (.panic c) (a.put d u) w → Q (.panic c) a w)
    (hQ : ∀ (y43 : Value) (g10 : Nat) (w' : World), Below w0_.heap.size w0_ w' → w'.heap[g10]? = some (.cells #[.int .i64 v1, .int .i64 v2, .string v3, .bool v4] 63 (0, 0)) → Q .normal { tmps := #[t0, .int .i64 i, .slice A l.length c, .pointer (some ⟨g3, 0, none⟩), t4, t5, .pointer (some ⟨g6, 0, none⟩), t7, t8, .int .i64 hI, .pointer (some ⟨g10, 0, none⟩), .int .i64 n, .int .i64 er, t13, t14, t15, t16, t17, t18, t19, t20, t21, t22, t23, t24, t25, t26, t27, t28, t29, t30, t31, t32, t33, t34, t35, t36, t37, t38, t39, .tuple #[.agg #[.int .i64 v1, .int .i64 v2, .string v3, .bool v4], .int .i64 n, .int .i64 er], .slice A l.length c, .int .i64 hI, y43, .pointer (some ⟨g3, 1, none⟩), .int .i64 x.f1, .tuple #[.agg #[.int .i64 v1, .int .i64 v2, .string v3, .bool v4], .int .i64 n, .int .i64 er], .agg #[.int .i64 v1, .int .i64 v2, .string v3, .bool v4], .int .i64 n, .int .i64 er, t50, t51, t52, t53, t54, t55, t56, t57, t58, t59, t60, t61], defers := [] } w') :
    (Code.region 10 #[{ dst := some 41, op := Op.move (Operand.tmp 2), type := 42, pos := "schema.go:116", after := #[], guard := none }, { dst := some 42, op := Op.move (Operand.tmp 9), type := 3, pos := "schema.go:116", after := #[], guard := none }, { dst := some 43, op := Op.slice 42 (Operand.tmp 41) (some (Operand.tmp 42)) none none, type := 42, pos := "schema.go:116", after := #[{ on := 0, ground := Ground.data }, { on := 1, ground := Ground.data }], guard := none }, { dst := some 44, op := Op.fieldAddr 45 (Operand.tmp 3) 1, type := 0, pos := "schema.go:116", after := #[], guard := none }, { dst := some 45, op := Op.load 3 (Operand.tmp 44), type := 3, pos := "schema.go:116", after := #[{ on := 3, ground := Ground.data }], guard := none }, { dst := some 46, op := Op.call { callee := Callee.value (Operand.func 48), args := #[Operand.tmp 43, Operand.tmp 45], argTypes := #[42, 3] }, type := 64, pos := "schema.go:116", after := #[{ on := 2, ground := Ground.data }, { on := 4, ground := Ground.data }], guard := none }, { dst := some 40, op := Op.move (Operand.tmp 46), type := 64, pos := "schema.go:116", after := #[{ on := 5, ground := Ground.data }], guard := none }, { dst := some 47, op := Op.extract (Operand.tmp 40) 0, type := 63, pos := "schema.go:116", after := #[{ on := 6, ground := Ground.data }], guard := none }, { dst := some 48, op := Op.extract (Operand.tmp 40) 1, type := 3, pos := "schema.go:116", after := #[{ on := 6, ground := Ground.data }, { on := 11, ground := Ground.gcOnly Departure.lateStores }], guard := none }, { dst := some 49, op := Op.extract (Operand.tmp 40) 2, type := 32, pos := "schema.go:116", after := #[{ on := 6, ground := Ground.data }, { on := 12, ground := Ground.gcOnly Departure.lateStores }], guard := none }, { dst := some 10, op := Op.alloc 63, type := 0, pos := "schema.go:116", after := #[], guard := none }, { dst := none, op := Op.store 63 (Operand.tmp 10) (Operand.tmp 47), type := 0, pos := "schema.go:116", after := #[{ on := 10, ground := Ground.data }, { on := 7, ground := Ground.data }, { on := 5, ground := Ground.chain }, { on := 0, ground := Ground.phase }, { on := 1, ground := Ground.phase }, { on := 2, ground := Ground.phase }, { on := 3, ground := Ground.phase }, { on := 4, ground := Ground.phase }, { on := 5, ground := Ground.phase }, { on := 6, ground := Ground.phase }, { on := 7, ground := Ground.phase }, { on := 8, ground := Ground.textOnly Departure.lateStores }, { on := 9, ground := Ground.textOnly Departure.lateStores }, { on := 10, ground := Ground.phase }], guard := none }, { dst := some 11, op := Op.assign (Operand.tmp 48), type := 3, pos := "schema.go:116", after := #[{ on := 8, ground := Ground.data }, { on := 11, ground := Ground.chain }, { on := 0, ground := Ground.phase }, { on := 1, ground := Ground.phase }, { on := 2, ground := Ground.phase }, { on := 3, ground := Ground.phase }, { on := 4, ground := Ground.phase }, { on := 5, ground := Ground.phase }, { on := 6, ground := Ground.phase }, { on := 7, ground := Ground.phase }, { on := 8, ground := Ground.phase }, { on := 9, ground := Ground.textOnly Departure.lateStores }, { on := 10, ground := Ground.phase }, { on := 11, ground := Ground.phase }], guard := none }, { dst := some 12, op := Op.assign (Operand.tmp 49), type := 32, pos := "schema.go:116", after := #[{ on := 9, ground := Ground.data }, { on := 12, ground := Ground.chain }, { on := 0, ground := Ground.phase }, { on := 1, ground := Ground.phase }, { on := 2, ground := Ground.phase }, { on := 3, ground := Ground.phase }, { on := 4, ground := Ground.phase }, { on := 5, ground := Ground.phase }, { on := 6, ground := Ground.phase }, { on := 7, ground := Ground.phase }, { on := 8, ground := Ground.phase }, { on := 9, ground := Ground.phase }, { on := 10, ground := Ground.phase }, { on := 11, ground := Ground.phase }, { on := 12, ground := Ground.phase }], guard := none }] true).wp Tryd.prog Q { tmps := #[t0, .int .i64 i, .slice A l.length c, .pointer (some ⟨g3, 0, none⟩), t4, t5, .pointer (some ⟨g6, 0, none⟩), t7, t8, .int .i64 hI, t10, t11, t12, t13, t14, t15, t16, t17, t18, t19, t20, t21, t22, t23, t24, t25, t26, t27, t28, t29, t30, t31, t32, t33, t34, t35, t36, t37, t38, t39, t40, t41, t42, t43, t44, t45, t46, t47, t48, t49, t50, t51, t52, t53, t54, t55, t56, t57, t58, t59, t60, t61], defers := [] } w0_ := by
  subst hhI
  have hu48 := Tryd.underlying45
  have hu46 := Tryd.underlying63
  have HB0 := z05.mk hb3
  have HR := z05.mk hr
  have HC := z05.mk hc
  have HV := z05.mk hV
  have HQ := z05.mk hQ
  have HP := z05.mk hP
  have HHD := z05.mk hhd
  obtain ⟨i5, hi5, hs5⟩ : ∃ i, Tryd.prog.info? 5 = some i ∧ i.size = 1 := Option.map_eq_some_iff.1 (by kernel_rfl)
  have hcut := z1z (P := Tryd.prog) 42 5 .i64 Tryd.underlying42 hi5 1 hs5 A l.length c (hd : Int) (by omega) (by omega)
  rw [Int.toNat_natCast] at hcut
  have HRD := z05.mk (Kd.C_drop hr hhd hc)
  have hsz : (Kd.int .u8).sz = 1 := rfl
  rw [hsz] at HRD
  obtain ⟨A2, hA2⟩ : ∃ A2, (if c = hd then A else A.map (·.add (hd * 1))) = A2 := ⟨_, rfl⟩
  rw [hA2] at hcut HRD
  obtain ⟨l2, hl2⟩ : ∃ l2, l.drop hd = l2 := ⟨_, rfl⟩
  rw [hl2] at HRD HV
  have hln : l.length - hd = l2.length := by rw [← hl2, List.length_drop]
  rw [hln] at hcut
  have HCL := z05.mk (show l2.length ≤ c - hd by rw [← hln]; omega)
  clear hb3 hr hc hV hQ hP hhd hA2 hl2 hln hsz
  refine wp_region_held (S := Below w0_.heap.size w0_) (by kernel_rfl) ?_
  have HB := z05.mk (z03 (Below.refl w0_.heap.size w0_))
  obtain ⟨W0, hW0⟩ : ∃ W, W = w0_.drew := ⟨_, rfl⟩
  have hW0_ : ({ w0_ with drawn := w0_.drawn + 1 } : World) = W0 := hW0.symm
  rw [hW0_]
  rw [← hW0] at HB
  clear hW0 hW0_
  refine wpAnyH_take (i := 0) (oi := ({ dst := some 41, op := Op.move (Operand.tmp 2), type := 42, pos := "schema.go:116", after := #[], guard := none } : Oper)) (v := ?_) rfl (by kernel_rfl) (by kernel_rfl) (by kernel_rfl) (fun c a w => HP.out c a _ _ w) (Or.inl ⟨by rfl, ?_⟩) HB.out ?_
  rotate_left
  · intro w_ _; go_simp; (try (with_reducible rfl))
  (try simp only [Act.put, List.setIfInBounds_toArray, List.set_cons_zero, List.set_cons_succ])
  refine wpAnyH_take (i := 1) (oi := ({ dst := some 42, op := Op.move (Operand.tmp 9), type := 3, pos := "schema.go:116", after := #[], guard := none } : Oper)) (v := ?_) rfl (by kernel_rfl) (by kernel_rfl) (by kernel_rfl) (fun c a w => HP.out c a _ _ w) (Or.inl ⟨by rfl, ?_⟩) HB.out ?_
  rotate_left
  · intro w_ _; go_simp; (try (with_reducible rfl))
  (try simp only [Act.put, List.setIfInBounds_toArray, List.set_cons_zero, List.set_cons_succ])
  refine wpAnyH_take (i := 2) (oi := ({ dst := some 43, op := Op.slice 42 (Operand.tmp 41) (some (Operand.tmp 42)) none none, type := 42, pos := "schema.go:116", after := #[{ on := 0, ground := Ground.data }, { on := 1, ground := Ground.data }], guard := none } : Oper)) (v := ?_) rfl (by kernel_rfl) (by kernel_rfl) (by kernel_rfl) (fun c a w => HP.out c a _ _ w) (Or.inl ⟨by rfl, ?_⟩) HB.out ?_
  rotate_left
  · intro w_ _; go_simp; (try (with_reducible rfl))
  (try simp only [Act.put, List.setIfInBounds_toArray, List.set_cons_zero, List.set_cons_succ])
  refine wpAnyH_take (i := 3) (oi := ({ dst := some 44, op := Op.fieldAddr 45 (Operand.tmp 3) 1, type := 0, pos := "schema.go:116", after := #[], guard := none } : Oper)) (v := ?_) rfl (by kernel_rfl) (by kernel_rfl) (by kernel_rfl) (fun c a w => HP.out c a _ _ w) (Or.inl ⟨by rfl, ?_⟩) HB.out ?_
  rotate_left
  · intro w_ _; go_simp; (try (with_reducible rfl))
  (try simp only [Act.put, List.setIfInBounds_toArray, List.set_cons_zero, List.set_cons_succ])
  refine wpAnyH_take (i := 4) (oi := ({ dst := some 45, op := Op.load 3 (Operand.tmp 44), type := 3, pos := "schema.go:116", after := #[{ on := 3, ground := Ground.data }], guard := none } : Oper)) (v := ?_) rfl (by kernel_rfl) (by kernel_rfl) (by kernel_rfl) (fun c a w => HP.out c a _ _ w) (Or.inl ⟨by rfl, ?_⟩) HB.out ?_
  rotate_left
  · intro w_ hS_; have B_ := z0e HB0.out hS_; have hv1 : w_.cell? ⟨g3, 1, none⟩ = some (.int .i64 x.f1) := (z04 B_ 1).trans rfl; clear B_ hS_; go_simp; (try (with_reducible rfl))
  (try simp only [Act.put, List.setIfInBounds_toArray, List.set_cons_zero, List.set_cons_succ])
  refine wpAnyH_ready (rs := [5, 10]) (by kernel_rfl) (by simp) ?_
  refine AllReadyH.cons (o := ({ dst := some 46, op := Op.call { callee := Callee.value (Operand.func 48), args := #[Operand.tmp 43, Operand.tmp 45], argTypes := #[42, 3] }, type := 64, pos := "schema.go:116", after := #[{ on := 2, ground := Ground.data }, { on := 4, ground := Ground.data }], guard := none } : Oper)) rfl (fun K hK => ?_) ?_
  · go_simp
    go_at_call 48
    refine (value_Get.calls A2 (c - hd) l2 x.f1 v1 v2 v3 v4 n er _ (Kd.C_below HRD.out HB.out) HCL.out HV.out).mono ?_
    rintro e W1 ⟨rfl, hbn⟩
    have HBn := z05.mk (z0a HB.out hbn)
    clear HB hbn
    have HB := HBn
    clear HBn
    (try dsimp only)
    refine hK.out _ _ HB.out (fun _ => ?_)
    clear hK K
    (try simp only [Act.put, List.setIfInBounds_toArray, List.set_cons_zero, List.set_cons_succ])
    refine wpAnyH_take (i := 6) (oi := ({ dst := some 40, op := Op.move (Operand.tmp 46), type := 64, pos := "schema.go:116", after := #[{ on := 5, ground := Ground.data }], guard := none } : Oper)) (v := ?_) rfl (by kernel_rfl) (by kernel_rfl) (by kernel_rfl) (fun c a w => HP.out c a _ _ w) (Or.inl ⟨by rfl, ?_⟩) HB.out ?_
    rotate_left
    · intro w_ _; go_simp; (try (with_reducible rfl))
    (try simp only [Act.put, List.setIfInBounds_toArray, List.set_cons_zero, List.set_cons_succ])
    refine wpAnyH_take (i := 7) (oi := ({ dst := some 47, op := Op.extract (Operand.tmp 40) 0, type := 63, pos := "schema.go:116", after := #[{ on := 6, ground := Ground.data }], guard := none } : Oper)) (v := ?_) rfl (by kernel_rfl) (by kernel_rfl) (by kernel_rfl) (fun c a w => HP.out c a _ _ w) (Or.inl ⟨by rfl, ?_⟩) HB.out ?_
    rotate_left
    · intro w_ _; go_simp; (try (with_reducible rfl))
    (try simp only [Act.put, List.setIfInBounds_toArray, List.set_cons_zero, List.set_cons_succ])
    refine wpAnyH_take (i := 8) (oi := ({ dst := some 48, op := Op.extract (Operand.tmp 40) 1, type := 3, pos := "schema.go:116", after := #[{ on := 6, ground := Ground.data }, { on := 11, ground := Ground.gcOnly Departure.lateStores }], guard := none } : Oper)) (v := ?_) rfl (by kernel_rfl) (by kernel_rfl) (by kernel_rfl) (fun c a w => HP.out c a _ _ w) (Or.inl ⟨by rfl, ?_⟩) HB.out ?_
    rotate_left
    · intro w_ _; go_simp; (try (with_reducible rfl))
    (try simp only [Act.put, List.setIfInBounds_toArray, List.set_cons_zero, List.set_cons_succ])
    refine wpAnyH_take (i := 9) (oi := ({ dst := some 49, op := Op.extract (Operand.tmp 40) 2, type := 32, pos := "schema.go:116", after := #[{ on := 6, ground := Ground.data }, { on := 12, ground := Ground.gcOnly Departure.lateStores }], guard := none } : Oper)) (v := ?_) rfl (by kernel_rfl) (by kernel_rfl) (by kernel_rfl) (fun c a w => HP.out c a _ _ w) (Or.inl ⟨by rfl, ?_⟩) HB.out ?_
    rotate_left
    · intro w_ _; go_simp; (try (with_reducible rfl))
    (try simp only [Act.put, List.setIfInBounds_toArray, List.set_cons_zero, List.set_cons_succ])
    refine wpAnyH_ready (rs := [10]) (by kernel_rfl) (by simp) ?_
    refine AllReadyH.cons (o := ({ dst := some 10, op := Op.alloc 63, type := 0, pos := "schema.go:116", after := #[], guard := none } : Oper)) rfl (fun K hK => ?_) ?_
    · go_simp
      have hbn := z02 (Below.refl W1.heap.size W1) (.cells #[.int .i64 0, .int .i64 0, .string ⟨#[]⟩, .bool false] 63 (0, 0))
      have hge := HB.out.size
      obtain ⟨gE, hgE⟩ : ∃ g, g = W1.heap.size := ⟨_, rfl⟩
      have BE := heap_alloc_last W1 (.cells #[.int .i64 0, .int .i64 0, .string ⟨#[]⟩, .bool false] 63 (0, 0))
      obtain ⟨W2, hW2⟩ : ∃ W, W = W1.alloc (.cells #[.int .i64 0, .int .i64 0, .string ⟨#[]⟩, .bool false] 63 (0, 0)) := ⟨_, rfl⟩
      rw [← hW2]
      rw [← hgE]
      rw [← hW2] at hbn BE
      rw [← hgE] at BE hge
      have BE := z05.mk BE
      have GE := z05.mk hge
      clear hge hgE hW2
      have HBn := z05.mk (z0a HB.out hbn)
      clear HB hbn
      have HB := HBn
      clear HBn
      refine hK.out _ _ HB.out (fun _ => ?_)
      clear hK K
      (try simp only [Act.put, List.setIfInBounds_toArray, List.set_cons_zero, List.set_cons_succ])
      refine wpAnyH_ready (rs := [11]) (by kernel_rfl) (by simp) ?_
      refine AllReadyH.cons (o := ({ dst := none, op := Op.store 63 (Operand.tmp 10) (Operand.tmp 47), type := 0, pos := "schema.go:116", after := #[{ on := 10, ground := Ground.data }, { on := 7, ground := Ground.data }, { on := 5, ground := Ground.chain }, { on := 0, ground := Ground.phase }, { on := 1, ground := Ground.phase }, { on := 2, ground := Ground.phase }, { on := 3, ground := Ground.phase }, { on := 4, ground := Ground.phase }, { on := 5, ground := Ground.phase }, { on := 6, ground := Ground.phase }, { on := 7, ground := Ground.phase }, { on := 8, ground := Ground.textOnly Departure.lateStores }, { on := 9, ground := Ground.textOnly Departure.lateStores }, { on := 10, ground := Ground.phase }], guard := none } : Oper)) rfl (fun K hK => ?_) ?_
      · have hz0 : W2.cell? ⟨gE, 0, none⟩ = some (.int .i64 0) := (z04 BE.out 0).trans rfl
        have fz0 := z01 BE.out 0
        have hz1 : W2.cell? ⟨gE, 1, none⟩ = some (.int .i64 0) := (z04 BE.out 1).trans rfl
        have fz1 := z01 BE.out 1
        have hz2 : W2.cell? ⟨gE, 2, none⟩ = some (.string ⟨#[]⟩) := (z04 BE.out 2).trans rfl
        have fz2 := z01 BE.out 2
        have hz3 : W2.cell? ⟨gE, 3, none⟩ = some (.bool false) := (z04 BE.out 3).trans rfl
        have fz3 := z01 BE.out 3
        go_simp
        obtain ⟨W3, hW3, b6, st6⟩ := z8b W2 gE 63 (.int .i64 0) (.int .i64 0) (.string ⟨#[]⟩) (.bool false) (.int .i64 v1) (.int .i64 v2) (.string v3) (.bool v4) BE.out
        rw [← hW3]
        have HBn := z05.mk (st6.fresh HB.out GE.out)
        have BF := z05.mk b6
        clear hz0 hz1 hz2 hz3 fz0 fz1 fz2 fz3 HB BE hW3 b6 st6
        have HB := HBn
        clear HBn
        refine hK.out _ _ HB.out (fun _ => ?_)
        clear hK K
        (try simp only [Act.put, List.setIfInBounds_toArray, List.set_cons_zero, List.set_cons_succ])
        refine wpAnyH_take (i := 12) (oi := ({ dst := some 11, op := Op.assign (Operand.tmp 48), type := 3, pos := "schema.go:116", after := #[{ on := 8, ground := Ground.data }, { on := 11, ground := Ground.chain }, { on := 0, ground := Ground.phase }, { on := 1, ground := Ground.phase }, { on := 2, ground := Ground.phase }, { on := 3, ground := Ground.phase }, { on := 4, ground := Ground.phase }, { on := 5, ground := Ground.phase }, { on := 6, ground := Ground.phase }, { on := 7, ground := Ground.phase }, { on := 8, ground := Ground.phase }, { on := 9, ground := Ground.textOnly Departure.lateStores }, { on := 10, ground := Ground.phase }, { on := 11, ground := Ground.phase }], guard := none } : Oper)) (v := ?_) rfl (by kernel_rfl) (by kernel_rfl) (by kernel_rfl) (fun c a w => HP.out c a _ _ w) (Or.inl ⟨by rfl, ?_⟩) HB.out ?_
        rotate_left
        · intro w_ _; go_simp; (try (with_reducible rfl))
        (try simp only [Act.put, List.setIfInBounds_toArray, List.set_cons_zero, List.set_cons_succ])
        refine wpAnyH_take (i := 13) (oi := ({ dst := some 12, op := Op.assign (Operand.tmp 49), type := 32, pos := "schema.go:116", after := #[{ on := 9, ground := Ground.data }, { on := 12, ground := Ground.chain }, { on := 0, ground := Ground.phase }, { on := 1, ground := Ground.phase }, { on := 2, ground := Ground.phase }, { on := 3, ground := Ground.phase }, { on := 4, ground := Ground.phase }, { on := 5, ground := Ground.phase }, { on := 6, ground := Ground.phase }, { on := 7, ground := Ground.phase }, { on := 8, ground := Ground.phase }, { on := 9, ground := Ground.phase }, { on := 10, ground := Ground.phase }, { on := 11, ground := Ground.phase }, { on := 12, ground := Ground.phase }], guard := none } : Oper)) (v := ?_) rfl (by kernel_rfl) (by kernel_rfl) (by kernel_rfl) (fun c a w => HP.out c a _ _ w) (Or.inl ⟨by rfl, ?_⟩) HB.out ?_
        rotate_left
        · intro w_ _; go_simp; (try (with_reducible rfl))
        (try simp only [Act.put, List.setIfInBounds_toArray, List.set_cons_zero, List.set_cons_succ])
        refine wpAnyH_done (by kernel_rfl) ?_ _
        exact HQ.out _ _ _ HB.out BF.out
      exact AllReadyH.nil
    exact AllReadyH.nil
  refine AllReadyH.cons (o := ({ dst := some 10, op := Op.alloc 63, type := 0, pos := "schema.go:116", after := #[], guard := none } : Oper)) rfl (fun K hK => ?_) ?_
  · go_simp
    have hbn := z02 (Below.refl W0.heap.size W0) (.cells #[.int .i64 0, .int .i64 0, .string ⟨#[]⟩, .bool false] 63 (0, 0))
    have hge := HB.out.size
    obtain ⟨gE, hgE⟩ : ∃ g, g = W0.heap.size := ⟨_, rfl⟩
    have BE := heap_alloc_last W0 (.cells #[.int .i64 0, .int .i64 0, .string ⟨#[]⟩, .bool false] 63 (0, 0))
    obtain ⟨W4, hW4⟩ : ∃ W, W = W0.alloc (.cells #[.int .i64 0, .int .i64 0, .string ⟨#[]⟩, .bool false] 63 (0, 0)) := ⟨_, rfl⟩
    rw [← hW4]
    rw [← hgE]
    rw [← hW4] at hbn BE
    rw [← hgE] at BE hge
    have BE := z05.mk BE
    have GE := z05.mk hge
    clear hge hgE hW4
    have HBn := z05.mk (z0a HB.out hbn)
    clear HB hbn
    have HB := HBn
    clear HBn
    refine hK.out _ _ HB.out (fun _ => ?_)
    clear hK K
    (try simp only [Act.put, List.setIfInBounds_toArray, List.set_cons_zero, List.set_cons_succ])
    refine wpAnyH_ready (rs := [5]) (by kernel_rfl) (by simp) ?_
    refine AllReadyH.cons (o := ({ dst := some 46, op := Op.call { callee := Callee.value (Operand.func 48), args := #[Operand.tmp 43, Operand.tmp 45], argTypes := #[42, 3] }, type := 64, pos := "schema.go:116", after := #[{ on := 2, ground := Ground.data }, { on := 4, ground := Ground.data }], guard := none } : Oper)) rfl (fun K hK => ?_) ?_
    · go_simp
      go_at_call 48
      refine (value_Get.calls A2 (c - hd) l2 x.f1 v1 v2 v3 v4 n er _ (Kd.C_below HRD.out HB.out) HCL.out HV.out).mono ?_
      rintro e W5 ⟨rfl, hbn⟩
      have BE_ := z05.mk (z0e BE.out hbn)
      clear BE
      have BE := BE_
      clear BE_
      have HBn := z05.mk (z0a HB.out hbn)
      clear HB hbn
      have HB := HBn
      clear HBn
      (try dsimp only)
      refine hK.out _ _ HB.out (fun _ => ?_)
      clear hK K
      (try simp only [Act.put, List.setIfInBounds_toArray, List.set_cons_zero, List.set_cons_succ])
      refine wpAnyH_take (i := 6) (oi := ({ dst := some 40, op := Op.move (Operand.tmp 46), type := 64, pos := "schema.go:116", after := #[{ on := 5, ground := Ground.data }], guard := none } : Oper)) (v := ?_) rfl (by kernel_rfl) (by kernel_rfl) (by kernel_rfl) (fun c a w => HP.out c a _ _ w) (Or.inl ⟨by rfl, ?_⟩) HB.out ?_
      rotate_left
      · intro w_ _; go_simp; (try (with_reducible rfl))
      (try simp only [Act.put, List.setIfInBounds_toArray, List.set_cons_zero, List.set_cons_succ])
      refine wpAnyH_take (i := 7) (oi := ({ dst := some 47, op := Op.extract (Operand.tmp 40) 0, type := 63, pos := "schema.go:116", after := #[{ on := 6, ground := Ground.data }], guard := none } : Oper)) (v := ?_) rfl (by kernel_rfl) (by kernel_rfl) (by kernel_rfl) (fun c a w => HP.out c a _ _ w) (Or.inl ⟨by rfl, ?_⟩) HB.out ?_
      rotate_left
      · intro w_ _; go_simp; (try (with_reducible rfl))
      (try simp only [Act.put, List.setIfInBounds_toArray, List.set_cons_zero, List.set_cons_succ])
      refine wpAnyH_take (i := 8) (oi := ({ dst := some 48, op := Op.extract (Operand.tmp 40) 1, type := 3, pos := "schema.go:116", after := #[{ on := 6, ground := Ground.data }, { on := 11, ground := Ground.gcOnly Departure.lateStores }], guard := none } : Oper)) (v := ?_) rfl (by kernel_rfl) (by kernel_rfl) (by kernel_rfl) (fun c a w => HP.out c a _ _ w) (Or.inl ⟨by rfl, ?_⟩) HB.out ?_
      rotate_left
      · intro w_ _; go_simp; (try (with_reducible rfl))
      (try simp only [Act.put, List.setIfInBounds_toArray, List.set_cons_zero, List.set_cons_succ])
      refine wpAnyH_take (i := 9) (oi := ({ dst := some 49, op := Op.extract (Operand.tmp 40) 2, type := 32, pos := "schema.go:116", after := #[{ on := 6, ground := Ground.data }, { on := 12, ground := Ground.gcOnly Departure.lateStores }], guard := none } : Oper)) (v := ?_) rfl (by kernel_rfl) (by kernel_rfl) (by kernel_rfl) (fun c a w => HP.out c a _ _ w) (Or.inl ⟨by rfl, ?_⟩) HB.out ?_
      rotate_left
      · intro w_ _; go_simp; (try (with_reducible rfl))
      (try simp only [Act.put, List.setIfInBounds_toArray, List.set_cons_zero, List.set_cons_succ])
      refine wpAnyH_ready (rs := [11]) (by kernel_rfl) (by simp) ?_
      refine AllReadyH.cons (o := ({ dst := none, op := Op.store 63 (Operand.tmp 10) (Operand.tmp 47), type := 0, pos := "schema.go:116", after := #[{ on := 10, ground := Ground.data }, { on := 7, ground := Ground.data }, { on := 5, ground := Ground.chain }, { on := 0, ground := Ground.phase }, { on := 1, ground := Ground.phase }, { on := 2, ground := Ground.phase }, { on := 3, ground := Ground.phase }, { on := 4, ground := Ground.phase }, { on := 5, ground := Ground.phase }, { on := 6, ground := Ground.phase }, { on := 7, ground := Ground.phase }, { on := 8, ground := Ground.textOnly Departure.lateStores }, { on := 9, ground := Ground.textOnly Departure.lateStores }, { on := 10, ground := Ground.phase }], guard := none } : Oper)) rfl (fun K hK => ?_) ?_
      · have hz0 : W5.cell? ⟨gE, 0, none⟩ = some (.int .i64 0) := (z04 BE.out 0).trans rfl
        have fz0 := z01 BE.out 0
        have hz1 : W5.cell? ⟨gE, 1, none⟩ = some (.int .i64 0) := (z04 BE.out 1).trans rfl
        have fz1 := z01 BE.out 1
        have hz2 : W5.cell? ⟨gE, 2, none⟩ = some (.string ⟨#[]⟩) := (z04 BE.out 2).trans rfl
        have fz2 := z01 BE.out 2
        have hz3 : W5.cell? ⟨gE, 3, none⟩ = some (.bool false) := (z04 BE.out 3).trans rfl
        have fz3 := z01 BE.out 3
        go_simp
        obtain ⟨W6, hW6, b6, st6⟩ := z8b W5 gE 63 (.int .i64 0) (.int .i64 0) (.string ⟨#[]⟩) (.bool false) (.int .i64 v1) (.int .i64 v2) (.string v3) (.bool v4) BE.out
        rw [← hW6]
        have HBn := z05.mk (st6.fresh HB.out GE.out)
        have BF := z05.mk b6
        clear hz0 hz1 hz2 hz3 fz0 fz1 fz2 fz3 HB BE hW6 b6 st6
        have HB := HBn
        clear HBn
        refine hK.out _ _ HB.out (fun _ => ?_)
        clear hK K
        (try simp only [Act.put, List.setIfInBounds_toArray, List.set_cons_zero, List.set_cons_succ])
        refine wpAnyH_take (i := 12) (oi := ({ dst := some 11, op := Op.assign (Operand.tmp 48), type := 3, pos := "schema.go:116", after := #[{ on := 8, ground := Ground.data }, { on := 11, ground := Ground.chain }, { on := 0, ground := Ground.phase }, { on := 1, ground := Ground.phase }, { on := 2, ground := Ground.phase }, { on := 3, ground := Ground.phase }, { on := 4, ground := Ground.phase }, { on := 5, ground := Ground.phase }, { on := 6, ground := Ground.phase }, { on := 7, ground := Ground.phase }, { on := 8, ground := Ground.phase }, { on := 9, ground := Ground.textOnly Departure.lateStores }, { on := 10, ground := Ground.phase }, { on := 11, ground := Ground.phase }], guard := none } : Oper)) (v := ?_) rfl (by kernel_rfl) (by kernel_rfl) (by kernel_rfl) (fun c a w => HP.out c a _ _ w) (Or.inl ⟨by rfl, ?_⟩) HB.out ?_
        rotate_left
        · intro w_ _; go_simp; (try (with_reducible rfl))
        (try simp only [Act.put, List.setIfInBounds_toArray, List.set_cons_zero, List.set_cons_succ])
        refine wpAnyH_take (i := 13) (oi := ({ dst := some 12, op := Op.assign (Operand.tmp 49), type := 32, pos := "schema.go:116", after := #[{ on := 9, ground := Ground.data }, { on := 12, ground := Ground.chain }, { on := 0, ground := Ground.phase }, { on := 1, ground := Ground.phase }, { on := 2, ground := Ground.phase }, { on := 3, ground := Ground.phase }, { on := 4, ground := Ground.phase }, { on := 5, ground := Ground.phase }, { on := 6, ground := Ground.phase }, { on := 7, ground := Ground.phase }, { on := 8, ground := Ground.phase }, { on := 9, ground := Ground.phase }, { on := 10, ground := Ground.phase }, { on := 11, ground := Ground.phase }, { on := 12, ground := Ground.phase }], guard := none } : Oper)) (v := ?_) rfl (by kernel_rfl) (by kernel_rfl) (by kernel_rfl) (fun c a w => HP.out c a _ _ w) (Or.inl ⟨by rfl, ?_⟩) HB.out ?_
        rotate_left
        · intro w_ _; go_simp; (try (with_reducible rfl))
        (try simp only [Act.put, List.setIfInBounds_toArray, List.set_cons_zero, List.set_cons_succ])
        refine wpAnyH_done (by kernel_rfl) ?_ _
        exact HQ.out _ _ _ HB.out BF.out
      exact AllReadyH.nil
    exact AllReadyH.nil
  exact AllReadyH.nil
set_option maxHeartbeats 8000000 in
set_option maxRecDepth 100000 in
theorem schema_column.short_ (x : S45) (i : Int) (A : Option Addr) (c : Nat) (l : List Int) (w : World) (hr : Kd.C (Kd.int .u8) w A l.length l) (hc : l.length ≤ c) (q0 : x.f2 = true) (h0 : l = []) :
    Calls Tryd.prog 36 #[.agg #[.string x.f0, .int .i64 x.f1, .bool x.f2], .int .i64 i, .slice A l.length c] w fun e w' => ∃ g, e = .returned (.tuple #[.agg #[.int .i64 0, .int .i64 0, .string ⟨#[]⟩, .bool false], .int .i64 0, .iface 72 (.pointer (some ⟨g, 0, none⟩))]) ∧ w'.heap[g]? = some (.cells #[.int .i64 i, .int .i64 6, .nilIface] 76 (0, 0)) ∧ Below w.heap.size w w' := by
  have HB := z05.mk (Below.refl w.heap.size w)
  have HR := z05.mk hr
  have HC := z05.mk hc
  have hu48 := Tryd.underlying45
  have hu46 := Tryd.underlying63
  have hu75 := Tryd.underlying76
  subst h0
  clear hr hc
  go_enter Tryd.func36, Tryd.ntmps36
  go_wp2_with (first
    | ((with_reducible refine z0h (N := 3) rfl ?_); refine z0g ?hg (N := 3) ?hd (cs := #[.string x.f0, .int .i64 x.f1, .bool x.f2]) (t := 45) ?hr ?_; (case hd => rfl); (case hg => rfl); (case hr => first | (go_simp; done) | (go_simp; rfl)); intro g3 hg w1 hbox hb; have B3 := z05.mk hbox; have GEB3 := z05.mk ((by rw [hg]; exact (z0b (by repeat (first | (with_reducible first | exact HB.out | apply z02 | apply z00 | apply z03) | exact HB.out)))) : w.heap.size ≤ g3); have b_HB := z05.mk (z0a (by repeat (first | (with_reducible first | exact HB.out | apply z02 | apply z00 | apply z03) | exact HB.out)) hb); clear HB; have HB := b_HB; clear b_HB; clear hbox hg hb)
    | ((with_reducible refine z0h (N := 6) rfl ?_); refine z0g ?hg (N := 6) ?hd (cs := #[.int .i64 0, .int .i64 0, .string ⟨#[]⟩, .bool false]) (t := 63) ?hr ?_; (case hd => rfl); (case hg => rfl); (case hr => first | (go_simp; done) | (go_simp; rfl)); intro g6 hg w2 hbox hb; have B6 := z05.mk hbox; have GEB6 := z05.mk ((by rw [hg]; exact (z0b (by repeat (first | (with_reducible first | exact HB.out | apply z02 | apply z00 | apply z03) | exact HB.out)))) : w.heap.size ≤ g6); have NB3B6 := z05.mk ((by rw [hg]; exact Nat.ne_of_lt (z0q (by (with_reducible repeat (first | refine z07 ?_ _ | refine z08 ?_ | refine z06 ?_ _)); exact B3.out))) : g3 ≠ g6); have b_B3 := z05.mk (z0e (by (with_reducible repeat (first | refine z07 ?_ _ | refine z08 ?_ | refine z06 ?_ _)); exact B3.out) hb); have b_HB := z05.mk (z0a (by repeat (first | (with_reducible first | exact HB.out | apply z02 | apply z00 | apply z03) | exact HB.out)) hb); clear HB B3; have HB := b_HB; have B3 := b_B3; clear b_HB b_B3; clear hbox hg hb; have hx1 : w2.cell? ⟨g3, 1, none⟩ = some (.int .i64 x.f1) := (z04 B3.out 1).trans rfl; have hx2 : w2.cell? ⟨g3, 2, none⟩ = some (.bool x.f2) := (z04 B3.out 2).trans rfl)
    | ((with_reducible refine z0h (N := 22) rfl ?_); refine z0g ?hg (N := 22) ?hd (cs := #[.int .i64 i, .int .i64 6, .nilIface]) (t := 76) ?hr ?_; (case hd => rfl); (case hg => rfl); (case hr => first | (go_simp; done) | (go_simp; rfl)); intro ge hg w3 hbox hb; have BW := z05.mk hbox; have GEBW := z05.mk ((by rw [hg]; exact (z0b (by repeat (first | (with_reducible first | exact HB.out | apply z02 | apply z00 | apply z03) | exact HB.out)))) : w.heap.size ≤ ge); have NB6BW := z05.mk ((by rw [hg]; exact Nat.ne_of_lt (z0q (by (with_reducible repeat (first | refine z07 ?_ _ | refine z08 ?_ | refine z06 ?_ _)); exact B6.out))) : g6 ≠ ge); have b_B6 := z05.mk (z0e (by (with_reducible repeat (first | refine z07 ?_ _ | refine z08 ?_ | refine z06 ?_ _)); exact B6.out) hb); have b_HB := z05.mk (z0a (by repeat (first | (with_reducible first | exact HB.out | apply z02 | apply z00 | apply z03) | exact HB.out)) hb); clear HB B6; have HB := b_HB; have B6 := b_B6; clear b_HB b_B6; clear hbox hg hb)
    | ((with_reducible refine gate_ (.store 63 (.tmp 6) (.tmp 19)) rfl ?_); go_loud (refine z13 rfl rfl 63 (.tmp 6) (.tmp 19) rfl g6 (0) rfl (.agg #[.int .i64 0, .int .i64 0, .string ⟨#[]⟩, .bool false]) rfl [.int .i64 0, .int .i64 0, .string ⟨#[]⟩, .bool false] rfl #[.int .i64 0, .int .i64 0, .string ⟨#[]⟩, .bool false] 63 B6.out z1m (by simp) (by simp [Value.oneCell']) #[.int .i64 0, .int .i64 0, .string ⟨#[]⟩, .bool false] rfl ?_); intro w4 hs st; have b_BW := z05.mk (Step.blk st (by (with_reducible repeat (first | refine z07 ?_ _ | refine z08 ?_ | refine z06 ?_ _)); exact BW.out) (NB6BW.out.symm)); have b_HB := z05.mk (Step.fresh st (by repeat (first | (with_reducible first | exact HB.out | apply z02 | apply z00 | apply z03) | exact HB.out)) GEB6.out); clear HB BW; have HB := b_HB; have BW := b_BW; clear b_HB b_BW; clear B6; have B6 := z05.mk hs; clear hs st))
  (try simp only [Exit.inBlock, Exit.then])
  refine bodyPost_ret (z0n rfl _ _ g6 63 #[.int .i64 0, .int .i64 0, .string ⟨#[]⟩, .bool false] (0, 0) _ rfl B6.out Tryd.underlying63 rfl z1m) rfl ?_
  exact ⟨ge, rfl, BW.out, HB.out⟩
set_option maxHeartbeats 8000000 in
set_option maxRecDepth 100000 in
theorem schema_column.form_ (x : S45) (i : Int) (A : Option Addr) (c : Nat) (l : List Int) (w : World) (hr : Kd.C (Kd.int .u8) w A l.length l) (hc : l.length ≤ c) (q0 : x.f2 = true) (h0 : l ≠ []) (q1 : decide ((1 : Int) < rd l 0) = true) :
    Calls Tryd.prog 36 #[.agg #[.string x.f0, .int .i64 x.f1, .bool x.f2], .int .i64 i, .slice A l.length c] w fun e w' => ∃ g, e = .returned (.tuple #[.agg #[.int .i64 0, .int .i64 0, .string ⟨#[]⟩, .bool false], .int .i64 0, .iface 72 (.pointer (some ⟨g, 0, none⟩))]) ∧ w'.heap[g]? = some (.cells #[.int .i64 i, .int .i64 7, .nilIface] 76 (0, 0)) ∧ Below w.heap.size w w' := by
  have HB := z05.mk (Below.refl w.heap.size w)
  have HR := z05.mk hr
  have HC := z05.mk hc
  have hu48 := Tryd.underlying45
  have hu46 := Tryd.underlying63
  have hu75 := Tryd.underlying76
  obtain ⟨ad, e1, y0⟩ := Kd.at_int hr (0 : Int) (by decide) (by have : 0 < l.length := List.length_pos_iff.2 h0; omega)
  subst e1
  have hl1 : (0 : Int) < (l.length : Int) := by have : 0 < l.length := List.length_pos_iff.2 h0; omega
  have hl2 : ((l.length : Int) == 0) = false := beq_eq_false_iff_ne.mpr (by omega)
  have hl3 : decide ((l.length : Int) = 0) = false := decide_eq_false (by omega)
  have hl4 : ¬ l = [] := h0
  obtain ⟨b, hb0⟩ : ∃ b, rd l 0 = b := ⟨_, rfl⟩
  rw [hb0] at y0
  rw [show ((0 : Int).toNat) = 0 from rfl, show ad.add 0 = ad from (by simp [Addr.add])] at y0
  have HY0 := z05.mk y0
  rw [hb0] at q1
  clear hr hc hb0 h0
  go_enter Tryd.func36, Tryd.ntmps36
  go_wp2_with (first
    | ((with_reducible refine z0h (N := 3) rfl ?_); refine z0g ?hg (N := 3) ?hd (cs := #[.string x.f0, .int .i64 x.f1, .bool x.f2]) (t := 45) ?hr ?_; (case hd => rfl); (case hg => rfl); (case hr => first | (go_simp; done) | (go_simp; rfl)); intro g3 hg w1 hbox hb; have B3 := z05.mk hbox; have GEB3 := z05.mk ((by rw [hg]; exact (z0b (by repeat (first | (with_reducible first | exact HB.out | apply z02 | apply z00 | apply z03) | exact HB.out)))) : w.heap.size ≤ g3); have b_HB := z05.mk (z0a (by repeat (first | (with_reducible first | exact HB.out | apply z02 | apply z00 | apply z03) | exact HB.out)) hb); clear HB; have HB := b_HB; clear b_HB; clear hbox hg hb)
    | ((with_reducible refine z0h (N := 6) rfl ?_); refine z0g ?hg (N := 6) ?hd (cs := #[.int .i64 0, .int .i64 0, .string ⟨#[]⟩, .bool false]) (t := 63) ?hr ?_; (case hd => rfl); (case hg => rfl); (case hr => first | (go_simp; done) | (go_simp; rfl)); intro g6 hg w2 hbox hb; have B6 := z05.mk hbox; have GEB6 := z05.mk ((by rw [hg]; exact (z0b (by repeat (first | (with_reducible first | exact HB.out | apply z02 | apply z00 | apply z03) | exact HB.out)))) : w.heap.size ≤ g6); have NB3B6 := z05.mk ((by rw [hg]; exact Nat.ne_of_lt (z0q (by (with_reducible repeat (first | refine z07 ?_ _ | refine z08 ?_ | refine z06 ?_ _)); exact B3.out))) : g3 ≠ g6); have b_B3 := z05.mk (z0e (by (with_reducible repeat (first | refine z07 ?_ _ | refine z08 ?_ | refine z06 ?_ _)); exact B3.out) hb); have b_HB := z05.mk (z0a (by repeat (first | (with_reducible first | exact HB.out | apply z02 | apply z00 | apply z03) | exact HB.out)) hb); clear HB B3; have HB := b_HB; have B3 := b_B3; clear b_HB b_B3; clear hbox hg hb; have hx1 : w2.cell? ⟨g3, 1, none⟩ = some (.int .i64 x.f1) := (z04 B3.out 1).trans rfl; have hx2 : w2.cell? ⟨g3, 2, none⟩ = some (.bool x.f2) := (z04 B3.out 2).trans rfl; have hy0 : w2.cell? ad = some (.int .u8 b) := (HB.out.cell (World.block_lt_of_cell? w _ HY0.out)).trans HY0.out)
    | ((with_reducible refine z0h (N := 32) rfl ?_); refine z0g ?hg (N := 32) ?hd (cs := #[.int .i64 i, .int .i64 7, .nilIface]) (t := 76) ?hr ?_; (case hd => rfl); (case hg => rfl); (case hr => first | (go_simp; done) | (go_simp; rfl)); intro ge hg w3 hbox hb; have BW := z05.mk hbox; have GEBW := z05.mk ((by rw [hg]; exact (z0b (by repeat (first | (with_reducible first | exact HB.out | apply z02 | apply z00 | apply z03) | exact HB.out)))) : w.heap.size ≤ ge); have NB6BW := z05.mk ((by rw [hg]; exact Nat.ne_of_lt (z0q (by (with_reducible repeat (first | refine z07 ?_ _ | refine z08 ?_ | refine z06 ?_ _)); exact B6.out))) : g6 ≠ ge); have b_B6 := z05.mk (z0e (by (with_reducible repeat (first | refine z07 ?_ _ | refine z08 ?_ | refine z06 ?_ _)); exact B6.out) hb); have b_HB := z05.mk (z0a (by repeat (first | (with_reducible first | exact HB.out | apply z02 | apply z00 | apply z03) | exact HB.out)) hb); clear HB B6; have HB := b_HB; have B6 := b_B6; clear b_HB b_B6; clear hbox hg hb)
    | ((with_reducible refine gate_ (.store 63 (.tmp 6) (.tmp 29)) rfl ?_); go_loud (refine z13 rfl rfl 63 (.tmp 6) (.tmp 29) rfl g6 (0) rfl (.agg #[.int .i64 0, .int .i64 0, .string ⟨#[]⟩, .bool false]) rfl [.int .i64 0, .int .i64 0, .string ⟨#[]⟩, .bool false] rfl #[.int .i64 0, .int .i64 0, .string ⟨#[]⟩, .bool false] 63 B6.out z1m (by simp) (by simp [Value.oneCell']) #[.int .i64 0, .int .i64 0, .string ⟨#[]⟩, .bool false] rfl ?_); intro w4 hs st; have b_BW := z05.mk (Step.blk st (by (with_reducible repeat (first | refine z07 ?_ _ | refine z08 ?_ | refine z06 ?_ _)); exact BW.out) (NB6BW.out.symm)); have b_HB := z05.mk (Step.fresh st (by repeat (first | (with_reducible first | exact HB.out | apply z02 | apply z00 | apply z03) | exact HB.out)) GEB6.out); clear HB BW; have HB := b_HB; have BW := b_BW; clear b_HB b_BW; clear B6; have B6 := z05.mk hs; clear hs st))
  (try simp only [Exit.inBlock, Exit.then])
  refine bodyPost_ret (z0n rfl _ _ g6 63 #[.int .i64 0, .int .i64 0, .string ⟨#[]⟩, .bool false] (0, 0) _ rfl B6.out Tryd.underlying63 rfl z1m) rfl ?_
  exact ⟨ge, rfl, BW.out, HB.out⟩
set_option maxHeartbeats 8000000 in
set_option maxRecDepth 100000 in
theorem schema_column.null_ (x : S45) (i : Int) (A : Option Addr) (c : Nat) (l : List Int) (w : World) (hr : Kd.C (Kd.int .u8) w A l.length l) (hc : l.length ≤ c) (q0 : x.f2 = true) (h0 : l ≠ []) (q1 : decide ((1 : Int) < rd l 0) = false) (q2 : (rd l 0 == 0) = true) (q3 : decide (rd l 0 = 0) = true) :
    Calls Tryd.prog 36 #[.agg #[.string x.f0, .int .i64 x.f1, .bool x.f2], .int .i64 i, .slice A l.length c] w fun e w' => e = .returned (.tuple #[.agg #[.int .i64 0, .int .i64 0, .string ⟨#[]⟩, .bool false], .int .i64 1, .nilIface]) ∧ Below w.heap.size w w' := by
  have HB := z05.mk (Below.refl w.heap.size w)
  have HR := z05.mk hr
  have HC := z05.mk hc
  have hu48 := Tryd.underlying45
  have hu46 := Tryd.underlying63
  have hu75 := Tryd.underlying76
  obtain ⟨ad, e1, y0⟩ := Kd.at_int hr (0 : Int) (by decide) (by have : 0 < l.length := List.length_pos_iff.2 h0; omega)
  subst e1
  have hl1 : (0 : Int) < (l.length : Int) := by have : 0 < l.length := List.length_pos_iff.2 h0; omega
  have hl2 : ((l.length : Int) == 0) = false := beq_eq_false_iff_ne.mpr (by omega)
  have hl3 : decide ((l.length : Int) = 0) = false := decide_eq_false (by omega)
  have hl4 : ¬ l = [] := h0
  obtain ⟨b, hb0⟩ : ∃ b, rd l 0 = b := ⟨_, rfl⟩
  rw [hb0] at y0
  rw [show ((0 : Int).toNat) = 0 from rfl, show ad.add 0 = ad from (by simp [Addr.add])] at y0
  have HY0 := z05.mk y0
  rw [hb0] at q1 q2 q3
  clear hr hc hb0 h0
  go_enter Tryd.func36, Tryd.ntmps36
  go_wp2_with (first
    | ((with_reducible refine z0h (N := 3) rfl ?_); refine z0g ?hg (N := 3) ?hd (cs := #[.string x.f0, .int .i64 x.f1, .bool x.f2]) (t := 45) ?hr ?_; (case hd => rfl); (case hg => rfl); (case hr => first | (go_simp; done) | (go_simp; rfl)); intro g3 hg w1 hbox hb; have B3 := z05.mk hbox; have GEB3 := z05.mk ((by rw [hg]; exact (z0b (by repeat (first | (with_reducible first | exact HB.out | apply z02 | apply z00 | apply z03) | exact HB.out)))) : w.heap.size ≤ g3); have b_HB := z05.mk (z0a (by repeat (first | (with_reducible first | exact HB.out | apply z02 | apply z00 | apply z03) | exact HB.out)) hb); clear HB; have HB := b_HB; clear b_HB; clear hbox hg hb)
    | ((with_reducible refine z0h (N := 6) rfl ?_); refine z0g ?hg (N := 6) ?hd (cs := #[.int .i64 0, .int .i64 0, .string ⟨#[]⟩, .bool false]) (t := 63) ?hr ?_; (case hd => rfl); (case hg => rfl); (case hr => first | (go_simp; done) | (go_simp; rfl)); intro g6 hg w2 hbox hb; have B6 := z05.mk hbox; have GEB6 := z05.mk ((by rw [hg]; exact (z0b (by repeat (first | (with_reducible first | exact HB.out | apply z02 | apply z00 | apply z03) | exact HB.out)))) : w.heap.size ≤ g6); have NB3B6 := z05.mk ((by rw [hg]; exact Nat.ne_of_lt (z0q (by (with_reducible repeat (first | refine z07 ?_ _ | refine z08 ?_ | refine z06 ?_ _)); exact B3.out))) : g3 ≠ g6); have b_B3 := z05.mk (z0e (by (with_reducible repeat (first | refine z07 ?_ _ | refine z08 ?_ | refine z06 ?_ _)); exact B3.out) hb); have b_HB := z05.mk (z0a (by repeat (first | (with_reducible first | exact HB.out | apply z02 | apply z00 | apply z03) | exact HB.out)) hb); clear HB B3; have HB := b_HB; have B3 := b_B3; clear b_HB b_B3; clear hbox hg hb; have hx1 : w2.cell? ⟨g3, 1, none⟩ = some (.int .i64 x.f1) := (z04 B3.out 1).trans rfl; have hx2 : w2.cell? ⟨g3, 2, none⟩ = some (.bool x.f2) := (z04 B3.out 2).trans rfl; have hy0 : w2.cell? ad = some (.int .u8 b) := (HB.out.cell (World.block_lt_of_cell? w _ HY0.out)).trans HY0.out)
    | ((with_reducible refine gate_ (.store 63 (.tmp 6) (.tmp 39)) rfl ?_); go_loud (refine z13 rfl rfl 63 (.tmp 6) (.tmp 39) rfl g6 (0) rfl (.agg #[.int .i64 0, .int .i64 0, .string ⟨#[]⟩, .bool false]) rfl [.int .i64 0, .int .i64 0, .string ⟨#[]⟩, .bool false] rfl #[.int .i64 0, .int .i64 0, .string ⟨#[]⟩, .bool false] 63 B6.out z1m (by simp) (by simp [Value.oneCell']) #[.int .i64 0, .int .i64 0, .string ⟨#[]⟩, .bool false] rfl ?_); intro w4 hs st; have b_HB := z05.mk (Step.fresh st (by repeat (first | (with_reducible first | exact HB.out | apply z02 | apply z00 | apply z03) | exact HB.out)) GEB6.out); clear HB; have HB := b_HB; clear b_HB; clear B6; have B6 := z05.mk hs; clear hs st))
  (try simp only [Exit.inBlock, Exit.then])
  refine bodyPost_ret (z0n rfl _ _ g6 63 #[.int .i64 0, .int .i64 0, .string ⟨#[]⟩, .bool false] (0, 0) _ rfl B6.out Tryd.underlying63 rfl z1m) rfl ?_
  exact ⟨rfl, HB.out⟩
set_option maxHeartbeats 8000000 in
set_option maxRecDepth 100000 in
theorem schema_column.get1err (x : S45) (i : Int) (A : Option Addr) (c : Nat) (l : List Int) (w : World) (hr : Kd.C (Kd.int .u8) w A l.length l) (hc : l.length ≤ c) (q0 : x.f2 = true) (h0 : l ≠ []) (q1 : decide ((1 : Int) < rd l 0) = false) (q2 : (rd l 0 == 0) = false) (q3 : decide (rd l 0 = 0) = false) (v1 v2 : Int) (v3 : ByteArray) (v4 : Bool) (n er : Int) (hV : value_Get.f (l.drop 1) x.f1 = some (v1, v2, v3, v4, n, er)) (q4 : (er != 0) = true) (q5 : decide (er = 0) = false) :
    Calls Tryd.prog 36 #[.agg #[.string x.f0, .int .i64 x.f1, .bool x.f2], .int .i64 i, .slice A l.length c] w fun e w' => ∃ g, e = .returned (.tuple #[.agg #[.int .i64 0, .int .i64 0, .string ⟨#[]⟩, .bool false], .int .i64 0, .iface 72 (.pointer (some ⟨g, 0, none⟩))]) ∧ w'.heap[g]? = some (.cells #[.int .i64 i, .int .i64 er, .nilIface] 76 (0, 0)) ∧ Below w.heap.size w w' := by
  have HB := z05.mk (Below.refl w.heap.size w)
  have HR := z05.mk hr
  have HC := z05.mk hc
  have hu48 := Tryd.underlying45
  have hu46 := Tryd.underlying63
  have hu75 := Tryd.underlying76
  have HV := z05.mk hV
  obtain ⟨ad, e1, y0⟩ := Kd.at_int hr (0 : Int) (by decide) (by have : 0 < l.length := List.length_pos_iff.2 h0; omega)
  subst e1
  have hl1 : (0 : Int) < (l.length : Int) := by have : 0 < l.length := List.length_pos_iff.2 h0; omega
  have hl2 : ((l.length : Int) == 0) = false := beq_eq_false_iff_ne.mpr (by omega)
  have hl3 : decide ((l.length : Int) = 0) = false := decide_eq_false (by omega)
  have hl4 : ¬ l = [] := h0
  obtain ⟨b, hb0⟩ : ∃ b, rd l 0 = b := ⟨_, rfl⟩
  rw [hb0] at y0
  rw [show ((0 : Int).toNat) = 0 from rfl, show ad.add 0 = ad from (by simp [Addr.add])] at y0
  have HY0 := z05.mk y0
  rw [hb0] at q1 q2 q3
  have HL1 := z05.mk (show 1 ≤ l.length by omega)
  clear hr hc hb0 h0 hV
  go_enter Tryd.func36, Tryd.ntmps36
  go_wp2_with (first
    | ((with_reducible refine z0h (N := 3) rfl ?_); refine z0g ?hg (N := 3) ?hd (cs := #[.string x.f0, .int .i64 x.f1, .bool x.f2]) (t := 45) ?hr ?_; (case hd => rfl); (case hg => rfl); (case hr => first | (go_simp; done) | (go_simp; rfl)); intro g3 hg w1 hbox hb; have B3 := z05.mk hbox; have GEB3 := z05.mk ((by rw [hg]; exact (z0b (by repeat (first | (with_reducible first | exact HB.out | apply z02 | apply z00 | apply z03) | exact HB.out)))) : w.heap.size ≤ g3); have b_HB := z05.mk (z0a (by repeat (first | (with_reducible first | exact HB.out | apply z02 | apply z00 | apply z03) | exact HB.out)) hb); clear HB; have HB := b_HB; clear b_HB; clear hbox hg hb)
    | ((with_reducible refine z0h (N := 6) rfl ?_); refine z0g ?hg (N := 6) ?hd (cs := #[.int .i64 0, .int .i64 0, .string ⟨#[]⟩, .bool false]) (t := 63) ?hr ?_; (case hd => rfl); (case hg => rfl); (case hr => first | (go_simp; done) | (go_simp; rfl)); intro g6 hg w2 hbox hb; have B6 := z05.mk hbox; have GEB6 := z05.mk ((by rw [hg]; exact (z0b (by repeat (first | (with_reducible first | exact HB.out | apply z02 | apply z00 | apply z03) | exact HB.out)))) : w.heap.size ≤ g6); have NB3B6 := z05.mk ((by rw [hg]; exact Nat.ne_of_lt (z0q (by (with_reducible repeat (first | refine z07 ?_ _ | refine z08 ?_ | refine z06 ?_ _)); exact B3.out))) : g3 ≠ g6); have b_B3 := z05.mk (z0e (by (with_reducible repeat (first | refine z07 ?_ _ | refine z08 ?_ | refine z06 ?_ _)); exact B3.out) hb); have b_HB := z05.mk (z0a (by repeat (first | (with_reducible first | exact HB.out | apply z02 | apply z00 | apply z03) | exact HB.out)) hb); clear HB B3; have HB := b_HB; have B3 := b_B3; clear b_HB b_B3; clear hbox hg hb; have hx1 : w2.cell? ⟨g3, 1, none⟩ = some (.int .i64 x.f1) := (z04 B3.out 1).trans rfl; have hx2 : w2.cell? ⟨g3, 2, none⟩ = some (.bool x.f2) := (z04 B3.out 2).trans rfl; have hy0 : w2.cell? ad = some (.int .u8 b) := (HB.out.cell (World.block_lt_of_cell? w _ HY0.out)).trans HY0.out))
  refine z1r x i l (some ad) c 1 1 rfl v1 v2 v3 v4 n er g3 g6 _ B3.out (Kd.C_below HR.out HB.out) HC.out HL1.out HV.out _ (fun c a d u w h => by cases d <;> exact h) ?_
  intro y43 g10 w5 hb hB10
  have B10 := z05.mk hB10
  have b_B6 := z05.mk (z0e B6.out hb)
  have b_HB := z05.mk (z0a HB.out hb)
  clear HB B6 hb hB10
  have HB := b_HB
  have B6 := b_B6
  clear b_HB b_B6
  go_wp2_with (first
    | ((with_reducible refine z0h (N := 56) rfl ?_); refine z0g ?hg (N := 56) ?hd (cs := #[.int .i64 i, .int .i64 er, .nilIface]) (t := 76) ?hr ?_; (case hd => rfl); (case hg => rfl); (case hr => first | (go_simp; done) | (go_simp; rfl)); intro ge hg w6 hbox hb; have BW := z05.mk hbox; have GEBW := z05.mk ((by rw [hg]; exact (z0b (by repeat (first | (with_reducible first | exact HB.out | apply z02 | apply z00 | apply z03) | exact HB.out)))) : w.heap.size ≤ ge); have NB6BW := z05.mk ((by rw [hg]; exact Nat.ne_of_lt (z0q (by (with_reducible repeat (first | refine z07 ?_ _ | refine z08 ?_ | refine z06 ?_ _)); exact B6.out))) : g6 ≠ ge); have b_B6 := z05.mk (z0e (by (with_reducible repeat (first | refine z07 ?_ _ | refine z08 ?_ | refine z06 ?_ _)); exact B6.out) hb); have b_HB := z05.mk (z0a (by repeat (first | (with_reducible first | exact HB.out | apply z02 | apply z00 | apply z03) | exact HB.out)) hb); clear HB B6; have HB := b_HB; have B6 := b_B6; clear b_HB b_B6; clear hbox hg hb)
    | ((with_reducible refine gate_ (.store 63 (.tmp 6) (.tmp 52)) rfl ?_); go_loud (refine z13 rfl rfl 63 (.tmp 6) (.tmp 52) rfl g6 (0) rfl (.agg #[.int .i64 0, .int .i64 0, .string ⟨#[]⟩, .bool false]) rfl [.int .i64 0, .int .i64 0, .string ⟨#[]⟩, .bool false] rfl #[.int .i64 0, .int .i64 0, .string ⟨#[]⟩, .bool false] 63 B6.out z1m (by simp) (by simp [Value.oneCell']) #[.int .i64 0, .int .i64 0, .string ⟨#[]⟩, .bool false] rfl ?_); intro w7 hs st; have b_BW := z05.mk (Step.blk st (by (with_reducible repeat (first | refine z07 ?_ _ | refine z08 ?_ | refine z06 ?_ _)); exact BW.out) (NB6BW.out.symm)); have b_HB := z05.mk (Step.fresh st (by repeat (first | (with_reducible first | exact HB.out | apply z02 | apply z00 | apply z03) | exact HB.out)) GEB6.out); clear HB BW; have HB := b_HB; have BW := b_BW; clear b_HB b_BW; clear B6; have B6 := z05.mk hs; clear hs st))
  (try simp only [Exit.inBlock, Exit.then])
  refine bodyPost_ret (z0n rfl _ _ g6 63 #[.int .i64 0, .int .i64 0, .string ⟨#[]⟩, .bool false] (0, 0) _ rfl B6.out Tryd.underlying63 rfl z1m) rfl ?_
  exact ⟨ge, rfl, BW.out, HB.out⟩
set_option maxHeartbeats 8000000 in
set_option maxRecDepth 100000 in
theorem schema_column.get1ok (x : S45) (i : Int) (A : Option Addr) (c : Nat) (l : List Int) (w : World) (hr : Kd.C (Kd.int .u8) w A l.length l) (hc : l.length ≤ c) (q0 : x.f2 = true) (h0 : l ≠ []) (q1 : decide ((1 : Int) < rd l 0) = false) (q2 : (rd l 0 == 0) = false) (q3 : decide (rd l 0 = 0) = false) (v1 v2 : Int) (v3 : ByteArray) (v4 : Bool) (n er : Int) (hV : value_Get.f (l.drop 1) x.f1 = some (v1, v2, v3, v4, n, er)) (q4 : (er != 0) = false) (q5 : decide (er = 0) = true) :
    Calls Tryd.prog 36 #[.agg #[.string x.f0, .int .i64 x.f1, .bool x.f2], .int .i64 i, .slice A l.length c] w fun e w' => e = .returned (.tuple #[.agg #[.int .i64 v1, .int .i64 v2, .string v3, .bool v4], .int .i64 (wrap64 (1 + n)), .nilIface]) ∧ Below w.heap.size w w' := by
  have HB := z05.mk (Below.refl w.heap.size w)
  have HR := z05.mk hr
  have HC := z05.mk hc
  have hu48 := Tryd.underlying45
  have hu46 := Tryd.underlying63
  have hu75 := Tryd.underlying76
  have HV := z05.mk hV
  obtain ⟨ad, e1, y0⟩ := Kd.at_int hr (0 : Int) (by decide) (by have : 0 < l.length := List.length_pos_iff.2 h0; omega)
  subst e1
  have hl1 : (0 : Int) < (l.length : Int) := by have : 0 < l.length := List.length_pos_iff.2 h0; omega
  have hl2 : ((l.length : Int) == 0) = false := beq_eq_false_iff_ne.mpr (by omega)
  have hl3 : decide ((l.length : Int) = 0) = false := decide_eq_false (by omega)
  have hl4 : ¬ l = [] := h0
  obtain ⟨b, hb0⟩ : ∃ b, rd l 0 = b := ⟨_, rfl⟩
  rw [hb0] at y0
  rw [show ((0 : Int).toNat) = 0 from rfl, show ad.add 0 = ad from (by simp [Addr.add])] at y0
  have HY0 := z05.mk y0
  rw [hb0] at q1 q2 q3
  have HL1 := z05.mk (show 1 ≤ l.length by omega)
  clear hr hc hb0 h0 hV
  go_enter Tryd.func36, Tryd.ntmps36
  go_wp2_with (first
    | ((with_reducible refine z0h (N := 3) rfl ?_); refine z0g ?hg (N := 3) ?hd (cs := #[.string x.f0, .int .i64 x.f1, .bool x.f2]) (t := 45) ?hr ?_; (case hd => rfl); (case hg => rfl); (case hr => first | (go_simp; done) | (go_simp; rfl)); intro g3 hg w1 hbox hb; have B3 := z05.mk hbox; have GEB3 := z05.mk ((by rw [hg]; exact (z0b (by repeat (first | (with_reducible first | exact HB.out | apply z02 | apply z00 | apply z03) | exact HB.out)))) : w.heap.size ≤ g3); have b_HB := z05.mk (z0a (by repeat (first | (with_reducible first | exact HB.out | apply z02 | apply z00 | apply z03) | exact HB.out)) hb); clear HB; have HB := b_HB; clear b_HB; clear hbox hg hb)
    | ((with_reducible refine z0h (N := 6) rfl ?_); refine z0g ?hg (N := 6) ?hd (cs := #[.int .i64 0, .int .i64 0, .string ⟨#[]⟩, .bool false]) (t := 63) ?hr ?_; (case hd => rfl); (case hg => rfl); (case hr => first | (go_simp; done) | (go_simp; rfl)); intro g6 hg w2 hbox hb; have B6 := z05.mk hbox; have GEB6 := z05.mk ((by rw [hg]; exact (z0b (by repeat (first | (with_reducible first | exact HB.out | apply z02 | apply z00 | apply z03) | exact HB.out)))) : w.heap.size ≤ g6); have NB3B6 := z05.mk ((by rw [hg]; exact Nat.ne_of_lt (z0q (by (with_reducible repeat (first | refine z07 ?_ _ | refine z08 ?_ | refine z06 ?_ _)); exact B3.out))) : g3 ≠ g6); have b_B3 := z05.mk (z0e (by (with_reducible repeat (first | refine z07 ?_ _ | refine z08 ?_ | refine z06 ?_ _)); exact B3.out) hb); have b_HB := z05.mk (z0a (by repeat (first | (with_reducible first | exact HB.out | apply z02 | apply z00 | apply z03) | exact HB.out)) hb); clear HB B3; have HB := b_HB; have B3 := b_B3; clear b_HB b_B3; clear hbox hg hb; have hx1 : w2.cell? ⟨g3, 1, none⟩ = some (.int .i64 x.f1) := (z04 B3.out 1).trans rfl; have hx2 : w2.cell? ⟨g3, 2, none⟩ = some (.bool x.f2) := (z04 B3.out 2).trans rfl; have hy0 : w2.cell? ad = some (.int .u8 b) := (HB.out.cell (World.block_lt_of_cell? w _ HY0.out)).trans HY0.out))
  refine z1r x i l (some ad) c 1 1 rfl v1 v2 v3 v4 n er g3 g6 _ B3.out (Kd.C_below HR.out HB.out) HC.out HL1.out HV.out _ (fun c a d u w h => by cases d <;> exact h) ?_
  intro y43 g10 w5 hb hB10
  have B10 := z05.mk hB10
  have b_B6 := z05.mk (z0e B6.out hb)
  have b_HB := z05.mk (z0a HB.out hb)
  clear HB B6 hb hB10
  have HB := b_HB
  have B6 := b_B6
  clear b_HB b_B6
  have hc0 : w5.cell? ⟨g10, 0, none⟩ = some (.int .i64 v1) := (z04 B10.out 0).trans rfl
  have hc1 : w5.cell? ⟨g10, 1, none⟩ = some (.int .i64 v2) := (z04 B10.out 1).trans rfl
  have hc2 : w5.cell? ⟨g10, 2, none⟩ = some (.string v3) := (z04 B10.out 2).trans rfl
  have hc3 : w5.cell? ⟨g10, 3, none⟩ = some (.bool v4) := (z04 B10.out 3).trans rfl
  go_wp2_with (first
    | ((with_reducible refine gate_ (.store 63 (.tmp 6) (.tmp 58)) rfl ?_); go_loud (refine z13 rfl rfl 63 (.tmp 6) (.tmp 58) rfl g6 (0) rfl (.agg #[.int .i64 v1, .int .i64 v2, .string v3, .bool v4]) rfl [.int .i64 v1, .int .i64 v2, .string v3, .bool v4] rfl #[.int .i64 0, .int .i64 0, .string ⟨#[]⟩, .bool false] 63 B6.out z1m (by simp) (by simp [Value.oneCell']) #[.int .i64 v1, .int .i64 v2, .string v3, .bool v4] rfl ?_); intro w6 hs st; have b_HB := z05.mk (Step.fresh st (by repeat (first | (with_reducible first | exact HB.out | apply z02 | apply z00 | apply z03) | exact HB.out)) GEB6.out); clear HB; have HB := b_HB; clear b_HB; clear B6; have B6 := z05.mk hs; clear hs st))
  (try simp only [Exit.inBlock, Exit.then])
  refine bodyPost_ret (z0n rfl _ _ g6 63 #[.int .i64 v1, .int .i64 v2, .string v3, .bool v4] (0, 0) _ rfl B6.out Tryd.underlying63 rfl z1m) rfl ?_
  exact ⟨rfl, HB.out⟩
set_option maxHeartbeats 8000000 in
set_option maxRecDepth 100000 in
theorem schema_column.get0err (x : S45) (i : Int) (A : Option Addr) (c : Nat) (l : List Int) (w : World) (hr : Kd.C (Kd.int .u8) w A l.length l) (hc : l.length ≤ c) (q0 : x.f2 = false) (v1 v2 : Int) (v3 : ByteArray) (v4 : Bool) (n er : Int) (hV : value_Get.f (l.drop 0) x.f1 = some (v1, v2, v3, v4, n, er)) (q4 : (er != 0) = true) (q5 : decide (er = 0) = false) :
    Calls Tryd.prog 36 #[.agg #[.string x.f0, .int .i64 x.f1, .bool x.f2], .int .i64 i, .slice A l.length c] w fun e w' => ∃ g, e = .returned (.tuple #[.agg #[.int .i64 0, .int .i64 0, .string ⟨#[]⟩, .bool false], .int .i64 0, .iface 72 (.pointer (some ⟨g, 0, none⟩))]) ∧ w'.heap[g]? = some (.cells #[.int .i64 i, .int .i64 er, .nilIface] 76 (0, 0)) ∧ Below w.heap.size w w' := by
  have HB := z05.mk (Below.refl w.heap.size w)
  have HR := z05.mk hr
  have HC := z05.mk hc
  have hu48 := Tryd.underlying45
  have hu46 := Tryd.underlying63
  have hu75 := Tryd.underlying76
  have HV := z05.mk hV
  clear hr hc hV
  go_enter Tryd.func36, Tryd.ntmps36
  go_wp2_with (first
    | ((with_reducible refine z0h (N := 3) rfl ?_); refine z0g ?hg (N := 3) ?hd (cs := #[.string x.f0, .int .i64 x.f1, .bool x.f2]) (t := 45) ?hr ?_; (case hd => rfl); (case hg => rfl); (case hr => first | (go_simp; done) | (go_simp; rfl)); intro g3 hg w1 hbox hb; have B3 := z05.mk hbox; have GEB3 := z05.mk ((by rw [hg]; exact (z0b (by repeat (first | (with_reducible first | exact HB.out | apply z02 | apply z00 | apply z03) | exact HB.out)))) : w.heap.size ≤ g3); have b_HB := z05.mk (z0a (by repeat (first | (with_reducible first | exact HB.out | apply z02 | apply z00 | apply z03) | exact HB.out)) hb); clear HB; have HB := b_HB; clear b_HB; clear hbox hg hb)
    | ((with_reducible refine z0h (N := 6) rfl ?_); refine z0g ?hg (N := 6) ?hd (cs := #[.int .i64 0, .int .i64 0, .string ⟨#[]⟩, .bool false]) (t := 63) ?hr ?_; (case hd => rfl); (case hg => rfl); (case hr => first | (go_simp; done) | (go_simp; rfl)); intro g6 hg w2 hbox hb; have B6 := z05.mk hbox; have GEB6 := z05.mk ((by rw [hg]; exact (z0b (by repeat (first | (with_reducible first | exact HB.out | apply z02 | apply z00 | apply z03) | exact HB.out)))) : w.heap.size ≤ g6); have NB3B6 := z05.mk ((by rw [hg]; exact Nat.ne_of_lt (z0q (by (with_reducible repeat (first | refine z07 ?_ _ | refine z08 ?_ | refine z06 ?_ _)); exact B3.out))) : g3 ≠ g6); have b_B3 := z05.mk (z0e (by (with_reducible repeat (first | refine z07 ?_ _ | refine z08 ?_ | refine z06 ?_ _)); exact B3.out) hb); have b_HB := z05.mk (z0a (by repeat (first | (with_reducible first | exact HB.out | apply z02 | apply z00 | apply z03) | exact HB.out)) hb); clear HB B3; have HB := b_HB; have B3 := b_B3; clear b_HB b_B3; clear hbox hg hb; have hx1 : w2.cell? ⟨g3, 1, none⟩ = some (.int .i64 x.f1) := (z04 B3.out 1).trans rfl; have hx2 : w2.cell? ⟨g3, 2, none⟩ = some (.bool x.f2) := (z04 B3.out 2).trans rfl))
  refine z1r x i l A c 0 0 rfl v1 v2 v3 v4 n er g3 g6 _ B3.out (Kd.C_below HR.out HB.out) HC.out (Nat.zero_le _) HV.out _ (fun c a d u w h => by cases d <;> exact h) ?_
  intro y43 g10 w5 hb hB10
  have B10 := z05.mk hB10
  have b_B6 := z05.mk (z0e B6.out hb)
  have b_HB := z05.mk (z0a HB.out hb)
  clear HB B6 hb hB10
  have HB := b_HB
  have B6 := b_B6
  clear b_HB b_B6
  go_wp2_with (first
    | ((with_reducible refine z0h (N := 56) rfl ?_); refine z0g ?hg (N := 56) ?hd (cs := #[.int .i64 i, .int .i64 er, .nilIface]) (t := 76) ?hr ?_; (case hd => rfl); (case hg => rfl); (case hr => first | (go_simp; done) | (go_simp; rfl)); intro ge hg w6 hbox hb; have BW := z05.mk hbox; have GEBW := z05.mk ((by rw [hg]; exact (z0b (by repeat (first | (with_reducible first | exact HB.out | apply z02 | apply z00 | apply z03) | exact HB.out)))) : w.heap.size ≤ ge); have NB6BW := z05.mk ((by rw [hg]; exact Nat.ne_of_lt (z0q (by (with_reducible repeat (first | refine z07 ?_ _ | refine z08 ?_ | refine z06 ?_ _)); exact B6.out))) : g6 ≠ ge); have b_B6 := z05.mk (z0e (by (with_reducible repeat (first | refine z07 ?_ _ | refine z08 ?_ | refine z06 ?_ _)); exact B6.out) hb); have b_HB := z05.mk (z0a (by repeat (first | (with_reducible first | exact HB.out | apply z02 | apply z00 | apply z03) | exact HB.out)) hb); clear HB B6; have HB := b_HB; have B6 := b_B6; clear b_HB b_B6; clear hbox hg hb)
    | ((with_reducible refine gate_ (.store 63 (.tmp 6) (.tmp 52)) rfl ?_); go_loud (refine z13 rfl rfl 63 (.tmp 6) (.tmp 52) rfl g6 (0) rfl (.agg #[.int .i64 0, .int .i64 0, .string ⟨#[]⟩, .bool false]) rfl [.int .i64 0, .int .i64 0, .string ⟨#[]⟩, .bool false] rfl #[.int .i64 0, .int .i64 0, .string ⟨#[]⟩, .bool false] 63 B6.out z1m (by simp) (by simp [Value.oneCell']) #[.int .i64 0, .int .i64 0, .string ⟨#[]⟩, .bool false] rfl ?_); intro w7 hs st; have b_BW := z05.mk (Step.blk st (by (with_reducible repeat (first | refine z07 ?_ _ | refine z08 ?_ | refine z06 ?_ _)); exact BW.out) (NB6BW.out.symm)); have b_HB := z05.mk (Step.fresh st (by repeat (first | (with_reducible first | exact HB.out | apply z02 | apply z00 | apply z03) | exact HB.out)) GEB6.out); clear HB BW; have HB := b_HB; have BW := b_BW; clear b_HB b_BW; clear B6; have B6 := z05.mk hs; clear hs st))
  (try simp only [Exit.inBlock, Exit.then])
  refine bodyPost_ret (z0n rfl _ _ g6 63 #[.int .i64 0, .int .i64 0, .string ⟨#[]⟩, .bool false] (0, 0) _ rfl B6.out Tryd.underlying63 rfl z1m) rfl ?_
  exact ⟨ge, rfl, BW.out, HB.out⟩
set_option maxHeartbeats 8000000 in
set_option maxRecDepth 100000 in
theorem schema_column.get0ok (x : S45) (i : Int) (A : Option Addr) (c : Nat) (l : List Int) (w : World) (hr : Kd.C (Kd.int .u8) w A l.length l) (hc : l.length ≤ c) (q0 : x.f2 = false) (v1 v2 : Int) (v3 : ByteArray) (v4 : Bool) (n er : Int) (hV : value_Get.f (l.drop 0) x.f1 = some (v1, v2, v3, v4, n, er)) (q4 : (er != 0) = false) (q5 : decide (er = 0) = true) :
    Calls Tryd.prog 36 #[.agg #[.string x.f0, .int .i64 x.f1, .bool x.f2], .int .i64 i, .slice A l.length c] w fun e w' => e = .returned (.tuple #[.agg #[.int .i64 v1, .int .i64 v2, .string v3, .bool v4], .int .i64 (wrap64 n), .nilIface]) ∧ Below w.heap.size w w' := by
  have HB := z05.mk (Below.refl w.heap.size w)
  have HR := z05.mk hr
  have HC := z05.mk hc
  have hu48 := Tryd.underlying45
  have hu46 := Tryd.underlying63
  have hu75 := Tryd.underlying76
  have HV := z05.mk hV
  clear hr hc hV
  go_enter Tryd.func36, Tryd.ntmps36
  go_wp2_with (first
    | ((with_reducible refine z0h (N := 3) rfl ?_); refine z0g ?hg (N := 3) ?hd (cs := #[.string x.f0, .int .i64 x.f1, .bool x.f2]) (t := 45) ?hr ?_; (case hd => rfl); (case hg => rfl); (case hr => first | (go_simp; done) | (go_simp; rfl)); intro g3 hg w1 hbox hb; have B3 := z05.mk hbox; have GEB3 := z05.mk ((by rw [hg]; exact (z0b (by repeat (first | (with_reducible first | exact HB.out | apply z02 | apply z00 | apply z03) | exact HB.out)))) : w.heap.size ≤ g3); have b_HB := z05.mk (z0a (by repeat (first | (with_reducible first | exact HB.out | apply z02 | apply z00 | apply z03) | exact HB.out)) hb); clear HB; have HB := b_HB; clear b_HB; clear hbox hg hb)
    | ((with_reducible refine z0h (N := 6) rfl ?_); refine z0g ?hg (N := 6) ?hd (cs := #[.int .i64 0, .int .i64 0, .string ⟨#[]⟩, .bool false]) (t := 63) ?hr ?_; (case hd => rfl); (case hg => rfl); (case hr => first | (go_simp; done) | (go_simp; rfl)); intro g6 hg w2 hbox hb; have B6 := z05.mk hbox; have GEB6 := z05.mk ((by rw [hg]; exact (z0b (by repeat (first | (with_reducible first | exact HB.out | apply z02 | apply z00 | apply z03) | exact HB.out)))) : w.heap.size ≤ g6); have NB3B6 := z05.mk ((by rw [hg]; exact Nat.ne_of_lt (z0q (by (with_reducible repeat (first | refine z07 ?_ _ | refine z08 ?_ | refine z06 ?_ _)); exact B3.out))) : g3 ≠ g6); have b_B3 := z05.mk (z0e (by (with_reducible repeat (first | refine z07 ?_ _ | refine z08 ?_ | refine z06 ?_ _)); exact B3.out) hb); have b_HB := z05.mk (z0a (by repeat (first | (with_reducible first | exact HB.out | apply z02 | apply z00 | apply z03) | exact HB.out)) hb); clear HB B3; have HB := b_HB; have B3 := b_B3; clear b_HB b_B3; clear hbox hg hb; have hx1 : w2.cell? ⟨g3, 1, none⟩ = some (.int .i64 x.f1) := (z04 B3.out 1).trans rfl; have hx2 : w2.cell? ⟨g3, 2, none⟩ = some (.bool x.f2) := (z04 B3.out 2).trans rfl))
  refine z1r x i l A c 0 0 rfl v1 v2 v3 v4 n er g3 g6 _ B3.out (Kd.C_below HR.out HB.out) HC.out (Nat.zero_le _) HV.out _ (fun c a d u w h => by cases d <;> exact h) ?_
  intro y43 g10 w5 hb hB10
  have B10 := z05.mk hB10
  have b_B6 := z05.mk (z0e B6.out hb)
  have b_HB := z05.mk (z0a HB.out hb)
  clear HB B6 hb hB10
  have HB := b_HB
  have B6 := b_B6
  clear b_HB b_B6
  have hc0 : w5.cell? ⟨g10, 0, none⟩ = some (.int .i64 v1) := (z04 B10.out 0).trans rfl
  have hc1 : w5.cell? ⟨g10, 1, none⟩ = some (.int .i64 v2) := (z04 B10.out 1).trans rfl
  have hc2 : w5.cell? ⟨g10, 2, none⟩ = some (.string v3) := (z04 B10.out 2).trans rfl
  have hc3 : w5.cell? ⟨g10, 3, none⟩ = some (.bool v4) := (z04 B10.out 3).trans rfl
  go_wp2_with (first
    | ((with_reducible refine gate_ (.store 63 (.tmp 6) (.tmp 58)) rfl ?_); go_loud (refine z13 rfl rfl 63 (.tmp 6) (.tmp 58) rfl g6 (0) rfl (.agg #[.int .i64 v1, .int .i64 v2, .string v3, .bool v4]) rfl [.int .i64 v1, .int .i64 v2, .string v3, .bool v4] rfl #[.int .i64 0, .int .i64 0, .string ⟨#[]⟩, .bool false] 63 B6.out z1m (by simp) (by simp [Value.oneCell']) #[.int .i64 v1, .int .i64 v2, .string v3, .bool v4] rfl ?_); intro w6 hs st; have b_HB := z05.mk (Step.fresh st (by repeat (first | (with_reducible first | exact HB.out | apply z02 | apply z00 | apply z03) | exact HB.out)) GEB6.out); clear HB; have HB := b_HB; clear b_HB; clear B6; have B6 := z05.mk hs; clear hs st))
  (try simp only [Exit.inBlock, Exit.then])
  refine bodyPost_ret (z0n rfl _ _ g6 63 #[.int .i64 v1, .int .i64 v2, .string v3, .bool v4] (0, 0) _ rfl B6.out Tryd.underlying63 rfl z1m) rfl ?_
  exact ⟨rfl, HB.out⟩
/-- What a column's bytes give: its value, how many bytes it has, and the error. -/
def fin1 (h : Int) (t : Int × Int × ByteArray × Bool × Int × Int) : Int × Int × ByteArray × Bool × Int × Int := if t.2.2.2.2.2 = 0 then (t.1, t.2.1, t.2.2.1, t.2.2.2.1, wrap64 (h + t.2.2.2.2.1), 0) else (0, 0, ⟨#[]⟩, false, 0, t.2.2.2.2.2)
def schema_column.f (nul : Bool) (kind : Int) (l : List Int) : Option (Int × Int × ByteArray × Bool × Int × Int) :=
  if nul = true then (if l = [] then some (0, 0, ⟨#[]⟩, false, 0, 6) else if 1 < rd l 0 then some (0, 0, ⟨#[]⟩, false, 0, 7) else if rd l 0 = 0 then some (0, 0, ⟨#[]⟩, false, 1, 0) else (value_Get.f (l.drop 1) kind).map (fin1 1))
  else (value_Get.f l kind).map (fin1 0)
/-- The error of a column. -/
def ErrC (W : World) (E : Value) (er : Int) (i : Int) : Prop := (er = 0 ∧ E = .nilIface) ∨ (er ≠ 0 ∧ ∃ g, E = .iface 72 (.pointer (some ⟨g, 0, none⟩)) ∧ W.heap[g]? = some (.cells #[.int .i64 i, .int .i64 er, .nilIface] 76 (0, 0)))
theorem schema_column.calls (x : S45) (i : Int) (A : Option Addr) (c : Nat) (l : List Int) (v1 v2 : Int) (v3 : ByteArray) (v4 : Bool) (n er : Int) (w : World) (hr : Kd.C (Kd.int .u8) w A l.length l) (hc : l.length ≤ c) (h : schema_column.f x.f2 x.f1 l = some (v1, v2, v3, v4, n, er)) :
    Calls Tryd.prog 36 #[.agg #[.string x.f0, .int .i64 x.f1, .bool x.f2], .int .i64 i, .slice A l.length c] w fun e w' => ∃ E, e = .returned (.tuple #[.agg #[.int .i64 v1, .int .i64 v2, .string v3, .bool v4], .int .i64 n, E]) ∧ ErrC w' E er i ∧ Below w.heap.size w w' := by
  unfold schema_column.f at h
  cases q0 : x.f2 with
  | true =>
    rw [q0] at h
    rw [if_pos rfl] at h
    rw [← q0]
    by_cases h0 : l = []
    · rw [if_pos h0] at h
      simp only [Option.some.injEq, Prod.mk.injEq] at h
      obtain ⟨rfl, rfl, rfl, rfl, rfl, rfl⟩ := h
      exact (schema_column.short_ x i A c l w hr hc q0 h0).mono fun e w' q => by
        obtain ⟨g, he, hg, hb⟩ := q
        exact ⟨_, he, .inr ⟨by decide, g, rfl, hg⟩, hb⟩
    · rw [if_neg h0] at h
      by_cases h1 : 1 < rd l 0
      · rw [if_pos h1] at h
        simp only [Option.some.injEq, Prod.mk.injEq] at h
        obtain ⟨rfl, rfl, rfl, rfl, rfl, rfl⟩ := h
        exact (schema_column.form_ x i A c l w hr hc q0 h0 (decide_eq_true h1)).mono fun e w' q => by
          obtain ⟨g, he, hg, hb⟩ := q
          exact ⟨_, he, .inr ⟨by decide, g, rfl, hg⟩, hb⟩
      · rw [if_neg h1] at h
        by_cases h2 : rd l 0 = 0
        · rw [if_pos h2] at h
          simp only [Option.some.injEq, Prod.mk.injEq] at h
          obtain ⟨rfl, rfl, rfl, rfl, rfl, rfl⟩ := h
          exact (schema_column.null_ x i A c l w hr hc q0 h0 (decide_eq_false h1) (beq_iff_eq.mpr h2) (decide_eq_true h2)).mono fun e w' q => ⟨_, q.1, .inl ⟨rfl, rfl⟩, q.2⟩
        · rw [if_neg h2] at h
          obtain ⟨⟨u1, u2, u3, u4, um, ue⟩, hu, ht⟩ := Option.map_eq_some_iff.1 h
          unfold fin1 at ht
          by_cases h3 : ue = 0
          · rw [if_pos h3] at ht
            simp only [Prod.mk.injEq] at ht
            obtain ⟨rfl, rfl, rfl, rfl, rfl, rfl⟩ := ht
            exact (schema_column.get1ok x i A c l w hr hc q0 h0 (decide_eq_false h1) (beq_eq_false_iff_ne.mpr h2) (decide_eq_false h2) _ _ _ _ um ue hu (bne_eq_false_iff_eq.mpr h3) (decide_eq_true h3)).mono fun e w' q => ⟨_, q.1, .inl ⟨rfl, rfl⟩, q.2⟩
          · rw [if_neg h3] at ht
            simp only [Prod.mk.injEq] at ht
            obtain ⟨rfl, rfl, rfl, rfl, rfl, rfl⟩ := ht
            exact (schema_column.get1err x i A c l w hr hc q0 h0 (decide_eq_false h1) (beq_eq_false_iff_ne.mpr h2) (decide_eq_false h2) _ _ _ _ um ue hu (bne_iff_ne.mpr h3) (decide_eq_false h3)).mono fun e w' q => by
              obtain ⟨g, he, hg, hb⟩ := q
              exact ⟨_, he, .inr ⟨h3, g, rfl, hg⟩, hb⟩
  | false =>
    rw [q0] at h
    rw [if_neg (by decide)] at h
    rw [← q0]
    obtain ⟨⟨u1, u2, u3, u4, um, ue⟩, hu, ht⟩ := Option.map_eq_some_iff.1 h
    unfold fin1 at ht
    by_cases h3 : ue = 0
    · rw [if_pos h3] at ht
      simp only [Prod.mk.injEq] at ht
      obtain ⟨rfl, rfl, rfl, rfl, rfl, rfl⟩ := ht
      exact (schema_column.get0ok x i A c l w hr hc q0 _ _ _ _ um ue hu (bne_eq_false_iff_eq.mpr h3) (decide_eq_true h3)).mono fun e w' q => ⟨_, by rw [Int.zero_add]; exact q.1, .inl ⟨rfl, rfl⟩, q.2⟩
    · rw [if_neg h3] at ht
      simp only [Prod.mk.injEq] at ht
      obtain ⟨rfl, rfl, rfl, rfl, rfl, rfl⟩ := ht
      exact (schema_column.get0err x i A c l w hr hc q0 _ _ _ _ um ue hu (bne_iff_ne.mpr h3) (decide_eq_false h3)).mono fun e w' q => by
        obtain ⟨g, he, hg, hb⟩ := q
        exact ⟨_, he, .inr ⟨h3, g, rfl, hg⟩, hb⟩
theorem z8m : (Tryd.prog.info? 63).map (fun i => (i.zero, i.size, i.bytes)) = some (some (.agg #[(.int .i64 0), (.int .i64 0), (.string ⟨#[]⟩), (.bool false)]), k63.sz, 40) := by kernel_rfl
theorem z8s {W : World} {k : Nat} (a : S63) (h : W.heap[k]? = some (.cells #[.int .i64 a.f0, .int .i64 a.f1, .string a.f2, .bool a.f3] 63 (0, 0))) : Kd.C k63 W (some ⟨k, 0, none⟩) 1 [a] :=
  ⟨rfl, by simp, fun _ => ⟨_, rfl, fun j p hp => by
    have hj : j < 1 := (List.getElem?_eq_some_iff.1 hp).1
    obtain rfl : j = 0 := by omega
    obtain rfl := Option.some.inj hp
    refine ⟨[.int .i64 a.f0, .int .i64 a.f1, .string a.f2, .bool a.f3], rfl, z9w W a, fun i u hu => ?_⟩
    show W.cell? (Addr.add ⟨k, 0, none⟩ (0 * 4 + i)) = some u
    rw [Addr.add_mid, Nat.zero_add, Nat.zero_mul, Nat.zero_add]
    exact (z04 h _).trans (by simpa using hu)⟩⟩
set_option maxHeartbeats 8000000 in
set_option maxRecDepth 100000 in
theorem z4n (v : S63) (l l2 : List Int) (A A2 : Option Addr) (c n : Nat) (nI : Int) (hnI : nI = (n : Int)) (acc : List S63) (y6 : Value) (g2 g9 : Nat) (cs2 : Array Value) {t0 t2 t3 t4 t5 t7 t8 t11 t12 t13 t14 t15 t16 t17 t18 t19 t20 t21 t22 t23 t24 t25 t26 t27 t28 t29 t30 t31 t32 t33 t34 t35 t36 t37 t38 t39 t40 t41 t42 t43 t44 t45 t46 t47 t48 t49 t50 : Value} (wb w0_ : World) (hbw : Below wb.heap.size wb w0_) (hb9 : w0_.heap[g9]? = some (.cells #[.int .i64 v.f0, .int .i64 v.f1, .string v.f2, .bool v.f3] 63 (0, 0))) (hne9 : some g9 ≠ y6.ownBlock) (hb2 : w0_.heap[g2]? = some (.cells cs2 24 (0, 0)))
    (hcut : ∀ W : World, (Instr.slice 42 (.slice A l.length c) (some (.int .i64 (n : Int))) none none).run Tryd.prog W = .ok (.slice A2 l2.length (c - n)) W)
    (hO : Kd.R k63 63 w0_ wb.heap.size (fun _ => True) y6 acc) (hlen : acc.length ≤ 1000000) (Q : Exit → Act → World → Prop) (hP : ∀ c (a : Act) (d : Option Nat) (u : Value) (w : World), Q (.panic c) (a.put d u) w → Q (.panic c) a w)
    (hQ : ∀ (y33 y34 : Value) (w' : World), Kd.R k63 63 w' wb.heap.size (fun _ => True) y34 (acc ++ [v]) → Below wb.heap.size wb w' → w'.heap[g2]? = some (.cells cs2 24 (0, 0)) → Q .normal { tmps := #[t0, .slice A2 l2.length (c - n), t2, t3, t4, t5, y34, t7, t8, .pointer (some ⟨g9, 0, none⟩), .int .i64 nI, t11, t12, t13, t14, t15, t16, t17, t18, t19, t20, t21, t22, t23, t24, t25, t26, t27, t28, t29, t30, y6, .agg #[.int .i64 v.f0, .int .i64 v.f1, .string v.f2, .bool v.f3], y33, y34, .slice A l.length c, .int .i64 nI, .slice A2 l2.length (c - n), t38, t39, t40, t41, t42, t43, t44, t45, t46, t47, t48, t49, t50], defers := [] } w') :
    (Code.region 8 #[{ dst := some 31, op := Op.move (Operand.tmp 6), type := 39, pos := "schema.go:131", after := #[], guard := none }, { dst := some 32, op := Op.load 63 (Operand.tmp 9), type := 63, pos := "schema.go:131", after := #[], guard := none }, { dst := some 33, op := Op.buildSlice 39 1 #[(0, Operand.tmp 32)], type := 39, pos := "schema.go:131", after := #[{ on := 1, ground := Ground.data }], guard := none }, { dst := some 34, op := Op.call { callee := Callee.builtin Builtin.append, args := #[Operand.tmp 31, Operand.tmp 33], argTypes := #[39, 39] }, type := 39, pos := "schema.go:131", after := #[{ on := 0, ground := Ground.data }, { on := 2, ground := Ground.data }], guard := none }, { dst := some 35, op := Op.move (Operand.tmp 1), type := 42, pos := "schema.go:131", after := #[], guard := none }, { dst := some 36, op := Op.move (Operand.tmp 10), type := 3, pos := "schema.go:131", after := #[], guard := none }, { dst := some 37, op := Op.slice 42 (Operand.tmp 35) (some (Operand.tmp 36)) none none, type := 42, pos := "schema.go:131", after := #[{ on := 4, ground := Ground.data }, { on := 5, ground := Ground.data }], guard := none }, { dst := some 6, op := Op.assign (Operand.tmp 34), type := 39, pos := "schema.go:131", after := #[{ on := 3, ground := Ground.data }, { on := 3, ground := Ground.chain }, { on := 0, ground := Ground.phase }, { on := 1, ground := Ground.phase }, { on := 2, ground := Ground.phase }, { on := 3, ground := Ground.phase }, { on := 4, ground := Ground.textOnly Departure.lateStores }, { on := 5, ground := Ground.textOnly Departure.lateStores }, { on := 6, ground := Ground.textOnly Departure.lateStoresUnsure }], guard := none }, { dst := some 1, op := Op.assign (Operand.tmp 37), type := 42, pos := "schema.go:131", after := #[{ on := 6, ground := Ground.data }, { on := 7, ground := Ground.chain }, { on := 0, ground := Ground.phase }, { on := 1, ground := Ground.phase }, { on := 2, ground := Ground.phase }, { on := 3, ground := Ground.phase }, { on := 4, ground := Ground.phase }, { on := 5, ground := Ground.phase }, { on := 6, ground := Ground.phase }, { on := 7, ground := Ground.phase }], guard := none }] true).wp Tryd.prog Q { tmps := #[t0, .slice A l.length c, t2, t3, t4, t5, y6, t7, t8, .pointer (some ⟨g9, 0, none⟩), .int .i64 nI, t11, t12, t13, t14, t15, t16, t17, t18, t19, t20, t21, t22, t23, t24, t25, t26, t27, t28, t29, t30, t31, t32, t33, t34, t35, t36, t37, t38, t39, t40, t41, t42, t43, t44, t45, t46, t47, t48, t49, t50], defers := [] } w0_ := by
  subst hnI
  have hu46 := Tryd.underlying63
  have HQ := z05.mk hQ
  have HP := z05.mk hP
  have HL := z05.mk hlen
  have HB := z05.mk (z03 hbw)
  have B2 := z05.mk (show w0_.drew.heap[g2]? = some (.cells cs2 24 (0, 0)) from hb2)
  have HO := z05.mk (show Kd.R k63 63 w0_.drew wb.heap.size (fun _ => True) y6 acc from Kd.R_below hO (z03 (Below.refl _ _)))
  have HSW := z05.mk (show w0_.drew.heap[g9]? = some (.cells #[.int .i64 v.f0, .int .i64 v.f1, .string v.f2, .bool v.f3] 63 (0, 0)) from hb9)
  have NE9 := z05.mk hne9
  clear hQ hP hlen hbw hb2 hO hb9 hne9
  refine wp_region_held (S := fun W : World => W.heap[g9]? = some (.cells #[.int .i64 v.f0, .int .i64 v.f1, .string v.f2, .bool v.f3] 63 (0, 0))) (by kernel_rfl) ?_
  obtain ⟨W0, hW0⟩ : ∃ W, W = w0_.drew := ⟨_, rfl⟩
  have hW0_ : ({ w0_ with drawn := w0_.drawn + 1 } : World) = W0 := hW0.symm
  rw [hW0_]
  rw [← hW0] at HB B2 HO HSW
  clear hW0 hW0_
  refine wpAnyH_take (i := 0) (oi := ({ dst := some 31, op := Op.move (Operand.tmp 6), type := 39, pos := "schema.go:131", after := #[], guard := none } : Oper)) (v := ?_) rfl (by kernel_rfl) (by kernel_rfl) (by kernel_rfl) (fun c a w => HP.out c a _ _ w) (Or.inl ⟨by rfl, ?_⟩) HSW.out ?_
  rotate_left
  · intro w_ _; go_simp; (try (with_reducible rfl))
  (try simp only [Act.put, List.setIfInBounds_toArray, List.set_cons_zero, List.set_cons_succ])
  refine wpAnyH_take (i := 1) (oi := ({ dst := some 32, op := Op.load 63 (Operand.tmp 9), type := 63, pos := "schema.go:131", after := #[], guard := none } : Oper)) (v := ?_) rfl (by kernel_rfl) (by kernel_rfl) (by kernel_rfl) (fun c a w => HP.out c a _ _ w) (Or.inl ⟨by rfl, ?_⟩) HSW.out ?_
  rotate_left
  · intro w_ B_; have hv0 : w_.cell? ⟨g9, 0, none⟩ = some (.int .i64 v.f0) := (z04 B_ 0).trans rfl; have hv1 : w_.cell? ⟨g9, 1, none⟩ = some (.int .i64 v.f1) := (z04 B_ 1).trans rfl; have hv2 : w_.cell? ⟨g9, 2, none⟩ = some (.string v.f2) := (z04 B_ 2).trans rfl; have hv3 : w_.cell? ⟨g9, 3, none⟩ = some (.bool v.f3) := (z04 B_ 3).trans rfl; clear B_; go_simp; (try (with_reducible rfl))
  (try simp only [Act.put, List.setIfInBounds_toArray, List.set_cons_zero, List.set_cons_succ])
  refine wpAnyH_take (i := 4) (oi := ({ dst := some 35, op := Op.move (Operand.tmp 1), type := 42, pos := "schema.go:131", after := #[], guard := none } : Oper)) (v := ?_) rfl (by kernel_rfl) (by kernel_rfl) (by kernel_rfl) (fun c a w => HP.out c a _ _ w) (Or.inl ⟨by rfl, ?_⟩) HSW.out ?_
  rotate_left
  · intro w_ _; go_simp; (try (with_reducible rfl))
  (try simp only [Act.put, List.setIfInBounds_toArray, List.set_cons_zero, List.set_cons_succ])
  refine wpAnyH_take (i := 5) (oi := ({ dst := some 36, op := Op.move (Operand.tmp 10), type := 3, pos := "schema.go:131", after := #[], guard := none } : Oper)) (v := ?_) rfl (by kernel_rfl) (by kernel_rfl) (by kernel_rfl) (fun c a w => HP.out c a _ _ w) (Or.inl ⟨by rfl, ?_⟩) HSW.out ?_
  rotate_left
  · intro w_ _; go_simp; (try (with_reducible rfl))
  (try simp only [Act.put, List.setIfInBounds_toArray, List.set_cons_zero, List.set_cons_succ])
  refine wpAnyH_take (i := 6) (oi := ({ dst := some 37, op := Op.slice 42 (Operand.tmp 35) (some (Operand.tmp 36)) none none, type := 42, pos := "schema.go:131", after := #[{ on := 4, ground := Ground.data }, { on := 5, ground := Ground.data }], guard := none } : Oper)) (v := ?_) rfl (by kernel_rfl) (by kernel_rfl) (by kernel_rfl) (fun c a w => HP.out c a _ _ w) (Or.inl ⟨by rfl, ?_⟩) HSW.out ?_
  rotate_left
  · intro w_ _; go_simp; (try (with_reducible rfl))
  (try simp only [Act.put, List.setIfInBounds_toArray, List.set_cons_zero, List.set_cons_succ])
  refine wpAnyH_ready (rs := [2]) (by kernel_rfl) (by simp) ?_
  refine AllReadyH.cons (o := ({ dst := some 33, op := Op.buildSlice 39 1 #[(0, Operand.tmp 32)], type := 39, pos := "schema.go:131", after := #[{ on := 1, ground := Ground.data }], guard := none } : Oper)) rfl (fun K hK => ?_) AllReadyH.nil
  go_simp
  have hbn := z02 (Below.refl W0.heap.size W0) (.cells #[.int .i64 v.f0, .int .i64 v.f1, .string v.f2, .bool v.f3] 63 (0, 0))
  obtain ⟨gB, hgB⟩ : ∃ g, g = W0.heap.size := ⟨_, rfl⟩
  have BB := heap_alloc_last W0 (.cells #[.int .i64 v.f0, .int .i64 v.f1, .string v.f2, .bool v.f3] 63 (0, 0))
  obtain ⟨W1, hW1⟩ : ∃ W, W = W0.alloc (.cells #[.int .i64 v.f0, .int .i64 v.f1, .string v.f2, .bool v.f3] 63 (0, 0)) := ⟨_, rfl⟩
  rw [← hW1]
  rw [← hgB]
  rw [← hW1] at hbn BB
  rw [← hgB] at BB
  have BB := z05.mk BB
  have HB_ := z05.mk (z0a HB.out hbn)
  have B2_ := z05.mk (z0e B2.out hbn)
  have HO_ := z05.mk (Kd.R_below HO.out hbn)
  have HSW_ := z05.mk (z0e HSW.out hbn)
  clear HB B2 HO HSW hbn hgB hW1
  have HB := HB_
  have B2 := B2_
  have HO := HO_
  have HSW := HSW_
  clear HB_ B2_ HO_ HSW_
  refine hK.out _ _ HSW.out (fun _ => ?_)
  clear hK K
  (try simp only [Act.put, List.setIfInBounds_toArray, List.set_cons_zero, List.set_cons_succ])
  refine wpAnyH_ready (rs := [3]) (by kernel_rfl) (by simp) ?_
  refine AllReadyH.cons (o := ({ dst := some 34, op := Op.call { callee := Callee.builtin Builtin.append, args := #[Operand.tmp 31, Operand.tmp 33], argTypes := #[39, 39] }, type := 39, pos := "schema.go:131", after := #[{ on := 0, ground := Ground.data }, { on := 2, ground := Ground.data }], guard := none } : Oper)) rfl (fun K hK => ?_) AllReadyH.nil
  refine Kd.R_append_rows_step k63 (w0 := wb) wb.heap.size (by rfl) (.tmp 31) (.tmp 33) 39 63 (.agg #[(.int .i64 0), (.int .i64 0), (.string ⟨#[]⟩), (.bool false)]) 40 rfl Tryd.underlying39 z8m rfl (by decide) (by omega) y6 acc [v] (some ⟨gB, 0, none⟩) 1 1 (fun _ => True) (fun _ => False) rfl rfl HO.out (z8s v BB.out) (fun _ _ h => h) (fun _ h => h.elim) (fun _ _ => trivial) HB.out HB.out.size (by have := HL.out; omega) ?_
  intro y34 W2 ho hbn hg hat
  have NE2 : some g2 ≠ y6.ownBlock := fun he => ((Kd.R_types HO.out B2.out (by decide)).1 g2 he.symm).2 rfl
  have B2_ := z05.mk ((hg.block g2 (z0q B2.out) NE2).trans B2.out)
  have HSW_ := z05.mk ((hg.block g9 (z0q HSW.out) NE9.out).trans HSW.out)
  have HO_ := z05.mk ho
  have HB_ := z05.mk hbn
  clear HB B2 HO HSW BB NE2 ho hbn hg hat
  have HB := HB_
  have B2 := B2_
  have HO := HO_
  have HSW := HSW_
  clear HB_ B2_ HO_ HSW_
  refine hK.out _ _ HSW.out (fun _ => ?_)
  clear hK K
  (try simp only [Act.put, List.setIfInBounds_toArray, List.set_cons_zero, List.set_cons_succ])
  refine wpAnyH_take (i := 7) (oi := ({ dst := some 6, op := Op.assign (Operand.tmp 34), type := 39, pos := "schema.go:131", after := #[{ on := 3, ground := Ground.data }, { on := 3, ground := Ground.chain }, { on := 0, ground := Ground.phase }, { on := 1, ground := Ground.phase }, { on := 2, ground := Ground.phase }, { on := 3, ground := Ground.phase }, { on := 4, ground := Ground.textOnly Departure.lateStores }, { on := 5, ground := Ground.textOnly Departure.lateStores }, { on := 6, ground := Ground.textOnly Departure.lateStoresUnsure }], guard := none } : Oper)) (v := ?_) rfl (by kernel_rfl) (by kernel_rfl) (by kernel_rfl) (fun c a w => HP.out c a _ _ w) (Or.inl ⟨by rfl, ?_⟩) HSW.out ?_
  rotate_left
  · intro w_ _; go_simp; (try (with_reducible rfl))
  (try simp only [Act.put, List.setIfInBounds_toArray, List.set_cons_zero, List.set_cons_succ])
  refine wpAnyH_take (i := 8) (oi := ({ dst := some 1, op := Op.assign (Operand.tmp 37), type := 42, pos := "schema.go:131", after := #[{ on := 6, ground := Ground.data }, { on := 7, ground := Ground.chain }, { on := 0, ground := Ground.phase }, { on := 1, ground := Ground.phase }, { on := 2, ground := Ground.phase }, { on := 3, ground := Ground.phase }, { on := 4, ground := Ground.phase }, { on := 5, ground := Ground.phase }, { on := 6, ground := Ground.phase }, { on := 7, ground := Ground.phase }], guard := none } : Oper)) (v := ?_) rfl (by kernel_rfl) (by kernel_rfl) (by kernel_rfl) (fun c a w => HP.out c a _ _ w) (Or.inl ⟨by rfl, ?_⟩) HSW.out ?_
  rotate_left
  · intro w_ _; go_simp; (try (with_reducible rfl))
  (try simp only [Act.put, List.setIfInBounds_toArray, List.set_cons_zero, List.set_cons_succ])
  refine wpAnyH_done (by kernel_rfl) ?_ _
  exact HQ.out _ _ _ HO.out HB.out B2.out
/-- Rows of columns, told one behind the other. -/
def decC : List S45 → List Int → List S63 → Option (List S63 × Int)
  | [], b, acc => if b = [] then some (acc, 0) else some ([], 7)
  | x :: t, b, acc => (schema_column.f x.f2 x.f1 b).bind fun r => if r.2.2.2.2.2 = 0 then (if 0 ≤ r.2.2.2.2.1 ∧ r.2.2.2.2.1 ≤ (b.length : Int) then decC t (b.drop r.2.2.2.2.1.toNat) (acc ++ [⟨r.1, r.2.1, r.2.2.1, r.2.2.2.1⟩]) else none) else some ([], r.2.2.2.2.2)
theorem z87 : (Tryd.prog.info? 45).map (·.size) = some 3 := by kernel_rfl
theorem ErrC.d {W : World} {E : Value} {er i : Int} (h : ErrC W E er i) : ErrD W E er := by
  rcases h with h | ⟨_, g, h1, h2⟩
  · exact .inl h
  · exact .inr (.inl ⟨g, i, h1, h2⟩)
theorem z4m (p : Value) (w : World) : (binOp .neq 57 (.iface 72 p) .nilIface).run Tryd.prog w = .ok (.bool true) w := by kernel_rfl
set_option maxHeartbeats 8000000 in
set_option maxRecDepth 100000 in
theorem schema_decode.calls (A0 : Option Addr) (c0 : Nat) (l0 : List S45) (a1 a2 a3 a4 : Int) (A1 : Option Addr) (c1 : Nat) (b0 : List Int) (r : List S63) (er : Int) (w : World) (hr0 : Kd.C k45 w A0 l0.length l0) (hr1 : Kd.C (Kd.int .u8) w A1 b0.length b0) (hc1 : b0.length ≤ c1) (hl : l0.length ≤ 1000) (h : decC l0 b0 [] = some (r, er)) :
    Calls Tryd.prog 27 #[.agg #[.slice A0 l0.length c0, .int .i64 a1, .int .i64 a2, .int .i64 a3, .int .i64 a4], .slice A1 b0.length c1] w fun e w' => ∃ v0 E, e = .returned (.tuple #[v0, E]) ∧ ErrD w' E er ∧ Kd.R k63 63 w' w.heap.size (fun _ => True) v0 r ∧ Below w.heap.size w w' := by
  have HB := z05.mk (Below.refl w.heap.size w)
  have HR := z05.mk hr0
  have HRB := z05.mk hr1
  have HCB := z05.mk hc1
  have HL := z05.mk hl
  have HD := z05.mk h
  have hu24 := Tryd.underlying24
  have hu48 := Tryd.underlying45
  have hu46 := Tryd.underlying63
  have hu75 := Tryd.underlying76
  clear hr0 hr1 hc1 hl h
  go_enter Tryd.func27, Tryd.ntmps27
  go_wp2_with (first
    | ((with_reducible refine z0h (N := 2) rfl ?_); refine z0g ?hg (N := 2) ?hd (cs := #[.slice A0 l0.length c0, .int .i64 a1, .int .i64 a2, .int .i64 a3, .int .i64 a4]) (t := 24) ?hr ?_; (case hd => rfl); (case hg => rfl); (case hr => first | (go_simp; done) | (go_simp; rfl)); intro g2 hg w1 hbox hb; have B2 := z05.mk hbox; have GEB2 := z05.mk ((by rw [hg]; exact (z0b (by repeat (first | (with_reducible first | exact HB.out | apply z02 | apply z00 | apply z03) | exact HB.out)))) : w.heap.size ≤ g2); have b_HB := z05.mk (z0a (by repeat (first | (with_reducible first | exact HB.out | apply z02 | apply z00 | apply z03) | exact HB.out)) hb); clear HB; have HB := b_HB; clear b_HB; clear hbox hg hb; have hs0 : w1.cell? ⟨g2, 0, none⟩ = some (.slice A0 l0.length c0) := (z04 B2.out 0).trans rfl))
  clear hs0
  go_loopg [1, 6, 15] l0.length (fun m_ v1 v6 v15 wr => ∃ (k : Nat) (A2 : Option Addr) (c2 : Nat) (b : List Int) (acc : List S63), v15 = .int .i64 (k : Int) ∧ v1 = .slice A2 b.length c2 ∧ z05 (k + m_ = l0.length) ∧ z05 (Kd.C (Kd.int .u8) w A2 b.length b) ∧ z05 (b.length ≤ c2) ∧ z05 (Kd.R k63 63 wr w.heap.size (fun _ => True) v6 acc) ∧ z05 (acc.length ≤ k) ∧ z05 (decC (l0.drop k) b acc = some (r, er)) ∧ z05 (Below w.heap.size w wr) ∧ z05 (wr.heap[g2]? = some (.cells #[.slice A0 l0.length c0, .int .i64 a1, .int .i64 a2, .int .i64 a3, .int .i64 a4] 24 (0, 0))))
  case atStart => exact ⟨0, A1, c1, b0, [], rfl, rfl, ⟨by omega⟩, ⟨HRB.out⟩, ⟨HCB.out⟩, ⟨Kd.R_nil _ _ _ _ _⟩, ⟨Nat.le_refl _⟩, ⟨HD.out⟩, ⟨HB.out⟩, ⟨B2.out⟩⟩
  case round =>
    clear HB B2 HD HRB HCB
    obtain ⟨k, A2, c2, b, acc, rfl, rfl, HK, HRB, HCB, HO, HAL, HD, HBW, B2⟩ := hrel
    cases gk with
    | zero =>
      have hk : k = l0.length := by have := HK.out; omega
      have r1 : decide ((k : Int) < (l0.length : Int)) = false := decide_eq_false (by omega)
      have r2 : decide (k < l0.length) = false := decide_eq_false (by omega)
      have HE := z05.mk (show (if b = [] then some (acc, (0 : Int)) else some ([], 7)) = some (r, er) by have h := HD.out; rw [hk, List.drop_length] at h; exact h)
      clear hk HD
      by_cases hb : b = []
      · have hE := HE.out
        rw [if_pos hb, Option.some.injEq, Prod.mk.injEq] at hE
        obtain ⟨rfl, rfl⟩ := hE
        subst hb
        go_wp2
        go_ret2
        exact ⟨_, _, rfl, .inl ⟨rfl, rfl⟩, HO.out, HBW.out⟩
      · have hE := HE.out
        rw [if_neg hb, Option.some.injEq, Prod.mk.injEq] at hE
        obtain ⟨rfl, rfl⟩ := hE
        have hp : 0 < b.length := List.length_pos_iff.2 hb
        have q1 : decide ((0 : Int) < (b.length : Int)) = true := decide_eq_true (by omega)
        have q2 : decide (0 < b.length) = true := decide_eq_true hp
        have hs0 : wr.cell? ⟨g2, 0, none⟩ = some (.slice A0 l0.length c0) := (z04 B2.out 0).trans rfl
        clear hb hp HE
        go_wp2
        go_region_law (fail)
        all_goals go_wp2
        all_goals go_ret2
        all_goals exact ⟨_, _, rfl, .inr (.inr ⟨rfl, _, _, _, rfl, heap_alloc_last _ _⟩), Kd.R_nil _ _ _ _ _, z02 (z03 HBW.out) _⟩
    | succ m_ =>
      have hk : k < l0.length := by have := HK.out; omega
      have hkI : (k : Int) < (l0.length : Int) := by omega
      have r1 : decide ((k : Int) < (l0.length : Int)) = true := decide_eq_true hkI
      have r2 : decide (k < l0.length) = true := decide_eq_true hk
      have r3 : (0 : Int) ≤ (k : Int) := by omega
      obtain ⟨ad, e1, x0, x1, x2⟩ := z11 (Kd.C_below HR.out HBW.out) (k : Int) r3 hkI
      cases e1
      rw [Int.toNat_natCast] at x0 x1 x2
      have hd : l0.drop k = z0f l0 (k : Int) :: l0.drop (k + 1) := by
        unfold z0f
        rw [List.drop_eq_getElem_cons hk, Int.toNat_natCast, List.getD_eq_getElem?_getD, List.getElem?_eq_getElem hk]
        rfl
      have hD := HD.out
      rw [hd] at hD
      clear hd HD
      generalize z0f l0 (k : Int) = x at x0 x1 x2 hD
      obtain ⟨⟨v1, v2, v3, v4, n, ec⟩, hf, hD⟩ := Option.bind_eq_some_iff.1 hD
      dsimp only at hD
      have HF := z05.mk hf
      have HB := z05.mk (Below.refl wr.heap.size wr)
      have hu62 : True := trivial
      by_cases hec : ec = 0
      · rw [if_pos hec] at hD
        by_cases hn : 0 ≤ n ∧ n ≤ (b.length : Int)
        · rw [if_pos hn] at hD
          have HD := z05.mk hD
          have HN := z05.mk hn
          have HEC := z05.mk hec
          clear hD hn hec hf
          go_wp2_with (first
            | ((with_reducible refine z0h (N := 8) rfl ?_); refine z0g ?hg (N := 8) ?hd (cs := #[.string ⟨#[]⟩, .int .i64 0, .bool false]) (t := 45) ?hr ?_; (case hd => rfl); (case hg => rfl); (case hr => first | (go_simp; done) | (go_simp; rfl)); intro g8 hg w2 hbox hb; have B8 := z05.mk hbox; have GEB8 := z05.mk ((by rw [hg]; exact (z0b (by repeat (first | (with_reducible first | exact HB.out | apply z02 | apply z00 | apply z03) | exact HB.out)))) : wr.heap.size ≤ g8); have b_HB := z05.mk (z0a (by repeat (first | (with_reducible first | exact HB.out | apply z02 | apply z00 | apply z03) | exact HB.out)) hb); clear HB; have HB := b_HB; clear b_HB; clear hbox hg hb)
            | ((with_reducible refine gate_ (.store 45 (.tmp 8) (.tmp 19)) rfl ?_); go_loud (refine z13 rfl rfl 45 (.tmp 8) (.tmp 19) rfl g8 (0) rfl (.agg #[.string x.f0, .int .i64 x.f1, .bool x.f2]) rfl [.string x.f0, .int .i64 x.f1, .bool x.f2] rfl #[.string ⟨#[]⟩, .int .i64 0, .bool false] 45 B8.out z87 (by simp) (by simp [Value.oneCell']) #[.string x.f0, .int .i64 x.f1, .bool x.f2] rfl ?_); intro w3 hs st; have b_HB := z05.mk (Step.fresh st (by repeat (first | (with_reducible first | exact HB.out | apply z02 | apply z00 | apply z03) | exact HB.out)) GEB8.out); clear HB; have HB := b_HB; clear b_HB; clear B8; have B8 := z05.mk hs; clear hs st; clear x0 x1 x2; have hx0 : w3.cell? ⟨g8, 0, none⟩ = some (.string x.f0) := (z04 B8.out 0).trans rfl; have hx1 : w3.cell? ⟨g8, 1, none⟩ = some (.int .i64 x.f1) := (z04 B8.out 1).trans rfl; have hx2 : w3.cell? ⟨g8, 2, none⟩ = some (.bool x.f2) := (z04 B8.out 2).trans rfl)
            | ((with_reducible refine z0j (f := 36) rfl ?_); refine z0u (some 24) rfl rfl Tryd.func36 (by kernel_rfl) rfl #[.agg #[.string x.f0, .int .i64 x.f1, .bool x.f2], .int .i64 (k : Int), .slice A2 b.length c2] rfl (by (try simp only [List.map_toArray, List.map_cons, List.map_nil]); first | done | rfl) ?_; go_loud (refine (schema_column.calls x (k : Int) A2 c2 b v1 v2 v3 v4 n ec _ (Kd.C_below HRB.out (z0a HBW.out HB.out)) HCB.out HF.out).mono ?_); rintro e w4 ⟨E, rfl, he, hb⟩; refine ⟨_, rfl, ?_⟩; obtain rfl : E = .nilIface := (by rcases he with h | h; exact h.2; exact absurd HEC.out h.1); clear he; have b_HB := z05.mk (z0a HB.out hb); clear HB hb; have HB := b_HB; clear b_HB hx0 hx1 hx2 B8)
            | ((with_reducible refine z0h (N := 9) rfl ?_); refine z0g ?hg (N := 9) ?hd (cs := #[.int .i64 0, .int .i64 0, .string ⟨#[]⟩, .bool false]) (t := 63) ?hr ?_; (case hd => rfl); (case hg => rfl); (case hr => first | (go_simp; done) | (go_simp; rfl)); intro g9 hg w5 hbox hb; have B9 := z05.mk hbox; have GEB9 := z05.mk ((by rw [hg]; exact (z0b (by repeat (first | (with_reducible first | exact HB.out | apply z02 | apply z00 | apply z03) | exact HB.out)))) : wr.heap.size ≤ g9); have b_HB := z05.mk (z0a (by repeat (first | (with_reducible first | exact HB.out | apply z02 | apply z00 | apply z03) | exact HB.out)) hb); clear HB; have HB := b_HB; clear b_HB; clear hbox hg hb)
            | ((with_reducible refine gate_ (.store 63 (.tmp 9) (.tmp 25)) rfl ?_); go_loud (refine z13 rfl rfl 63 (.tmp 9) (.tmp 25) rfl g9 (0) rfl (.agg #[.int .i64 v1, .int .i64 v2, .string v3, .bool v4]) rfl [.int .i64 v1, .int .i64 v2, .string v3, .bool v4] rfl #[.int .i64 0, .int .i64 0, .string ⟨#[]⟩, .bool false] 63 B9.out z1m (by simp) (by simp [Value.oneCell']) #[.int .i64 v1, .int .i64 v2, .string v3, .bool v4] rfl ?_); intro w6 hs st; have b_HB := z05.mk (Step.fresh st (by repeat (first | (with_reducible first | exact HB.out | apply z02 | apply z00 | apply z03) | exact HB.out)) GEB9.out); clear HB; have HB := b_HB; clear b_HB; clear B9; have B9 := z05.mk hs; clear hs st))
          obtain ⟨i5, hi5, hs5⟩ : ∃ i, Tryd.prog.info? 5 = some i ∧ i.size = 1 := Option.map_eq_some_iff.1 (by kernel_rfl)
          have hcut := z1z (P := Tryd.prog) 42 5 .i64 Tryd.underlying42 hi5 1 hs5 A2 b.length c2 n HN.out.1 HN.out.2
          have HRD := z05.mk (Kd.C_drop HRB.out (m := n.toNat) (by have := HN.out; omega) HCB.out)
          have hsz : (Kd.int .u8).sz = 1 := rfl
          rw [hsz] at HRD
          obtain ⟨A3, hA3⟩ : ∃ A3, (if c2 = n.toNat then A2 else A2.map (·.add (n.toNat * 1))) = A3 := ⟨_, rfl⟩
          rw [hA3] at hcut HRD
          obtain ⟨b3, hb3⟩ : ∃ b3, b.drop n.toNat = b3 := ⟨_, rfl⟩
          rw [hb3] at HRD HD
          have hln : b.length - n.toNat = b3.length := by rw [← hb3, List.length_drop]
          rw [hln] at hcut
          have HC3 := z05.mk (show b3.length ≤ c2 - n.toNat by have := HCB.out; rw [← hln]; omega)
          have hnI : n = ((n.toNat : Nat) : Int) := (Int.toNat_of_nonneg HN.out.1).symm
          rw [hnI] at hcut
          rw [Int.toNat_natCast] at hcut
          clear hA3 hb3 hln hsz hi5
          have HNI := z05.mk hnI
          clear hnI
          refine z4n ⟨v1, v2, v3, v4⟩ b b3 A2 A3 c2 n.toNat n HNI.out acc u6 g2 g9 _ w w6 (z0a HBW.out HB.out) B9.out (fun he => by have h1 := Kd.R_lt HO.out g9 he.symm; have h2 := GEB9.out; omega) (z0e B2.out HB.out) hcut (Kd.R_below HO.out HB.out) (by have := HAL.out; have := HL.out; omega) _ (fun c a d u w h => by cases d <;> exact h) ?_
          clear hcut
          intro y33 y34 w7 hO7 hB7 hB27
          have HO7 := z05.mk hO7
          have HB7 := z05.mk hB7
          have HB27 := z05.mk hB27
          clear hO7 hB7 hB27
          go_wp2
          go_roundg m_
          case measure => omega
          case rel => exact ⟨k + 1, A3, c2 - n.toNat, b3, acc ++ [⟨v1, v2, v3, v4⟩], by rw [show ((k + 1 : Nat) : Int) = (k : Int) + 1 from by omega, z1c (by omega) (by have := HL.out; omega)], rfl, ⟨by have := HK.out; omega⟩, ⟨HRD.out⟩, ⟨HC3.out⟩, ⟨HO7.out⟩, ⟨by rw [List.length_append]; have := HAL.out; simp only [List.length_cons, List.length_nil]; omega⟩, ⟨HD.out⟩, ⟨HB7.out⟩, ⟨HB27.out⟩⟩
        · rw [if_neg hn] at hD
          cases hD
      · rw [if_neg hec, Option.some.injEq, Prod.mk.injEq] at hD
        obtain ⟨rfl, rfl⟩ := hD
        have HEC := z05.mk hec
        clear hec hf
        have hnn := z4m
        go_wp2_with (first
          | ((with_reducible refine z0h (N := 8) rfl ?_); refine z0g ?hg (N := 8) ?hd (cs := #[.string ⟨#[]⟩, .int .i64 0, .bool false]) (t := 45) ?hr ?_; (case hd => rfl); (case hg => rfl); (case hr => first | (go_simp; done) | (go_simp; rfl)); intro g8 hg w2 hbox hb; have B8 := z05.mk hbox; have GEB8 := z05.mk ((by rw [hg]; exact (z0b (by repeat (first | (with_reducible first | exact HB.out | apply z02 | apply z00 | apply z03) | exact HB.out)))) : wr.heap.size ≤ g8); have b_HB := z05.mk (z0a (by repeat (first | (with_reducible first | exact HB.out | apply z02 | apply z00 | apply z03) | exact HB.out)) hb); clear HB; have HB := b_HB; clear b_HB; clear hbox hg hb)
          | ((with_reducible refine gate_ (.store 45 (.tmp 8) (.tmp 19)) rfl ?_); go_loud (refine z13 rfl rfl 45 (.tmp 8) (.tmp 19) rfl g8 (0) rfl (.agg #[.string x.f0, .int .i64 x.f1, .bool x.f2]) rfl [.string x.f0, .int .i64 x.f1, .bool x.f2] rfl #[.string ⟨#[]⟩, .int .i64 0, .bool false] 45 B8.out z87 (by simp) (by simp [Value.oneCell']) #[.string x.f0, .int .i64 x.f1, .bool x.f2] rfl ?_); intro w3 hs st; have b_HB := z05.mk (Step.fresh st (by repeat (first | (with_reducible first | exact HB.out | apply z02 | apply z00 | apply z03) | exact HB.out)) GEB8.out); clear HB; have HB := b_HB; clear b_HB; clear B8; have B8 := z05.mk hs; clear hs st; clear x0 x1 x2; have hx0 : w3.cell? ⟨g8, 0, none⟩ = some (.string x.f0) := (z04 B8.out 0).trans rfl; have hx1 : w3.cell? ⟨g8, 1, none⟩ = some (.int .i64 x.f1) := (z04 B8.out 1).trans rfl; have hx2 : w3.cell? ⟨g8, 2, none⟩ = some (.bool x.f2) := (z04 B8.out 2).trans rfl)
          | ((with_reducible refine z0j (f := 36) rfl ?_); refine z0u (some 24) rfl rfl Tryd.func36 (by kernel_rfl) rfl #[.agg #[.string x.f0, .int .i64 x.f1, .bool x.f2], .int .i64 (k : Int), .slice A2 b.length c2] rfl (by (try simp only [List.map_toArray, List.map_cons, List.map_nil]); first | done | rfl) ?_; go_loud (refine (schema_column.calls x (k : Int) A2 c2 b v1 v2 v3 v4 n ec _ (Kd.C_below HRB.out (z0a HBW.out HB.out)) HCB.out HF.out).mono ?_); rintro e w4 ⟨E, rfl, he, hb⟩; refine ⟨_, rfl, ?_⟩; obtain ⟨g, rfl, hgw⟩ : ∃ g, E = .iface 72 (.pointer (some ⟨g, 0, none⟩)) ∧ w4.heap[g]? = some (.cells #[.int .i64 (k : Int), .int .i64 ec, .nilIface] 76 (0, 0)) := (by rcases he with h | h; exact absurd h.1 HEC.out; exact h.2); have BW := z05.mk hgw; clear he hgw; have b_HB := z05.mk (z0a HB.out hb); clear HB hb; have HB := b_HB; clear b_HB hx0 hx1 hx2 B8)
          | ((with_reducible refine z0h (N := 9) rfl ?_); refine z0g ?hg (N := 9) ?hd (cs := #[.int .i64 0, .int .i64 0, .string ⟨#[]⟩, .bool false]) (t := 63) ?hr ?_; (case hd => rfl); (case hg => rfl); (case hr => first | (go_simp; done) | (go_simp; rfl)); intro g9 hg w5 hbox hb; have B9 := z05.mk hbox; have GEB9 := z05.mk ((by rw [hg]; exact (z0b (by repeat (first | (with_reducible first | exact HB.out | apply z02 | apply z00 | apply z03) | exact HB.out)))) : wr.heap.size ≤ g9); have NBWB9 := z05.mk ((by rw [hg]; exact Nat.ne_of_lt (z0q (by (with_reducible repeat (first | refine z07 ?_ _ | refine z08 ?_ | refine z06 ?_ _)); exact BW.out))) : g ≠ g9); have b_BW := z05.mk (z0e (by (with_reducible repeat (first | refine z07 ?_ _ | refine z08 ?_ | refine z06 ?_ _)); exact BW.out) hb); have b_HB := z05.mk (z0a (by repeat (first | (with_reducible first | exact HB.out | apply z02 | apply z00 | apply z03) | exact HB.out)) hb); clear HB BW; have HB := b_HB; have BW := b_BW; clear b_HB b_BW; clear hbox hg hb)
          | ((with_reducible refine gate_ (.store 63 (.tmp 9) (.tmp 25)) rfl ?_); go_loud (refine z13 rfl rfl 63 (.tmp 9) (.tmp 25) rfl g9 (0) rfl (.agg #[.int .i64 v1, .int .i64 v2, .string v3, .bool v4]) rfl [.int .i64 v1, .int .i64 v2, .string v3, .bool v4] rfl #[.int .i64 0, .int .i64 0, .string ⟨#[]⟩, .bool false] 63 B9.out z1m (by simp) (by simp [Value.oneCell']) #[.int .i64 v1, .int .i64 v2, .string v3, .bool v4] rfl ?_); intro w6 hs st; have b_BW := z05.mk (Step.blk st (by (with_reducible repeat (first | refine z07 ?_ _ | refine z08 ?_ | refine z06 ?_ _)); exact BW.out) (NBWB9.out)); have b_HB := z05.mk (Step.fresh st (by repeat (first | (with_reducible first | exact HB.out | apply z02 | apply z00 | apply z03) | exact HB.out)) GEB9.out); clear HB BW; have HB := b_HB; have BW := b_BW; clear b_HB b_BW; clear B9; have B9 := z05.mk hs; clear hs st))
        go_ret2
        exact ⟨_, _, rfl, .inr (.inl ⟨g, _, rfl, BW.out⟩), Kd.R_nil _ _ _ _ _, z0a HBW.out HB.out⟩
/-- What a schema's bytes give. -/
def schema_Decode.f (l0_0 : List S45) (a0_1 a0_2 a0_3 a0_4 : Int) (l1 : List Int) : Option (List S63 × Int) := if l0_0.length ≤ 1000 then (if mayS l0_0 a0_1 a0_2 a0_3 a0_4 = true then decC l0_0 l1 [] else some ([], 1)) else none
set_option maxHeartbeats 8000000 in
set_option maxRecDepth 100000 in
theorem schema_Decode.calls (A0_0 : Option Addr) (c0_0 : Nat) (l0_0 : List S45) (a0_1 a0_2 a0_3 a0_4 : Int) (A1 : Option Addr) (c1 : Nat) (l1 : List Int) (r1 : List S63) (r2 : Int) (w : World) (hr0_0 : Kd.C k45 w A0_0 l0_0.length l0_0) (hc0_0 : l0_0.length ≤ c0_0) (hr1 : Kd.C (Kd.int .u8) w A1 l1.length l1) (hc1 : l1.length ≤ c1) (hG : Globs w) (h : schema_Decode.f l0_0 a0_1 a0_2 a0_3 a0_4 l1 = some (r1, r2)) :
    Calls Tryd.prog 18 #[.agg #[.slice A0_0 l0_0.length c0_0, .int .i64 a0_1, .int .i64 a0_2, .int .i64 a0_3, .int .i64 a0_4], .slice A1 l1.length c1] w fun e w' => ∃ v0_ : Value, e = .returned (.tuple #[v0_, .int .i64 r2]) ∧ Kd.R k63 63 w' w.heap.size (fun _ => True) v0_ r1 ∧ Below w.heap.size w w' := by
  unfold schema_Decode.f at h
  by_cases hl : l0_0.length ≤ 1000
  · rw [if_pos hl] at h
    have HL := z05.mk hl
    have HB := z05.mk (Below.refl w.heap.size w)
    have HR := z05.mk hr0_0
    have HC := z05.mk hc0_0
    have HR1 := z05.mk hr1
    have HC1 := z05.mk hc1
    have HG := z05.mk hG
    have hu24 := Tryd.underlying24
    have HM := z05.mk (show schema_May.f l0_0 a0_1 a0_2 a0_3 a0_4 = some (mayS l0_0 a0_1 a0_2 a0_3 a0_4) by unfold schema_May.f; rw [if_pos (by omega)])
    cases hm : mayS l0_0 a0_1 a0_2 a0_3 a0_4 with
    | false =>
      rw [hm, if_neg (by decide), Option.some.injEq, Prod.mk.injEq] at h
      obtain ⟨rfl, rfl⟩ := h
      rw [hm] at HM
      clear hl hr0_0 hc0_0 hr1 hc1 hG hm
      go_enter Tryd.func18, Tryd.ntmps18
      go_wp2_with (first
        | ((with_reducible refine z0h (N := 2) rfl ?_); refine z0g ?hg (N := 2) ?hd (cs := #[.slice A0_0 l0_0.length c0_0, .int .i64 a0_1, .int .i64 a0_2, .int .i64 a0_3, .int .i64 a0_4]) (t := 24) ?hr ?_; (case hd => rfl); (case hg => rfl); (case hr => first | (go_simp; done) | (go_simp; rfl)); intro gb hg w2 hbox hb; have n0_ := z05.mk (z0a HB.out hb); have hz0 : w2.cell? ⟨gb, 0, none⟩ = some (.slice A0_0 l0_0.length c0_0) := (z04 hbox 0).trans rfl; have hz1 : w2.cell? ⟨gb, 1, none⟩ = some (.int .i64 a0_1) := (z04 hbox 1).trans rfl; have hz2 : w2.cell? ⟨gb, 2, none⟩ = some (.int .i64 a0_2) := (z04 hbox 2).trans rfl; have hz3 : w2.cell? ⟨gb, 3, none⟩ = some (.int .i64 a0_3) := (z04 hbox 3).trans rfl; have hz4 : w2.cell? ⟨gb, 4, none⟩ = some (.int .i64 a0_4) := (z04 hbox 4).trans rfl; clear HB; have HB := n0_; clear n0_ hb hbox hg)
        | (go_at_call 16; refine (schema_May.calls A0_0 c0_0 l0_0 a0_1 a0_2 a0_3 a0_4 false _ (Kd.C_below HR.out HB.out) HC.out HM.out).mono ?_; rintro e w3 ⟨rfl, hb⟩; have n0_ := z05.mk (z0a HB.out hb); clear HB hz0 hz1 hz2 hz3 hz4 hb; have HB := n0_; clear n0_))
      go_ret2
      exact ⟨_, rfl, Kd.R_nil _ _ _ _ _, HB.out⟩
    | true =>
      rw [hm, if_pos rfl] at h
      have HD := z05.mk h
      rw [hm] at HM
      clear hl hr0_0 hc0_0 hr1 hc1 hG hm h
      go_enter Tryd.func18, Tryd.ntmps18
      go_wp2_with (first
        | ((with_reducible refine z0h (N := 2) rfl ?_); refine z0g ?hg (N := 2) ?hd (cs := #[.slice A0_0 l0_0.length c0_0, .int .i64 a0_1, .int .i64 a0_2, .int .i64 a0_3, .int .i64 a0_4]) (t := 24) ?hr ?_; (case hd => rfl); (case hg => rfl); (case hr => first | (go_simp; done) | (go_simp; rfl)); intro gb hg w2 hbox hb; have n0_ := z05.mk (z0a HB.out hb); have B2 := z05.mk hbox; have hz0 : w2.cell? ⟨gb, 0, none⟩ = some (.slice A0_0 l0_0.length c0_0) := (z04 hbox 0).trans rfl; have hz1 : w2.cell? ⟨gb, 1, none⟩ = some (.int .i64 a0_1) := (z04 hbox 1).trans rfl; have hz2 : w2.cell? ⟨gb, 2, none⟩ = some (.int .i64 a0_2) := (z04 hbox 2).trans rfl; have hz3 : w2.cell? ⟨gb, 3, none⟩ = some (.int .i64 a0_3) := (z04 hbox 3).trans rfl; have hz4 : w2.cell? ⟨gb, 4, none⟩ = some (.int .i64 a0_4) := (z04 hbox 4).trans rfl; clear HB; have HB := n0_; clear n0_ hb hbox hg)
        | (go_at_call 16; refine (schema_May.calls A0_0 c0_0 l0_0 a0_1 a0_2 a0_3 a0_4 true _ (Kd.C_below HR.out HB.out) HC.out HM.out).mono ?_; rintro e w3 ⟨rfl, hb⟩; have n0_ := z05.mk (z0a HB.out hb); have B2_ := z05.mk (z0e B2.out hb); clear HB B2 hz0 hz1 hz2 hz3 hz4 hb; have HB := n0_; have B2 := B2_; clear n0_ B2_; have hz0 : w3.cell? ⟨gb, 0, none⟩ = some (.slice A0_0 l0_0.length c0_0) := (z04 B2.out 0).trans rfl; have hz1 : w3.cell? ⟨gb, 1, none⟩ = some (.int .i64 a0_1) := (z04 B2.out 1).trans rfl; have hz2 : w3.cell? ⟨gb, 2, none⟩ = some (.int .i64 a0_2) := (z04 B2.out 2).trans rfl; have hz3 : w3.cell? ⟨gb, 3, none⟩ = some (.int .i64 a0_3) := (z04 B2.out 3).trans rfl; have hz4 : w3.cell? ⟨gb, 4, none⟩ = some (.int .i64 a0_4) := (z04 B2.out 4).trans rfl)
        | (go_at_call 27; refine (schema_decode.calls A0_0 c0_0 l0_0 a0_1 a0_2 a0_3 a0_4 A1 c1 l1 r1 r2 _ (Kd.C_below HR.out HB.out) (Kd.C_below HR1.out HB.out) HC1.out HL.out HD.out).mono ?_; rintro e w4 ⟨v0, E, rfl, he, ho, hb⟩; have HE := z05.mk he; have HO := z05.mk (Kd.R_lower ho HB.out.size); have n0_ := z05.mk (z0a HB.out hb); clear HB B2 hz0 hz1 hz2 hz3 hz4 he ho hb; have HB := n0_; clear n0_)
        | (go_at_call 28; refine (schema_number.calls E r2 _ (z1j HG.out HB.out) HE.out).mono ?_; rintro e w5 ⟨rfl, hb⟩; have HO_ := z05.mk (Kd.R_below HO.out hb); have n0_ := z05.mk (z0a HB.out hb); clear HB HO hb; have HB := n0_; have HO := HO_; clear n0_ HO_))
      go_ret2
      exact ⟨_, rfl, HO.out, HB.out⟩
  · rw [if_neg hl] at h; cases h

end Go.Proofs.YtimomihjghefdaaDoor.Q
