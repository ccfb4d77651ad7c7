/-
  No cell of these rows narrows 'for every input' (looked for: loops, veiled, ifaces, maps, wideKeys, modest, calm, conditions, laid).
  DERIVED. THE GIVEN ROWS OF THIS SEAT. 4 by the template 'for every input the law returns true; each argument reads behind the call as it read before'; 0 by the template 'total and deterministic' (their statements: YtgjmpancofjjbaaTotals.lean).
  GIVEN WITH THE SEED: the statements are not yours to turn. If you find one false, say at which input.
  Laid BY PROGRAM, IN A SANDBOX (cutbox-rows.mjs): the forced cells as the released guide's own fill.sh prints them over the translation 86824cf590b68850… (all of the seat's roots in one cut). By AI agents, Wed Nov 11 2026. No macro, syntax, notation, axiom, sorry.
-/
import Derived.Test.YtgjmpancofjjbaaChecked
import GoSem.Claim
import GoSem.ClaimJoined
import GoSem.ClaimMapViews
import Derived.JoinedTies
import Derived.KernelRfl
namespace Go.Proofs.Ytgjmpancofjjbaa
/- THE CELL 'sum', in the pinned program and in every row, IS THE sha256 OF THE DUMP (.gsa) THAT YtgjmpancofjjbaaProg.lean LOADS. Nothing in Lean hashes anything: it is a label: what it is worth is what the hold of that sum in a sandbox is worth. -/
noncomputable def Try.pinned : Pinned := { name := "ytgjmpancofjjbaa", sum := "86824cf590b6885043ab94e17e95be0ffbf5902b214b4256bac536525b14e874", checked := Try.checked }
namespace Rows
def none {H : Type} : Left H := { results := [], args := [] }

/-- 'winnowerlaw18.AggTells': WHATEVER THE INPUT: true; the input reads as it did. -/
def aggTellsSpec : ChangeSpec := { name := "aggTells", fn := fun _ => fun
  | [d1, d2] => { results := [.lit (.bool true)], args := [d1, d2] }
  | _ => none }
def aggTellsRow : OpenClaim := { program := "ytgjmpancofjjbaa", sum := "86824cf590b6885043ab94e17e95be0ffbf5902b214b4256bac536525b14e874", func := "winnower/winnowerlaw18.AggTells", spec := "aggTells", inPlace := ["math/bits.Add64"], unfollowed := true, recurses := true, plainKeys := false, apart := false }
def AggTellsSaid : Prop := aggTellsRow.holds Try.pinned (OpenSpec.ofChange aggTellsSpec)

/-- ITS FALSE NEIGHBOUR: 'it returns false'. Refute it at one input. -/
def aggTellsWrong : ChangeSpec := { name := "aggTells", fn := fun _ => fun
  | [d1, d2] => { results := [.lit (.bool false)], args := [d1, d2] }
  | _ => none }
def AggTellsWrongFalsely : Prop := aggTellsRow.holds Try.pinned (OpenSpec.ofChange aggTellsWrong)

/-- 'winnowerlaw18.AggEnds': WHATEVER THE INPUT: true; the input reads as it did. -/
def aggEndsSpec : ChangeSpec := { name := "aggEnds", fn := fun _ => fun
  | [d1, d2] => { results := [.lit (.bool true)], args := [d1, d2] }
  | _ => none }
def aggEndsRow : OpenClaim := { program := "ytgjmpancofjjbaa", sum := "86824cf590b6885043ab94e17e95be0ffbf5902b214b4256bac536525b14e874", func := "winnower/winnowerlaw18.AggEnds", spec := "aggEnds", inPlace := ["math/bits.Add64"], unfollowed := true, recurses := true, plainKeys := false, apart := false }
def AggEndsSaid : Prop := aggEndsRow.holds Try.pinned (OpenSpec.ofChange aggEndsSpec)

/-- ITS FALSE NEIGHBOUR: 'it returns false'. Refute it at one input. -/
def aggEndsWrong : ChangeSpec := { name := "aggEnds", fn := fun _ => fun
  | [d1, d2] => { results := [.lit (.bool false)], args := [d1, d2] }
  | _ => none }
def AggEndsWrongFalsely : Prop := aggEndsRow.holds Try.pinned (OpenSpec.ofChange aggEndsWrong)

/-- 'winnowerlaw18.AggMore': WHATEVER THE INPUT: true; the input reads as it did. -/
def aggMoreSpec : ChangeSpec := { name := "aggMore", fn := fun _ => fun
  | [d1, d2, d3] => { results := [.lit (.bool true)], args := [d1, d2, d3] }
  | _ => none }
def aggMoreRow : OpenClaim := { program := "ytgjmpancofjjbaa", sum := "86824cf590b6885043ab94e17e95be0ffbf5902b214b4256bac536525b14e874", func := "winnower/winnowerlaw18.AggMore", spec := "aggMore", inPlace := ["math/bits.Add64"], unfollowed := true, recurses := true, plainKeys := false, apart := false }
def AggMoreSaid : Prop := aggMoreRow.holds Try.pinned (OpenSpec.ofChange aggMoreSpec)

/-- ITS FALSE NEIGHBOUR: 'it returns false'. Refute it at one input. -/
def aggMoreWrong : ChangeSpec := { name := "aggMore", fn := fun _ => fun
  | [d1, d2, d3] => { results := [.lit (.bool false)], args := [d1, d2, d3] }
  | _ => none }
def AggMoreWrongFalsely : Prop := aggMoreRow.holds Try.pinned (OpenSpec.ofChange aggMoreWrong)

/-- 'winnowerlaw18.AggOrder': WHATEVER THE INPUT: true; the input reads as it did. -/
def aggOrderSpec : ChangeSpec := { name := "aggOrder", fn := fun _ => fun
  | [d1, d2, d3] => { results := [.lit (.bool true)], args := [d1, d2, d3] }
  | _ => none }
def aggOrderRow : OpenClaim := { program := "ytgjmpancofjjbaa", sum := "86824cf590b6885043ab94e17e95be0ffbf5902b214b4256bac536525b14e874", func := "winnower/winnowerlaw18.AggOrder", spec := "aggOrder", inPlace := ["math/bits.Add64"], unfollowed := true, recurses := true, plainKeys := false, apart := false }
def AggOrderSaid : Prop := aggOrderRow.holds Try.pinned (OpenSpec.ofChange aggOrderSpec)

/-- ITS FALSE NEIGHBOUR: 'it returns false'. Refute it at one input. -/
def aggOrderWrong : ChangeSpec := { name := "aggOrder", fn := fun _ => fun
  | [d1, d2, d3] => { results := [.lit (.bool false)], args := [d1, d2, d3] }
  | _ => none }
def AggOrderWrongFalsely : Prop := aggOrderRow.holds Try.pinned (OpenSpec.ofChange aggOrderWrong)

/- THE SECOND FORM. 'bulk': how many values and letters a reading holds, each counted each time it is reached (what is shared counts as often as it is met; a slice's spare places count too). A statement '..UptoSaid' is the law's where the arguments, and the package variables that the reading takes, are together of bulk at most 1048576: NARROWER than '..Said'. Prove '..Said' where nothing that the law and all that it calls make is longer than what came in: it says more and counts as full. Else prove '..UptoSaid'. A law counts once. -/
mutual
def uptoBulk {H : Type} : DataW H → Nat
  | .lit (.string bytes) => bytes.length + 1
  | .lit _ => 1
  | .nil => 1
  | .ptr d => uptoBulk d + 1
  | .slice elems spare => uptoBulkAll elems + uptoBulkAll spare + 1
  | .agg parts => uptoBulkAll parts + 1
  | .iface _ d => uptoBulk d + 1
  | .map entries => uptoBulkEntries entries + 1
  | .held _ => 1
def uptoBulkAll {H : Type} : List (DataW H) → Nat
  | [] => 0
  | d :: r => uptoBulk d + uptoBulkAll r
def uptoBulkEntries {H : Type} : List (Lit × DataW H) → Nat
  | [] => 0
  | x :: r => uptoBulkEntry x + uptoBulkEntries r
def uptoBulkEntry {H : Type} : Lit × DataW H → Nat
  | (.string bytes, d) => bytes.length + uptoBulk d + 1
  | (_, d) => uptoBulk d + 1
 end
def uptoSmall : (H : Type) → List (DataW H) → Bool := fun _ ds => decide (uptoBulkAll ds ≤ 1048576)
def OpenSpec.upto (s : _root_.Go.ChangeSpec) : _root_.Go.OpenSpec := { _root_.Go.OpenSpec.ofChange s with cond := some uptoSmall }

/-- 'winnowerlaw18.AggTells', WHERE WHAT IT READS IS OF BULK AT MOST 1048576: true; the input reads as it did. -/
def aggTellsUptoRow : OpenClaim := { program := "ytgjmpancofjjbaa", sum := "86824cf590b6885043ab94e17e95be0ffbf5902b214b4256bac536525b14e874", func := "winnower/winnowerlaw18.AggTells", spec := "aggTells", inPlace := ["math/bits.Add64"], unfollowed := true, recurses := true, plainKeys := false, apart := false, narrowed := true }
def AggTellsUptoSaid : Prop := aggTellsUptoRow.holds Try.pinned (OpenSpec.upto aggTellsSpec)

/-- 'winnowerlaw18.AggEnds', WHERE WHAT IT READS IS OF BULK AT MOST 1048576: true; the input reads as it did. -/
def aggEndsUptoRow : OpenClaim := { program := "ytgjmpancofjjbaa", sum := "86824cf590b6885043ab94e17e95be0ffbf5902b214b4256bac536525b14e874", func := "winnower/winnowerlaw18.AggEnds", spec := "aggEnds", inPlace := ["math/bits.Add64"], unfollowed := true, recurses := true, plainKeys := false, apart := false, narrowed := true }
def AggEndsUptoSaid : Prop := aggEndsUptoRow.holds Try.pinned (OpenSpec.upto aggEndsSpec)

/-- 'winnowerlaw18.AggMore', WHERE WHAT IT READS IS OF BULK AT MOST 1048576: true; the input reads as it did. -/
def aggMoreUptoRow : OpenClaim := { program := "ytgjmpancofjjbaa", sum := "86824cf590b6885043ab94e17e95be0ffbf5902b214b4256bac536525b14e874", func := "winnower/winnowerlaw18.AggMore", spec := "aggMore", inPlace := ["math/bits.Add64"], unfollowed := true, recurses := true, plainKeys := false, apart := false, narrowed := true }
def AggMoreUptoSaid : Prop := aggMoreUptoRow.holds Try.pinned (OpenSpec.upto aggMoreSpec)

/-- 'winnowerlaw18.AggOrder', WHERE WHAT IT READS IS OF BULK AT MOST 1048576: true; the input reads as it did. -/
def aggOrderUptoRow : OpenClaim := { program := "ytgjmpancofjjbaa", sum := "86824cf590b6885043ab94e17e95be0ffbf5902b214b4256bac536525b14e874", func := "winnower/winnowerlaw18.AggOrder", spec := "aggOrder", inPlace := ["math/bits.Add64"], unfollowed := true, recurses := true, plainKeys := false, apart := false, narrowed := true }
def AggOrderUptoSaid : Prop := aggOrderUptoRow.holds Try.pinned (OpenSpec.upto aggOrderSpec)

end Rows
end Go.Proofs.Ytgjmpancofjjbaa
