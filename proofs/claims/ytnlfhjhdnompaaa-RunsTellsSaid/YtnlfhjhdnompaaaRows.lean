/-
  No cell of these rows narrows 'for every input' (looked for: loops, veiled, ifaces, maps, wideKeys, modest, calm, conditions, laid).
  DERIVED. THE GIVEN ROWS OF THIS SEAT. 6 by the template 'for every input the law returns true; each argument reads behind the call as it read before'; 0 by the template 'total and deterministic' (their statements: YtnlfhjhdnompaaaTotals.lean).
  GIVEN WITH THE SEED: the statements are not yours to turn. If you find one false, say at which input.
  Laid BY PROGRAM, IN A SANDBOX (cutbox-rows.mjs): the forced cells as the released guide's own fill.sh prints them over the translation 32953d4ca8be423e… (all of the seat's roots in one cut). By AI agents, Wed Nov 11 2026. No macro, syntax, notation, axiom, sorry.
-/
import Derived.Test.YtnlfhjhdnompaaaChecked
import GoSem.Claim
import GoSem.ClaimJoined
import GoSem.ClaimMapViews
import Derived.JoinedTies
import Derived.KernelRfl
namespace Go.Proofs.Ytnlfhjhdnompaaa
/- THE CELL 'sum', in the pinned program and in every row, IS THE sha256 OF THE DUMP (.gsa) THAT YtnlfhjhdnompaaaProg.lean LOADS. Nothing in Lean hashes anything: it is a label: what it is worth is what the hold of that sum in a sandbox is worth. -/
noncomputable def Try.pinned : Pinned := { name := "ytnlfhjhdnompaaa", sum := "32953d4ca8be423e847845fa9ce5035837e2cdf616802b19a3ebbdebda3ffc72", checked := Try.checked }
namespace Rows
def none {H : Type} : Left H := { results := [], args := [] }

/-- 'winnowerlaw03.RunsEncodes': WHATEVER THE INPUT: true; the input reads as it did. -/
def runsEncodesSpec : ChangeSpec := { name := "runsEncodes", fn := fun _ => fun
  | [d] => { results := [.lit (.bool true)], args := [d] }
  | _ => none }
def runsEncodesRow : OpenClaim := { program := "ytnlfhjhdnompaaa", sum := "32953d4ca8be423e847845fa9ce5035837e2cdf616802b19a3ebbdebda3ffc72", func := "winnower/winnowerlaw03.RunsEncodes", spec := "runsEncodes", unfollowed := true, recurses := true, apart := false }
def RunsEncodesSaid : Prop := runsEncodesRow.holds Try.pinned (OpenSpec.ofChange runsEncodesSpec)

/-- ITS FALSE NEIGHBOUR: 'it returns false'. Refute it at one input. -/
def runsEncodesWrong : ChangeSpec := { name := "runsEncodes", fn := fun _ => fun
  | [d] => { results := [.lit (.bool false)], args := [d] }
  | _ => none }
def RunsEncodesWrongFalsely : Prop := runsEncodesRow.holds Try.pinned (OpenSpec.ofChange runsEncodesWrong)

/-- 'winnowerlaw03.RunsLeast': WHATEVER THE INPUT: true; the input reads as it did. -/
def runsLeastSpec : ChangeSpec := { name := "runsLeast", fn := fun _ => fun
  | [d1, d2, d3] => { results := [.lit (.bool true)], args := [d1, d2, d3] }
  | _ => none }
def runsLeastRow : OpenClaim := { program := "ytnlfhjhdnompaaa", sum := "32953d4ca8be423e847845fa9ce5035837e2cdf616802b19a3ebbdebda3ffc72", func := "winnower/winnowerlaw03.RunsLeast", spec := "runsLeast", unfollowed := true, recurses := true, apart := false }
def RunsLeastSaid : Prop := runsLeastRow.holds Try.pinned (OpenSpec.ofChange runsLeastSpec)

/-- ITS FALSE NEIGHBOUR: 'it returns false'. Refute it at one input. -/
def runsLeastWrong : ChangeSpec := { name := "runsLeast", fn := fun _ => fun
  | [d1, d2, d3] => { results := [.lit (.bool false)], args := [d1, d2, d3] }
  | _ => none }
def RunsLeastWrongFalsely : Prop := runsLeastRow.holds Try.pinned (OpenSpec.ofChange runsLeastWrong)

/-- 'winnowerlaw03.RunsFew': WHATEVER THE INPUT: true; the input reads as it did. -/
def runsFewSpec : ChangeSpec := { name := "runsFew", fn := fun _ => fun
  | [d] => { results := [.lit (.bool true)], args := [d] }
  | _ => none }
def runsFewRow : OpenClaim := { program := "ytnlfhjhdnompaaa", sum := "32953d4ca8be423e847845fa9ce5035837e2cdf616802b19a3ebbdebda3ffc72", func := "winnower/winnowerlaw03.RunsFew", spec := "runsFew", unfollowed := true, recurses := true, apart := false }
def RunsFewSaid : Prop := runsFewRow.holds Try.pinned (OpenSpec.ofChange runsFewSpec)

/-- ITS FALSE NEIGHBOUR: 'it returns false'. Refute it at one input. -/
def runsFewWrong : ChangeSpec := { name := "runsFew", fn := fun _ => fun
  | [d] => { results := [.lit (.bool false)], args := [d] }
  | _ => none }
def RunsFewWrongFalsely : Prop := runsFewRow.holds Try.pinned (OpenSpec.ofChange runsFewWrong)

/-- 'winnowerlaw03.RunsJoin': WHATEVER THE INPUT: true; the input reads as it did. -/
def runsJoinSpec : ChangeSpec := { name := "runsJoin", fn := fun _ => fun
  | [d1, d2] => { results := [.lit (.bool true)], args := [d1, d2] }
  | _ => none }
def runsJoinRow : OpenClaim := { program := "ytnlfhjhdnompaaa", sum := "32953d4ca8be423e847845fa9ce5035837e2cdf616802b19a3ebbdebda3ffc72", func := "winnower/winnowerlaw03.RunsJoin", spec := "runsJoin", unfollowed := true, recurses := true, apart := false }
def RunsJoinSaid : Prop := runsJoinRow.holds Try.pinned (OpenSpec.ofChange runsJoinSpec)

/-- ITS FALSE NEIGHBOUR: 'it returns false'. Refute it at one input. -/
def runsJoinWrong : ChangeSpec := { name := "runsJoin", fn := fun _ => fun
  | [d1, d2] => { results := [.lit (.bool false)], args := [d1, d2] }
  | _ => none }
def RunsJoinWrongFalsely : Prop := runsJoinRow.holds Try.pinned (OpenSpec.ofChange runsJoinWrong)

/-- 'winnowerlaw03.RunsTells': WHATEVER THE INPUT: true; the input reads as it did. -/
def runsTellsSpec : ChangeSpec := { name := "runsTells", fn := fun _ => fun
  | [d1, d2] => { results := [.lit (.bool true)], args := [d1, d2] }
  | _ => none }
def runsTellsRow : OpenClaim := { program := "ytnlfhjhdnompaaa", sum := "32953d4ca8be423e847845fa9ce5035837e2cdf616802b19a3ebbdebda3ffc72", func := "winnower/winnowerlaw03.RunsTells", spec := "runsTells", unfollowed := true, recurses := true, apart := false }
def RunsTellsSaid : Prop := runsTellsRow.holds Try.pinned (OpenSpec.ofChange runsTellsSpec)

/-- ITS FALSE NEIGHBOUR: 'it returns false'. Refute it at one input. -/
def runsTellsWrong : ChangeSpec := { name := "runsTells", fn := fun _ => fun
  | [d1, d2] => { results := [.lit (.bool false)], args := [d1, d2] }
  | _ => none }
def RunsTellsWrongFalsely : Prop := runsTellsRow.holds Try.pinned (OpenSpec.ofChange runsTellsWrong)

/-- 'winnowerlaw03.RunsBack': WHATEVER THE INPUT: true; the input reads as it did. -/
def runsBackSpec : ChangeSpec := { name := "runsBack", fn := fun _ => fun
  | [d1, d2] => { results := [.lit (.bool true)], args := [d1, d2] }
  | _ => none }
def runsBackRow : OpenClaim := { program := "ytnlfhjhdnompaaa", sum := "32953d4ca8be423e847845fa9ce5035837e2cdf616802b19a3ebbdebda3ffc72", func := "winnower/winnowerlaw03.RunsBack", spec := "runsBack", unfollowed := true, recurses := true, apart := false }
def RunsBackSaid : Prop := runsBackRow.holds Try.pinned (OpenSpec.ofChange runsBackSpec)

/-- ITS FALSE NEIGHBOUR: 'it returns false'. Refute it at one input. -/
def runsBackWrong : ChangeSpec := { name := "runsBack", fn := fun _ => fun
  | [d1, d2] => { results := [.lit (.bool false)], args := [d1, d2] }
  | _ => none }
def RunsBackWrongFalsely : Prop := runsBackRow.holds Try.pinned (OpenSpec.ofChange runsBackWrong)

/- THE SECOND FORM. 'bulk': how many values and letters a reading holds, each counted each time it is reached (what is shared counts as often as it is met; a slice's spare places count too). A statement '..UptoSaid' is the law's where the arguments, and the package variables that the reading takes, are together of bulk at most 1048576: NARROWER than '..Said'. Prove '..Said' where nothing that the law and all that it calls make is longer than what came in: it says more and counts as full. Else prove '..UptoSaid'. A law counts once. -/
mutual
def uptoBulk {H : Type} : DataW H → Nat
  | .lit (.string bytes) => bytes.length + 1
  | .lit _ => 1
  | .nil => 1
  | .ptr d => uptoBulk d + 1
  | .slice elems spare => uptoBulkAll elems + uptoBulkAll spare + 1
  | .agg parts => uptoBulkAll parts + 1
  | .iface _ d => uptoBulk d + 1
  | .map entries => uptoBulkEntries entries + 1
  | .held _ => 1
def uptoBulkAll {H : Type} : List (DataW H) → Nat
  | [] => 0
  | d :: r => uptoBulk d + uptoBulkAll r
def uptoBulkEntries {H : Type} : List (Lit × DataW H) → Nat
  | [] => 0
  | x :: r => uptoBulkEntry x + uptoBulkEntries r
def uptoBulkEntry {H : Type} : Lit × DataW H → Nat
  | (.string bytes, d) => bytes.length + uptoBulk d + 1
  | (_, d) => uptoBulk d + 1
 end
def uptoSmall : (H : Type) → List (DataW H) → Bool := fun _ ds => decide (uptoBulkAll ds ≤ 1048576)
def OpenSpec.upto (s : _root_.Go.ChangeSpec) : _root_.Go.OpenSpec := { _root_.Go.OpenSpec.ofChange s with cond := some uptoSmall }

/-- 'winnowerlaw03.RunsEncodes', WHERE WHAT IT READS IS OF BULK AT MOST 1048576: true; the input reads as it did. -/
def runsEncodesUptoRow : OpenClaim := { program := "ytnlfhjhdnompaaa", sum := "32953d4ca8be423e847845fa9ce5035837e2cdf616802b19a3ebbdebda3ffc72", func := "winnower/winnowerlaw03.RunsEncodes", spec := "runsEncodes", unfollowed := true, recurses := true, apart := false, narrowed := true }
def RunsEncodesUptoSaid : Prop := runsEncodesUptoRow.holds Try.pinned (OpenSpec.upto runsEncodesSpec)

/-- 'winnowerlaw03.RunsLeast', WHERE WHAT IT READS IS OF BULK AT MOST 1048576: true; the input reads as it did. -/
def runsLeastUptoRow : OpenClaim := { program := "ytnlfhjhdnompaaa", sum := "32953d4ca8be423e847845fa9ce5035837e2cdf616802b19a3ebbdebda3ffc72", func := "winnower/winnowerlaw03.RunsLeast", spec := "runsLeast", unfollowed := true, recurses := true, apart := false, narrowed := true }
def RunsLeastUptoSaid : Prop := runsLeastUptoRow.holds Try.pinned (OpenSpec.upto runsLeastSpec)

/-- 'winnowerlaw03.RunsFew', WHERE WHAT IT READS IS OF BULK AT MOST 1048576: true; the input reads as it did. -/
def runsFewUptoRow : OpenClaim := { program := "ytnlfhjhdnompaaa", sum := "32953d4ca8be423e847845fa9ce5035837e2cdf616802b19a3ebbdebda3ffc72", func := "winnower/winnowerlaw03.RunsFew", spec := "runsFew", unfollowed := true, recurses := true, apart := false, narrowed := true }
def RunsFewUptoSaid : Prop := runsFewUptoRow.holds Try.pinned (OpenSpec.upto runsFewSpec)

/-- 'winnowerlaw03.RunsJoin', WHERE WHAT IT READS IS OF BULK AT MOST 1048576: true; the input reads as it did. -/
def runsJoinUptoRow : OpenClaim := { program := "ytnlfhjhdnompaaa", sum := "32953d4ca8be423e847845fa9ce5035837e2cdf616802b19a3ebbdebda3ffc72", func := "winnower/winnowerlaw03.RunsJoin", spec := "runsJoin", unfollowed := true, recurses := true, apart := false, narrowed := true }
def RunsJoinUptoSaid : Prop := runsJoinUptoRow.holds Try.pinned (OpenSpec.upto runsJoinSpec)

/-- 'winnowerlaw03.RunsTells', WHERE WHAT IT READS IS OF BULK AT MOST 1048576: true; the input reads as it did. -/
def runsTellsUptoRow : OpenClaim := { program := "ytnlfhjhdnompaaa", sum := "32953d4ca8be423e847845fa9ce5035837e2cdf616802b19a3ebbdebda3ffc72", func := "winnower/winnowerlaw03.RunsTells", spec := "runsTells", unfollowed := true, recurses := true, apart := false, narrowed := true }
def RunsTellsUptoSaid : Prop := runsTellsUptoRow.holds Try.pinned (OpenSpec.upto runsTellsSpec)

/-- 'winnowerlaw03.RunsBack', WHERE WHAT IT READS IS OF BULK AT MOST 1048576: true; the input reads as it did. -/
def runsBackUptoRow : OpenClaim := { program := "ytnlfhjhdnompaaa", sum := "32953d4ca8be423e847845fa9ce5035837e2cdf616802b19a3ebbdebda3ffc72", func := "winnower/winnowerlaw03.RunsBack", spec := "runsBack", unfollowed := true, recurses := true, apart := false, narrowed := true }
def RunsBackUptoSaid : Prop := runsBackUptoRow.holds Try.pinned (OpenSpec.upto runsBackSpec)

end Rows
end Go.Proofs.Ytnlfhjhdnompaaa
