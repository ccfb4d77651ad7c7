/-
  No cell of these rows narrows 'for every input' (looked for: loops, veiled, ifaces, maps, wideKeys, modest, calm, conditions, laid).
  DERIVED. THE GIVEN ROWS OF THIS SEAT. 5 by the template 'for every input the law returns true; each argument reads behind the call as it read before'; 0 by the template 'total and deterministic' (their statements: YtafljcblglielaaTotals.lean).
  GIVEN WITH THE SEED: the statements are not yours to turn. If you find one false, say at which input.
  Laid BY PROGRAM, IN A SANDBOX (cutbox-rows.mjs): the forced cells as the released guide's own fill.sh prints them over the translation 577db0d9c77fe55a… (all of the seat's roots in one cut). By AI agents, Wed Nov 11 2026. No macro, syntax, notation, axiom, sorry.
-/
import Derived.Test.YtafljcblglielaaChecked
import GoSem.Claim
import GoSem.ClaimJoined
import GoSem.ClaimMapViews
import Derived.JoinedTies
import Derived.KernelRfl
namespace Go.Proofs.Ytafljcblglielaa
/- THE CELL 'sum', in the pinned program and in every row, IS THE sha256 OF THE DUMP (.gsa) THAT YtafljcblglielaaProg.lean LOADS. Nothing in Lean hashes anything: it is a label: what it is worth is what the hold of that sum in a sandbox is worth. -/
noncomputable def Try.pinned : Pinned := { name := "ytafljcblglielaa", sum := "577db0d9c77fe55a499d85feeab5fc7957bfd414da2552151c71d2385cf2d094", checked := Try.checked }
namespace Rows
def none {H : Type} : Left H := { results := [], args := [] }

/-- 'winnowerlaw04.FrameSeals': WHATEVER THE INPUT: true; the input reads as it did. -/
def frameSealsSpec : ChangeSpec := { name := "frameSeals", fn := fun _ => fun
  | [d1, d2] => { results := [.lit (.bool true)], args := [d1, d2] }
  | _ => none }
def frameSealsRow : OpenClaim := { program := "ytafljcblglielaa", sum := "577db0d9c77fe55a499d85feeab5fc7957bfd414da2552151c71d2385cf2d094", func := "winnower/winnowerlaw04.FrameSeals", spec := "frameSeals", unfollowed := true, recurses := true, apart := false }
def FrameSealsSaid : Prop := frameSealsRow.holds Try.pinned (OpenSpec.ofChange frameSealsSpec)

/-- ITS FALSE NEIGHBOUR: 'it returns false'. Refute it at one input. -/
def frameSealsWrong : ChangeSpec := { name := "frameSeals", fn := fun _ => fun
  | [d1, d2] => { results := [.lit (.bool false)], args := [d1, d2] }
  | _ => none }
def FrameSealsWrongFalsely : Prop := frameSealsRow.holds Try.pinned (OpenSpec.ofChange frameSealsWrong)

/-- 'winnowerlaw04.FrameReads': WHATEVER THE INPUT: true; the input reads as it did. -/
def frameReadsSpec : ChangeSpec := { name := "frameReads", fn := fun _ => fun
  | [d] => { results := [.lit (.bool true)], args := [d] }
  | _ => none }
def frameReadsRow : OpenClaim := { program := "ytafljcblglielaa", sum := "577db0d9c77fe55a499d85feeab5fc7957bfd414da2552151c71d2385cf2d094", func := "winnower/winnowerlaw04.FrameReads", spec := "frameReads", unfollowed := true, recurses := true, apart := false }
def FrameReadsSaid : Prop := frameReadsRow.holds Try.pinned (OpenSpec.ofChange frameReadsSpec)

/-- ITS FALSE NEIGHBOUR: 'it returns false'. Refute it at one input. -/
def frameReadsWrong : ChangeSpec := { name := "frameReads", fn := fun _ => fun
  | [d] => { results := [.lit (.bool false)], args := [d] }
  | _ => none }
def FrameReadsWrongFalsely : Prop := frameReadsRow.holds Try.pinned (OpenSpec.ofChange frameReadsWrong)

/-- 'winnowerlaw04.FrameCuts': WHATEVER THE INPUT: true; the input reads as it did. -/
def frameCutsSpec : ChangeSpec := { name := "frameCuts", fn := fun _ => fun
  | [d1, d2] => { results := [.lit (.bool true)], args := [d1, d2] }
  | _ => none }
def frameCutsRow : OpenClaim := { program := "ytafljcblglielaa", sum := "577db0d9c77fe55a499d85feeab5fc7957bfd414da2552151c71d2385cf2d094", func := "winnower/winnowerlaw04.FrameCuts", spec := "frameCuts", unfollowed := true, recurses := true, apart := false }
def FrameCutsSaid : Prop := frameCutsRow.holds Try.pinned (OpenSpec.ofChange frameCutsSpec)

/-- ITS FALSE NEIGHBOUR: 'it returns false'. Refute it at one input. -/
def frameCutsWrong : ChangeSpec := { name := "frameCuts", fn := fun _ => fun
  | [d1, d2] => { results := [.lit (.bool false)], args := [d1, d2] }
  | _ => none }
def FrameCutsWrongFalsely : Prop := frameCutsRow.holds Try.pinned (OpenSpec.ofChange frameCutsWrong)

/-- 'winnowerlaw04.FrameMore': WHATEVER THE INPUT: true; the input reads as it did. -/
def frameMoreSpec : ChangeSpec := { name := "frameMore", fn := fun _ => fun
  | [d1, d2, d3, d4] => { results := [.lit (.bool true)], args := [d1, d2, d3, d4] }
  | _ => none }
def frameMoreRow : OpenClaim := { program := "ytafljcblglielaa", sum := "577db0d9c77fe55a499d85feeab5fc7957bfd414da2552151c71d2385cf2d094", func := "winnower/winnowerlaw04.FrameMore", spec := "frameMore", unfollowed := true, recurses := true, apart := false }
def FrameMoreSaid : Prop := frameMoreRow.holds Try.pinned (OpenSpec.ofChange frameMoreSpec)

/-- ITS FALSE NEIGHBOUR: 'it returns false'. Refute it at one input. -/
def frameMoreWrong : ChangeSpec := { name := "frameMore", fn := fun _ => fun
  | [d1, d2, d3, d4] => { results := [.lit (.bool false)], args := [d1, d2, d3, d4] }
  | _ => none }
def FrameMoreWrongFalsely : Prop := frameMoreRow.holds Try.pinned (OpenSpec.ofChange frameMoreWrong)

/-- 'winnowerlaw04.FrameSums': WHATEVER THE INPUT: true; the input reads as it did. -/
def frameSumsSpec : ChangeSpec := { name := "frameSums", fn := fun _ => fun
  | [d1, d2] => { results := [.lit (.bool true)], args := [d1, d2] }
  | _ => none }
def frameSumsRow : OpenClaim := { program := "ytafljcblglielaa", sum := "577db0d9c77fe55a499d85feeab5fc7957bfd414da2552151c71d2385cf2d094", func := "winnower/winnowerlaw04.FrameSums", spec := "frameSums", unfollowed := true, recurses := true, apart := false }
def FrameSumsSaid : Prop := frameSumsRow.holds Try.pinned (OpenSpec.ofChange frameSumsSpec)

/-- ITS FALSE NEIGHBOUR: 'it returns false'. Refute it at one input. -/
def frameSumsWrong : ChangeSpec := { name := "frameSums", fn := fun _ => fun
  | [d1, d2] => { results := [.lit (.bool false)], args := [d1, d2] }
  | _ => none }
def FrameSumsWrongFalsely : Prop := frameSumsRow.holds Try.pinned (OpenSpec.ofChange frameSumsWrong)

/- THE SECOND FORM. 'bulk': how many values and letters a reading holds, each counted each time it is reached (what is shared counts as often as it is met; a slice's spare places count too). A statement '..UptoSaid' is the law's where the arguments, and the package variables that the reading takes, are together of bulk at most 1048576: NARROWER than '..Said'. Prove '..Said' where nothing that the law and all that it calls make is longer than what came in: it says more and counts as full. Else prove '..UptoSaid'. A law counts once. -/
mutual
def uptoBulk {H : Type} : DataW H → Nat
  | .lit (.string bytes) => bytes.length + 1
  | .lit _ => 1
  | .nil => 1
  | .ptr d => uptoBulk d + 1
  | .slice elems spare => uptoBulkAll elems + uptoBulkAll spare + 1
  | .agg parts => uptoBulkAll parts + 1
  | .iface _ d => uptoBulk d + 1
  | .map entries => uptoBulkEntries entries + 1
  | .held _ => 1
def uptoBulkAll {H : Type} : List (DataW H) → Nat
  | [] => 0
  | d :: r => uptoBulk d + uptoBulkAll r
def uptoBulkEntries {H : Type} : List (Lit × DataW H) → Nat
  | [] => 0
  | x :: r => uptoBulkEntry x + uptoBulkEntries r
def uptoBulkEntry {H : Type} : Lit × DataW H → Nat
  | (.string bytes, d) => bytes.length + uptoBulk d + 1
  | (_, d) => uptoBulk d + 1
 end
def uptoSmall : (H : Type) → List (DataW H) → Bool := fun _ ds => decide (uptoBulkAll ds ≤ 1048576)
def OpenSpec.upto (s : _root_.Go.ChangeSpec) : _root_.Go.OpenSpec := { _root_.Go.OpenSpec.ofChange s with cond := some uptoSmall }

/-- 'winnowerlaw04.FrameSeals', WHERE WHAT IT READS IS OF BULK AT MOST 1048576: true; the input reads as it did. -/
def frameSealsUptoRow : OpenClaim := { program := "ytafljcblglielaa", sum := "577db0d9c77fe55a499d85feeab5fc7957bfd414da2552151c71d2385cf2d094", func := "winnower/winnowerlaw04.FrameSeals", spec := "frameSeals", unfollowed := true, recurses := true, apart := false, narrowed := true }
def FrameSealsUptoSaid : Prop := frameSealsUptoRow.holds Try.pinned (OpenSpec.upto frameSealsSpec)

/-- 'winnowerlaw04.FrameReads', WHERE WHAT IT READS IS OF BULK AT MOST 1048576: true; the input reads as it did. -/
def frameReadsUptoRow : OpenClaim := { program := "ytafljcblglielaa", sum := "577db0d9c77fe55a499d85feeab5fc7957bfd414da2552151c71d2385cf2d094", func := "winnower/winnowerlaw04.FrameReads", spec := "frameReads", unfollowed := true, recurses := true, apart := false, narrowed := true }
def FrameReadsUptoSaid : Prop := frameReadsUptoRow.holds Try.pinned (OpenSpec.upto frameReadsSpec)

/-- 'winnowerlaw04.FrameCuts', WHERE WHAT IT READS IS OF BULK AT MOST 1048576: true; the input reads as it did. -/
def frameCutsUptoRow : OpenClaim := { program := "ytafljcblglielaa", sum := "577db0d9c77fe55a499d85feeab5fc7957bfd414da2552151c71d2385cf2d094", func := "winnower/winnowerlaw04.FrameCuts", spec := "frameCuts", unfollowed := true, recurses := true, apart := false, narrowed := true }
def FrameCutsUptoSaid : Prop := frameCutsUptoRow.holds Try.pinned (OpenSpec.upto frameCutsSpec)

/-- 'winnowerlaw04.FrameMore', WHERE WHAT IT READS IS OF BULK AT MOST 1048576: true; the input reads as it did. -/
def frameMoreUptoRow : OpenClaim := { program := "ytafljcblglielaa", sum := "577db0d9c77fe55a499d85feeab5fc7957bfd414da2552151c71d2385cf2d094", func := "winnower/winnowerlaw04.FrameMore", spec := "frameMore", unfollowed := true, recurses := true, apart := false, narrowed := true }
def FrameMoreUptoSaid : Prop := frameMoreUptoRow.holds Try.pinned (OpenSpec.upto frameMoreSpec)

/-- 'winnowerlaw04.FrameSums', WHERE WHAT IT READS IS OF BULK AT MOST 1048576: true; the input reads as it did. -/
def frameSumsUptoRow : OpenClaim := { program := "ytafljcblglielaa", sum := "577db0d9c77fe55a499d85feeab5fc7957bfd414da2552151c71d2385cf2d094", func := "winnower/winnowerlaw04.FrameSums", spec := "frameSums", unfollowed := true, recurses := true, apart := false, narrowed := true }
def FrameSumsUptoSaid : Prop := frameSumsUptoRow.holds Try.pinned (OpenSpec.upto frameSumsSpec)

end Rows
end Go.Proofs.Ytafljcblglielaa
