-- Of the printed words, what this claim uses.
import Derived.Test.YteefchdfdgfaaaaDoorWTab
/-! ### 56. Four, five, six operations that may come up next, in any order -/
namespace Go.Proofs.YteefchdfdgfaaaaDoorW.PrintLast
end Go.Proofs.YteefchdfdgfaaaaDoorW.PrintLast
