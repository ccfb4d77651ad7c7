-- Of the printed words, what this claim uses.
import Derived.Test.YtimomihjghefdaaDoorWTab
/-! ### 56. Four, five, six operations that may come up next, in any order -/
namespace Go.Proofs.YtimomihjghefdaaDoorW.PrintLast
end Go.Proofs.YtimomihjghefdaaDoorW.PrintLast
