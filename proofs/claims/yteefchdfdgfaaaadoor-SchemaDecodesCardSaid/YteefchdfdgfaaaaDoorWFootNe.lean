-- Of the printed words, what this claim uses.
import Derived.Test.YteefchdfdgfaaaaDoorWN
/-! ### 52. A row that stays read whatever happens to a block (a set of blocks) doesn't lie there -/
namespace Go.Proofs.YteefchdfdgfaaaaDoorW.PrintWords
open Go.RowKit
namespace Kd
end Kd
end Go.Proofs.YteefchdfdgfaaaaDoorW.PrintWords
