-- Of the printed words, what this claim uses.
import Derived.Test.YteefchdfdgfaaaaDoorWFootNe
/-! ### 54. Behind orders that were drawn quietly: the same facts at the world's new name; a flat row's foot -/
namespace Go.Proofs.YteefchdfdgfaaaaDoorW.PrintWords
open Go.RowKit
namespace Kd
end Kd
end Go.Proofs.YteefchdfdgfaaaaDoorW.PrintWords
