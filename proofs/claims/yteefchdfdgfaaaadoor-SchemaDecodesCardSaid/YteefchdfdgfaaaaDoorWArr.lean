-- Of the printed words, what this claim uses.
import Derived.Test.YteefchdfdgfaaaaDoorWWords
/-! ### 41. Arrays '[n]T' as_ values: a kind (a field, an element of a row), an element read, an element set -/
namespace Go.Proofs.YteefchdfdgfaaaaDoorW.PrintWords
open Go.RowKit
namespace Kd
end Kd
end Go.Proofs.YteefchdfdgfaaaaDoorW.PrintWords
