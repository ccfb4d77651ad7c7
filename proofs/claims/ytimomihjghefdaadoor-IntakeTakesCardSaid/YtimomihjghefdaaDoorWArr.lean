-- Of the printed words, what this claim uses.
import Derived.Test.YtimomihjghefdaaDoorWWords
/-! ### 41. Arrays '[n]T' as_ values: a kind (a field, an element of a row), an element read, an element set -/
namespace Go.Proofs.YtimomihjghefdaaDoorW.PrintWords
open Go.RowKit
namespace Kd
end Kd
end Go.Proofs.YtimomihjghefdaaDoorW.PrintWords
