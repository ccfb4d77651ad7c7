-- Of the printed words, what this claim uses.
import Derived.Test.YtimomihjghefdaaDoorWFootNe
/-! ### 54. Behind orders that were drawn quietly: the same facts at the world's new name; a flat row's foot -/
namespace Go.Proofs.YtimomihjghefdaaDoorW.PrintWords
open Go.RowKit
namespace Kd
end Kd
end Go.Proofs.YtimomihjghefdaaDoorW.PrintWords
