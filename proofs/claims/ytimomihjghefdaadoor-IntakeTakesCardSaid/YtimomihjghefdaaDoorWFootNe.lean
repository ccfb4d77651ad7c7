-- Of the printed words, what this claim uses.
import Derived.Test.YtimomihjghefdaaDoorWN
/-! ### 52. A row that stays read whatever happens to a block (a set of blocks) doesn't lie there -/
namespace Go.Proofs.YtimomihjghefdaaDoorW.PrintWords
open Go.RowKit
namespace Kd
end Kd
end Go.Proofs.YtimomihjghefdaaDoorW.PrintWords
