-- Of the printed words, what this claim uses.
import Derived.Test.YtimomihjghefdaaDoorWApart
import Derived.Test.YtimomihjghefdaaDoorWArr
/-! ### 42. append(v, make([]T, n)...): the operation comes as_ append with the number in the second place -/
namespace Go.Proofs.YtimomihjghefdaaDoorW.PrintWords
open Go.RowKit
namespace Kd
/-! #### the same for rows whose elements lie apart -/
end Kd
end Go.Proofs.YtimomihjghefdaaDoorW.PrintWords
