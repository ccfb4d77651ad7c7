-- Of the printed words, what this claim uses.
import Derived.Test.YteefchdfdgfaaaaDoorWApart
import Derived.Test.YteefchdfdgfaaaaDoorWArr
/-! ### 42. append(v, make([]T, n)...): the operation comes as_ append with the number in the second place -/
namespace Go.Proofs.YteefchdfdgfaaaaDoorW.PrintWords
open Go.RowKit
namespace Kd
/-! #### the same for rows whose elements lie apart -/
end Kd
end Go.Proofs.YteefchdfdgfaaaaDoorW.PrintWords
