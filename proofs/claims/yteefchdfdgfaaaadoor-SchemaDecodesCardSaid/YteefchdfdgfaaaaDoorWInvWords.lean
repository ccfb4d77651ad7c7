-- Of the printed words, what this claim uses.
import Derived.Test.YteefchdfdgfaaaaDoorWInv
import Derived.Test.YteefchdfdgfaaaaDoorWFootNe
namespace Go.Proofs.YteefchdfdgfaaaaDoorW.PrintWords
open Go.RowKit
end Go.Proofs.YteefchdfdgfaaaaDoorW.PrintWords
namespace Go.Proofs.YteefchdfdgfaaaaDoorW.PrintLast
end Go.Proofs.YteefchdfdgfaaaaDoorW.PrintLast
