-- Of the printed words, what this claim uses.
import Derived.Test.YtimomihjghefdaaDoorWInv
import Derived.Test.YtimomihjghefdaaDoorWFootNe
namespace Go.Proofs.YtimomihjghefdaaDoorW.PrintWords
open Go.RowKit
end Go.Proofs.YtimomihjghefdaaDoorW.PrintWords
namespace Go.Proofs.YtimomihjghefdaaDoorW.PrintLast
end Go.Proofs.YtimomihjghefdaaDoorW.PrintLast
