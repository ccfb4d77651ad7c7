-- Of the printed words, what this claim uses.
import Derived.Test.YteefchdfdgfaaaaDoorWN
/-! ### 48. N's events: append, a whole row appended, zeros appended, literals, make, stores, cuts, an element taken out -/
namespace Go.Proofs.YteefchdfdgfaaaaDoorW.PrintWords
open Go.RowKit
namespace Kd
end Kd
end Go.Proofs.YteefchdfdgfaaaaDoorW.PrintWords
