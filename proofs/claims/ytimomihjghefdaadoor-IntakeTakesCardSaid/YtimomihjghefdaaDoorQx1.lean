/- The machine side of laws, written by wip/tools/myprint.py (the printer's way, with functions proved by hand put in); Lean checks it. -/
import Derived.Test.YtimomihjghefdaaDoorJ1
namespace Go.Proofs.YtimomihjghefdaaDoor.Q
open Go.RowKit Go.Proofs.YtimomihjghefdaaDoorW.PrintWords Go.Proofs.YtimomihjghefdaaDoorW.PrintLast Go.Proofs.YtimomihjghefdaaDoorW.PrintMore
attribute [local go_sem] z0y z0v z0z z10 z0s z0t z0w z0x   -- for this text's walks alone
set_option linter.unusedVariables false
set_option linter.unusedSimpArgs false

theorem eqA63 (d : Nat) (w : World) (x0 y0 : Int) (x1 y1 : Int) (x2 y2 : ByteArray) (x3 y3 : Bool) :
    (Op.equalIn (d + 2) 63 (.agg #[.int .i64 x0, .int .i64 x1, .string x2, .bool x3]) (.agg #[.int .i64 y0, .int .i64 y1, .string y2, .bool y3])).run Tryd.prog w = .ok (x0 == y0 && (x1 == y1 && (x2.toList == y2.toList && (x3 == y3)))) w := by
  refine z9q Tryd.underlying63 (by kernel_rfl) ?_
  refine z3v (by rfl) (by go_simp; rfl) (by go_simp; rfl) (by go_simp) ?_
  refine z3v (by rfl) (by go_simp; rfl) (by go_simp; rfl) (by go_simp) ?_
  refine z3v (by rfl) (by go_simp; rfl) (by go_simp; rfl) (by go_simp) ?_
  exact z85 (by rfl) (by go_simp; rfl) (by go_simp; rfl) (by go_simp)
end Go.Proofs.YtimomihjghefdaaDoor.Q
