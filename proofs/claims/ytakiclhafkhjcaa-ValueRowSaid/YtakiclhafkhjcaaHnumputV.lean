/- What Put and PutLen of layer 1 answer, in plain words. -/
import Derived.Test.YtakiclhafkhjcaaHnum
import Derived.Test.YtakiclhafkhjcaaVx0
import Derived.Test.YtakiclhafkhjcaaVx2
import Derived.Test.YtakiclhafkhjcaaVx3
import Derived.Test.YtakiclhafkhjcaaVx4
namespace Go.Proofs.Ytakiclhafkhjcaa.V
open Go.RowKit Go.Proofs.YtakiclhafkhjcaaW.PrintWords Go.Proofs.YtakiclhafkhjcaaW.PrintLast Go.Proofs.YtakiclhafkhjcaaW.PrintMore
attribute [local go_sem] max2_int min2_int max_two min_two max_three min_three max_four min_four   -- for this text's walks alone
set_option linter.unusedVariables false
set_option linter.unusedSimpArgs false

-- SAYS What Put and PutLen of layer 1 answer, in plain words.
-- FUNCS winnower/num.Put winnower/num.PutLen
-- NEEDS num_Put.f num_PutLen.f num_put.f num_fold.f
-- IMPORT Derived.Test.YtakiclhafkhjcaaHnum
open Go.Proofs.Ytakiclhafkhjcaa.Hnum
theorem num_put.tell {l : List Int} {u : Nat} (hu : u < 18446744073709551616) (hl : l.length < 1000000000000) : num_put.f l (u : Int) = some (l ++ digs u) := by
  unfold num_put.f; rw [if_pos (by omega), if_pos (by omega), if_pos hl, Int.toNat_natCast]
theorem num_fold.tells {a : Int} (h : i64 a) : num_fold.f a = some (fold a : Int) := by unfold num_fold.f; rw [fold_bits h]
theorem num_Put.tell {l : List Int} {a : Int} (h : i64 a) (hl : l.length < 1000000000000) : num_Put.f l a = some (l ++ digs (fold a)) := by
  unfold num_Put.f; rw [num_fold.tells h, Option.bind_some, num_put.tell (fold_lt h) hl, Option.bind_some]
theorem num_PutLen.tell {l : List Int} {a : Nat} (h : a ≤ 9223372036854775807) (hl : l.length < 1000000000000) : num_PutLen.f l (a : Int) = some (l ++ digs a) := by
  unfold num_PutLen.f; rw [if_neg (by omega), wrap_u64, show (a : Int) % 18446744073709551616 = (a : Int) from by omega, num_put.tell (by omega) hl, Option.bind_some]

end Go.Proofs.Ytakiclhafkhjcaa.V
