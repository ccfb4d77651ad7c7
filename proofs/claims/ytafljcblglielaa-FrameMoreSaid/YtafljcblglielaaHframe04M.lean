/- What layer 4 answers, in plain words, and the chapter's examples. -/
import Derived.Test.YtafljcblglielaaHnum
import Derived.Test.YtafljcblglielaaHcrc
import Derived.Test.YtafljcblglielaaHframe
import Derived.Test.YtafljcblglielaaMx0
import Derived.Test.YtafljcblglielaaMx1
import Derived.Test.YtafljcblglielaaMx2
import Derived.Test.YtafljcblglielaaMx3
import Derived.Test.YtafljcblglielaaMx4
import Derived.Test.YtafljcblglielaaMx5
import Derived.Test.YtafljcblglielaaMx6
namespace Go.Proofs.Ytafljcblglielaa.M
open Go.RowKit Go.Proofs.YtafljcblglielaaW.PrintWords Go.Proofs.YtafljcblglielaaW.PrintLast Go.Proofs.YtafljcblglielaaW.PrintMore
attribute [local go_sem] max2_int min2_int max_two min_two max_three min_three max_four min_four   -- for this text's walks alone
set_option linter.unusedVariables false
set_option linter.unusedSimpArgs false

-- SAYS What layer 4 answers, in plain words, and the chapter's examples.
-- FUNCS winnower/winnowerlaw04.awake
-- NEEDS winnowerlaw04_awake.f frame_Seal.f frame_Sum.f frame_Read.f num_PutLen.f
-- IMPORT Derived.Test.YtafljcblglielaaHnum
-- IMPORT Derived.Test.YtafljcblglielaaHcrc
-- IMPORT Derived.Test.YtafljcblglielaaHframe
open Go.Proofs.Ytafljcblglielaa.Hnum Go.Proofs.Ytafljcblglielaa.Hcrc Go.Proofs.Ytafljcblglielaa.Hframe
theorem putLen_tell {a : Nat} (h : a ≤ 9223372036854775807) : num_PutLen.f [] (a : Int) = some (digs a) := by
  unfold num_PutLen.f num_put.f
  rw [if_neg (by omega), wrap_u64, show (a : Int) % 18446744073709551616 = (a : Int) from by omega, if_pos (by omega), if_pos (by omega), if_pos (by decide), Option.bind_some, Int.toNat_natCast]
  rfl
theorem sum_tell {l : List Int} (h : Bytes l) (hl : l.length ≤ 1000000) : frame_Sum.f l = some (sumB l : Int) := by unfold frame_Sum.f; rw [if_pos ⟨h, hl⟩]
theorem seal_tell {p : List Int} (h : Bytes p) (hl : p.length ≤ 65536) : frame_Seal.f p = some (sealB p, 0) := by
  have d := digs_le_ten (u := p.length) (by omega)
  unfold frame_Seal.f
  rw [if_neg (by omega), putLen_tell (by omega), Option.bind_some, if_pos (by omega), Option.bind_some, frame_tail.tells h (by omega), Option.bind_some, if_pos (by rw [List.length_append, tailB_len]; omega), List.append_assoc]
  rfl
theorem seal_long {p : List Int} (hl : 65536 < p.length) : frame_Seal.f p = some ([], 2) := by unfold frame_Seal.f; rw [if_pos (by omega)]
theorem read_tell {l : List Int} (h : Bytes l) (hl : l.length ≤ 1000000) : frame_Read.f l = some ((reads (l.length + 1) l).1, ((reads (l.length + 1) l).2 : Int)) := by unfold frame_Read.f; rw [if_pos ⟨h, hl⟩]
theorem awake04 {k : Nat} (hk : 1 ≤ k) : winnowerlaw04_awake.f k = some true := by
  obtain ⟨k, rfl⟩ : ∃ j, k = j + 1 := ⟨k - 1, by omega⟩
  have hb7 : Bytes [7] := by decide
  have d1 : digs 1 = [1] := digs_last (by decide)
  obtain ⟨a, ha⟩ : ∃ a, a = sealB [7] := ⟨_, rfl⟩
  have hs : a = 1 :: 7 :: tailB (sumB [7]) := by rw [ha, sealB, show ([7] : List Int).length = 1 from rfl, d1]; rfl
  have hl : a.length = 6 := by rw [hs]; rfl
  have hab : Bytes a := by rw [ha]; exact sealB_bytes hb7
  have hg : getl (a.take 5) = (1, 1, 0) := by
    have := getl_digs (a := 1) (by omega) (7 :: (tailB (sumB [7])).take 3)
    rw [d1] at this
    rw [hs]; exact this
  have h5 : (a.take 5).length = 5 := by rw [List.length_take, hl]; rfl
  have ho : one (a.take 5) = none := one_bad (.inr (.inr (by rw [hg, h5]; decide)))
  have hr : reads ((a ++ a.take 5).length + 1) (a ++ a.take 5) = ([[7]], 6) := by
    have h1 := one_seal (p := [7]) (a.take 5) (by decide)
    rw [← ha, hl] at h1
    rw [reads_some h1, show (a ++ a.take 5).drop 6 = a.take 5 from List.drop_left' hl, reads_none ho]
    rfl
  have hsum : sumB [49, 50, 51, 52, 53, 54, 55, 56, 57] = 3421780262 := by decide +kernel
  have r0 : rd a 0 = 1 := by rw [hs]; rfl
  have r1 : rd a 1 = 7 := by rw [hs]; rfl
  unfold winnowerlaw04_awake.f
  rw [seal_tell hb7 (by decide), ← ha, Option.bind_some]
  simp only
  rw [if_pos trivial, hl, winnowerlaw04_awake.j0, if_neg (by decide), if_pos (by rw [hl]; decide), Option.bind_some, List.nil_append, if_pos (by omega), Option.bind_some, if_pos (by rw [List.length_take]; omega), read_tell (hab.append (hab.take 5)) (by rw [List.length_append, List.length_take]; omega), Option.bind_some, hr,
    sum_tell (by decide) (by decide), Option.bind_some, hsum, if_pos (show ((3421780262 : Nat) : Int) = 3421780262 from rfl), if_pos (by omega), r0, if_pos rfl, if_pos (by omega), r1, if_pos rfl]
  rfl

end Go.Proofs.Ytafljcblglielaa.M
