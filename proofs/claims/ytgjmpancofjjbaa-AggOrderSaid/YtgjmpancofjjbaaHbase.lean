/- Lemmas of the session for the walks by hand: an append to a full view of a slice that came in, or to a row of the call's own. -/
import Derived.Test.YtgjmpancofjjbaaProg
import Derived.ArgAppend
import Derived.Test.YtgjmpancofjjbaaWWords
import Derived.Test.YtgjmpancofjjbaaWLast
import Derived.Test.YtgjmpancofjjbaaWMore
namespace Go.Proofs.Ytgjmpancofjjbaa.Hbase
open Go.RowKit Go.Proofs.YtgjmpancofjjbaaW.PrintWords Go.Proofs.YtgjmpancofjjbaaW.PrintLast Go.Proofs.YtgjmpancofjjbaaW.PrintMore
set_option linter.unusedVariables false

/-- The value is the whole of a slice that came in, without room behind it, or a row of the call's own. -/
def FullOr (k : IntKind) (e : Nat) (w W : World) (A0 : Option Addr) (l0 : List Int) (v : Value) (xs : List Int) : Prop :=
  (v = .slice A0 l0.length l0.length ∧ xs = l0) ∨ Kd.R (Kd.int k) e w W.heap.size (fun _ => True) v xs

theorem FullOr.start (k : IntKind) (e : Nat) (w W : World) (A0 : Option Addr) (l0 : List Int) : FullOr k e w W A0 l0 (.slice A0 l0.length l0.length) l0 := .inl ⟨rfl, rfl⟩

theorem cells_of_C {k : IntKind} {w : World} {A : Option Addr} {l : List Int} (h : Kd.C (Kd.int k) w A l.length l) :
    (A = none → l.length = 0) ∧ ∀ b, A = some b → ∀ j u, (nums k l)[j]? = some u → w.cell? (b.add j) = some u := by
  refine ⟨fun hA => ?_, fun b hb j u hj => ?_⟩
  · rcases Nat.eq_zero_or_pos l.length with h0 | h0
    · exact h0
    · obtain ⟨ad, e, _⟩ := Kd.at_int h 0 (by omega) (by omega)
      rw [hA] at e; cases e
  · have hlt : j < l.length := by
      have := (List.getElem?_eq_some_iff.1 hj).1
      simpa [nums] using this
    obtain ⟨ad, e, hc⟩ := Kd.at_int h (j : Int) (by omega) (by omega)
    rw [hb] at e; cases e
    rw [Int.toNat_natCast] at hc
    rw [hc]
    rw [nums, List.getElem?_map, List.getElem?_eq_getElem hlt] at hj
    simp only [Option.map_some, Option.some.injEq] at hj
    rw [← hj, rd, Int.toNat_natCast, List.getD_eq_getElem?_getD, List.getElem?_eq_getElem hlt]
    rfl

section
variable {P : Program} {ops : Array Oper} {rest : List Oper} {o : Oper} {a : Act} {Q : Exit → Act → World → Prop}
theorem full_append {W W' : World} (hgd : o.guard = none) (s x : Operand) (t e : TypeId) (k : IntKind) (bytes : Nat)
    (ho : o.op = .call { callee := .builtin .append, args := #[s, x], argTypes := #[t, t] })
    (ht : P.underlying t = some (.slice e)) (hinfo : (P.info? e).map (fun i => (i.zero, i.size, i.bytes)) = some (some (.int k 0), 1, bytes)) (hb0 : 0 < bytes)
    (v : Value) (A0 : Option Addr) (l0 xs : List Int) (y : Int) (hs : a.eval s = v) (hx : a.eval x = .slice (some ⟨W'.heap.size, 0, none⟩) 1 1)
    (hv : FullOr k e W' W A0 l0 v xs) (hC : Kd.C (Kd.int k) W A0 l0.length l0) (HB : Below W.heap.size W W') (hl : (xs.length + 1) * bytes ≤ 140737488355328)
    (h : ∀ v1 w1, Kd.R (Kd.int k) e w1 W.heap.size (fun _ => True) v1 (xs ++ [y]) → Below W.heap.size W w1 → wpList P ops Q rest (a.put o.dst v1) w1) :
    wpList P ops Q (o :: rest) a (W'.alloc (.cells #[.int k y] e)) := by
  rcases hv with ⟨rfl, rfl⟩ | hR
  · obtain ⟨i0, hi, hzz⟩ := Option.map_eq_some_iff.1 hinfo
    simp only [Prod.mk.injEq] at hzz
    obtain ⟨hz0, hz1, hz2⟩ := hzz
    have hlen : xs.length + 1 ≤ 140737488355328 := Nat.le_trans (Nat.le_mul_of_pos_right _ hb0) hl
    obtain ⟨hn, hcell⟩ := cells_of_C hC
    refine wpList_append_grows (W'.alloc (.cells #[.int k y] e)) hgd s x t ho e i0 (.int k 0) 1 bytes ht hi hz0 hz1 hz2 rfl (by omega) A0 xs.length xs.length (nums k xs) hs (fun hA => ⟨hn hA, hn hA⟩) (by simp [nums]) ?_
      ⟨W'.heap.size, 0, none⟩ 1 1 [.int k y] hx rfl (World.news_of_block (cs := #[.int k y]) (t := e) (fr := (0, 0)) (heap_alloc_new W' _)) (by simp [Value.oneCell']) (by omega) (by simp only [maxLen]; omega) hl ?_
    · intro b hb j u hj
      have hc := hcell b hb j u hj
      exact ((HB.alloc HB.size _).cell (World.block_lt_of_cell? _ _ hc)).trans hc
    · intro v' w' hown hg
      have hown' : w'.ownsRow W.heap.size e 1 v' (xs ++ [y]).length (encs (Value.int k) (xs ++ [y])) := by
        have h1 := own_weaken hown (show W.heap.size ≤ (W'.alloc (.cells #[.int k y] e)).heap.size by have := HB.size; simp; omega)
        simpa [encs, nums] using h1
      exact h v' w' (Kd.R_of_own (h1 := fun _ => rfl) hown' (fun _ _ => trivial)) ((HB.alloc HB.size _).grown hg (by have := HB.size; simp; omega) (by simp))
  · refine Kd.R_append (Kd.int k) (w0 := W) W.heap.size hgd s x t e (.int k 0) bytes ho ht hinfo rfl Nat.one_pos hb0 v xs y [.int k y] (fun _ => True) (fun _ => False) hs hx rfl (fun _ hk => hk.elim) (fun _ _ => trivial) hR HB HB.size hl ?_
    intro v1 w1 hR1 hB1 _ _
    exact h v1 w1 hR1 hB1
/-- An append to a full view of a row that is read: a row of the call's own. -/
theorem R_append_full {k : IntKind} {w0 W : World} (base : Nat) (hgd : o.guard = none) (s x : Operand) (t e : TypeId) (bytes : Nat)
    (ho : o.op = .call { callee := .builtin .append, args := #[s, x], argTypes := #[t, t] })
    (ht : P.underlying t = some (.slice e)) (hinfo : (P.info? e).map (fun i => (i.zero, i.size, i.bytes)) = some (some (.int k 0), 1, bytes)) (hb0 : 0 < bytes)
    (A0 : Option Addr) (l0 : List Int) (y : Int) (ok : Nat → Prop) (hs : a.eval s = .slice A0 l0.length l0.length) (hx : a.eval x = .slice (some ⟨W.heap.size, 0, none⟩) 1 1)
    (hC : Kd.C (Kd.int k) W A0 l0.length l0) (hfresh : ∀ k, W.heap.size ≤ k → ok k) (HB : Below base w0 W) (hbase : base ≤ W.heap.size) (hl : (l0.length + 1) * bytes ≤ 140737488355328)
    (h : ∀ v1 w1, Kd.R (Kd.int k) e w1 base ok v1 (l0 ++ [y]) → Below base w0 w1 → W.grownBy w1 (Value.slice none 0 0).ownBlock → (v1.ownBlock = (Value.slice none 0 0).ownBlock ∨ ∃ b, v1.ownBlock = some b ∧ W.heap.size ≤ b) → wpList P ops Q rest (a.put o.dst v1) w1) :
    wpList P ops Q (o :: rest) a (W.alloc (.cells #[.int k y] e)) := by
  obtain ⟨i0, hi, hzz⟩ := Option.map_eq_some_iff.1 hinfo
  simp only [Prod.mk.injEq] at hzz
  obtain ⟨hz0, hz1, hz2⟩ := hzz
  have hlen : l0.length + 1 ≤ 140737488355328 := Nat.le_trans (Nat.le_mul_of_pos_right _ hb0) hl
  obtain ⟨hn, hcell⟩ := cells_of_C hC
  refine wpList_append_grows (W.alloc (.cells #[.int k y] e)) hgd s x t ho e i0 (.int k 0) 1 bytes ht hi hz0 hz1 hz2 rfl (by omega) A0 l0.length l0.length (nums k l0) hs (fun hA => ⟨hn hA, hn hA⟩) (by simp [nums]) ?_
    ⟨W.heap.size, 0, none⟩ 1 1 [.int k y] hx rfl (World.news_of_block (cs := #[.int k y]) (t := e) (fr := (0, 0)) (heap_alloc_new W _)) (by simp [Value.oneCell']) (by omega) (by simp only [maxLen]; omega) hl ?_
  · intro b hb j u hj
    have hc := hcell b hb j u hj
    exact (((Below.refl W.heap.size W).alloc (Nat.le_refl _) _).cell (World.block_lt_of_cell? _ _ hc)).trans hc
  · intro v' w' hown hg
    have hown2 : w'.ownsRow (W.alloc (.cells #[.int k y] e)).heap.size e 1 v' (l0 ++ [y]).length (encs (Value.int k) (l0 ++ [y])) := by
      simpa [encs, nums] using hown
    have hlt : W.heap.size ≤ (W.alloc (.cells #[.int k y] e)).heap.size := by simp
    have hob : v'.ownBlock = none ∨ ∃ b, v'.ownBlock = some b ∧ W.heap.size ≤ b := by
      rcases hown2.2 with ⟨rfl, _⟩ | ⟨g, cap, cur, rfl, hg0, _⟩
      · exact .inl rfl
      · exact .inr ⟨g, rfl, by omega⟩
    have hR := Kd.R_of_own (h1 := fun _ => rfl) (own_weaken hown2 (Nat.le_trans hbase hlt)) (ok := ok) (fun b hb => by
      rcases hob with hn | ⟨b', hb', hle⟩
      · rw [hn] at hb; cases hb
      · rw [hb'] at hb; cases hb; exact hfresh _ hle)
    exact h v' w' hR ((HB.alloc hbase _).grown hg (by have := hlt; omega) (by simp)) ⟨hg.os, hg.tape, hg.output, Nat.le_trans hlt hg.size, fun k' hk hne => (hg.block k' (by simp; omega) (by simp)).trans (heap_alloc_old W _ hk)⟩ hob
/-- The same as a step of a region. -/
theorem R_append_full_step {Kc : Act → World → Prop} {k : IntKind} {w0 W : World} (base : Nat) (hw : Region.wanted o (yielded ops a.tmps) = true) (s x : Operand) (t e : TypeId) (bytes : Nat)
    (ho : o.op = .call { callee := .builtin .append, args := #[s, x], argTypes := #[t, t] })
    (ht : P.underlying t = some (.slice e)) (hinfo : (P.info? e).map (fun i => (i.zero, i.size, i.bytes)) = some (some (.int k 0), 1, bytes)) (hb0 : 0 < bytes)
    (A0 : Option Addr) (l0 : List Int) (y : Int) (ok : Nat → Prop) (hs : a.eval s = .slice A0 l0.length l0.length) (hx : a.eval x = .slice (some ⟨W.heap.size, 0, none⟩) 1 1)
    (hC : Kd.C (Kd.int k) W A0 l0.length l0) (hfresh : ∀ k, W.heap.size ≤ k → ok k) (HB : Below base w0 W) (hbase : base ≤ W.heap.size) (hl : (l0.length + 1) * bytes ≤ 140737488355328)
    (h : ∀ v1 w1, Kd.R (Kd.int k) e w1 base ok v1 (l0 ++ [y]) → Below base w0 w1 → W.grownBy w1 (Value.slice none 0 0).ownBlock → (v1.ownBlock = (Value.slice none 0 0).ownBlock ∨ ∃ b, v1.ownBlock = some b ∧ W.heap.size ≤ b) → Kc (a.put o.dst v1) w1) :
    if Region.wanted o (yielded ops a.tmps) = true then Oper.wp P o a (W.alloc (.cells #[.int k y] e)) Kc Q else Kc (a.put o.dst undef) (W.alloc (.cells #[.int k y] e)) := by
  obtain ⟨i0, hi, hzz⟩ := Option.map_eq_some_iff.1 hinfo
  simp only [Prod.mk.injEq] at hzz
  obtain ⟨hz0, hz1, hz2⟩ := hzz
  have hlen : l0.length + 1 ≤ 140737488355328 := Nat.le_trans (Nat.le_mul_of_pos_right _ hb0) hl
  obtain ⟨hn, hcell⟩ := cells_of_C hC
  rw [if_pos hw]
  have news : ∀ j u, [Value.int k y][j]? = some u → (W.alloc (.cells #[.int k y] e)).cell? ((⟨W.heap.size, 0, none⟩ : Addr).add j) = some u := World.news_of_block (cs := #[.int k y]) (t := e) (fr := (0, 0)) (heap_alloc_new W _)
  have olds : ∀ b, A0 = some b → ∀ j u, (nums k l0)[j]? = some u → (W.alloc (.cells #[.int k y] e)).cell? (b.add j) = some u := by
    intro b hb j u hj
    have hc := hcell b hb j u hj
    exact (((Below.refl W.heap.size W).alloc (Nat.le_refl _) _).cell (World.block_lt_of_cell? _ _ hc)).trans hc
  have hone : ∃ v' w', (Builtin.append_ #[t, t] o.type #[.slice A0 l0.length l0.length, .slice (some ⟨W.heap.size, 0, none⟩) 1 1]).run P (W.alloc (.cells #[.int k y] e)) = .ok v' w' ∧
      w'.ownsRow (W.alloc (.cells #[.int k y] e)).heap.size e 1 v' (l0.length + 1) (nums k l0 ++ [.int k y]) ∧ (W.alloc (.cells #[.int k y] e)).grownBy w' none := by
    cases A0 with
    | some b => exact run_append_arg_grows (P := P) (w := W.alloc (.cells #[.int k y] e)) t o.type e i0 (.int k 0) 1 bytes ht hi hz0 hz1 hz2 rfl (by omega) b l0.length l0.length (nums k l0) (by simp [nums]) (olds b rfl) ⟨W.heap.size, 0, none⟩ 1 1 [.int k y] rfl news (by omega) (by simp only [maxLen]; omega) hl
    | none =>
      have h0 := hn rfl
      have hl0 : l0 = [] := List.eq_nil_of_length_eq_zero h0
      subst hl0
      obtain ⟨v', w', hr, h2, h3, _⟩ := run_append_own (P := P) (W.alloc (.cells #[.int k y] e)) (W.alloc (.cells #[.int k y] e)).heap.size t o.type e i0 (.int k 0) 1 bytes ht hi hz0 hz1 hz2 rfl (by omega) (.slice none 0 0) 0 [] (World.ownsRow_nil _ _ e 1) ⟨W.heap.size, 0, none⟩ 1 1 [.int k y] rfl news (by simp [Value.oneCell']) (by simp only [maxLen]; omega) (by simpa using hl) (Nat.le_refl _)
      exact ⟨v', w', hr, h2, h3⟩
  obtain ⟨v', w', hr, hown, hg⟩ := hone
  unfold Oper.wp execOp
  simp only [ho, resolve, invoke, builtin, Sem.run_bind, Sem.run_pure, Result.andThen_ok, List.map_toArray, List.map_cons, List.map_nil, hs, hx, hr]
  have hown2 : w'.ownsRow (W.alloc (.cells #[.int k y] e)).heap.size e 1 v' (l0 ++ [y]).length (encs (Value.int k) (l0 ++ [y])) := by
    simpa [encs, nums] using hown
  have hlt : W.heap.size ≤ (W.alloc (.cells #[.int k y] e)).heap.size := by simp
  have hob : v'.ownBlock = none ∨ ∃ b, v'.ownBlock = some b ∧ W.heap.size ≤ b := by
    rcases hown2.2 with ⟨rfl, _⟩ | ⟨g, cap, cur, rfl, hg0, _⟩
    · exact .inl rfl
    · exact .inr ⟨g, rfl, by omega⟩
  have hR := Kd.R_of_own (h1 := fun _ => rfl) (own_weaken hown2 (Nat.le_trans hbase hlt)) (ok := ok) (fun b hb => by
    rcases hob with hn | ⟨b', hb', hle⟩
    · rw [hn] at hb; cases hb
    · rw [hb'] at hb; cases hb; exact hfresh _ hle)
  exact h v' w' hR ((HB.alloc hbase _).grown hg (by have := hlt; omega) (by simp)) ⟨hg.os, hg.tape, hg.output, Nat.le_trans hlt hg.size, fun k' hk hne => (hg.block k' (by simp; omega) (by simp)).trans (heap_alloc_old W _ hk)⟩ hob
theorem append_str_at {W : World} (base : Nat) (t u ty e : TypeId) (i : TypeInfo) (ht : P.underlying t = some (.slice e)) (hu : P.underlying u = some .string) (hi : P.info? e = some i) (hz : i.zero = some (.int .u8 0))
    (hsize : i.size = 1) (hby : i.bytes = 1) (v : Value) (n : Nat) (xs : List Value) (hown : W.ownsRow base e 1 v n xs) (s : ByteArray) (h63 : n + s.size ≤ maxLen) (hbytes : n + s.size ≤ 140737488355328)
    {v1 : Value} {w1 : World} (hr : (Builtin.append_ #[t, u] ty #[v, .string s]).run P W = .ok v1 w1) : v1.ownBlock = v.ownBlock ∨ ∃ b, v1.ownBlock = some b ∧ W.heap.size ≤ b := by
  have hxl : xs.length = n := by simpa using hown.1
  rcases hown.2 with ⟨rfl, rfl⟩ | ⟨g, cap, cur, rfl, hbg, hg, hnc, hcm, hcs, htake⟩
  · have hx : xs = [] := List.eq_nil_of_length_eq_zero hxl
    subst hx
    obtain ⟨v2, w2, hr2, h2, _⟩ := Lib.run_append_own_string (P := P) W W.heap.size t u ty e i ht hu hi hz hsize hby (.slice none 0 0) 0 [] (World.ownsRow_nil W W.heap.size e 1) s h63 hbytes (Nat.le_refl _)
    have he := hr.symm.trans hr2
    injection he with he1 he2
    subst he1
    rcases h2.2 with ⟨rfl, _⟩ | ⟨g, cap, cur, rfl, hbg, _⟩
    · exact .inl rfl
    · exact .inr ⟨g, rfl, hbg⟩
  · by_cases hroom : n + s.size ≤ cap
    · have hcs' : cur.size = cap := by simpa using hcs
      have hr2 := Lib.run_append_room_string (P := P) W t u ty e i ht hu hi hsize g n cap cur hg s hroom (by omega)
      have he := hr.symm.trans hr2
      injection he with he1 he2
      exact .inl (by rw [he1]; rfl)
    · have holds : ∀ j u, xs[j]? = some u → W.cell? ((⟨g, 0, none⟩ : Addr).add j) = some u := hown.cells (g := g) rfl
      have hr2 := Lib.run_append_grow_string (P := P) W t u ty e i (.int .u8 0) ht hu hi hz ⟨g, 0, none⟩ n cap xs (by rw [hsize]; simpa using hxl) holds s (by omega) (by omega) (by rw [hby]; exact growslice_fits (by omega) (by omega))
      have he := hr.symm.trans hr2
      injection he with he1 he2
      exact .inr ⟨W.heap.size, by rw [he1]; rfl, Nat.le_refl _⟩
theorem gate_convert {W : World} {s d : TypeId} {x : Tmp} (_ho : o.op = .convert s d (.tmp x)) (h : wpList P ops Q (o :: rest) a W) : wpList P ops Q (o :: rest) a W := h
/-- A string made of a row that is read. -/
theorem strof_event {W : World} {src dst e : TypeId} {x : Operand} {A : Option Addr} {n c : Nat} {xs : List Int} (hgd : o.guard = none) (ho : o.op = .convert src dst x) (hx : a.eval x = .slice A n c) (hn : n = xs.length)
    (hs : P.underlying src = some (.slice e)) (he : P.underlying e = some (.int .u8)) (hd : P.underlying dst = some .string) (hC : (Kd.int .u8).C W A xs.length xs)
    (h : wpList P ops Q rest (a.put o.dst (.string (strOfNums xs))) W) : wpList P ops Q (o :: rest) a W := by
  refine wpList_plain hgd fun K hK => ?_
  have hr := Kd.C_string (P := P) (c := c) hs he hd hC
  unfold Oper.wp execOp
  simp only [ho, hx, Sem.run_bind, hn, hr, Result.andThen_ok, Sem.run_pure]
  exact hK _ _ h
/-- A string appended to a row of the call's own, beside other rows. -/
theorem R_append_str {w0 W : World} (base : Nat) (hgd : o.guard = none) (s x : Operand) (t u e : TypeId)
    (ho : o.op = .call { callee := .builtin .append, args := #[s, x], argTypes := #[t, u] })
    (ht : P.underlying t = some (.slice e)) (hu : P.underlying u = some .string) (hinfo : (P.info? e).map (fun i => (i.zero, i.size, i.bytes)) = some (some (.int .u8 0), 1, 1))
    (v : Value) (xs : List Int) (y : ByteArray) (ok : Nat → Prop) (hs : a.eval s = v) (hx : a.eval x = .string y)
    (hfresh : ∀ k, W.heap.size ≤ k → ok k) (HO : Kd.R (Kd.int .u8) e W base ok v xs) (HB : Below base w0 W) (hbase : base ≤ W.heap.size) (hl : xs.length + y.size ≤ 140737488355328)
    (h : ∀ v1 w1, Kd.R (Kd.int .u8) e w1 base ok v1 (xs ++ bytesOf y) → Below base w0 w1 → W.grownBy w1 v.ownBlock → (v1.ownBlock = v.ownBlock ∨ ∃ b, v1.ownBlock = some b ∧ W.heap.size ≤ b) → wpList P ops Q rest (a.put o.dst v1) w1) :
    wpList P ops Q (o :: rest) a W := by
  obtain ⟨i0, hi, hzz⟩ := Option.map_eq_some_iff.1 hinfo
  simp only [Prod.mk.injEq] at hzz
  obtain ⟨hz0, hz1, hz2⟩ := hzz
  have hown := Kd.own_of_R HO
  refine wpList_plain hgd fun K hK => ?_
  have h63 : xs.length + y.size ≤ maxLen := by simp only [maxLen]; omega
  obtain ⟨v', w', hr, h2, h3, _⟩ := Lib.run_append_own_string (P := P) W base t u o.type e i0 ht hu hi hz0 hz1 hz2 v xs.length (encs (Value.int .u8) xs) hown y h63 hl hbase
  have hat := append_str_at base t u o.type e i0 ht hu hi hz0 hz1 hz2 v xs.length (encs (Value.int .u8) xs) hown y h63 hl hr
  unfold Oper.wp execOp
  simp only [ho, resolve, invoke, builtin, Sem.run_bind, Sem.run_pure, Result.andThen_ok, List.map_toArray, List.map_cons, List.map_nil, hs, hx, hr]
  have hl2 : (xs ++ bytesOf y).length = xs.length + y.size := by rw [List.length_append, bytesOf_length]
  have hc : encs (Value.int .u8) (xs ++ bytesOf y) = encs (Value.int .u8) xs ++ Lib.strCells y := by
    simp [encs, bytesOf, Lib.strCells]
  have hown1 : w'.ownsRow base e 1 v' (xs ++ bytesOf y).length (encs (Value.int .u8) (xs ++ bytesOf y)) := by rw [hl2, hc]; exact h2
  refine hK _ _ (h v' w' (Kd.R_of_own (h1 := fun _ => rfl) hown1 (fun k hk => ?_)) (HB.grown h3 hbase (own_base hown)) h3 hat)
  rcases hat with hn | ⟨b', hb', hle⟩
  · rw [hn] at hk; exact HO.1 k hk
  · rw [hb'] at hk; cases hk; exact hfresh _ hle
/-- The same as a step of a region. -/
theorem R_append_str_step {Kc : Act → World → Prop} {w0 W : World} (base : Nat) (hw : Region.wanted o (yielded ops a.tmps) = true) (s x : Operand) (t u e : TypeId)
    (ho : o.op = .call { callee := .builtin .append, args := #[s, x], argTypes := #[t, u] })
    (ht : P.underlying t = some (.slice e)) (hu : P.underlying u = some .string) (hinfo : (P.info? e).map (fun i => (i.zero, i.size, i.bytes)) = some (some (.int .u8 0), 1, 1))
    (v : Value) (xs : List Int) (y : ByteArray) (ok : Nat → Prop) (hs : a.eval s = v) (hx : a.eval x = .string y)
    (hfresh : ∀ k, W.heap.size ≤ k → ok k) (HO : Kd.R (Kd.int .u8) e W base ok v xs) (HB : Below base w0 W) (hbase : base ≤ W.heap.size) (hl : xs.length + y.size ≤ 140737488355328)
    (h : ∀ v1 w1, Kd.R (Kd.int .u8) e w1 base ok v1 (xs ++ bytesOf y) → Below base w0 w1 → W.grownBy w1 v.ownBlock → (v1.ownBlock = v.ownBlock ∨ ∃ b, v1.ownBlock = some b ∧ W.heap.size ≤ b) → Kc (a.put o.dst v1) w1) :
    if Region.wanted o (yielded ops a.tmps) = true then Oper.wp P o a W Kc Q else Kc (a.put o.dst undef) W := by
  obtain ⟨i0, hi, hzz⟩ := Option.map_eq_some_iff.1 hinfo
  simp only [Prod.mk.injEq] at hzz
  obtain ⟨hz0, hz1, hz2⟩ := hzz
  have hown := Kd.own_of_R HO
  rw [if_pos hw]
  have h63 : xs.length + y.size ≤ maxLen := by simp only [maxLen]; omega
  obtain ⟨v', w', hr, h2, h3, _⟩ := Lib.run_append_own_string (P := P) W base t u o.type e i0 ht hu hi hz0 hz1 hz2 v xs.length (encs (Value.int .u8) xs) hown y h63 hl hbase
  have hat := append_str_at base t u o.type e i0 ht hu hi hz0 hz1 hz2 v xs.length (encs (Value.int .u8) xs) hown y h63 hl hr
  unfold Oper.wp execOp
  simp only [ho, resolve, invoke, builtin, Sem.run_bind, Sem.run_pure, Result.andThen_ok, List.map_toArray, List.map_cons, List.map_nil, hs, hx, hr]
  have hl2 : (xs ++ bytesOf y).length = xs.length + y.size := by rw [List.length_append, bytesOf_length]
  have hc : encs (Value.int .u8) (xs ++ bytesOf y) = encs (Value.int .u8) xs ++ Lib.strCells y := by
    simp [encs, bytesOf, Lib.strCells]
  have hown1 : w'.ownsRow base e 1 v' (xs ++ bytesOf y).length (encs (Value.int .u8) (xs ++ bytesOf y)) := by rw [hl2, hc]; exact h2
  refine h v' w' (Kd.R_of_own (h1 := fun _ => rfl) hown1 (fun k hk => ?_)) (HB.grown h3 hbase (own_base hown)) h3 hat
  rcases hat with hn | ⟨b', hb', hle⟩
  · rw [hn] at hk; exact HO.1 k hk
  · rw [hb'] at hk; cases hk; exact hfresh _ hle
end
theorem bytesLess_flip (x : List UInt8) : ∀ y : List UInt8, (!(Op.bytesLess x y || x == y)) = Op.bytesLess y x := by
  induction x with
  | nil => intro y; cases y <;> simp [Op.bytesLess]
  | cons a x ih =>
    intro y
    cases y with
    | nil => simp [Op.bytesLess]
    | cons b y =>
      have h := ih y
      simp only [Op.bytesLess]
      by_cases hab : a = b
      · subst hab
        have hlt : ¬ (a < a) := UInt8.lt_irrefl a
        simp only [hlt, decide_false, Bool.false_or, beq_self_eq_true, Bool.true_and, List.cons_beq_cons]
        exact h
      · by_cases hlt : a < b
        · have hnb : ¬ (b < a) := fun h' => UInt8.lt_irrefl a (UInt8.lt_trans hlt h')
          have hne : (b == a) = false := beq_eq_false_iff_ne.mpr (fun e => hab e.symm)
          simp [hlt, hnb, hne]
        · have hgt : b < a := by
            rcases UInt8.lt_or_lt_of_ne hab with h' | h'
            · exact absurd h' hlt
            · exact h'
          have hne : (a == b) = false := beq_eq_false_iff_ne.mpr hab
          simp [hlt, hgt, hne]
@[go_sem] theorem binOp_string_gtr (t : TypeId) (a b : ByteArray) : binOp .gtr t (.string a) (.string b) = pure (.bool (Op.bytesLess b.toList a.toList)) := by
  rw [← bytesLess_flip]
  simp [binOp, Op.stringOp]
end Go.Proofs.Ytgjmpancofjjbaa.Hbase
