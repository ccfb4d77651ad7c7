/- What the document's Get and GetLen of layer 1 answer, in plain words. The library's contracts at this program, laid by the kit's shelf. The machine side of laws, written by wip/tools/myprint.py (the printer's way, with functions proved by hand put in); Lean checks it. -/
import Derived.Test.YtimomihjghefdaaDoorJ0
import Derived.Test.YtimomihjghefdaaDoorJ1
import Derived.Test.YtimomihjghefdaaDoorJ2
import Derived.Test.YtimomihjghefdaaDoorJ3
import Derived.Test.YtimomihjghefdaaDoorQx22
import Derived.Shelf.Strings.Trim
import Derived.Shelf.Small.Utf8
import Derived.Shelf.Small.Strs
import Derived.Shelf.Strings.Search1
import Derived.Shelf.Strings.Runes
import Derived.Shelf.Strings.AsciiSet
import Derived.Shelf.Unicode.DecodeSlow
import Derived.Test.YtimomihjghefdaaDoorProg
import Derived.Shelf.Strings.SlTrimAscii
import Derived.Shelf.Abstract
namespace Go.Proofs.YtimomihjghefdaaDoor.Q
open Go.RowKit Go.Proofs.YtimomihjghefdaaDoorW.PrintWords Go.Proofs.YtimomihjghefdaaDoorW.PrintLast Go.Proofs.YtimomihjghefdaaDoorW.PrintMore
attribute [local go_sem] z0y z0v z0z z10 z0s z0t z0w z0x   -- for this text's walks alone
set_option linter.unusedVariables false
set_option linter.unusedSimpArgs false

-- SAYS What the document's Get and GetLen of layer 1 answer, in plain words.
-- FUNCS winnower/winnowerref01.Get winnower/winnowerref01.GetLen
-- NEEDS winnowerref01_Get.f winnowerref01_GetLen.f winnowerref01_run.f winnowerref01_halves.f
-- IMPORT Derived.Test.YtimomihjghefdaaDoorHnum
open Go.Proofs.YtimomihjghefdaaDoor.Hnum
theorem z7b {l : List Int} : ∀ {k u n : Nat}, getd k l = .ok (u, n) → getd k (l.take n) = .ok (u, n) := by
  induction l with
  | nil => intro k u n h; cases h
  | cons d t ih =>
    intro k u n h
    rw [getd] at h
    by_cases h1 : k = 9 ∧ 1 < d
    · rw [if_pos h1] at h; cases h
    · rw [if_neg h1] at h
      by_cases h2 : 128 ≤ d
      · rw [if_pos h2] at h
        cases hg : getd (k + 1) t with
        | error e => rw [hg] at h; cases h
        | ok p =>
          obtain ⟨u', n'⟩ := p
          rw [hg] at h
          simp only [Except.ok.injEq, Prod.mk.injEq] at h
          obtain ⟨rfl, rfl⟩ := h
          rw [List.take_succ_cons, getd, if_neg h1, if_pos h2, ih hg]
      · rw [if_neg h2] at h
        by_cases h3 : d = 0 ∧ 0 < k
        · rw [if_pos h3] at h; cases h
        · rw [if_neg h3] at h
          simp only [Except.ok.injEq, Prod.mk.injEq] at h
          obtain ⟨rfl, rfl⟩ := h
          rw [List.take_succ_cons, getd, if_neg h1, if_neg h2, if_neg h3]
theorem winnowerref01_halves.whole {l : List Int} (hb : Bytes l) {u n : Nat} (hg : getd 0 l = .ok (u, n)) : winnowerref01_halves.f (l.take n) = some (((u / 2 : Nat) : Int), ((u % 2 : Nat) : Int)) := by
  have hn := (z20 (by omega) hb hg).2.1
  unfold winnowerref01_halves.f
  rw [if_pos (hb.take n), z7b hg, winnowerref01_halves.at, if_pos (by rw [List.length_take]; omega)]
theorem winnowerref01_Get.tell {l : List Int} (hb : Bytes l) : winnowerref01_Get.f l = some (getn l) := by
  unfold winnowerref01_Get.f winnowerref01_run.f getn
  rw [if_pos hb, Option.bind_some]
  cases hg : getd 0 l with
  | error e =>
    have := z1v hg
    rw [show winnowerref01_run.at 0 (.error e) = (0, e) from rfl, if_neg (show ¬ ((0, e) : Int × Int).2 = 0 from by show ¬ e = 0; omega)]
  | ok p =>
    obtain ⟨u, n⟩ := p
    obtain ⟨g1, g2, _, _, g5, _⟩ := z20 (by omega) hb hg
    rw [Nat.pow_zero, Nat.mul_one] at g5
    rw [show winnowerref01_run.at 0 (.ok (u, n)) = ((n : Int), 0) from by simp only [winnowerref01_run.at]; rw [Nat.zero_add], if_pos (show (((n : Int), 0) : Int × Int).2 = 0 from rfl), if_pos (show 0 ≤ (((n : Int), 0) : Int × Int).1 from by show 0 ≤ (n : Int); omega),
      if_pos (show (((n : Int), 0) : Int × Int).1 ≤ (l.length : Int) from by show (n : Int) ≤ (l.length : Int); omega), show (((n : Int), 0) : Int × Int).1.toNat = n from Int.toNat_natCast n, winnowerref01_halves.whole hb hg, Option.bind_some]
    unfold back
    by_cases hu : u % 2 = 0
    · rw [if_neg (show ¬ ((((u / 2 : Nat) : Int), ((u % 2 : Nat) : Int)) : Int × Int).2 = 1 from by show ¬ ((u % 2 : Nat) : Int) = 1; omega)]
      show some (((u / 2 : Nat) : Int), (n : Int), (0 : Int)) = some (if u % 2 = 0 then ((u / 2 : Nat) : Int) else -((u / 2 : Nat) : Int) - 1, (n : Int), (0 : Int))
      rw [if_pos hu]
    · rw [if_pos (show ((((u / 2 : Nat) : Int), ((u % 2 : Nat) : Int)) : Int × Int).2 = 1 from by show ((u % 2 : Nat) : Int) = 1; omega)]
      show some (wrap64 (wrap64 (-((u / 2 : Nat) : Int)) - 1), (n : Int), (0 : Int)) = some (if u % 2 = 0 then ((u / 2 : Nat) : Int) else -((u / 2 : Nat) : Int) - 1, (n : Int), (0 : Int))
      rw [if_neg hu]
      rw [z1c (x := -((u / 2 : Nat) : Int)) (by omega) (by omega), z1c (by omega) (by omega)]
theorem winnowerref01_GetLen.tell {l : List Int} (hb : Bytes l) : winnowerref01_GetLen.f l = some (getl l) := by
  unfold winnowerref01_GetLen.f winnowerref01_run.f getl
  rw [if_pos hb, Option.bind_some]
  cases hg : getd 0 l with
  | error e =>
    have := z1v hg
    rw [show winnowerref01_run.at 0 (.error e) = (0, e) from rfl, if_neg (show ¬ ((0, e) : Int × Int).2 = 0 from by show ¬ e = 0; omega)]
  | ok p =>
    obtain ⟨u, n⟩ := p
    obtain ⟨g1, g2, _, _, g5, _⟩ := z20 (by omega) hb hg
    rw [Nat.pow_zero, Nat.mul_one] at g5
    rw [show winnowerref01_run.at 0 (.ok (u, n)) = ((n : Int), 0) from by simp only [winnowerref01_run.at]; rw [Nat.zero_add], if_pos (show (((n : Int), 0) : Int × Int).2 = 0 from rfl), if_pos (show 0 ≤ (((n : Int), 0) : Int × Int).1 from by show 0 ≤ (n : Int); omega),
      if_pos (show (((n : Int), 0) : Int × Int).1 ≤ (l.length : Int) from by show (n : Int) ≤ (l.length : Int); omega), show (((n : Int), 0) : Int × Int).1.toNat = n from Int.toNat_natCast n, winnowerref01_halves.whole hb hg, Option.bind_some]
    by_cases hu : u ≤ 9223372036854775807
    · rw [if_neg (show ¬ ((((u / 2 : Nat) : Int), ((u % 2 : Nat) : Int)) : Int × Int).1 > 4611686018427387903 from by show ¬ ((u / 2 : Nat) : Int) > 4611686018427387903; omega)]
      refine Eq.trans ?_ (congrArg some (if_pos hu).symm)
      show some (wrap64 (wrap64 (2 * ((u / 2 : Nat) : Int)) + ((u % 2 : Nat) : Int)), (n : Int), (0 : Int)) = some ((u : Int), (n : Int), (0 : Int))
      have e : (2 * ((u / 2 : Nat) : Int)) + ((u % 2 : Nat) : Int) = (u : Int) := by omega
      rw [z1c (x := 2 * ((u / 2 : Nat) : Int)) (by omega) (by omega), e, z1c (by omega) (by omega)]
    · rw [if_pos (show ((((u / 2 : Nat) : Int), ((u % 2 : Nat) : Int)) : Int × Int).1 > 4611686018427387903 from by show ((u / 2 : Nat) : Int) > 4611686018427387903; omega)]
      exact congrArg some (if_neg hu).symm

end Go.Proofs.YtimomihjghefdaaDoor.Q
/-
  DERIVED: THE SHELF's CONTRACTS AT THIS DUMP, IN PLAIN WORDS (tools/lay-plain.mjs out of 'YtimomihjghefdaaDoorShelf0.lean', which tools/lay-shelf.mjs wrote): THE SAME DECLARATIONS UNDER THE SAME NAMES: 'import', 'namespace', 'open', 'def', 'theorem' AND NOTHING ELSE: no command of the shelf's: FOR A HAND-IN. Each laying: the table of numbers ('.._ren') and one theorem, a field a fact of the dump's own or the kernel's comparison; each contract: ONE APPLICATION.
-/
namespace Go.Proofs
open Go.Shelf
def Tryd.lays231_ren : Go.Shelf.Ren := ⟨fun | 231 => 41 | n => n, fun | 9 => 9 | 5 => 5 | 3 => 3 | 4 => 4 | n => n, fun | n => n⟩
theorem Tryd.lays231 : Go.Proofs.Lays.n231 Tryd.prog Tryd.lays231_ren := {
  mixed := by kernel_rfl
  f231 := Tryd.func41.trans (congrArg some (by kernel_rfl))
  t3 := Tryd.underlying3
  a3 := Tryd.isAgg3
  z3 := Tryd.sizeOf3
  v3 := Tryd.zeroValue3
  t4 := Tryd.underlying4
  a4 := Tryd.isAgg4
  z4 := Tryd.sizeOf4
  v4 := Tryd.zeroValue4
  t5 := Tryd.underlying5
  a5 := Tryd.isAgg5
  z5 := Tryd.sizeOf5
  v5 := Tryd.zeroValue5
  t9 := Tryd.underlying9
  a9 := Tryd.isAgg9
  z9 := Tryd.sizeOf9
  v9 := Tryd.zeroValue9 }
open Go.RowKit in
/-- strings.trimLeftByte (no doc; what TrimLeft and Trim call at a cutset of one ASCII byte): the leading bytes that are c are cut off. The world is as it was. (LAID: no walk: one application.) -/
theorem Tryd.strings_trimLeftByte (s : ByteArray) (c : UInt8) (w : World) :
    Calls Tryd.prog 41 #[.string s, .int .u8 c.toNat] w fun e w' => e = .returned (.string ⟨(Lib.trimLeftB s.data.toList c).toArray⟩) ∧ w' = w := Any.strings_trimLeftByte Tryd.lays231 s c w
def Tryd.lays232_ren : Go.Shelf.Ren := ⟨fun | 232 => 42 | n => n, fun | 9 => 9 | 5 => 5 | 3 => 3 | 4 => 4 | n => n, fun | n => n⟩
theorem Tryd.lays232 : Go.Proofs.Lays.n232 Tryd.prog Tryd.lays232_ren := {
  mixed := by kernel_rfl
  f232 := Tryd.func42.trans (congrArg some (by kernel_rfl))
  t3 := Tryd.underlying3
  a3 := Tryd.isAgg3
  z3 := Tryd.sizeOf3
  v3 := Tryd.zeroValue3
  t4 := Tryd.underlying4
  a4 := Tryd.isAgg4
  z4 := Tryd.sizeOf4
  v4 := Tryd.zeroValue4
  t5 := Tryd.underlying5
  a5 := Tryd.isAgg5
  z5 := Tryd.sizeOf5
  v5 := Tryd.zeroValue5
  t9 := Tryd.underlying9
  a9 := Tryd.isAgg9
  z9 := Tryd.sizeOf9
  v9 := Tryd.zeroValue9 }
open Go.RowKit in
/-- strings.trimRightByte (no doc; what TrimRight and Trim call at a cutset of one ASCII byte): the trailing bytes that are c are cut off. The world is as it was. ('hs': a string's length is a number that an int holds.) (LAID: no walk: one application.) -/
theorem Tryd.strings_trimRightByte (s : ByteArray) (c : UInt8) (w : World) (hs : s.size ≤ 9223372036854775807) :
    Calls Tryd.prog 42 #[.string s, .int .u8 c.toNat] w fun e w' => e = .returned (.string ⟨(Lib.trimRightB s.data.toList c).toArray⟩) ∧ w' = w := Any.strings_trimRightByte Tryd.lays232 s c w hs
def Tryd.lays160_ren : Go.Shelf.Ren := ⟨fun | 160 => 32 | 232 => 42 | 231 => 41 | 227 => 43 | 234 => 45 | 233 => 44 | 236 => 47 | 235 => 46 | 228 => 57 | 271 => 60 | 151 => 59 | 197 => 58 | 120 => 67 | 152 => 66 | 260 => 65 | 137 => 71 | 119 => 72 | 224 => 73 | 225 => 74 | 217 => 75 | 266 => 76 | n => n, fun | 9 => 9 | 4 => 4 | 3 => 3 | 5 => 5 | 117 => 85 | 116 => 84 | 0 => 0 | 124 => 88 | 21 => 21 | 105 => 108 | 46 => 134 | 119 => 133 | 139 => 137 | 138 => 136 | n => n, fun | 3 => 1 | 4 => 2 | n => n⟩
theorem Tryd.lays160 : Go.Proofs.Lays.n160 Tryd.prog Tryd.lays160_ren := {
  mixed := by kernel_rfl
  f119 := Tryd.func72.trans (congrArg some (by kernel_rfl))
  f120 := Tryd.func67.trans (congrArg some (by kernel_rfl))
  f137 := Tryd.func71.trans (congrArg some (by kernel_rfl))
  f151 := Tryd.func59.trans (congrArg some (by kernel_rfl))
  f152 := Tryd.func66.trans (congrArg some (by kernel_rfl))
  f160 := Tryd.func32.trans (congrArg some (by kernel_rfl))
  f197 := Tryd.func58.trans (congrArg some (by kernel_rfl))
  f217 := Tryd.func75.trans (congrArg some (by kernel_rfl))
  f224 := Tryd.func73.trans (congrArg some (by kernel_rfl))
  f225 := Tryd.func74.trans (congrArg some (by kernel_rfl))
  f227 := Tryd.func43.trans (congrArg some (by kernel_rfl))
  f228 := Tryd.func57.trans (congrArg some (by kernel_rfl))
  f231 := Tryd.func41.trans (congrArg some (by kernel_rfl))
  f232 := Tryd.func42.trans (congrArg some (by kernel_rfl))
  f233 := Tryd.func44.trans (congrArg some (by kernel_rfl))
  f234 := Tryd.func45.trans (congrArg some (by kernel_rfl))
  f235 := Tryd.func46.trans (congrArg some (by kernel_rfl))
  f236 := Tryd.func47.trans (congrArg some (by kernel_rfl))
  f260 := Tryd.func65.trans (congrArg some (by kernel_rfl))
  f266 := Tryd.func76.trans (congrArg some (by kernel_rfl))
  f271 := Tryd.func60.trans (congrArg some (by kernel_rfl))
  t0 := Tryd.underlying0
  a0 := Tryd.isAgg0
  z0 := Tryd.sizeOf0
  v0 := Tryd.zeroValue0
  t3 := Tryd.underlying3
  a3 := Tryd.isAgg3
  z3 := Tryd.sizeOf3
  v3 := Tryd.zeroValue3
  t4 := Tryd.underlying4
  a4 := Tryd.isAgg4
  z4 := Tryd.sizeOf4
  v4 := Tryd.zeroValue4
  t5 := Tryd.underlying5
  a5 := Tryd.isAgg5
  z5 := Tryd.sizeOf5
  v5 := Tryd.zeroValue5
  t9 := Tryd.underlying9
  a9 := Tryd.isAgg9
  z9 := Tryd.sizeOf9
  v9 := Tryd.zeroValue9
  t21 := Tryd.underlying21
  a21 := Tryd.isAgg21
  z21 := Tryd.sizeOf21
  v21 := Tryd.zeroValue21
  t46 := Tryd.underlying134
  a46 := Tryd.isAgg134
  z46 := Tryd.sizeOf134
  v46 := Tryd.zeroValue134
  t105 := Tryd.underlying108
  a105 := Tryd.isAgg108
  z105 := Tryd.sizeOf108
  v105 := Tryd.zeroValue108
  t116 := Tryd.underlying84
  a116 := Tryd.isAgg84
  z116 := Tryd.sizeOf84
  t117 := Tryd.underlying85
  a117 := Tryd.isAgg85
  z117 := Tryd.sizeOf85
  v117 := Tryd.zeroValue85
  t119 := Tryd.underlying133
  a119 := Tryd.isAgg133
  z119 := Tryd.sizeOf133
  t124 := Tryd.underlying88
  a124 := Tryd.isAgg88
  z124 := Tryd.sizeOf88
  v124 := Tryd.zeroValue88
  t138 := Tryd.underlying136
  a138 := Tryd.isAgg136
  z138 := Tryd.sizeOf136
  v138 := Tryd.zeroValue136
  t139 := Tryd.underlying137
  a139 := Tryd.isAgg137
  z139 := Tryd.sizeOf137
  v139 := Tryd.zeroValue137
  g3 := by kernel_rfl
  g4 := by kernel_rfl }
def Tryd.lays119_ren : Go.Shelf.Ren := ⟨fun | 119 => 72 | n => n, fun | 21 => 21 | 4 => 4 | n => n, fun | n => n⟩
theorem Tryd.lays119 : Go.Proofs.Lays.n119 Tryd.prog Tryd.lays119_ren := {
  mixed := by kernel_rfl
  f119 := Tryd.func72.trans (congrArg some (by kernel_rfl))
  t4 := Tryd.underlying4
  a4 := Tryd.isAgg4
  z4 := Tryd.sizeOf4
  v4 := Tryd.zeroValue4
  t21 := Tryd.underlying21
  a21 := Tryd.isAgg21
  z21 := Tryd.sizeOf21
  v21 := Tryd.zeroValue21 }
/-- utf8.ValidRune: "ValidRune reports whether r can be legally encoded as UTF-8. Code points that are out of range or a surrogate half are illegal.": IT RETURNS 'Lib.validRune r'; the world is as it was. (LAID: no walk: one application.) -/
theorem Tryd.utf8_ValidRune (r : Int) (w : World) :
    Calls Tryd.prog 72 #[.int .i32 r] w fun e w' => e = .returned (.bool (Lib.validRune r)) ∧ w' = w := Any.utf8_ValidRune Tryd.lays119 r w
def Tryd.lays120_ren : Go.Shelf.Ren := ⟨fun | 120 => 67 | n => n, fun | 5 => 5 | 4 => 4 | n => n, fun | n => n⟩
theorem Tryd.lays120 : Go.Proofs.Lays.n120 Tryd.prog Tryd.lays120_ren := {
  mixed := by kernel_rfl
  f120 := Tryd.func67.trans (congrArg some (by kernel_rfl))
  t4 := Tryd.underlying4
  a4 := Tryd.isAgg4
  z4 := Tryd.sizeOf4
  v4 := Tryd.zeroValue4
  t5 := Tryd.underlying5
  a5 := Tryd.isAgg5
  z5 := Tryd.sizeOf5
  v5 := Tryd.zeroValue5 }
/-- utf8.RuneStart: "RuneStart reports whether the byte could be the first byte of an encoded, possibly invalid rune. Second and subsequent bytes always have the top two bits set to 10.": IT RETURNS 'Lib.runeStart b'; the world is as it was. ('h0', 'h1': b is a byte: a caller has it of every byte that it was handed.) (LAID: no walk: one application.) -/
theorem Tryd.utf8_RuneStart (b : Int) (w : World) (h0 : 0 ≤ b) (h1 : b < 256) :
    Calls Tryd.prog 67 #[.int .u8 b] w fun e w' => e = .returned (.bool (Lib.runeStart b)) ∧ w' = w := Any.utf8_RuneStart Tryd.lays120 b w h0 h1
def Tryd.lays224_ren : Go.Shelf.Ren := ⟨fun | 224 => 73 | n => n, fun | 3 => 3 | n => n, fun | n => n⟩
theorem Tryd.lays224 : Go.Proofs.Lays.n224 Tryd.prog Tryd.lays224_ren := {
  mixed := by kernel_rfl
  f224 := Tryd.func73.trans (congrArg some (by kernel_rfl))
  t3 := Tryd.underlying3
  a3 := Tryd.isAgg3
  z3 := Tryd.sizeOf3
  v3 := Tryd.zeroValue3 }
open Go.RowKit Go.Lib in
/-- internal/bytealg.Cutover: "Cutover reports the number of failures of IndexByte we should tolerate before switching over to Index. n is the number of bytes processed so far.": on amd64: (n + 16) / 8. (LAID: no walk: one application.) -/
theorem Tryd.bytealg_Cutover (n : Int) (h0 : 0 ≤ n) (h1 : n < 4611686018427387904) (w : World) :
    Calls Tryd.prog 73 #[.int .i64 n] w fun e w' => e = .returned (.int .i64 ((n + 16) / 8)) ∧ w' = w := Any.bytealg_Cutover Tryd.lays224 n h0 h1 w
end Go.Proofs
namespace Go.Proofs.YtimomihjghefdaaDoor.Q
open Go.RowKit Go.Proofs.YtimomihjghefdaaDoorW.PrintWords Go.Proofs.YtimomihjghefdaaDoorW.PrintLast Go.Proofs.YtimomihjghefdaaDoorW.PrintMore
attribute [local go_sem] z0y z0v z0z z10 z0s z0t z0w z0x   -- for this text's walks alone
set_option linter.unusedVariables false
set_option linter.unusedSimpArgs false

-- BY HAND: Derived.Test.YtimomihjghefdaaDoorShelf,Derived.Shelf.Strings.SlTrimAscii
/-! ### strings_Trim: function 32 -/
-- HAND strings.Trim making
-- IMPORT Derived.Test.YtimomihjghefdaaDoorShelf
-- IMPORT Derived.Shelf.Strings.SlTrimAscii
/-- A text without the letters of a set at its ends (letters of one byte): the library's function, by the kit's contract. -/
def strings_Trim.f (a0 a1 : ByteArray) : Option ByteArray := if a0.size ≤ 9223372036854775807 ∧ a1.size < 4294967281 ∧ a1.data.toList.all (fun b => decide (b.toNat < 128)) = true then some ⟨(Lib.trimS a0.data.toList a1.data.toList).toArray⟩ else none
theorem strings_Trim.calls (a0 a1 : ByteArray) (r : ByteArray) (w : World) (h : strings_Trim.f a0 a1 = some r) : Calls Tryd.prog 32 #[.string a0, .string a1] w fun e w' => e = .returned (.string r) ∧ Below w.heap.size w w' := by
  unfold strings_Trim.f at h
  by_cases h0 : a0.size ≤ 9223372036854775807 ∧ a1.size < 4294967281 ∧ a1.data.toList.all (fun b => decide (b.toNat < 128)) = true
  · rw [if_pos h0, Option.some.injEq] at h
    refine (Go.Proofs.Any.strings_Trim_laid Tryd.lays160 (by kernel_rfl) a0 a1 w h0.1 h0.2.1 (fun j b hj => ?_)).mono ?_
    · have h2 := List.all_eq_true.1 h0.2.2 b (List.mem_of_getElem? hj)
      exact of_decide_eq_true h2
    · rintro e w' ⟨rfl, hb⟩
      exact ⟨by rw [h], hb⟩
  · rw [if_neg h0] at h; cases h

end Go.Proofs.YtimomihjghefdaaDoor.Q
namespace Go.Proofs.YtimomihjghefdaaDoor.Q
open Go.RowKit Go.Proofs.YtimomihjghefdaaDoorW.PrintWords Go.Proofs.YtimomihjghefdaaDoorW.PrintLast Go.Proofs.YtimomihjghefdaaDoorW.PrintMore
attribute [local go_sem] z0y z0v z0z z10 z0s z0t z0w z0x   -- for this text's walks alone
set_option linter.unusedVariables false
set_option linter.unusedSimpArgs false

/-! ### schema_name: function 23 -/
def schema_name.f (a0 : ByteArray) : Option (Bool) := if (a0.size : Int) ≥ 1 then (if (a0.size : Int) ≤ 16 then ((strings_Trim.f a0 (⟨#[97, 98, 99, 100, 101, 102, 103, 104, 105, 106, 107, 108, 109, 110, 111, 112, 113, 114, 115, 116, 117, 118, 119, 120, 121, 122, 48, 49, 50, 51, 52, 53, 54, 55, 56, 57, 95]⟩ : ByteArray)).bind fun t106 => (some (t106.toList == ([] : List UInt8)))) else (some false)) else (some false)
set_option maxHeartbeats 8000000 in
set_option maxRecDepth 100000 in
theorem schema_name.calls (a0 : ByteArray) (r : Bool) (w : World) (h : schema_name.f a0 = some r) :
    Calls Tryd.prog 23 #[.string a0] w fun e w' => e = .returned (.bool r) ∧ Below w.heap.size w w' := by
  have HB := z05.mk (Below.refl w.heap.size w)
  have H : (if (a0.size : Int) ≥ 1 then (if (a0.size : Int) ≤ 16 then ((strings_Trim.f a0 (⟨#[97, 98, 99, 100, 101, 102, 103, 104, 105, 106, 107, 108, 109, 110, 111, 112, 113, 114, 115, 116, 117, 118, 119, 120, 121, 122, 48, 49, 50, 51, 52, 53, 54, 55, 56, 57, 95]⟩ : ByteArray)).bind fun t106 => (some (t106.toList == ([] : List UInt8)))) else (some false)) else (some false)) = some r := h
  clear h
  by_cases c2 : (a0.size : Int) ≥ 1
  · rw [if_pos c2] at H
    have c2b0 : decide (1 ≤ (a0.size : Int)) = true := decide_eq_true c2
    have c2b1 : decide (1 ≤ a0.size) = true := decide_eq_true (by omega)
    clear c2
    by_cases c3 : (a0.size : Int) ≤ 16
    · rw [if_pos c3] at H
      have c3b0 : decide ((a0.size : Int) ≤ 16) = true := decide_eq_true c3
      have c3b1 : decide (a0.size ≤ 16) = true := decide_eq_true (by omega)
      clear c3
      replace H := Option.bind_eq_some_iff.mp H
      obtain ⟨t106, A40, H⟩ := H
      replace H : (some (t106.toList == ([] : List UInt8))) = some r := H
      have A4 := z05.mk A40
      clear A40
      obtain rfl := Option.some.inj H
      go_enter Tryd.func23, Tryd.ntmps23
      go_wp2_with (first | (go_at_call 32; (with_reducible refine (strings_Trim.calls a0 (⟨#[97, 98, 99, 100, 101, 102, 103, 104, 105, 106, 107, 108, 109, 110, 111, 112, 113, 114, 115, 116, 117, 118, 119, 120, 121, 122, 48, 49, 50, 51, 52, 53, 54, 55, 56, 57, 95]⟩ : ByteArray) t106 _ A4.out).mono ?_); rintro e w5 ⟨rfl, hb⟩; have n0_ := z05.mk (z0a (by repeat (first | (with_reducible first | exact HB.out | apply z02 | apply z00 | apply z03) | exact HB.out)) hb); clear HB; have HB := n0_; clear n0_; (try clear hb); (try clear hb2); (try clear hk); (try clear hi)))
      go_ret
      exact ⟨by first | rfl | (simp [z0d, z0c] <;> rfl) | (refine congrArg (fun b_ : Bool => Ending.returned (Value.bool b_)) ?_; simp; done) | (simp [*, z0d, z0c] <;> rfl), by repeat (first | (with_reducible first | exact HB.out | apply z02 | apply z00 | apply z03) | exact HB.out)⟩
    · rw [if_neg c3] at H
      have c3b0 : decide ((a0.size : Int) ≤ 16) = false := decide_eq_false c3
      have c3b1 : decide (a0.size ≤ 16) = false := decide_eq_false (by omega)
      clear c3
      obtain rfl := Option.some.inj H
      go_enter Tryd.func23, Tryd.ntmps23
      go_wp2
      go_ret
      exact ⟨by first | rfl | (simp [z0d, z0c] <;> rfl) | (refine congrArg (fun b_ : Bool => Ending.returned (Value.bool b_)) ?_; simp; done) | (simp [*, z0d, z0c] <;> rfl), by repeat (first | (with_reducible first | exact HB.out | apply z02 | apply z00 | apply z03) | exact HB.out)⟩
  · rw [if_neg c2] at H
    have c2b0 : decide (1 ≤ (a0.size : Int)) = false := decide_eq_false c2
    have c2b1 : decide (1 ≤ a0.size) = false := decide_eq_false (by omega)
    clear c2
    obtain rfl := Option.some.inj H
    go_enter Tryd.func23, Tryd.ntmps23
    go_wp2
    go_ret
    exact ⟨by first | rfl | (simp [z0d, z0c] <;> rfl) | (refine congrArg (fun b_ : Bool => Ending.returned (Value.bool b_)) ?_; simp; done) | (simp [*, z0d, z0c] <;> rfl), by repeat (first | (with_reducible first | exact HB.out | apply z02 | apply z00 | apply z03) | exact HB.out)⟩

end Go.Proofs.YtimomihjghefdaaDoor.Q
namespace Go.Proofs.YtimomihjghefdaaDoor.Q
open Go.RowKit Go.Proofs.YtimomihjghefdaaDoorW.PrintWords Go.Proofs.YtimomihjghefdaaDoorW.PrintLast Go.Proofs.YtimomihjghefdaaDoorW.PrintMore
attribute [local go_sem] z0y z0v z0z z10 z0s z0t z0w z0x   -- for this text's walks alone
set_option linter.unusedVariables false
set_option linter.unusedSimpArgs false

-- BY HAND: Derived.Shelf.Abstract,Derived.Test.YtimomihjghefdaaDoorHnum
/-! ### schema_Find: function 24 -/
-- HAND winnower/schema.Find making
-- SKIP slices.IndexFunc[[]winnower/api.Col,winnower/api.Col] winnower/schema.Find$1
-- IMPORT Derived.Shelf.Abstract
-- IMPORT Derived.Test.YtimomihjghefdaaDoorHnum
open Go.Shelf Go.Proofs.YtimomihjghefdaaDoor.Hnum
def findC (a1 : ByteArray) : List S45 → Int → Int
  | [], _ => -1
  | x :: t, i => if x.f0.toList == a1.toList then i else findC a1 t (i + 1)
def schema_Find.f (l0_0 : List S45) (a0_1 a0_2 a0_3 a0_4 : Int) (a1 : ByteArray) : Option Int := some (findC a1 l0_0 0)
set_option maxHeartbeats 4000000 in
set_option maxRecDepth 100000 in
theorem schema_Find_1.calls (x : S45) (a1 : ByteArray) (gn : Nat) (W : World) (hb : W.heap[gn]? = some (.cells #[.string a1] 9 (0, 0))) :
    Calls Tryd.prog 34 #[.agg #[.string x.f0, .int .i64 x.f1, .bool x.f2], .pointer (some ⟨gn, 0, none⟩)] W fun e W' => e = .returned (.bool (x.f0.toList == a1.toList)) ∧ Below W.heap.size W W' := by
  have hu := Tryd.underlying45
  have HB := z05.mk (Below.refl W.heap.size W)
  have BN := z05.mk hb
  clear hb
  go_enter Tryd.func34, Tryd.ntmps34
  go_wp2_with (first | ((with_reducible refine z0h (N := 2) rfl ?_); refine z0g ?hg (N := 2) ?hd (cs := #[.string x.f0, .int .i64 x.f1, .bool x.f2]) (t := 45) ?hr ?_; (case hd => rfl); (case hg => rfl); (case hr => first | (go_simp; done) | (go_simp; rfl)); intro gb hg w2 hbox hb; have n0_ := z05.mk (z0a HB.out hb); have hx0 : w2.cell? ⟨gb, 0, none⟩ = some (.string x.f0) := (z04 hbox 0).trans rfl; have hn0 : w2.cell? ⟨gn, 0, none⟩ = some (.string a1) := (z04 (z0e BN.out hb) 0).trans rfl; clear HB; have HB := n0_; clear n0_ hb hbox hg))
  go_ret
  exact ⟨rfl, HB.out⟩
set_option maxHeartbeats 4000000 in
set_option maxRecDepth 100000 in
theorem indexFunc.calls (l : List S45) (A : Option Addr) (c : Nat) (a1 : ByteArray) (gn : Nat) (w : World) (hr : Kd.C k45 w A l.length l) (hb : w.heap[gn]? = some (.cells #[.string a1] 9 (0, 0))) :
    Calls Tryd.prog 33 #[.slice A l.length c, .func (.func 34) #[] #[.pointer (some ⟨gn, 0, none⟩)]] w fun e w' => e = .returned (.int .i64 (findC a1 l 0)) ∧ Below w.heap.size w w' := by
  have HB := z05.mk (Below.refl w.heap.size w)
  have HR := z05.mk hr
  have BN := z05.mk hb
  have HL := z05.mk hr.2.1
  have eg := enters_of Tryd.func34 (by kernel_rfl) rfl
  clear hr hb
  go_enter Tryd.func33, Tryd.ntmps33
  go_wp2
  go_loopg [8] l.length (fun m_ v8 wr => ∃ (k : Nat), v8 = .int .i64 (k : Int) ∧ z05 (k + m_ = l.length) ∧ z05 (findC a1 (l.drop k) (k : Int) = findC a1 l 0) ∧ z05 (Below w.heap.size w wr))
  case atStart => exact ⟨0, rfl, ⟨by omega⟩, ⟨by simp⟩, ⟨HB.out⟩⟩
  case round =>
    clear HB
    obtain ⟨k, rfl, HK, HF, HB⟩ := hrel
    cases gk with
    | zero =>
      have hk : k = l.length := by have := HK.out; omega
      have r1 : decide ((k : Int) < (l.length : Int)) = false := decide_eq_false (by omega)
      have r2 : decide (k < l.length) = false := decide_eq_false (by omega)
      have HE := z05.mk (show (-1 : Int) = findC a1 l 0 by have h := HF.out; rw [hk, List.drop_length] at h; exact h)
      clear hk
      go_wp2
      go_ret
      exact ⟨congrArg (fun z => Ending.returned (Value.int .i64 z)) HE.out, HB.out⟩
    | succ m_ =>
      have hk : k < l.length := by have := HK.out; omega
      have hkI : (k : Int) < (l.length : Int) := by omega
      have r1 : decide ((k : Int) < (l.length : Int)) = true := decide_eq_true hkI
      have r2 : decide (k < l.length) = true := decide_eq_true hk
      have r3 : (0 : Int) ≤ (k : Int) := by omega
      obtain ⟨ad, e1, x0, x1, x2⟩ := z11 (Kd.C_below HR.out HB.out) (k : Int) r3 hkI
      cases e1
      rw [Int.toNat_natCast] at x0 x1 x2
      have hd : l.drop k = z0f l (k : Int) :: l.drop (k + 1) := by
        unfold z0f
        rw [List.drop_eq_getElem_cons hk, Int.toNat_natCast, List.getD_eq_getElem?_getD, List.getElem?_eq_getElem hk]
        rfl
      have HD := z05.mk (show (if (z0f l (k : Int)).f0.toList == a1.toList then (k : Int) else findC a1 (l.drop (k + 1)) ((k : Int) + 1)) = findC a1 l 0 by rw [← HF.out, hd]; rfl)
      clear hd
      generalize z0f l (k : Int) = x at x0 x1 x2 HD
      cases hq : (x.f0.toList == a1.toList) with
      | true =>
        have HD2 := z05.mk (show (k : Int) = findC a1 l 0 by have h := HD.out; rw [hq] at h; exact h)
        go_wp2_with (go_at_call 34; refine (schema_Find_1.calls x a1 gn _ (z0e BN.out HB.out)).mono ?_; rintro e W ⟨rfl, hb⟩; rw [hq]; have HBn := z05.mk (z0a HB.out hb); clear HB hb; have HB := HBn; clear HBn)
        go_ret
        exact ⟨congrArg (fun z => Ending.returned (Value.int .i64 z)) HD2.out, HB.out⟩
      | false =>
        have HD2 := z05.mk (show findC a1 (l.drop (k + 1)) ((k : Int) + 1) = findC a1 l 0 by have h := HD.out; rw [hq] at h; exact h)
        go_wp2_with (go_at_call 34; refine (schema_Find_1.calls x a1 gn _ (z0e BN.out HB.out)).mono ?_; rintro e W ⟨rfl, hb⟩; rw [hq]; have HBn := z05.mk (z0a HB.out hb); clear HB hb; have HB := HBn; clear HBn)
        go_roundg m_
        case measure => omega
        case rel => exact ⟨k + 1, by rw [show ((k + 1 : Nat) : Int) = (k : Int) + 1 from by omega, z1c (by omega) (by have := HL.out; omega)], ⟨by have := HK.out; omega⟩, ⟨HD2.out⟩, ⟨HB.out⟩⟩
set_option maxHeartbeats 4000000 in
set_option maxRecDepth 100000 in
theorem schema_Find.calls (A0_0 : Option Addr) (c0_0 : Nat) (l0_0 : List (S45)) (a0_1 : Int) (a0_2 : Int) (a0_3 : Int) (a0_4 : Int) (a1 : ByteArray) (r : Int) (w : World) (hr0_0 : Kd.C k45 w A0_0 l0_0.length l0_0) (hc0_0 : l0_0.length ≤ c0_0) (h : schema_Find.f l0_0 a0_1 a0_2 a0_3 a0_4 a1 = some r) :
    Calls Tryd.prog 24 #[.agg #[.slice A0_0 l0_0.length c0_0, .int .i64 a0_1, .int .i64 a0_2, .int .i64 a0_3, .int .i64 a0_4], .string a1] w fun e w' => e = .returned (.int .i64 r) ∧ Below w.heap.size w w' := by
  obtain rfl := Option.some.inj h
  have hu := Tryd.underlying24
  have HB := z05.mk (Below.refl w.heap.size w)
  have HR := z05.mk hr0_0
  clear hr0_0 hc0_0 h
  go_enter Tryd.func24, Tryd.ntmps24
  go_wp2_with (first
    | ((with_reducible refine z0h (N := 2) rfl ?_); refine z0g ?hg (N := 2) ?hd (cs := #[.slice A0_0 l0_0.length c0_0, .int .i64 a0_1, .int .i64 a0_2, .int .i64 a0_3, .int .i64 a0_4]) (t := 24) ?hr ?_; (case hd => rfl); (case hg => rfl); (case hr => first | (go_simp; done) | (go_simp; rfl)); intro gb hg w2 hbox hb; have BS := z05.mk hbox; have n0_ := z05.mk (z0a HB.out hb); clear HB; have HB := n0_; clear n0_ hb hbox hg)
    | ((with_reducible refine z0h (N := 3) rfl ?_); refine z0g ?hg (N := 3) ?hd (cs := #[.string a1]) (t := 9) ?hr ?_; (case hd => rfl); (case hg => rfl); (case hr => first | (go_simp; done) | (go_simp; rfl)); intro gn hg w3 hbox hb; have BN := z05.mk hbox; have n0_ := z05.mk (z0a HB.out hb); have hs0 : w3.cell? ⟨gb, 0, none⟩ = some (.slice A0_0 l0_0.length c0_0) := (z04 (z0e BS.out hb) 0).trans rfl; clear HB BS; have HB := n0_; clear n0_ hb hbox hg)
    | (go_at_call 33; refine (indexFunc.calls l0_0 A0_0 c0_0 a1 gn _ (Kd.C_below HR.out HB.out) BN.out).mono ?_; rintro e w4 ⟨rfl, hb⟩; have n0_ := z05.mk (z0a HB.out hb); clear HB hb; have HB := n0_; clear n0_))
  go_ret
  exact ⟨rfl, HB.out⟩

end Go.Proofs.YtimomihjghefdaaDoor.Q
