/- Joined: Shelf, VSh, VIt, VTab, VKeys, VAw, VRow. No condition. -/
import Derived.Shelf.Strings.Builder1
import Derived.Shelf.Strings.Builder2
import Derived.Shelf.Strings.OnBuilder
import Derived.Shelf.Strings.BuilderK
import Derived.Shelf.Strconv.Itoa0
import Derived.Shelf.Strconv.Itoa1
import Derived.Shelf.LaysM
import Derived.Shelf.Strconv.Itoa2
import Derived.Shelf.Strconv.Itoa3
import Derived.Ground.Names2Prog
import Derived.Shelf.Slices.Clone
import Derived.Ground.SlgnProg
import Derived.Shelf.SlicesE.Clone
import Derived.Test.YtaccppchhljnkaaDoorProg
import Derived.Test.YtaccppchhljnkaaDoorAtA
import Derived.WalkSmall
import Derived.Test.YtaccppchhljnkaaDoorMdD
import Derived.Test.YtaccppchhljnkaaDoorAtU
import Derived.Test.YtaccppchhljnkaaDoorRows
import Derived.Test.YtaccppchhljnkaaDoorTie
import Derived.Test.YtaccppchhljnkaaDoorCards
import Derived.ProofKit
import Derived.LaidMore
import Derived.Stop.Joined
import Derived.Stop.LaidErr
/-
  DERIVED: THE SHELF's CONTRACTS AT THIS DUMP, IN PLAIN WORDS (tools/lay-plain.mjs out of 'TrydShelf.lean', which tools/lay-shelf.mjs wrote): THE SAME DECLARATIONS UNDER THE SAME NAMES: 'import', 'namespace', 'open', 'def', 'theorem' AND NOTHING ELSE: no command of the shelf's: FOR A HAND-IN. Each laying: the table of numbers ('.._ren') and one theorem, a field a fact of the dump's own or the kernel's comparison; each contract: ONE APPLICATION.
-/
namespace Go.Proofs
open Go.Shelf
def Tryd.lays169_ren : Go.Shelf.Ren := ⟨fun | 169 => 24 | n => n, fun | 70 => 54 | 9 => 9 | 0 => 0 | 72 => 56 | 37 => 25 | 127 => 89 | 3 => 3 | 5 => 5 | n => n, fun | n => n⟩
theorem Tryd.lays169 : Go.Proofs.Lays.n169 Tryd.prog Tryd.lays169_ren := {
  mixed := by kernel_rfl
  f169 := Tryd.func24.trans (congrArg some (by kernel_rfl))
  t0 := Tryd.underlying0
  a0 := Tryd.isAgg0
  z0 := Tryd.sizeOf0
  v0 := Tryd.zeroValue0
  t3 := Tryd.underlying3
  a3 := Tryd.isAgg3
  z3 := Tryd.sizeOf3
  v3 := Tryd.zeroValue3
  t9 := Tryd.underlying9
  a9 := Tryd.isAgg9
  z9 := Tryd.sizeOf9
  v9 := Tryd.zeroValue9
  t37 := Tryd.underlying25
  a37 := Tryd.isAgg25
  z37 := Tryd.sizeOf25
  v37 := Tryd.zeroValue25
  t70 := Tryd.underlying54
  a70 := Tryd.isAgg54
  z70 := Tryd.sizeOf54
  v70 := Tryd.zeroValue54
  t72 := Tryd.underlying56
  a72 := Tryd.isAgg56
  z72 := Tryd.sizeOf56
  v72 := Tryd.zeroValue56
  t127 := Tryd.underlying89
  a127 := Tryd.isAgg89
  z127 := Tryd.sizeOf89
  v127 := Tryd.zeroValue89 }
theorem Tryd.Builder_Extra_169 : Builder.Extra Tryd.prog Tryd.lays169_ren := {
  sizeBuilder := by kernel_rfl
  liesBuilder := by kernel_rfl
  t5 := Tryd.underlying5
  a5 := Tryd.isAgg5
  z5 := Tryd.sizeOf5
  v5 := Tryd.zeroValue5
  infoByte := by kernel_rfl
  cellsByte := by kernel_rfl
  sizeByte := by kernel_rfl
  neB5 := by decide }
open Go.RowKit in
/-- (*strings.Builder).String: "String returns the accumulated string.": OF A BUILDER THAT HOLDS AT LEAST ONE BYTE. ✋ THE MODEL FREEZES THOSE BYTES IN THE BUFFER (unsafe.String): a later write INTO them ends the model's run without an answer; a later append BEHIND them goes on. The statement's order of evaluation is drawn: one draw. (LAID: no walk: one application.) -/
theorem Tryd.Builder_String (B b : Nat) (l : List UInt8) (w : World) (h : Lib.IsBuilder 56 5 B b (Lib.byteCells l) w) (h0 : l ≠ []) :
    Calls Tryd.prog 24 #[.pointer (some ⟨b, 0, none⟩)] w fun e w' => e = .returned (.string ⟨l.toArray⟩) ∧ Below B w w' := Any.Builder_String Tryd.lays169 Tryd.Builder_Extra_169 B b l w h h0
open Go.RowKit in
/-- (*strings.Builder).String OF A BUILDER THAT HOLDS NO BYTE: the empty string. (Its buffer is nil, or a row of which it has taken nothing yet; where that row has NO capacity the model lays one new block for unsafe.SliceData's 'some address'.) One draw. (LAID: no walk: one application.) -/
theorem Tryd.Builder_String_empty (B b : Nat) (w : World) (h : Lib.IsBuilder 56 5 B b [] w) (hBw : B ≤ w.heap.size) :
    Calls Tryd.prog 24 #[.pointer (some ⟨b, 0, none⟩)] w fun e w' => e = .returned (.string ⟨#[]⟩) ∧ Below B w w' := Any.Builder_String_empty Tryd.lays169 Tryd.Builder_Extra_169 B b w h hBw
open Go.RowKit in
/-- (*strings.Builder).String: "String returns the accumulated string.": WHATEVER THE BUILDER HOLDS. (LAID: no walk: one application.) -/
theorem Tryd.Builder_String_any (B b : Nat) (l : List UInt8) (w : World) (h : Lib.IsBuilder 56 5 B b (Lib.byteCells l) w) (hBw : B ≤ w.heap.size) :
    Calls Tryd.prog 24 #[.pointer (some ⟨b, 0, none⟩)] w fun e w' => e = .returned (.string ⟨l.toArray⟩) ∧ Below B w w' := Any.Builder_String_any Tryd.lays169 Tryd.Builder_Extra_169 B b l w h hBw
def Tryd.lays241_ren : Go.Shelf.Ren := ⟨fun | 241 => 59 | 277 => 66 | n => n, fun | 70 => 54 | 3 => 3 | 0 => 0 | 72 => 56 | 37 => 25 | 5 => 5 | n => n, fun | n => n⟩
theorem Tryd.lays241 : Go.Proofs.Lays.n241 Tryd.prog Tryd.lays241_ren := {
  mixed := by kernel_rfl
  f241 := Tryd.func59.trans (congrArg some (by kernel_rfl))
  f277 := Tryd.func66.trans (congrArg some (by kernel_rfl))
  t0 := Tryd.underlying0
  a0 := Tryd.isAgg0
  z0 := Tryd.sizeOf0
  v0 := Tryd.zeroValue0
  t3 := Tryd.underlying3
  a3 := Tryd.isAgg3
  z3 := Tryd.sizeOf3
  v3 := Tryd.zeroValue3
  t37 := Tryd.underlying25
  a37 := Tryd.isAgg25
  z37 := Tryd.sizeOf25
  v37 := Tryd.zeroValue25
  t70 := Tryd.underlying54
  a70 := Tryd.isAgg54
  z70 := Tryd.sizeOf54
  v70 := Tryd.zeroValue54
  t72 := Tryd.underlying56
  a72 := Tryd.isAgg56
  z72 := Tryd.sizeOf56
  v72 := Tryd.zeroValue56 }
theorem Tryd.Builder_Extra_241 : Builder.Extra Tryd.prog Tryd.lays241_ren := {
  sizeBuilder := by kernel_rfl
  liesBuilder := by kernel_rfl
  t5 := Tryd.underlying5
  a5 := Tryd.isAgg5
  z5 := Tryd.sizeOf5
  v5 := Tryd.zeroValue5
  infoByte := by kernel_rfl
  cellsByte := by kernel_rfl
  sizeByte := by kernel_rfl
  neB5 := by decide }
open Go.RowKit in
/-- (*strings.Builder).grow (no doc but "grow copies the buffer to a new, larger buffer so that there are at least n bytes of capacity beyond len(b.buf)."): AT A BUILDER WITHOUT A BUFFER: a new row of whatever bytes for its buffer, none of them its own yet. Three draws. (LAID: no walk: one application.) -/
theorem Tryd.Builder_grow_fresh (B b n : Nat) (w : World) (hB : B ≤ b) (hbk : w.heap[b]? = some (.cells #[.pointer (some ⟨b, 0, none⟩), .slice none 0 0] 56 (0, 0))) (hBw : B ≤ w.heap.size) (hn : n ≤ 281474976710656) :
    Calls Tryd.prog 59 #[.pointer (some ⟨b, 0, none⟩), .int .i64 n] w fun e w' => e = .returned (.tuple #[]) ∧ (Lib.BuilderAt 56 5 B b (.pointer (some ⟨b, 0, none⟩)) [] w' ∧ Below B w w') := Any.Builder_grow_fresh Tryd.lays241 Tryd.Builder_Extra_241 B b n w hB hbk hBw hn
def Tryd.lays165_ren : Go.Shelf.Ren := ⟨fun | 165 => 47 | 240 => 45 | 241 => 59 | 276 => 57 | 277 => 66 | n => n, fun | 70 => 54 | 3 => 3 | 0 => 0 | 4 => 4 | 9 => 9 | 20 => 20 | 72 => 56 | 37 => 25 | 164 => 106 | 5 => 5 | n => n, fun | n => n⟩
theorem Tryd.lays165 : Go.Proofs.Lays.n165 Tryd.prog Tryd.lays165_ren := {
  mixed := by kernel_rfl
  f165 := Tryd.func47.trans (congrArg some (by kernel_rfl))
  f240 := Tryd.func45.trans (congrArg some (by kernel_rfl))
  f241 := Tryd.func59.trans (congrArg some (by kernel_rfl))
  f276 := Tryd.func57.trans (congrArg some (by kernel_rfl))
  f277 := Tryd.func66.trans (congrArg some (by kernel_rfl))
  t0 := Tryd.underlying0
  a0 := Tryd.isAgg0
  z0 := Tryd.sizeOf0
  v0 := Tryd.zeroValue0
  t3 := Tryd.underlying3
  a3 := Tryd.isAgg3
  z3 := Tryd.sizeOf3
  v3 := Tryd.zeroValue3
  t4 := Tryd.underlying4
  a4 := Tryd.isAgg4
  z4 := Tryd.sizeOf4
  v4 := Tryd.zeroValue4
  t9 := Tryd.underlying9
  a9 := Tryd.isAgg9
  z9 := Tryd.sizeOf9
  v9 := Tryd.zeroValue9
  t20 := Tryd.underlying20
  a20 := Tryd.isAgg20
  z20 := Tryd.sizeOf20
  v20 := Tryd.zeroValue20
  t37 := Tryd.underlying25
  a37 := Tryd.isAgg25
  z37 := Tryd.sizeOf25
  v37 := Tryd.zeroValue25
  t70 := Tryd.underlying54
  a70 := Tryd.isAgg54
  z70 := Tryd.sizeOf54
  v70 := Tryd.zeroValue54
  t72 := Tryd.underlying56
  a72 := Tryd.isAgg56
  z72 := Tryd.sizeOf56
  v72 := Tryd.zeroValue56
  t164 := Tryd.underlying106
  a164 := Tryd.isAgg106
  z164 := Tryd.sizeOf106
  v164 := Tryd.zeroValue106 }
theorem Tryd.Builder_Extra_165 : Builder.Extra Tryd.prog Tryd.lays165_ren := {
  sizeBuilder := by kernel_rfl
  liesBuilder := by kernel_rfl
  t5 := Tryd.underlying5
  a5 := Tryd.isAgg5
  z5 := Tryd.sizeOf5
  v5 := Tryd.zeroValue5
  infoByte := by kernel_rfl
  cellsByte := by kernel_rfl
  sizeByte := by kernel_rfl
  neB5 := by decide }
open Go.RowKit in
/-- (*strings.Builder).Grow AT A BUILDER THAT HAS NOT BEEN WRITTEN ('var b strings.Builder; b.Grow(n)'): "Grow grows b's capacity, if necessary, to guarantee space for another n bytes.": it holds no byte behind it as before it. (LAID: no walk: one application.) -/
theorem Tryd.Builder_Grow_fresh (B b n : Nat) (w : World) (hB : B ≤ b) (hbk : w.heap[b]? = some (.cells #[.pointer none, .slice none 0 0] 56 (0, 0))) (hBw : B ≤ w.heap.size) (hn : n ≤ 281474976710656) :
    Calls Tryd.prog 47 #[.pointer (some ⟨b, 0, none⟩), .int .i64 n] w fun e w' => e = .returned (.tuple #[]) ∧ (Lib.BuilderAt 56 5 B b (.pointer (some ⟨b, 0, none⟩)) [] w' ∧ Below B w w') := Any.Builder_Grow_fresh Tryd.lays165 Tryd.Builder_Extra_165 B b n w hB hbk hBw hn
def Tryd.lays156_ren : Go.Shelf.Ren := ⟨fun | 156 => 26 | 165 => 47 | 166 => 37 | 169 => 24 | 240 => 45 | 241 => 59 | 276 => 57 | 277 => 66 | n => n, fun | 31 => 42 | 9 => 9 | 3 => 3 | 4 => 4 | 0 => 0 | 20 => 20 | 72 => 56 | 76 => 80 | 70 => 54 | 37 => 25 | 75 => 58 | 127 => 89 | 164 => 106 | 5 => 5 | 80 => 60 | n => n, fun | n => n⟩
theorem Tryd.lays156 : Go.Proofs.Lays.n156 Tryd.prog Tryd.lays156_ren := {
  mixed := by kernel_rfl
  f156 := Tryd.func26.trans (congrArg some (by kernel_rfl))
  f165 := Tryd.func47.trans (congrArg some (by kernel_rfl))
  f166 := Tryd.func37.trans (congrArg some (by kernel_rfl))
  f169 := Tryd.func24.trans (congrArg some (by kernel_rfl))
  f240 := Tryd.func45.trans (congrArg some (by kernel_rfl))
  f241 := Tryd.func59.trans (congrArg some (by kernel_rfl))
  f276 := Tryd.func57.trans (congrArg some (by kernel_rfl))
  f277 := Tryd.func66.trans (congrArg some (by kernel_rfl))
  t0 := Tryd.underlying0
  a0 := Tryd.isAgg0
  z0 := Tryd.sizeOf0
  v0 := Tryd.zeroValue0
  t3 := Tryd.underlying3
  a3 := Tryd.isAgg3
  z3 := Tryd.sizeOf3
  v3 := Tryd.zeroValue3
  t4 := Tryd.underlying4
  a4 := Tryd.isAgg4
  z4 := Tryd.sizeOf4
  v4 := Tryd.zeroValue4
  t9 := Tryd.underlying9
  a9 := Tryd.isAgg9
  z9 := Tryd.sizeOf9
  v9 := Tryd.zeroValue9
  t20 := Tryd.underlying20
  a20 := Tryd.isAgg20
  z20 := Tryd.sizeOf20
  v20 := Tryd.zeroValue20
  t31 := Tryd.underlying42
  a31 := Tryd.isAgg42
  z31 := Tryd.sizeOf42
  v31 := Tryd.zeroValue42
  t37 := Tryd.underlying25
  a37 := Tryd.isAgg25
  z37 := Tryd.sizeOf25
  v37 := Tryd.zeroValue25
  t70 := Tryd.underlying54
  a70 := Tryd.isAgg54
  z70 := Tryd.sizeOf54
  v70 := Tryd.zeroValue54
  t72 := Tryd.underlying56
  a72 := Tryd.isAgg56
  z72 := Tryd.sizeOf56
  v72 := Tryd.zeroValue56
  t75 := Tryd.underlying58
  a75 := Tryd.isAgg58
  z75 := Tryd.sizeOf58
  v75 := Tryd.zeroValue58
  t76 := Tryd.underlying80
  a76 := Tryd.isAgg80
  z76 := Tryd.sizeOf80
  v76 := Tryd.zeroValue80
  t127 := Tryd.underlying89
  a127 := Tryd.isAgg89
  z127 := Tryd.sizeOf89
  v127 := Tryd.zeroValue89
  t164 := Tryd.underlying106
  a164 := Tryd.isAgg106
  z164 := Tryd.sizeOf106
  v164 := Tryd.zeroValue106 }
theorem Tryd.Builder_Extra_156 : Builder.Extra Tryd.prog Tryd.lays156_ren := {
  sizeBuilder := by kernel_rfl
  liesBuilder := by kernel_rfl
  t5 := Tryd.underlying5
  a5 := Tryd.isAgg5
  z5 := Tryd.sizeOf5
  v5 := Tryd.zeroValue5
  infoByte := by kernel_rfl
  cellsByte := by kernel_rfl
  sizeByte := by kernel_rfl
  neB5 := by decide }
open Go.RowKit in
/-- No element: the empty string; the world is as it was. (Whatever the slice's address and capacity: a nil slice too.) (LAID: no walk: one application.) -/
theorem Tryd.strings_Join_none (a : Option Addr) (c : Nat) (sep : ByteArray) (w : World) :
    Calls Tryd.prog 26 #[.slice a 0 c, .string sep] w fun e w' => e = .returned (.string ⟨#[]⟩) ∧ w' = w := Any.strings_Join_none Tryd.lays156 Tryd.Builder_Extra_156 a c sep w
open Go.RowKit in
/-- strings.Join: "Join concatenates the elements of its first argument to create a single string. The separator string sep is placed between elements in the resulting string.": HOWEVER MANY ELEMENTS. Below the heap's end the world is as it was. (LAID: no walk: one application.) -/
theorem Tryd.strings_Join (bk o c : Nat) (xs : List ByteArray) (sep : ByteArray) (w : World) (hcells : ∀ (j : Nat) x, xs[j]? = some x → w.cell? ⟨bk, o + j, none⟩ = some (.string x)) (hbk : bk < w.heap.size) (hN : xs.length ≤ 140737488355328) (hcap : xs.length ≤ c) (hlen : (Lib.join (xs.map (·.data.toList)) sep.data.toList).length ≤ 140737488355328) :
    Calls Tryd.prog 26 #[.slice (some ⟨bk, o, none⟩) xs.length c, .string sep] w fun e w' => e = .returned (.string ⟨(Lib.join (xs.map (·.data.toList)) sep.data.toList).toArray⟩) ∧ Below w.heap.size w w' := Any.strings_Join Tryd.lays156 Tryd.Builder_Extra_156 bk o c xs sep w hcells hbk hN hcap hlen
def Tryd.lays129_ren : Go.Shelf.Ren := ⟨fun | 129 => 68 | n => n, fun | 53 => 111 | 3 => 3 | 4 => 4 | 46 => 122 | 5 => 5 | 9 => 9 | n => n, fun | n => n⟩
theorem Tryd.lays129 : Go.Proofs.Lays.n129 Tryd.prog Tryd.lays129_ren := {
  mixed := by kernel_rfl
  f129 := Tryd.func68.trans (congrArg some (by kernel_rfl))
  t3 := Tryd.underlying3
  a3 := Tryd.isAgg3
  z3 := Tryd.sizeOf3
  v3 := Tryd.zeroValue3
  t4 := Tryd.underlying4
  a4 := Tryd.isAgg4
  z4 := Tryd.sizeOf4
  v4 := Tryd.zeroValue4
  t5 := Tryd.underlying5
  a5 := Tryd.isAgg5
  z5 := Tryd.sizeOf5
  v5 := Tryd.zeroValue5
  t9 := Tryd.underlying9
  a9 := Tryd.isAgg9
  z9 := Tryd.sizeOf9
  v9 := Tryd.zeroValue9
  t46 := Tryd.underlying122
  a46 := Tryd.isAgg122
  z46 := Tryd.sizeOf122
  v46 := Tryd.zeroValue122
  t53 := Tryd.underlying111
  a53 := Tryd.isAgg111
  z53 := Tryd.sizeOf111
  v53 := Tryd.zeroValue111 }
/-- bits.Len64: "Len64 returns the minimum number of bits required to represent x; the result is 0 for x == 0.": IT RETURNS 'Lib.bitLen x'; the world is as it was. ('h0', 'h1': x is a uint64.) (LAID: no walk: one application.) -/
theorem Tryd.bits_Len64 (x : Int) (w : World) (h0 : 0 ≤ x) (h1 : x ≤ 18446744073709551615) :
    Calls Tryd.prog 68 #[.int .u64 x] w fun e w' => e = .returned (.int .i64 (Lib.bitLen x.toNat)) ∧ w' = w := Any.bits_Len64 Tryd.lays129 x w h0 h1
def Tryd.lays317_ren : Go.Shelf.Ren := ⟨fun | 317 => 67 | n => n, fun | 3 => 3 | 46 => 122 | n => n, fun | n => n⟩
theorem Tryd.lays317 : Go.Proofs.Lays.n317 Tryd.prog Tryd.lays317_ren := {
  mixed := by kernel_rfl
  f317 := Tryd.func67.trans (congrArg some (by kernel_rfl))
  t3 := Tryd.underlying3
  a3 := Tryd.isAgg3
  z3 := Tryd.sizeOf3
  v3 := Tryd.zeroValue3
  t46 := Tryd.underlying122
  a46 := Tryd.isAgg122
  z46 := Tryd.sizeOf122
  v46 := Tryd.zeroValue122 }
open Go.Lib in
/-- internal/strconv.log10Pow2: "log10Pow2(x) returns ⌊log₁₀ 2**x⌋ = ⌊x * log₁₀ 2⌋.": '(x * 78913) >> 18', at an x up to 64 (a length in bits). The world is as it was. (LAID: no walk: one application.) -/
theorem Tryd.internal_strconv_log10Pow2 (x : Nat) (h : x ≤ 64) (w : World) :
    Calls Tryd.prog 67 #[.int .i64 x] w fun e w' => e = .returned (.int .i64 (Lib.l10 x)) ∧ w' = w := Any.internal_strconv_log10Pow2 Tryd.lays317 x h w
def Tryd.lays318_ren : Go.Shelf.Ren := ⟨fun | 318 => 69 | n => n, fun | 3 => 3 | 4 => 4 | n => n, fun | n => n⟩
theorem Tryd.lays318 : Go.Proofs.Lays.n318 Tryd.prog Tryd.lays318_ren := {
  mixed := by kernel_rfl
  f318 := Tryd.func69.trans (congrArg some (by kernel_rfl))
  t3 := Tryd.underlying3
  a3 := Tryd.isAgg3
  z3 := Tryd.sizeOf3
  v3 := Tryd.zeroValue3
  t4 := Tryd.underlying4
  a4 := Tryd.isAgg4
  z4 := Tryd.sizeOf4
  v4 := Tryd.zeroValue4 }
open Go.Lib in
/-- internal/strconv.bool2: "bool2 converts b to an integer: 1 for true, 0 for false." The world is as it was. (LAID: no walk: one application.) -/
theorem Tryd.internal_strconv_bool2_int (b : Bool) (w : World) :
    Calls Tryd.prog 69 #[.bool b] w fun e w' => e = .returned (.int .i64 (if b then 1 else 0)) ∧ w' = w := Any.internal_strconv_bool2_int Tryd.lays318 b w
def Tryd.lays283_ren : Go.Shelf.Ren := ⟨fun | 283 => 62 | n => n, fun | 3 => 3 | 9 => 9 | 4 => 4 | n => n, fun | n => n⟩
theorem Tryd.lays283 : Go.Proofs.Lays.n283 Tryd.prog Tryd.lays283_ren := {
  mixed := by kernel_rfl
  f283 := Tryd.func62.trans (congrArg some (by kernel_rfl))
  t3 := Tryd.underlying3
  a3 := Tryd.isAgg3
  z3 := Tryd.sizeOf3
  v3 := Tryd.zeroValue3
  t4 := Tryd.underlying4
  a4 := Tryd.isAgg4
  z4 := Tryd.sizeOf4
  v4 := Tryd.zeroValue4
  t9 := Tryd.underlying9
  a9 := Tryd.isAgg9
  z9 := Tryd.sizeOf9
  v9 := Tryd.zeroValue9 }
open Go.Lib in
/-- internal/strconv.small: "small returns the string for an i with 0 <= i < nSmalls.": i's decimal numeral. The world is as it was. (LAID: no walk: one application.) -/
theorem Tryd.internal_strconv_small (i : Nat) (h : i < 100) (w : World) :
    Calls Tryd.prog 62 #[.int .i64 i] w fun e w' => e = .returned (.string ⟨(Lib.decDigits i).toArray⟩) ∧ w' = w := Any.internal_strconv_small Tryd.lays283 i h w
def Tryd.laysM284_ren : Go.Shelf.Ren := ⟨fun | 284 => 63 | 129 => 68 | 317 => 67 | 318 => 69 | n => n, fun | 53 => 111 | 3 => 3 | 212 => 118 | 0 => 0 | 4 => 4 | 46 => 122 | 5 => 5 | 9 => 9 | n => n, fun | 17 => 0 | n => n⟩
theorem Tryd.laysM284 : Go.Proofs.LaysM.n284 Tryd.prog Tryd.laysM284_ren := {
  mixed := by kernel_rfl
  f129 := Tryd.func68.trans (congrArg some (by kernel_rfl))
  f284 := Tryd.func63.trans (congrArg some (by kernel_rfl))
  f317 := Tryd.func67.trans (congrArg some (by kernel_rfl))
  f318 := Tryd.func69.trans (congrArg some (by kernel_rfl))
  t0 := Tryd.underlying0
  a0 := Tryd.isAgg0
  z0 := Tryd.sizeOf0
  v0 := Tryd.zeroValue0
  t3 := Tryd.underlying3
  a3 := Tryd.isAgg3
  z3 := Tryd.sizeOf3
  v3 := Tryd.zeroValue3
  t4 := Tryd.underlying4
  a4 := Tryd.isAgg4
  z4 := Tryd.sizeOf4
  v4 := Tryd.zeroValue4
  t5 := Tryd.underlying5
  a5 := Tryd.isAgg5
  z5 := Tryd.sizeOf5
  v5 := Tryd.zeroValue5
  t9 := Tryd.underlying9
  a9 := Tryd.isAgg9
  z9 := Tryd.sizeOf9
  v9 := Tryd.zeroValue9
  t46 := Tryd.underlying122
  a46 := Tryd.isAgg122
  z46 := Tryd.sizeOf122
  v46 := Tryd.zeroValue122
  t53 := Tryd.underlying111
  a53 := Tryd.isAgg111
  z53 := Tryd.sizeOf111
  v53 := Tryd.zeroValue111
  t212 := Tryd.underlying118
  a212 := Tryd.isAgg118
  z212 := Tryd.sizeOf118
  v212 := Tryd.zeroValue118
  g17 := by kernel_rfl
  i0 := by kernel_rfl
  i3 := by kernel_rfl
  i4 := by kernel_rfl
  i5 := by kernel_rfl
  i9 := by kernel_rfl
  i46 := by kernel_rfl
  i53 := by kernel_rfl
  i212 := by kernel_rfl
  m17 := by kernel_rfl }
open Go.Lib in
/-- internal/strconv.numDigits, at a d that is not 0: THE NUMBER OF d's DECIMAL DIGITS. The world is as it was. (LAID: no walk: one application.) -/
theorem Tryd.internal_strconv_numDigits (u : Nat) (h1 : 1 ≤ u) (h2 : u < 18446744073709551616) (w : World) (htab : Lib.TabIs Tryd.prog w "internal/strconv.uint64pow10" .u64 Lib.pow10Tab) :
    Calls Tryd.prog 63 #[.int .u64 u] w fun e w' => e = .returned (.int .i64 (Lib.nDigits u)) ∧ w' = w := Any.internal_strconv_numDigits Tryd.laysM284 u h1 h2 w htab
def Tryd.lays285_ren : Go.Shelf.Ren := ⟨fun | 285 => 64 | n => n, fun | 37 => 25 | 53 => 111 | 3 => 3 | 4 => 4 | 51 => 119 | 9 => 9 | 5 => 5 | 0 => 0 | n => n, fun | n => n⟩
theorem Tryd.lays285 : Go.Proofs.Lays.n285 Tryd.prog Tryd.lays285_ren := {
  mixed := by kernel_rfl
  f285 := Tryd.func64.trans (congrArg some (by kernel_rfl))
  t0 := Tryd.underlying0
  a0 := Tryd.isAgg0
  z0 := Tryd.sizeOf0
  v0 := Tryd.zeroValue0
  t3 := Tryd.underlying3
  a3 := Tryd.isAgg3
  z3 := Tryd.sizeOf3
  v3 := Tryd.zeroValue3
  t4 := Tryd.underlying4
  a4 := Tryd.isAgg4
  z4 := Tryd.sizeOf4
  v4 := Tryd.zeroValue4
  t5 := Tryd.underlying5
  a5 := Tryd.isAgg5
  z5 := Tryd.sizeOf5
  v5 := Tryd.zeroValue5
  t9 := Tryd.underlying9
  a9 := Tryd.isAgg9
  z9 := Tryd.sizeOf9
  v9 := Tryd.zeroValue9
  t37 := Tryd.underlying25
  a37 := Tryd.isAgg25
  z37 := Tryd.sizeOf25
  v37 := Tryd.zeroValue25
  t51 := Tryd.underlying119
  a51 := Tryd.isAgg119
  z51 := Tryd.sizeOf119
  v51 := Tryd.zeroValue119
  t53 := Tryd.underlying111
  a53 := Tryd.isAgg111
  z53 := Tryd.sizeOf111
  v53 := Tryd.zeroValue111 }
open Go.RowKit Go.Sort Go.Lib in
/-- internal/strconv.formatBase10: "formatBase10 formats the decimal representation of u into a. The caller is responsible for ensuring that a is big enough to hold u. If a is too big, leading zeros will be filled in as needed.": THE ROW HOLDS u's DIGITS ('FmtInv .. 0 ..': every place t holds 'dg u (len - 1 - t)'); all else is as it was but for the count of draws. (LAID: no walk: one application.) -/
theorem Tryd.internal_strconv_formatBase10 (blk off cap : Nat) (u : Nat) (d : Array UInt8) (w : World) (hH : Holds (fun (b : UInt8) => Value.int .u8 (b.toNat : Int)) w blk off d) (hu : u < 10 ^ d.size) (hu64 : u < 18446744073709551616) (hsz : d.size < 4611686018427387904) :
    Calls Tryd.prog 64 #[.slice (some ⟨blk, off, none⟩) d.size cap, .int .u64 u] w fun e w' =>
      e = .returned (.tuple #[]) ∧ ∃ (n v' : Nat) (dk : Array UInt8), w' = (putRow (fun (b : UInt8) => Value.int .u8 (b.toNat : Int)) w blk off dk).drewN n ∧ FmtInv d.size u 0 v' dk := Any.internal_strconv_formatBase10 Tryd.lays285 blk off cap u d w hH hu hu64 hsz
def Tryd.laysM246_ren : Go.Shelf.Ren := ⟨fun | 246 => 58 | 283 => 62 | 284 => 63 | 285 => 64 | 286 => 65 | 129 => 68 | 317 => 67 | 318 => 69 | 319 => 70 | 320 => 71 | 337 => 72 | 338 => 73 | n => n, fun | 2 => 2 | 3 => 3 | 9 => 9 | 4 => 4 | 171 => 110 | 0 => 0 | 53 => 111 | 37 => 25 | 5 => 5 | 173 => 114 | 212 => 118 | 51 => 119 | 20 => 20 | 213 => 120 | 46 => 122 | 232 => 125 | 233 => 126 | n => n, fun | 17 => 0 | 18 => 2 | 19 => 3 | n => n⟩
theorem Tryd.laysM246 : Go.Proofs.LaysM.n246 Tryd.prog Tryd.laysM246_ren := {
  mixed := by kernel_rfl
  f129 := Tryd.func68.trans (congrArg some (by kernel_rfl))
  f246 := Tryd.func58.trans (congrArg some (by kernel_rfl))
  f283 := Tryd.func62.trans (congrArg some (by kernel_rfl))
  f284 := Tryd.func63.trans (congrArg some (by kernel_rfl))
  f285 := Tryd.func64.trans (congrArg some (by kernel_rfl))
  f286 := Tryd.func65.trans (congrArg some (by kernel_rfl))
  f317 := Tryd.func67.trans (congrArg some (by kernel_rfl))
  f318 := Tryd.func69.trans (congrArg some (by kernel_rfl))
  f319 := Tryd.func70.trans (congrArg some (by kernel_rfl))
  f320 := Tryd.func71.trans (congrArg some (by kernel_rfl))
  f337 := Tryd.func72.trans (congrArg some (by kernel_rfl))
  f338 := Tryd.func73.trans (congrArg some (by kernel_rfl))
  t0 := Tryd.underlying0
  a0 := Tryd.isAgg0
  z0 := Tryd.sizeOf0
  v0 := Tryd.zeroValue0
  t2 := Tryd.underlying2
  a2 := Tryd.isAgg2
  z2 := Tryd.sizeOf2
  v2 := Tryd.zeroValue2
  t3 := Tryd.underlying3
  a3 := Tryd.isAgg3
  z3 := Tryd.sizeOf3
  v3 := Tryd.zeroValue3
  t4 := Tryd.underlying4
  a4 := Tryd.isAgg4
  z4 := Tryd.sizeOf4
  v4 := Tryd.zeroValue4
  t5 := Tryd.underlying5
  a5 := Tryd.isAgg5
  z5 := Tryd.sizeOf5
  v5 := Tryd.zeroValue5
  t9 := Tryd.underlying9
  a9 := Tryd.isAgg9
  z9 := Tryd.sizeOf9
  v9 := Tryd.zeroValue9
  t20 := Tryd.underlying20
  a20 := Tryd.isAgg20
  z20 := Tryd.sizeOf20
  v20 := Tryd.zeroValue20
  t37 := Tryd.underlying25
  a37 := Tryd.isAgg25
  z37 := Tryd.sizeOf25
  v37 := Tryd.zeroValue25
  t46 := Tryd.underlying122
  a46 := Tryd.isAgg122
  z46 := Tryd.sizeOf122
  v46 := Tryd.zeroValue122
  t51 := Tryd.underlying119
  a51 := Tryd.isAgg119
  z51 := Tryd.sizeOf119
  v51 := Tryd.zeroValue119
  t53 := Tryd.underlying111
  a53 := Tryd.isAgg111
  z53 := Tryd.sizeOf111
  v53 := Tryd.zeroValue111
  t171 := Tryd.underlying110
  a171 := Tryd.isAgg110
  z171 := Tryd.sizeOf110
  v171 := Tryd.zeroValue110
  t173 := Tryd.underlying114
  a173 := Tryd.isAgg114
  z173 := Tryd.sizeOf114
  v173 := Tryd.zeroValue114
  t212 := Tryd.underlying118
  a212 := Tryd.isAgg118
  z212 := Tryd.sizeOf118
  v212 := Tryd.zeroValue118
  t213 := Tryd.underlying120
  a213 := Tryd.isAgg120
  z213 := Tryd.sizeOf120
  t232 := Tryd.underlying125
  a232 := Tryd.isAgg125
  z232 := Tryd.sizeOf125
  v232 := Tryd.zeroValue125
  t233 := Tryd.underlying126
  a233 := Tryd.isAgg126
  z233 := Tryd.sizeOf126
  v233 := Tryd.zeroValue126
  g17 := by kernel_rfl
  g18 := by kernel_rfl
  g19 := by kernel_rfl
  i0 := by kernel_rfl
  i2 := by kernel_rfl
  i3 := by kernel_rfl
  i4 := by kernel_rfl
  i5 := by kernel_rfl
  i9 := by kernel_rfl
  i20 := by kernel_rfl
  i37 := by kernel_rfl
  i46 := by kernel_rfl
  i51 := by kernel_rfl
  i53 := by kernel_rfl
  i171 := by kernel_rfl
  i173 := by kernel_rfl
  i212 := by kernel_rfl
  i232 := by kernel_rfl
  i233 := by kernel_rfl
  m17 := by kernel_rfl
  m18 := by kernel_rfl
  m19 := by kernel_rfl }
open Go.RowKit Go.Sort Go.Lib in
/-- internal/strconv.FormatInt: "FormatInt returns the string representation of i in the given base": AT BASE 10: i's decimal numeral, for every int64. The world behind the call: the world before it, new blocks behind the heap, draws. (LAID: no walk: one application.) -/
theorem Tryd.internal_strconv_FormatInt_10 (n : Int) (h0 : -9223372036854775808 ≤ n) (h1 : n ≤ 9223372036854775807) (w : World) (htab : Lib.TabIs Tryd.prog w "internal/strconv.uint64pow10" .u64 Lib.pow10Tab) :
    Calls Tryd.prog 58 #[.int .i64 n, .int .i64 10] w fun e w' => e = .returned (.string ⟨(Lib.itoa n).toArray⟩) ∧ ∃ k os, w' = grow (w.drewN k) os := Any.internal_strconv_FormatInt_10 Tryd.laysM246 n h0 h1 w htab
def Tryd.lays246_ren : Go.Shelf.Ren := ⟨fun | 246 => 58 | 283 => 62 | 284 => 63 | 285 => 64 | 286 => 65 | 129 => 68 | 317 => 67 | 318 => 69 | 319 => 70 | 320 => 71 | 337 => 72 | 338 => 73 | n => n, fun | 2 => 2 | 3 => 3 | 9 => 9 | 4 => 4 | 171 => 110 | 0 => 0 | 53 => 111 | 37 => 25 | 5 => 5 | 173 => 114 | 212 => 118 | 51 => 119 | 20 => 20 | 213 => 120 | 46 => 122 | 232 => 125 | 233 => 126 | n => n, fun | 17 => 0 | 18 => 2 | 19 => 3 | n => n⟩
theorem Tryd.lays246 : Go.Proofs.Lays.n246 Tryd.prog Tryd.lays246_ren := {
  mixed := by kernel_rfl
  f129 := Tryd.func68.trans (congrArg some (by kernel_rfl))
  f246 := Tryd.func58.trans (congrArg some (by kernel_rfl))
  f283 := Tryd.func62.trans (congrArg some (by kernel_rfl))
  f284 := Tryd.func63.trans (congrArg some (by kernel_rfl))
  f285 := Tryd.func64.trans (congrArg some (by kernel_rfl))
  f286 := Tryd.func65.trans (congrArg some (by kernel_rfl))
  f317 := Tryd.func67.trans (congrArg some (by kernel_rfl))
  f318 := Tryd.func69.trans (congrArg some (by kernel_rfl))
  f319 := Tryd.func70.trans (congrArg some (by kernel_rfl))
  f320 := Tryd.func71.trans (congrArg some (by kernel_rfl))
  f337 := Tryd.func72.trans (congrArg some (by kernel_rfl))
  f338 := Tryd.func73.trans (congrArg some (by kernel_rfl))
  t0 := Tryd.underlying0
  a0 := Tryd.isAgg0
  z0 := Tryd.sizeOf0
  v0 := Tryd.zeroValue0
  t2 := Tryd.underlying2
  a2 := Tryd.isAgg2
  z2 := Tryd.sizeOf2
  v2 := Tryd.zeroValue2
  t3 := Tryd.underlying3
  a3 := Tryd.isAgg3
  z3 := Tryd.sizeOf3
  v3 := Tryd.zeroValue3
  t4 := Tryd.underlying4
  a4 := Tryd.isAgg4
  z4 := Tryd.sizeOf4
  v4 := Tryd.zeroValue4
  t5 := Tryd.underlying5
  a5 := Tryd.isAgg5
  z5 := Tryd.sizeOf5
  v5 := Tryd.zeroValue5
  t9 := Tryd.underlying9
  a9 := Tryd.isAgg9
  z9 := Tryd.sizeOf9
  v9 := Tryd.zeroValue9
  t20 := Tryd.underlying20
  a20 := Tryd.isAgg20
  z20 := Tryd.sizeOf20
  v20 := Tryd.zeroValue20
  t37 := Tryd.underlying25
  a37 := Tryd.isAgg25
  z37 := Tryd.sizeOf25
  v37 := Tryd.zeroValue25
  t46 := Tryd.underlying122
  a46 := Tryd.isAgg122
  z46 := Tryd.sizeOf122
  v46 := Tryd.zeroValue122
  t51 := Tryd.underlying119
  a51 := Tryd.isAgg119
  z51 := Tryd.sizeOf119
  v51 := Tryd.zeroValue119
  t53 := Tryd.underlying111
  a53 := Tryd.isAgg111
  z53 := Tryd.sizeOf111
  v53 := Tryd.zeroValue111
  t171 := Tryd.underlying110
  a171 := Tryd.isAgg110
  z171 := Tryd.sizeOf110
  v171 := Tryd.zeroValue110
  t173 := Tryd.underlying114
  a173 := Tryd.isAgg114
  z173 := Tryd.sizeOf114
  v173 := Tryd.zeroValue114
  t212 := Tryd.underlying118
  a212 := Tryd.isAgg118
  z212 := Tryd.sizeOf118
  v212 := Tryd.zeroValue118
  t213 := Tryd.underlying120
  a213 := Tryd.isAgg120
  z213 := Tryd.sizeOf120
  t232 := Tryd.underlying125
  a232 := Tryd.isAgg125
  z232 := Tryd.sizeOf125
  v232 := Tryd.zeroValue125
  t233 := Tryd.underlying126
  a233 := Tryd.isAgg126
  z233 := Tryd.sizeOf126
  v233 := Tryd.zeroValue126
  g17 := by kernel_rfl
  g18 := by kernel_rfl
  g19 := by kernel_rfl }
open Go.RowKit Go.Sort Go.Lib in
/-- THE ROAD WITHOUT THE TABLE: 0 <= i < 100: two constants are read, nothing is laid: no premise on the world, and the world is as it was. (LAID: no walk: one application.) -/
theorem Tryd.internal_strconv_FormatInt_10_small (i : Nat) (hi : i < 100) (w : World) :
    Calls Tryd.prog 58 #[.int .i64 i, .int .i64 10] w fun e w' => e = .returned (.string ⟨(Lib.decDigits i).toArray⟩) ∧ w' = w := Any.internal_strconv_FormatInt_10_small Tryd.lays246 i hi w
def Tryd.laysM243_ren : Go.Shelf.Ren := ⟨fun | 243 => 46 | 246 => 58 | 283 => 62 | 284 => 63 | 285 => 64 | 286 => 65 | 129 => 68 | 317 => 67 | 318 => 69 | 319 => 70 | 320 => 71 | 337 => 72 | 338 => 73 | n => n, fun | 3 => 3 | 9 => 9 | 2 => 2 | 4 => 4 | 171 => 110 | 0 => 0 | 53 => 111 | 37 => 25 | 5 => 5 | 173 => 114 | 212 => 118 | 51 => 119 | 20 => 20 | 213 => 120 | 46 => 122 | 232 => 125 | 233 => 126 | n => n, fun | 17 => 0 | 18 => 2 | 19 => 3 | n => n⟩
theorem Tryd.laysM243 : Go.Proofs.LaysM.n243 Tryd.prog Tryd.laysM243_ren := {
  mixed := by kernel_rfl
  f129 := Tryd.func68.trans (congrArg some (by kernel_rfl))
  f243 := Tryd.func46.trans (congrArg some (by kernel_rfl))
  f246 := Tryd.func58.trans (congrArg some (by kernel_rfl))
  f283 := Tryd.func62.trans (congrArg some (by kernel_rfl))
  f284 := Tryd.func63.trans (congrArg some (by kernel_rfl))
  f285 := Tryd.func64.trans (congrArg some (by kernel_rfl))
  f286 := Tryd.func65.trans (congrArg some (by kernel_rfl))
  f317 := Tryd.func67.trans (congrArg some (by kernel_rfl))
  f318 := Tryd.func69.trans (congrArg some (by kernel_rfl))
  f319 := Tryd.func70.trans (congrArg some (by kernel_rfl))
  f320 := Tryd.func71.trans (congrArg some (by kernel_rfl))
  f337 := Tryd.func72.trans (congrArg some (by kernel_rfl))
  f338 := Tryd.func73.trans (congrArg some (by kernel_rfl))
  t0 := Tryd.underlying0
  a0 := Tryd.isAgg0
  z0 := Tryd.sizeOf0
  v0 := Tryd.zeroValue0
  t2 := Tryd.underlying2
  a2 := Tryd.isAgg2
  z2 := Tryd.sizeOf2
  v2 := Tryd.zeroValue2
  t3 := Tryd.underlying3
  a3 := Tryd.isAgg3
  z3 := Tryd.sizeOf3
  v3 := Tryd.zeroValue3
  t4 := Tryd.underlying4
  a4 := Tryd.isAgg4
  z4 := Tryd.sizeOf4
  v4 := Tryd.zeroValue4
  t5 := Tryd.underlying5
  a5 := Tryd.isAgg5
  z5 := Tryd.sizeOf5
  v5 := Tryd.zeroValue5
  t9 := Tryd.underlying9
  a9 := Tryd.isAgg9
  z9 := Tryd.sizeOf9
  v9 := Tryd.zeroValue9
  t20 := Tryd.underlying20
  a20 := Tryd.isAgg20
  z20 := Tryd.sizeOf20
  v20 := Tryd.zeroValue20
  t37 := Tryd.underlying25
  a37 := Tryd.isAgg25
  z37 := Tryd.sizeOf25
  v37 := Tryd.zeroValue25
  t46 := Tryd.underlying122
  a46 := Tryd.isAgg122
  z46 := Tryd.sizeOf122
  v46 := Tryd.zeroValue122
  t51 := Tryd.underlying119
  a51 := Tryd.isAgg119
  z51 := Tryd.sizeOf119
  v51 := Tryd.zeroValue119
  t53 := Tryd.underlying111
  a53 := Tryd.isAgg111
  z53 := Tryd.sizeOf111
  v53 := Tryd.zeroValue111
  t171 := Tryd.underlying110
  a171 := Tryd.isAgg110
  z171 := Tryd.sizeOf110
  v171 := Tryd.zeroValue110
  t173 := Tryd.underlying114
  a173 := Tryd.isAgg114
  z173 := Tryd.sizeOf114
  v173 := Tryd.zeroValue114
  t212 := Tryd.underlying118
  a212 := Tryd.isAgg118
  z212 := Tryd.sizeOf118
  v212 := Tryd.zeroValue118
  t213 := Tryd.underlying120
  a213 := Tryd.isAgg120
  z213 := Tryd.sizeOf120
  t232 := Tryd.underlying125
  a232 := Tryd.isAgg125
  z232 := Tryd.sizeOf125
  v232 := Tryd.zeroValue125
  t233 := Tryd.underlying126
  a233 := Tryd.isAgg126
  z233 := Tryd.sizeOf126
  v233 := Tryd.zeroValue126
  g17 := by kernel_rfl
  g18 := by kernel_rfl
  g19 := by kernel_rfl
  i0 := by kernel_rfl
  i2 := by kernel_rfl
  i3 := by kernel_rfl
  i4 := by kernel_rfl
  i5 := by kernel_rfl
  i9 := by kernel_rfl
  i20 := by kernel_rfl
  i37 := by kernel_rfl
  i46 := by kernel_rfl
  i51 := by kernel_rfl
  i53 := by kernel_rfl
  i171 := by kernel_rfl
  i173 := by kernel_rfl
  i212 := by kernel_rfl
  i232 := by kernel_rfl
  i233 := by kernel_rfl
  m17 := by kernel_rfl
  m18 := by kernel_rfl
  m19 := by kernel_rfl }
open Go.RowKit Go.Sort Go.Lib in
/-- internal/strconv.Itoa: "Itoa is equivalent to FormatInt(int64(i), 10).": i's decimal numeral, for every int. (LAID: no walk: one application.) -/
theorem Tryd.internal_strconv_Itoa (n : Int) (h0 : -9223372036854775808 ≤ n) (h1 : n ≤ 9223372036854775807) (w : World) (htab : Lib.TabIs Tryd.prog w "internal/strconv.uint64pow10" .u64 Lib.pow10Tab) :
    Calls Tryd.prog 46 #[.int .i64 n] w fun e w' => e = .returned (.string ⟨(Lib.itoa n).toArray⟩) ∧ ∃ k os, w' = grow (w.drewN k) os := Any.internal_strconv_Itoa Tryd.laysM243 n h0 h1 w htab
def Tryd.lays243_ren : Go.Shelf.Ren := ⟨fun | 243 => 46 | 246 => 58 | 283 => 62 | 284 => 63 | 285 => 64 | 286 => 65 | 129 => 68 | 317 => 67 | 318 => 69 | 319 => 70 | 320 => 71 | 337 => 72 | 338 => 73 | n => n, fun | 3 => 3 | 9 => 9 | 2 => 2 | 4 => 4 | 171 => 110 | 0 => 0 | 53 => 111 | 37 => 25 | 5 => 5 | 173 => 114 | 212 => 118 | 51 => 119 | 20 => 20 | 213 => 120 | 46 => 122 | 232 => 125 | 233 => 126 | n => n, fun | 17 => 0 | 18 => 2 | 19 => 3 | n => n⟩
theorem Tryd.lays243 : Go.Proofs.Lays.n243 Tryd.prog Tryd.lays243_ren := {
  mixed := by kernel_rfl
  f129 := Tryd.func68.trans (congrArg some (by kernel_rfl))
  f243 := Tryd.func46.trans (congrArg some (by kernel_rfl))
  f246 := Tryd.func58.trans (congrArg some (by kernel_rfl))
  f283 := Tryd.func62.trans (congrArg some (by kernel_rfl))
  f284 := Tryd.func63.trans (congrArg some (by kernel_rfl))
  f285 := Tryd.func64.trans (congrArg some (by kernel_rfl))
  f286 := Tryd.func65.trans (congrArg some (by kernel_rfl))
  f317 := Tryd.func67.trans (congrArg some (by kernel_rfl))
  f318 := Tryd.func69.trans (congrArg some (by kernel_rfl))
  f319 := Tryd.func70.trans (congrArg some (by kernel_rfl))
  f320 := Tryd.func71.trans (congrArg some (by kernel_rfl))
  f337 := Tryd.func72.trans (congrArg some (by kernel_rfl))
  f338 := Tryd.func73.trans (congrArg some (by kernel_rfl))
  t0 := Tryd.underlying0
  a0 := Tryd.isAgg0
  z0 := Tryd.sizeOf0
  v0 := Tryd.zeroValue0
  t2 := Tryd.underlying2
  a2 := Tryd.isAgg2
  z2 := Tryd.sizeOf2
  v2 := Tryd.zeroValue2
  t3 := Tryd.underlying3
  a3 := Tryd.isAgg3
  z3 := Tryd.sizeOf3
  v3 := Tryd.zeroValue3
  t4 := Tryd.underlying4
  a4 := Tryd.isAgg4
  z4 := Tryd.sizeOf4
  v4 := Tryd.zeroValue4
  t5 := Tryd.underlying5
  a5 := Tryd.isAgg5
  z5 := Tryd.sizeOf5
  v5 := Tryd.zeroValue5
  t9 := Tryd.underlying9
  a9 := Tryd.isAgg9
  z9 := Tryd.sizeOf9
  v9 := Tryd.zeroValue9
  t20 := Tryd.underlying20
  a20 := Tryd.isAgg20
  z20 := Tryd.sizeOf20
  v20 := Tryd.zeroValue20
  t37 := Tryd.underlying25
  a37 := Tryd.isAgg25
  z37 := Tryd.sizeOf25
  v37 := Tryd.zeroValue25
  t46 := Tryd.underlying122
  a46 := Tryd.isAgg122
  z46 := Tryd.sizeOf122
  v46 := Tryd.zeroValue122
  t51 := Tryd.underlying119
  a51 := Tryd.isAgg119
  z51 := Tryd.sizeOf119
  v51 := Tryd.zeroValue119
  t53 := Tryd.underlying111
  a53 := Tryd.isAgg111
  z53 := Tryd.sizeOf111
  v53 := Tryd.zeroValue111
  t171 := Tryd.underlying110
  a171 := Tryd.isAgg110
  z171 := Tryd.sizeOf110
  v171 := Tryd.zeroValue110
  t173 := Tryd.underlying114
  a173 := Tryd.isAgg114
  z173 := Tryd.sizeOf114
  v173 := Tryd.zeroValue114
  t212 := Tryd.underlying118
  a212 := Tryd.isAgg118
  z212 := Tryd.sizeOf118
  v212 := Tryd.zeroValue118
  t213 := Tryd.underlying120
  a213 := Tryd.isAgg120
  z213 := Tryd.sizeOf120
  t232 := Tryd.underlying125
  a232 := Tryd.isAgg125
  z232 := Tryd.sizeOf125
  v232 := Tryd.zeroValue125
  t233 := Tryd.underlying126
  a233 := Tryd.isAgg126
  z233 := Tryd.sizeOf126
  v233 := Tryd.zeroValue126
  g17 := by kernel_rfl
  g18 := by kernel_rfl
  g19 := by kernel_rfl }
open Go.RowKit Go.Sort Go.Lib in
/-- THE ROAD WITHOUT THE TABLE: 0 <= i < 100. (LAID: no walk: one application.) -/
theorem Tryd.internal_strconv_Itoa_small (i : Nat) (hi : i < 100) (w : World) :
    Calls Tryd.prog 46 #[.int .i64 i] w fun e w' => e = .returned (.string ⟨(Lib.decDigits i).toArray⟩) ∧ w' = w := Any.internal_strconv_Itoa_small Tryd.lays243 i hi w
def Tryd.laysM171_ren : Go.Shelf.Ren := ⟨fun | 171 => 25 | 243 => 46 | 246 => 58 | 283 => 62 | 284 => 63 | 285 => 64 | 286 => 65 | 129 => 68 | 317 => 67 | 318 => 69 | 319 => 70 | 320 => 71 | 337 => 72 | 338 => 73 | n => n, fun | 3 => 3 | 9 => 9 | 2 => 2 | 4 => 4 | 171 => 110 | 0 => 0 | 53 => 111 | 37 => 25 | 5 => 5 | 173 => 114 | 212 => 118 | 51 => 119 | 20 => 20 | 213 => 120 | 46 => 122 | 232 => 125 | 233 => 126 | n => n, fun | 17 => 0 | 18 => 2 | 19 => 3 | n => n⟩
theorem Tryd.laysM171 : Go.Proofs.LaysM.n171 Tryd.prog Tryd.laysM171_ren := {
  mixed := by kernel_rfl
  f129 := Tryd.func68.trans (congrArg some (by kernel_rfl))
  f171 := Tryd.func25.trans (congrArg some (by kernel_rfl))
  f243 := Tryd.func46.trans (congrArg some (by kernel_rfl))
  f246 := Tryd.func58.trans (congrArg some (by kernel_rfl))
  f283 := Tryd.func62.trans (congrArg some (by kernel_rfl))
  f284 := Tryd.func63.trans (congrArg some (by kernel_rfl))
  f285 := Tryd.func64.trans (congrArg some (by kernel_rfl))
  f286 := Tryd.func65.trans (congrArg some (by kernel_rfl))
  f317 := Tryd.func67.trans (congrArg some (by kernel_rfl))
  f318 := Tryd.func69.trans (congrArg some (by kernel_rfl))
  f319 := Tryd.func70.trans (congrArg some (by kernel_rfl))
  f320 := Tryd.func71.trans (congrArg some (by kernel_rfl))
  f337 := Tryd.func72.trans (congrArg some (by kernel_rfl))
  f338 := Tryd.func73.trans (congrArg some (by kernel_rfl))
  t0 := Tryd.underlying0
  a0 := Tryd.isAgg0
  z0 := Tryd.sizeOf0
  v0 := Tryd.zeroValue0
  t2 := Tryd.underlying2
  a2 := Tryd.isAgg2
  z2 := Tryd.sizeOf2
  v2 := Tryd.zeroValue2
  t3 := Tryd.underlying3
  a3 := Tryd.isAgg3
  z3 := Tryd.sizeOf3
  v3 := Tryd.zeroValue3
  t4 := Tryd.underlying4
  a4 := Tryd.isAgg4
  z4 := Tryd.sizeOf4
  v4 := Tryd.zeroValue4
  t5 := Tryd.underlying5
  a5 := Tryd.isAgg5
  z5 := Tryd.sizeOf5
  v5 := Tryd.zeroValue5
  t9 := Tryd.underlying9
  a9 := Tryd.isAgg9
  z9 := Tryd.sizeOf9
  v9 := Tryd.zeroValue9
  t20 := Tryd.underlying20
  a20 := Tryd.isAgg20
  z20 := Tryd.sizeOf20
  v20 := Tryd.zeroValue20
  t37 := Tryd.underlying25
  a37 := Tryd.isAgg25
  z37 := Tryd.sizeOf25
  v37 := Tryd.zeroValue25
  t46 := Tryd.underlying122
  a46 := Tryd.isAgg122
  z46 := Tryd.sizeOf122
  v46 := Tryd.zeroValue122
  t51 := Tryd.underlying119
  a51 := Tryd.isAgg119
  z51 := Tryd.sizeOf119
  v51 := Tryd.zeroValue119
  t53 := Tryd.underlying111
  a53 := Tryd.isAgg111
  z53 := Tryd.sizeOf111
  v53 := Tryd.zeroValue111
  t171 := Tryd.underlying110
  a171 := Tryd.isAgg110
  z171 := Tryd.sizeOf110
  v171 := Tryd.zeroValue110
  t173 := Tryd.underlying114
  a173 := Tryd.isAgg114
  z173 := Tryd.sizeOf114
  v173 := Tryd.zeroValue114
  t212 := Tryd.underlying118
  a212 := Tryd.isAgg118
  z212 := Tryd.sizeOf118
  v212 := Tryd.zeroValue118
  t213 := Tryd.underlying120
  a213 := Tryd.isAgg120
  z213 := Tryd.sizeOf120
  t232 := Tryd.underlying125
  a232 := Tryd.isAgg125
  z232 := Tryd.sizeOf125
  v232 := Tryd.zeroValue125
  t233 := Tryd.underlying126
  a233 := Tryd.isAgg126
  z233 := Tryd.sizeOf126
  v233 := Tryd.zeroValue126
  g17 := by kernel_rfl
  g18 := by kernel_rfl
  g19 := by kernel_rfl
  i0 := by kernel_rfl
  i2 := by kernel_rfl
  i3 := by kernel_rfl
  i4 := by kernel_rfl
  i5 := by kernel_rfl
  i9 := by kernel_rfl
  i20 := by kernel_rfl
  i37 := by kernel_rfl
  i46 := by kernel_rfl
  i51 := by kernel_rfl
  i53 := by kernel_rfl
  i171 := by kernel_rfl
  i173 := by kernel_rfl
  i212 := by kernel_rfl
  i232 := by kernel_rfl
  i233 := by kernel_rfl
  m17 := by kernel_rfl
  m18 := by kernel_rfl
  m19 := by kernel_rfl }
open Go.RowKit Go.Sort Go.Lib in
/-- strconv.Itoa: "Itoa is equivalent to FormatInt(int64(i), 10).": i's DECIMAL NUMERAL ('Lib.itoa': a '-' where i is negative, then the digits), FOR EVERY int. The world behind the call: the world before it, new blocks behind the heap (the library's 'var a [24]byte'), draws. (LAID: no walk: one application.) -/
theorem Tryd.strconv_Itoa (n : Int) (h0 : -9223372036854775808 ≤ n) (h1 : n ≤ 9223372036854775807) (w : World) (htab : Lib.TabIs Tryd.prog w "internal/strconv.uint64pow10" .u64 Lib.pow10Tab) :
    Calls Tryd.prog 25 #[.int .i64 n] w fun e w' => e = .returned (.string ⟨(Lib.itoa n).toArray⟩) ∧ ∃ k os, w' = grow (w.drewN k) os := Any.strconv_Itoa Tryd.laysM171 n h0 h1 w htab
def Tryd.lays171_ren : Go.Shelf.Ren := ⟨fun | 171 => 25 | 243 => 46 | 246 => 58 | 283 => 62 | 284 => 63 | 285 => 64 | 286 => 65 | 129 => 68 | 317 => 67 | 318 => 69 | 319 => 70 | 320 => 71 | 337 => 72 | 338 => 73 | n => n, fun | 3 => 3 | 9 => 9 | 2 => 2 | 4 => 4 | 171 => 110 | 0 => 0 | 53 => 111 | 37 => 25 | 5 => 5 | 173 => 114 | 212 => 118 | 51 => 119 | 20 => 20 | 213 => 120 | 46 => 122 | 232 => 125 | 233 => 126 | n => n, fun | 17 => 0 | 18 => 2 | 19 => 3 | n => n⟩
theorem Tryd.lays171 : Go.Proofs.Lays.n171 Tryd.prog Tryd.lays171_ren := {
  mixed := by kernel_rfl
  f129 := Tryd.func68.trans (congrArg some (by kernel_rfl))
  f171 := Tryd.func25.trans (congrArg some (by kernel_rfl))
  f243 := Tryd.func46.trans (congrArg some (by kernel_rfl))
  f246 := Tryd.func58.trans (congrArg some (by kernel_rfl))
  f283 := Tryd.func62.trans (congrArg some (by kernel_rfl))
  f284 := Tryd.func63.trans (congrArg some (by kernel_rfl))
  f285 := Tryd.func64.trans (congrArg some (by kernel_rfl))
  f286 := Tryd.func65.trans (congrArg some (by kernel_rfl))
  f317 := Tryd.func67.trans (congrArg some (by kernel_rfl))
  f318 := Tryd.func69.trans (congrArg some (by kernel_rfl))
  f319 := Tryd.func70.trans (congrArg some (by kernel_rfl))
  f320 := Tryd.func71.trans (congrArg some (by kernel_rfl))
  f337 := Tryd.func72.trans (congrArg some (by kernel_rfl))
  f338 := Tryd.func73.trans (congrArg some (by kernel_rfl))
  t0 := Tryd.underlying0
  a0 := Tryd.isAgg0
  z0 := Tryd.sizeOf0
  v0 := Tryd.zeroValue0
  t2 := Tryd.underlying2
  a2 := Tryd.isAgg2
  z2 := Tryd.sizeOf2
  v2 := Tryd.zeroValue2
  t3 := Tryd.underlying3
  a3 := Tryd.isAgg3
  z3 := Tryd.sizeOf3
  v3 := Tryd.zeroValue3
  t4 := Tryd.underlying4
  a4 := Tryd.isAgg4
  z4 := Tryd.sizeOf4
  v4 := Tryd.zeroValue4
  t5 := Tryd.underlying5
  a5 := Tryd.isAgg5
  z5 := Tryd.sizeOf5
  v5 := Tryd.zeroValue5
  t9 := Tryd.underlying9
  a9 := Tryd.isAgg9
  z9 := Tryd.sizeOf9
  v9 := Tryd.zeroValue9
  t20 := Tryd.underlying20
  a20 := Tryd.isAgg20
  z20 := Tryd.sizeOf20
  v20 := Tryd.zeroValue20
  t37 := Tryd.underlying25
  a37 := Tryd.isAgg25
  z37 := Tryd.sizeOf25
  v37 := Tryd.zeroValue25
  t46 := Tryd.underlying122
  a46 := Tryd.isAgg122
  z46 := Tryd.sizeOf122
  v46 := Tryd.zeroValue122
  t51 := Tryd.underlying119
  a51 := Tryd.isAgg119
  z51 := Tryd.sizeOf119
  v51 := Tryd.zeroValue119
  t53 := Tryd.underlying111
  a53 := Tryd.isAgg111
  z53 := Tryd.sizeOf111
  v53 := Tryd.zeroValue111
  t171 := Tryd.underlying110
  a171 := Tryd.isAgg110
  z171 := Tryd.sizeOf110
  v171 := Tryd.zeroValue110
  t173 := Tryd.underlying114
  a173 := Tryd.isAgg114
  z173 := Tryd.sizeOf114
  v173 := Tryd.zeroValue114
  t212 := Tryd.underlying118
  a212 := Tryd.isAgg118
  z212 := Tryd.sizeOf118
  v212 := Tryd.zeroValue118
  t213 := Tryd.underlying120
  a213 := Tryd.isAgg120
  z213 := Tryd.sizeOf120
  t232 := Tryd.underlying125
  a232 := Tryd.isAgg125
  z232 := Tryd.sizeOf125
  v232 := Tryd.zeroValue125
  t233 := Tryd.underlying126
  a233 := Tryd.isAgg126
  z233 := Tryd.sizeOf126
  v233 := Tryd.zeroValue126
  g17 := by kernel_rfl
  g18 := by kernel_rfl
  g19 := by kernel_rfl }
open Go.RowKit Go.Sort Go.Lib in
/-- THE ROAD WITHOUT THE TABLE: 0 <= i < 100: NO PREMISE ON THE WORLD, AND THE WORLD IS AS IT WAS: a row that keeps its argument in that range need list no table ('laid = []'). (LAID: no walk: one application.) -/
theorem Tryd.strconv_Itoa_small (i : Nat) (hi : i < 100) (w : World) :
    Calls Tryd.prog 25 #[.int .i64 i] w fun e w' => e = .returned (.string ⟨(Lib.decDigits i).toArray⟩) ∧ w' = w := Any.strconv_Itoa_small Tryd.lays171 i hi w
def Tryd.laysNm216_ren : Go.Shelf.Ren := ⟨fun | 16 => 52 | n => n, fun | 24 => 42 | 9 => 9 | 4 => 4 | n => n, fun | n => n⟩
theorem Tryd.laysNm216 : Go.Proofs.Lays2.n16 Tryd.prog Tryd.laysNm216_ren := {
  mixed := by kernel_rfl
  f16 := Tryd.func52.trans (congrArg some (by kernel_rfl))
  t4 := Tryd.underlying4
  a4 := Tryd.isAgg4
  z4 := Tryd.sizeOf4
  v4 := Tryd.zeroValue4
  t9 := Tryd.underlying9
  a9 := Tryd.isAgg9
  z9 := Tryd.sizeOf9
  v9 := Tryd.zeroValue9
  t24 := Tryd.underlying42
  a24 := Tryd.isAgg42
  z24 := Tryd.sizeOf42
  v24 := Tryd.zeroValue42
  i9 := by kernel_rfl }
open Go.RowKit Go.Lib in
/-- slices.Clone at []string: "Clone returns a copy of the slice. The elements are copied using assignment, so this is a shallow clone. The result may have additional unused capacity. The result preserves the nilness of s.": OF A SLICE THAT IS NOT nil IT RETURNS A SLICE THAT IS NOT nil, OF THE SAME ELEMENTS, IN MEMORY OF THE CALL's OWN: in the how-to's words (6f): 'w'.ownsRow B e 1 v' n cells': v' begins at the head of a row among the blocks from B on (B: the heap's size at the call), not frozen, whose first cells are the elements · 'Below B w w'': below B all is as it was. The capacity is whatever the run-time gives. 'zs': what the cells behind the slice's address hold; 'zs.take n': its elements. (LAID: no walk: one application.) -/
theorem Tryd.slices_Clone_string (b off n c : Nat) (zs : List ByteArray) (w : World) (hz : n ≤ zs.length) (hbig : n * 16 ≤ 140737488355328) (hc : ∀ j, j < zs.length → w.cell? ⟨b, off + j, none⟩ = some (.string (zs.getD j ByteArray.empty))) :
    Calls Tryd.prog 52 #[.slice (some ⟨b, off, none⟩) n c] w fun e w' => ∃ v', e = .returned v' ∧ w'.ownsRow w.heap.size 9 1 v' n ((zs.take n).map (Value.string)) ∧ v' ≠ .slice none 0 0 ∧ Below w.heap.size w w' := Any.slices_Clone_string Tryd.laysNm216 b off n c zs w hz hbig hc
open Go.RowKit Go.Lib in
/-- The same at nil: nil comes back; the world is as it was. (LAID: no walk: one application.) -/
theorem Tryd.slices_Clone_string_nil (n c : Nat) (w : World) :
    Calls Tryd.prog 52 #[.slice none n c] w fun e w' => e = .returned (.slice none 0 0) ∧ w' = w := Any.slices_Clone_string_nil Tryd.laysNm216 n c w
open Go.RowKit Go.Lib in
/-- The same at a slice of length 0 that is not nil, WHATEVER ITS ADDRESS (no cell is asked for): a slice that is not nil and owns nothing comes back. (LAID: no walk: one application.) -/
theorem Tryd.slices_Clone_string_zero (a : Addr) (c : Nat) (w : World) :
    Calls Tryd.prog 52 #[.slice (some a) 0 c] w fun e w' => ∃ v', e = .returned v' ∧ w'.ownsRow w.heap.size 9 1 v' 0 [] ∧ v' ≠ .slice none 0 0 ∧ Below w.heap.size w w' := Any.slices_Clone_string_zero Tryd.laysNm216 a c w
def Tryd.laysSlE041_f52_ren : Go.Shelf.Ren := ⟨fun | 41 => 52 | n => n, fun | 22 => 42 | 23 => 9 | 4 => 4 | n => n, fun | n => n⟩
theorem Tryd.laysSlE041_f52 : Go.Proofs.SlLaysE0.n41 Tryd.prog Tryd.laysSlE041_f52_ren := {
  mixed := by kernel_rfl
  f41 := ⟨Tryd.f52.name, by decide, Tryd.func52.trans (congrArg some (by kernel_rfl))⟩
  t4 := Tryd.underlying4
  a4 := Tryd.isAgg4
  z4 := Tryd.sizeOf4
  v4 := Tryd.zeroValue4
  t22 := Tryd.underlying42
  a22 := Tryd.isAgg42
  z22 := Tryd.sizeOf42
  v22 := Tryd.zeroValue42 }
open Go.RowKit Go.Lib in
/-- slices.Clone: "Clone returns a copy of the slice. The elements are copied using assignment, so this is a shallow clone. The result may have additional unused capacity. The result preserves the nilness of s.": OF A SLICE THAT IS NOT nil IT RETURNS A SLICE THAT IS NOT nil, OF THE SAME CELLS, IN MEMORY OF THE CALL's OWN ('ownsRow': the how-to's 6f); below the heap's size at the call all is as it was. (LAID AT THE INSTANCE 'slices.Clone[[]string,string]': no walk: one application.) -/
theorem Tryd.slices_Clone (i0 : TypeInfo) (z : Value) (size bytes : Nat) (hi : Tryd.prog.info? 9 = some i0) (hz0 : i0.zero = some z) (hz1 : i0.size = size) (hz2 : i0.bytes = bytes) (hzs : z.cells.size = size) (hsz : 0 < size) (z23 : ∀ w, (Go.sizeOf 9).run Tryd.prog w = .ok size w) (b off n c : Nat) (news : List Value) (w : World) (hl : news.length = n * size) (hn : n ≤ maxLen) (hbig : n * bytes ≤ 140737488355328) (hc : ∀ j u, news[j]? = some u → w.cell? ⟨b, off + j, none⟩ = some u) (h1 : ∀ u ∈ news, u.oneCell' = true) :
    Calls Tryd.prog 52 #[.slice (some ⟨b, off, none⟩) n c] w fun e w' => ∃ v', e = .returned v' ∧ w'.ownsRow w.heap.size 9 size v' n news ∧ v' ≠ .slice none 0 0 ∧ Below w.heap.size w w' := AnyE.slices_Clone Tryd.laysSlE041_f52 i0 z size bytes hi hz0 hz1 hz2 hzs hsz z23 b off n c news w hl hn hbig hc h1
open Go.RowKit Go.Lib in
/-- The same at nil: nil comes back; the world is as it was; nothing is asked of the element's type. (LAID AT THE INSTANCE 'slices.Clone[[]string,string]': no walk: one application.) -/
theorem Tryd.slices_Clone_nil (n c : Nat) (w : World) :
    Calls Tryd.prog 52 #[.slice none n c] w fun e w' => e = .returned (.slice none 0 0) ∧ w' = w := AnyE.slices_Clone_nil Tryd.laysSlE041_f52 n c w
def Tryd.hlays240_ren : Go.Shelf.Ren := ⟨fun | 240 => 45 | 276 => 57 | n => n, fun | 0 => 0 | 4 => 4 | 9 => 9 | 20 => 20 | 37 => 25 | 70 => 54 | 72 => 56 | 164 => 106 | n => n, fun | n => n⟩
theorem Tryd.hlays240 : Go.Proofs.Lays.n240 Tryd.prog Tryd.hlays240_ren := {
  mixed := by kernel_rfl
  f240 := Tryd.func45.trans (congrArg some (by kernel_rfl))
  f276 := Tryd.func57.trans (congrArg some (by kernel_rfl))
  t0 := Tryd.underlying0
  a0 := Tryd.isAgg0
  z0 := Tryd.sizeOf0
  v0 := Tryd.zeroValue0
  t4 := Tryd.underlying4
  a4 := Tryd.isAgg4
  z4 := Tryd.sizeOf4
  v4 := Tryd.zeroValue4
  t9 := Tryd.underlying9
  a9 := Tryd.isAgg9
  z9 := Tryd.sizeOf9
  v9 := Tryd.zeroValue9
  t20 := Tryd.underlying20
  a20 := Tryd.isAgg20
  z20 := Tryd.sizeOf20
  v20 := Tryd.zeroValue20
  t70 := Tryd.underlying54
  a70 := Tryd.isAgg54
  z70 := Tryd.sizeOf54
  v70 := Tryd.zeroValue54
  t72 := Tryd.underlying56
  a72 := Tryd.isAgg56
  z72 := Tryd.sizeOf56
  v72 := Tryd.zeroValue56
  t164 := Tryd.underlying106
  a164 := Tryd.isAgg106
  z164 := Tryd.sizeOf106
  v164 := Tryd.zeroValue106 }
theorem Tryd.hX240 : Builder.X72 Tryd.prog Tryd.hlays240_ren := { sizeBuilder := by kernel_rfl, liesBuilder := by kernel_rfl }
def Tryd.hlays167_ren : Go.Shelf.Ren := ⟨fun | 167 => 23 | 240 => 45 | 276 => 57 | n => n, fun | 0 => 0 | 4 => 4 | 5 => 5 | 9 => 9 | 20 => 20 | 37 => 25 | 70 => 54 | 72 => 56 | 75 => 58 | 80 => 60 | 164 => 106 | n => n, fun | n => n⟩
theorem Tryd.hlays167 : Go.Proofs.Lays.n167 Tryd.prog Tryd.hlays167_ren := {
  mixed := by kernel_rfl
  f167 := Tryd.func23.trans (congrArg some (by kernel_rfl))
  f240 := Tryd.func45.trans (congrArg some (by kernel_rfl))
  f276 := Tryd.func57.trans (congrArg some (by kernel_rfl))
  t0 := Tryd.underlying0
  a0 := Tryd.isAgg0
  z0 := Tryd.sizeOf0
  v0 := Tryd.zeroValue0
  t4 := Tryd.underlying4
  a4 := Tryd.isAgg4
  z4 := Tryd.sizeOf4
  v4 := Tryd.zeroValue4
  t5 := Tryd.underlying5
  a5 := Tryd.isAgg5
  z5 := Tryd.sizeOf5
  v5 := Tryd.zeroValue5
  t9 := Tryd.underlying9
  a9 := Tryd.isAgg9
  z9 := Tryd.sizeOf9
  v9 := Tryd.zeroValue9
  t20 := Tryd.underlying20
  a20 := Tryd.isAgg20
  z20 := Tryd.sizeOf20
  v20 := Tryd.zeroValue20
  t37 := Tryd.underlying25
  a37 := Tryd.isAgg25
  z37 := Tryd.sizeOf25
  v37 := Tryd.zeroValue25
  t70 := Tryd.underlying54
  a70 := Tryd.isAgg54
  z70 := Tryd.sizeOf54
  v70 := Tryd.zeroValue54
  t72 := Tryd.underlying56
  a72 := Tryd.isAgg56
  z72 := Tryd.sizeOf56
  v72 := Tryd.zeroValue56
  t75 := Tryd.underlying58
  a75 := Tryd.isAgg58
  z75 := Tryd.sizeOf58
  v75 := Tryd.zeroValue58
  t164 := Tryd.underlying106
  a164 := Tryd.isAgg106
  z164 := Tryd.sizeOf106
  v164 := Tryd.zeroValue106 }
theorem Tryd.hExtra167 : Builder.Extra Tryd.prog Tryd.hlays167_ren := {
  sizeBuilder := by kernel_rfl
  liesBuilder := by kernel_rfl
  t5 := Tryd.underlying5
  a5 := Tryd.isAgg5
  z5 := Tryd.sizeOf5
  v5 := Tryd.zeroValue5
  infoByte := by kernel_rfl
  cellsByte := by kernel_rfl
  sizeByte := by kernel_rfl
  neB5 := by decide }
def Tryd.hlays166_ren : Go.Shelf.Ren := ⟨fun | 166 => 37 | 240 => 45 | 276 => 57 | n => n, fun | 0 => 0 | 3 => 3 | 4 => 4 | 5 => 5 | 9 => 9 | 20 => 20 | 37 => 25 | 70 => 54 | 72 => 56 | 75 => 58 | 80 => 60 | 164 => 106 | n => n, fun | n => n⟩
theorem Tryd.hlays166 : Go.Proofs.Lays.n166 Tryd.prog Tryd.hlays166_ren := {
  mixed := by kernel_rfl
  f166 := Tryd.func37.trans (congrArg some (by kernel_rfl))
  f240 := Tryd.func45.trans (congrArg some (by kernel_rfl))
  f276 := Tryd.func57.trans (congrArg some (by kernel_rfl))
  t0 := Tryd.underlying0
  a0 := Tryd.isAgg0
  z0 := Tryd.sizeOf0
  v0 := Tryd.zeroValue0
  t3 := Tryd.underlying3
  a3 := Tryd.isAgg3
  z3 := Tryd.sizeOf3
  v3 := Tryd.zeroValue3
  t4 := Tryd.underlying4
  a4 := Tryd.isAgg4
  z4 := Tryd.sizeOf4
  v4 := Tryd.zeroValue4
  t9 := Tryd.underlying9
  a9 := Tryd.isAgg9
  z9 := Tryd.sizeOf9
  v9 := Tryd.zeroValue9
  t20 := Tryd.underlying20
  a20 := Tryd.isAgg20
  z20 := Tryd.sizeOf20
  v20 := Tryd.zeroValue20
  t37 := Tryd.underlying25
  a37 := Tryd.isAgg25
  z37 := Tryd.sizeOf25
  v37 := Tryd.zeroValue25
  t70 := Tryd.underlying54
  a70 := Tryd.isAgg54
  z70 := Tryd.sizeOf54
  v70 := Tryd.zeroValue54
  t72 := Tryd.underlying56
  a72 := Tryd.isAgg56
  z72 := Tryd.sizeOf56
  v72 := Tryd.zeroValue56
  t75 := Tryd.underlying58
  a75 := Tryd.isAgg58
  z75 := Tryd.sizeOf58
  v75 := Tryd.zeroValue58
  t164 := Tryd.underlying106
  a164 := Tryd.isAgg106
  z164 := Tryd.sizeOf106
  v164 := Tryd.zeroValue106 }
theorem Tryd.hExtra166 : Builder.Extra Tryd.prog Tryd.hlays166_ren := {
  sizeBuilder := by kernel_rfl
  liesBuilder := by kernel_rfl
  t5 := Tryd.underlying5
  a5 := Tryd.isAgg5
  z5 := Tryd.sizeOf5
  v5 := Tryd.zeroValue5
  infoByte := by kernel_rfl
  cellsByte := by kernel_rfl
  sizeByte := by kernel_rfl
  neB5 := by decide }
theorem Tryd.hWriteByte (B b : Nat) (bs : List Value) (c : Int) (w : World) (h : Lib.IsBuilder 56 5 B b bs w) (hlen : bs.length + 1 ≤ 140737488355328) (hBw : B ≤ w.heap.size) :
    Calls Tryd.prog 23 #[.pointer (some ⟨b, 0, none⟩), .int .u8 c] w fun e w' => e = .returned .nilIface ∧ Lib.BuilderAt 56 5 B b (.pointer (some ⟨b, 0, none⟩)) (bs ++ [.int .u8 c]) w' ∧ Go.RowKit.Below B w w' := Any.Builder_WriteByte Tryd.hlays167 Tryd.hExtra167 B b bs c w h hlen hBw
theorem Tryd.hWriteString (B b : Nat) (bs : List Value) (s : ByteArray) (w : World) (h : Lib.IsBuilder 56 5 B b bs w) (hlen : bs.length + s.size ≤ 140737488355328) (hBw : B ≤ w.heap.size) :
    Calls Tryd.prog 37 #[.pointer (some ⟨b, 0, none⟩), .string s] w fun e w' => e = .returned (.tuple #[.int .i64 s.size, .nilIface]) ∧ Lib.BuilderAt 56 5 B b (.pointer (some ⟨b, 0, none⟩)) (bs ++ Lib.strCells s) w' ∧ Go.RowKit.Below B w w' := Any.Builder_WriteString Tryd.hlays166 Tryd.hExtra166 B b bs s w h hlen hBw
theorem Tryd.hWriteByteK (B b : Nat) (bs : List Value) (c : Int) (w : World) (h : Lib.IsBuilderF 56 5 B b bs w) (hlen : bs.length + 1 ≤ 140737488355328) (hBw : B ≤ w.heap.size) :
    Calls Tryd.prog 23 #[.pointer (some ⟨b, 0, none⟩), .int .u8 c] w fun e w' => e = .returned .nilIface ∧ (Lib.BuilderAtF 56 5 B b (.pointer (some ⟨b, 0, none⟩)) (bs ++ [.int .u8 c]) w' ∧ Go.RowKit.Below B w w' ∧ Lib.OthersKept 5 (some b) w w') := Any.Builder_WriteByte_k Tryd.hlays167 Tryd.hExtra167 B b bs c w h hlen hBw
theorem Tryd.hWriteStringK (B b : Nat) (bs : List Value) (s : ByteArray) (w : World) (h : Lib.IsBuilderF 56 5 B b bs w) (hlen : bs.length + s.size ≤ 140737488355328) (hBw : B ≤ w.heap.size) :
    Calls Tryd.prog 37 #[.pointer (some ⟨b, 0, none⟩), .string s] w fun e w' => e = .returned (.tuple #[.int .i64 s.size, .nilIface]) ∧ (Lib.BuilderAtF 56 5 B b (.pointer (some ⟨b, 0, none⟩)) (bs ++ Lib.strCells s) w' ∧ Go.RowKit.Below B w w' ∧ Lib.OthersKept 5 (some b) w w') := Any.Builder_WriteString_k Tryd.hlays166 Tryd.hExtra166 B b bs s w h hlen hBw
theorem Tryd.hStringK (B b : Nat) (l : List UInt8) (w : World) (h : Lib.IsBuilderF 56 5 B b (Lib.byteCells l) w) (hBw : B ≤ w.heap.size) :
    Calls Tryd.prog 24 #[.pointer (some ⟨b, 0, none⟩)] w fun e w' => e = .returned (.string ⟨l.toArray⟩) ∧ Lib.IsBuilderF 56 5 B b (Lib.byteCells l) w' ∧ Go.RowKit.Below B w w' ∧ Lib.OthersKept 5 (some b) w w' := Any.Builder_String_any_k Tryd.lays169 Tryd.Builder_Extra_169 B b l w h hBw
end Go.Proofs

/- Shades: a field's signs. -/
set_option linter.unusedVariables false
set_option linter.unusedSimpArgs false
namespace Go.Proofs.YtaccppchhljnkaaDoor
open Go.RowKit Go.Shelf Go.Proofs.YtaccppchhljnkaaDoorW.PrintWords Go.Proofs.YtaccppchhljnkaaDoorW.PrintLast Go.Proofs.YtaccppchhljnkaaDoorW.PrintMore
/-- The signs, from light to dark. -/
def sgN (d : Nat) : UInt8 := ([32, 46, 58, 45, 61, 43, 42, 35, 37, 64] : List UInt8).getD d 0
def sg (x : Int) : UInt8 := sgN (x * 10 / 256).toNat
theorem ix_sg (d : Nat) (hd : d < 10) (w : World) : (Instr.index 9 (.string ⟨#[32, 46, 58, 45, 61, 43, 42, 35, 37, 64]⟩) (.int .i64 (d : Int))).run Tryd.prog w = .ok (.int .u8 ((sgN d).toNat : Int)) w := by
  have h : d = 0 ∨ d = 1 ∨ d = 2 ∨ d = 3 ∨ d = 4 ∨ d = 5 ∨ d = 6 ∨ d = 7 ∨ d = 8 ∨ d = 9 := by omega
  rcases h with rfl | rfl | rfl | rfl | rfl | rfl | rfl | rfl | rfl | rfl
  all_goals (revert w; intro w; show Sem.run Tryd.prog _ w = _; kernel_rfl)
def rowL (W : Nat) (t : List Int) (k i : Nat) : List UInt8 := (List.range i).filterMap fun j => (t[k * W + j]?).map sg
def shU (W : Nat) (t : List Int) : Nat → List UInt8
  | 0 => []
  | m + 1 => rowL W t m W ++ [10] ++ shU W t m
theorem rowL_in (W : Nat) (t : List Int) (k i : Nat) (x : Int) (h : t[k * W + i]? = some x) : rowL W t k (i + 1) = rowL W t k i ++ [sg x] := by
  unfold rowL
  rw [List.range_succ, List.filterMap_append]
  simp [h]
theorem rowL_out (W : Nat) (t : List Int) (k i : Nat) (h : t.length ≤ k * W + i) : rowL W t k (i + 1) = rowL W t k i := by
  unfold rowL
  rw [List.range_succ, List.filterMap_append]
  simp [List.getElem?_eq_none h]
theorem rowL_le (W : Nat) (t : List Int) (k i : Nat) : (rowL W t k i).length ≤ i := by
  unfold rowL
  exact Nat.le_trans (List.length_filterMap_le _ _) (by simp)
theorem shU_le (W : Nat) (t : List Int) : ∀ m, (shU W t m).length ≤ m * (W + 1)
  | 0 => by simp [shU]
  | m + 1 => by
    have h1 := rowL_le W t m W
    have h2 := shU_le W t m
    rw [Nat.add_mul, Nat.one_mul]
    simp only [shU, List.length_append, List.length_cons, List.length_nil]
    omega
theorem c8_at {W : World} {a : Option Addr} {n : Nat} {xs : List Int} (h : Kd.C (Kd.int .u8) W a n xs) (i : Nat) (x : Int) (hi : i < n) (hx : xs[i]? = some x) : ∃ ad, a = some ad ∧ W.cell? (ad.add i) = some (.int .u8 x) := by
  obtain ⟨ad', c, e, _, hK, hc0⟩ := Kd.C_get h 0 (i : Int) (by omega) (by omega)
  refine ⟨_, e, ?_⟩
  have hc : ∀ j u, c[j]? = some u → W.cell? (ad'.add (i * 1 + j)) = some u := hc0
  have hK' : (Kd.int .u8).K W x c := by
    have e2 : xs.getD ((i : Int)).toNat 0 = x := by rw [Int.toNat_natCast, List.getD_eq_getElem?_getD, hx]; rfl
    rw [e2] at hK
    exact hK
  have hc1 : c = [.int .u8 x] := hK'
  have := hc 0 (.int .u8 x) (by rw [hc1]; rfl)
  rw [Nat.mul_one, Nat.add_zero] at this
  exact this
set_option maxHeartbeats 4000000 in
set_option maxRecDepth 100000 in
theorem shades_c (W0 : World) (W H : Nat) (A : Option Addr) (n cap : Nat) (t : List Int) (hW : W ≤ 64) (hH : H ≤ 64) (hn : t.length = n) (hC : Kd.C (Kd.int .u8) W0 A n t) (h8 : ∀ x ∈ t, 0 ≤ x ∧ x ≤ 255) :
    Calls Tryd.prog 11 #[Ef W H (.slice A n cap)] W0 fun e w' => e = .returned (.string ⟨(shU W t H).toArray⟩) ∧ Below W0.heap.size W0 w' := by
  unfold Ef
  have bb := below_alloc (Below.refl _ W0) (.cells #[.int .i64 W, .int .i64 H, .slice A n cap] 27)
  have G1 := heap_alloc_new W0 (.cells #[.int .i64 W, .int .i64 H, .slice A n cap] 27)
  have C1 := Kd.C_below hC bb
  have HN := Lib.hid hn; have H8 := Lib.hid h8; have HB0 := Lib.hid bb
  clear hC hn h8 bb
  go_enter Tryd.func11, Tryd.ntmps11
  go_upto_region 1 with (fail)
  generalize W0.alloc (.cells #[.int .i64 W, .int .i64 H, .slice A n cap] 27) = w1 at *
  generalize hb1 : W0.heap.size = b1 at *
  have bb2 := below_alloc (Below.refl _ w1) (.cells #[.pointer none, .slice none 0 0] 56)
  have HF := Lib.fresh_isBuilder 56 5 w1
  have G2 := Lib.hid G1; have C2 := Lib.hid C1
  have p1 : (w1.alloc (.cells #[.pointer none, .slice none 0 0] 56)).cell? ⟨b1, 1, none⟩ = some (.int .i64 H) := (blk_cell (blk_below G1 bb2) 1).trans rfl
  have hwh : IntKind.i64.wrap ((H : Int) - 1) = (H : Int) - 1 := by rw [IntKind.wrap_i64]; omega
  go_upto_region 3 with (fail)
  clear hwh p1
  generalize w1.alloc (.cells #[.pointer none, .slice none 0 0] 56) = w2 at *
  generalize hb3 : w1.heap.size = b3 at *
  have HB2 := Lib.hid bb2; have HF2 := Lib.hid HF; have HE3 := Lib.hid hb3
  have HLE : Hid (b1 ≤ b3) := Lib.hid (by have := HB0.out.size; omega)
  have HE1 := Lib.hid hb1
  clear bb2 HF hb3 hb1 G1 C1
  go_loopw [4] (fun v wr => ∃ (m : Nat) (l : List UInt8), v = .int .i64 ((m : Int) - 1) ∧ m ≤ H ∧ Hid (l ++ shU W t m = shU W t H) ∧ Hid (Lib.IsBuilder 56 5 b3 b3 (Lib.byteCells l) wr) ∧ Hid (Below b3 w1 wr)) (fun v _ => (intOf v + 1).toNat)
  case atStart => exact ⟨H, [], rfl, Nat.le_refl _, Lib.hid rfl, HF2, HB2⟩
  case round =>
    obtain ⟨m, l, rfl, hm, HL, HI, HB⟩ := hrel
    clear HF2
    by_cases hm0 : m = 0
    · subst hm0
      have hneg : ¬ (0 : Int) ≤ ((0 : Nat) : Int) - 1 := by omega
      have hl := HL.out
      rw [shU, List.append_nil] at hl
      go_wp2_with fail
      refine (Tryd.Builder_String_any b3 b3 l wr HI.out (by have := HB.out.size; rw [HE3.out] at this; exact this)).mono ?_
      rintro e w5 ⟨rfl, hb5⟩
      go_wp2_with fail
      go_ret
      rw [HE1.out]
      exact ⟨rfl, HB0.out.trans ((HB.out.trans hb5).mono HLE.out)⟩
    · obtain ⟨k, rfl⟩ : ∃ k, m = k + 1 := ⟨m - 1, by omega⟩
      have ek : ((k + 1 : Nat) : Int) - 1 = (k : Int) := by omega
      rw [ek]
      have G3 := Lib.hid (blk_below G2.out (HE3.out ▸ HB.out))
      have p0 : wr.cell? ⟨b1, 0, none⟩ = some (.int .i64 W) := (blk_cell G3.out 0).trans rfl
      have HLL : Hid (l.length ≤ 4160) := Lib.hid (by
        have h1 := congrArg List.length HL.out
        have h2 := shU_le W t H
        have h3 : H * (W + 1) ≤ 64 * 65 := Nat.mul_le_mul hH (by omega)
        rw [List.length_append] at h1
        omega)
      obtain ⟨P, hP⟩ : ∃ P, k * W = P := ⟨_, rfl⟩
      have hP4 : P ≤ 4096 := by rw [← hP]; exact Nat.le_trans (Nat.mul_le_mul (show k ≤ 64 by omega) hW) (by decide)
      have wp : IntKind.i64.wrap ((k : Int) * (W : Int)) = (P : Int) := by rw [← Int.natCast_mul, hP, IntKind.wrap_i64]; omega
      have wk : IntKind.i64.wrap ((k : Int) - 1) = (k : Int) - 1 := by rw [IntKind.wrap_i64]; omega
      have HP := Lib.hid hP
      clear ek hP
      go_upto_region 6 with (fail)
      go_loopw [16] (fun v wi => ∃ i : Nat, v = .int .i64 i ∧ i ≤ W ∧ Hid (Lib.IsBuilder 56 5 b3 b3 (Lib.byteCells (l ++ rowL W t k i)) wi) ∧ Hid (Below b3 w1 wi)) (fun v _ => W - (intOf v).toNat)
      case atStart => exact ⟨0, rfl, Nat.zero_le _, Lib.hid (by simpa [rowL] using HI.out), HB⟩
      case round =>
        obtain ⟨i, rfl, hi, HJ, HK⟩ := hrel
        clear p0
        have HSZ : Hid (b3 ≤ wr.heap.size) := Lib.hid (by have := HK.out.size; rw [HE3.out] at this; exact this)
        have HLN : Hid ((Lib.byteCells (l ++ rowL W t k i)).length + 1 ≤ 140737488355328) := Lib.hid (by
          rw [Lib.byteCells_length, List.length_append]
          have := rowL_le W t k i
          have := HLL.out
          omega)
        by_cases hiW : i < W
        · have hiW' : (i : Int) < (W : Int) := by omega
          have G4 := Lib.hid (blk_below G2.out (HE3.out ▸ HK.out))
          have p0 : wr.cell? ⟨b1, 0, none⟩ = some (.int .i64 W) := (blk_cell G4.out 0).trans rfl
          have p2 : wr.cell? ⟨b1, 2, none⟩ = some (.slice A n cap) := (blk_cell G4.out 2).trans rfl
          obtain ⟨Q, hQ⟩ : ∃ Q, P + i = Q := ⟨_, rfl⟩
          have wq : IntKind.i64.wrap ((P : Int) + (i : Int)) = (Q : Int) := by rw [IntKind.wrap_i64]; omega
          have HQ : Hid (k * W + i = Q) := Lib.hid (by rw [HP.out]; exact hQ)
          clear hQ
          by_cases hQn : Q < n
          · have hQn' : (Q : Int) < (n : Int) := by omega
            have hq1 : t[Q]? = some (t[Q]'(by rw [HN.out]; exact hQn)) := List.getElem?_eq_getElem _
            obtain ⟨x, hx⟩ : ∃ x, t[Q]'(by rw [HN.out]; exact hQn) = x := ⟨_, rfl⟩
            rw [hx] at hq1
            obtain ⟨ad, rfl, hcx⟩ := c8_at (Kd.C_below C2.out (HE3.out ▸ HK.out)) Q x hQn hq1
            have hxr := H8.out x (List.mem_of_getElem? hq1)
            obtain ⟨d, hd⟩ : ∃ d : Nat, (x * 10 / 256).toNat = d := ⟨_, rfl⟩
            have hdx : (d : Int) = x * 10 / 256 := by omega
            have hd10 : d < 10 := by omega
            have wx : IntKind.i64.wrap x = x := by rw [IntKind.wrap_i64]; omega
            have wx1 : IntKind.i64.wrap (x * 10) = x * 10 := by rw [IntKind.wrap_i64]; omega
            have wd : (x * 10).tdiv 256 = (d : Int) := by rw [Int.tdiv_eq_ediv_of_nonneg (by omega), hdx]
            have wd2 : IntKind.i64.wrap (d : Int) = (d : Int) := by rw [IntKind.wrap_i64]; omega
            have hix := ix_sg d hd10
            have HX : Hid (rowL W t k (i + 1) = rowL W t k i ++ [sgN d]) := Lib.hid (by
              rw [rowL_in W t k i x (by rw [HQ.out]; exact hq1), sg, hd])
            clear hq1 hx hd hdx hd10 hxr
            go_wp2_with fail
            refine (Tryd.hWriteByte b3 b3 _ _ wr HJ.out HLN.out HSZ.out).mono ?_
            rintro e w6 ⟨rfl, hB6, hb6⟩
            have HJ6 : Hid (Lib.IsBuilder 56 5 b3 b3 (Lib.byteCells (l ++ rowL W t k (i + 1))) w6) := Lib.hid (by
              rw [HX.out, ← List.append_assoc, Lib.byteCells_append]
              exact .inr hB6)
            have HK6 := Lib.hid (HK.out.trans hb6)
            clear hB6 hb6
            go_wp2_with fail
            go_roundw
            case rel => exact ⟨i + 1, by go_num, by omega, HJ6, HK6⟩
            case measure => simp [intOf]; omega
          · have hQn' : ¬ (Q : Int) < (n : Int) := by omega
            have HX : Hid (rowL W t k (i + 1) = rowL W t k i) := Lib.hid (rowL_out W t k i (by rw [HQ.out, HN.out]; omega))
            go_wp2_with fail
            go_roundw
            case rel => exact ⟨i + 1, by go_num, by omega, Lib.hid (by rw [HX.out]; exact HJ.out), HK⟩
            case measure => simp [intOf]; omega
        · have hiW' : ¬ (i : Int) < (W : Int) := by omega
          obtain rfl : i = W := by omega
          go_wp2_with fail
          refine (Tryd.hWriteByte b3 b3 _ _ wr HJ.out HLN.out HSZ.out).mono ?_
          rintro e w6 ⟨rfl, hB6, hb6⟩
          have HJ6 : Hid (Lib.IsBuilder 56 5 b3 b3 (Lib.byteCells (l ++ (rowL i t k i ++ [10]))) w6) := Lib.hid (by
            rw [← List.append_assoc, Lib.byteCells_append]
            exact .inr hB6)
          have HK6 := Lib.hid (HK.out.trans hb6)
          have HL6 : Hid (l ++ (rowL i t k i ++ [10]) ++ shU i t k = shU i t H) := Lib.hid (by
            rw [← HL.out, shU]; simp)
          clear hB6 hb6
          go_wp2_with fail
          go_roundw
          case rel => exact ⟨k, _, rfl, by omega, HL6, HJ6, HK6⟩
          case measure => simp [intOf]
end Go.Proofs.YtaccppchhljnkaaDoor

/- Numbers as texts. -/
set_option linter.unusedVariables false
set_option linter.unusedSimpArgs false
namespace Go.Proofs.YtaccppchhljnkaaDoor
open Go.RowKit Go.Shelf Go.Proofs.YtaccppchhljnkaaDoorW.PrintWords Go.Proofs.YtaccppchhljnkaaDoorW.PrintLast Go.Proofs.YtaccppchhljnkaaDoorW.PrintMore
/-- The library's table of powers of ten lies as it was laid. -/
def Tab (w : World) : Prop := Lib.TabIs Tryd.prog w "internal/strconv.uint64pow10" .u64 Lib.pow10Tab
theorem Tab.below {w w' : World} (h : Tab w) (hb : Below w.heap.size w w') : Tab w' := by
  unfold Tab Lib.TabIs at *
  unfold World.var? at *
  cases hg : Tryd.prog.globalNamed "internal/strconv.uint64pow10" with
  | none => rw [hg] at h; cases h
  | some g =>
    rw [hg] at h
    simp only [Option.bind_some] at h ⊢
    by_cases hl : g < w.heap.size
    · rw [hb.block g hl]; exact h
    · rw [Array.getElem?_eq_none (by omega)] at h
      cases h
theorem below_grow (w : World) (k : Nat) (os : Array Obj) : Below w.heap.size w (Go.Sort.grow (w.drewN k) os) := by
  have h1 := below_drewN (Below.refl w.heap.size w) k
  refine ⟨h1.os, h1.tape, h1.output, ?_, fun j hj => ?_⟩
  · show w.heap.size ≤ ((w.drewN k).heap ++ os).size
    rw [Array.size_append]
    have := h1.size
    omega
  · show ((w.drewN k).heap ++ os)[j]? = _
    rw [Array.getElem?_append_left (by have := h1.size; omega)]
    exact h1.block j hj
theorem itoa_c (w : World) (h : Tab w) (n : Int) (h0 : -9223372036854775808 ≤ n) (h1 : n ≤ 9223372036854775807) :
    Calls Tryd.prog 25 #[.int .i64 n] w fun e w' => e = .returned (.string ⟨(Lib.itoa n).toArray⟩) ∧ Below w.heap.size w w' := by
  refine (Tryd.strconv_Itoa n h0 h1 w h).mono ?_
  rintro e w' ⟨rfl, k, os, rfl⟩
  exact ⟨rfl, below_grow w k os⟩
theorem str_app (a b : List UInt8) : (⟨a.toArray⟩ : ByteArray) ++ (⟨b.toArray⟩ : ByteArray) = ⟨(a ++ b).toArray⟩ := by
  apply ByteArray.ext
  rw [ByteArray.data_append]
  simp
theorem dec_small (u : Nat) (h : u < 10) : Lib.decDigits u = [UInt8.ofNat (48 + u)] := by rw [Lib.decDigits, dif_pos h]
theorem dec_big (u : Nat) (h : ¬ u < 10) : Lib.decDigits u = Lib.decDigits (u / 10) ++ Lib.decDigits (u % 10) := by
  rw [Lib.decDigits, dif_neg h, dec_small (u % 10) (by omega)]
theorem dec_len : ∀ (u k : Nat), u < 10 ^ (k + 1) → (Lib.decDigits u).length ≤ k + 1 := by
  intro u k
  induction k generalizing u with
  | zero => intro h; rw [dec_small u (by simpa using h)]; simp
  | succ k ih =>
    intro h
    by_cases h1 : u < 10
    · rw [dec_small u h1]; simp
    · rw [Lib.decDigits, dif_neg h1]
      have := ih (u / 10) (by rw [Nat.pow_succ] at h; omega)
      simp; omega
theorem ex_dig (u : Nat) (h : u < 10) : (⟨#[48, 49, 50, 51, 52, 53, 54, 55, 56, 57]⟩ : ByteArray).extract u (u + 1) = ⟨(Lib.decDigits u).toArray⟩ := by
  rw [dec_small u h]
  have h9 : u = 0 ∨ u = 1 ∨ u = 2 ∨ u = 3 ∨ u = 4 ∨ u = 5 ∨ u = 6 ∨ u = 7 ∨ u = 8 ∨ u = 9 := by omega
  rcases h9 with rfl | rfl | rfl | rfl | rfl | rfl | rfl | rfl | rfl | rfl <;> decide
set_option maxHeartbeats 1000000 in
set_option maxRecDepth 100000 in
theorem digits_nat : ∀ (b u : Nat) (W : World), u < b → u ≤ 9223372036854775807 → Calls Tryd.prog 12 #[.int .i64 (u : Int)] W fun e w' => e = .returned (.string ⟨(Lib.decDigits u).toArray⟩) ∧ w' = W := by
  intro b
  induction b with
  | zero => intro u W h; omega
  | succ b ih =>
    intro u W hb hu
    have IH := Lib.hid ih
    clear ih
    by_cases h1 : u < 10
    · have h1' : (u : Int) < 10 := by omega
      have hx := ex_dig u h1
      have w1 : IntKind.i64.wrap ((u : Int) + 1) = ((u + 1 : Nat) : Int) := by rw [IntKind.wrap_i64]; omega
      have h2 : u + 1 ≤ 10 := by omega
      have h3 : u ≤ 10 := by omega
      go_enter Tryd.func12, Tryd.ntmps12
      go_wp2_with fail
      go_ret
      exact ⟨by rw [← hx]; rfl, rfl⟩
    · have h1' : ¬ (u : Int) < 10 := by omega
      obtain ⟨q, hq⟩ : ∃ q, u / 10 = q := ⟨_, rfl⟩
      obtain ⟨r, hr⟩ : ∃ r, u % 10 = r := ⟨_, rfl⟩
      have eq1 : (u : Int).tdiv 10 = (q : Int) := by rw [Int.tdiv_eq_ediv_of_nonneg (by omega)]; omega
      have er1 : (u : Int).tmod 10 = (r : Int) := by rw [Int.tmod_eq_emod_of_nonneg (by omega)]; omega
      have wq : IntKind.i64.wrap (q : Int) = (q : Int) := by rw [IntKind.wrap_i64]; omega
      have wr : IntKind.i64.wrap (r : Int) = (r : Int) := by rw [IntKind.wrap_i64]; omega
      have hd : (⟨(Lib.decDigits q).toArray⟩ : ByteArray) ++ ⟨(Lib.decDigits r).toArray⟩ = ⟨(Lib.decDigits u).toArray⟩ := by
        rw [str_app, ← hq, ← hr, ← dec_big u h1]
      have C1 := IH.out q W (by omega) (by omega)
      have C2 := IH.out r W (by omega) (by omega)
      have HQ := Lib.hid hd
      have hlen : ¬ 9223372036854775807 < (Lib.decDigits q).length + (Lib.decDigits r).length := by
        have l1 := dec_len q 18 (by omega)
        have l2 := dec_len r 18 (by omega)
        omega
      clear hq hr hd IH
      go_enter Tryd.func12, Tryd.ntmps12
      go_wp2_with fail
      refine C1.mono ?_
      rintro e w1 ⟨rfl, rfl⟩
      go_wp2_with fail
      refine C2.mono ?_
      rintro e w2 ⟨rfl, rfl⟩
      go_wp2_with fail
      go_ret
      exact ⟨by rw [← HQ.out]; rfl, rfl⟩
set_option maxHeartbeats 1000000 in
set_option maxRecDepth 100000 in
theorem digits_c (n : Int) (h0 : -9223372036854775808 ≤ n) (h1 : n ≤ 9223372036854775807) (W : World) : Calls Tryd.prog 12 #[.int .i64 n] W fun e w' => e = .returned (.string ⟨(Lib.itoa n).toArray⟩) ∧ w' = W := by
  by_cases hn : 0 ≤ n
  · obtain ⟨u, rfl⟩ := Int.eq_ofNat_of_zero_le hn
    have h := digits_nat (u + 1) u W (by omega) (by omega)
    unfold Lib.itoa
    rw [if_neg (by omega), Int.toNat_natCast]
    exact h
  · obtain ⟨a, ha⟩ : ∃ a : Nat, n = -(a : Int) := ⟨n.natAbs, by omega⟩
    have hab : n.natAbs = a := by omega
    have hit : Lib.itoa n = 45 :: Lib.decDigits a := by unfold Lib.itoa; rw [if_pos (by omega), hab]
    by_cases h9 : n < -9
    · obtain ⟨q, hq⟩ : ∃ q, a / 10 = q := ⟨_, rfl⟩
      obtain ⟨r, hr⟩ : ∃ r, a % 10 = r := ⟨_, rfl⟩
      have eq1 : n.tdiv 10 = -(q : Int) := by rw [ha, Int.neg_tdiv, Int.tdiv_eq_ediv_of_nonneg (by omega)]; omega
      have er1 : n.tmod 10 = -(r : Int) := by rw [ha, Int.neg_tmod, Int.tmod_eq_emod_of_nonneg (by omega)]; omega
      have wq : IntKind.i64.wrap (-(q : Int)) = -(q : Int) := by rw [IntKind.wrap_i64]; omega
      have wr : IntKind.i64.wrap (-(r : Int)) = -(r : Int) := by rw [IntKind.wrap_i64]; omega
      have wq2 : IntKind.i64.wrap (q : Int) = (q : Int) := by rw [IntKind.wrap_i64]; omega
      have wr2 : IntKind.i64.wrap (r : Int) = (r : Int) := by rw [IntKind.wrap_i64]; omega
      have hd : (⟨#[45]⟩ : ByteArray) ++ ⟨(Lib.decDigits q).toArray⟩ ++ ⟨(Lib.decDigits r).toArray⟩ = ⟨(Lib.itoa n).toArray⟩ := by
        have e := str_app [45] (Lib.decDigits q)
        rw [show (⟨#[45]⟩ : ByteArray) = ⟨([45] : List UInt8).toArray⟩ from rfl, e, str_app, hit, dec_big a (by omega), hq, hr]
        simp
      have C1 := digits_nat (q + 1) q W (by omega) (by omega)
      have C2 := digits_nat (r + 1) r W (by omega) (by omega)
      have HQ := Lib.hid hd
      have l1 := dec_len q 18 (by omega)
      have l2 := dec_len r 18 (by omega)
      have hlen0 : ¬ 9223372036854775807 < (Lib.decDigits q).length + (Lib.decDigits r).length := by omega
      have hlen1 : ¬ 9223372036854775807 < 1 + (Lib.decDigits q).length := by omega
      have hlen2 : ¬ 9223372036854775807 < 1 + (Lib.decDigits q).length + (Lib.decDigits r).length := by omega
      have hn0 : n < 0 := by omega
      clear hq hr hd hit hab ha l1 l2 hn
      go_enter Tryd.func12, Tryd.ntmps12
      go_wp2_with fail
      refine C1.mono ?_
      rintro e w1 ⟨rfl, rfl⟩
      go_wp2_with fail
      refine C2.mono ?_
      rintro e w2 ⟨rfl, rfl⟩
      go_wp2_with fail
      go_ret
      exact ⟨by rw [← HQ.out]; rfl, rfl⟩
    · have wn : IntKind.i64.wrap (-n) = (a : Int) := by rw [IntKind.wrap_i64]; omega
      have hd : (⟨#[45]⟩ : ByteArray) ++ ⟨(Lib.decDigits a).toArray⟩ = ⟨(Lib.itoa n).toArray⟩ := by
        rw [show (⟨#[45]⟩ : ByteArray) = ⟨([45] : List UInt8).toArray⟩ from rfl, str_app, hit]
        simp
      have C1 := digits_nat (a + 1) a W (by omega) (by omega)
      have HQ := Lib.hid hd
      have l1 := dec_len a 18 (by omega)
      have hlen1 : ¬ 9223372036854775807 < 1 + (Lib.decDigits a).length := by omega
      have hn0 : n < 0 := by omega
      clear hd hit hab ha l1 hn
      go_enter Tryd.func12, Tryd.ntmps12
      go_wp2_with fail
      refine C1.mono ?_
      rintro e w1 ⟨rfl, rfl⟩
      go_wp2_with fail
      go_ret
      exact ⟨by rw [← HQ.out]; rfl, rfl⟩
end Go.Proofs.YtaccppchhljnkaaDoor

/- Table: a field's numbers. -/
set_option linter.unusedVariables false
set_option linter.unusedSimpArgs false
namespace Go.Proofs.YtaccppchhljnkaaDoor
open Go.RowKit Go.Shelf Go.Proofs.YtaccppchhljnkaaDoorW.PrintWords Go.Proofs.YtaccppchhljnkaaDoorW.PrintLast Go.Proofs.YtaccppchhljnkaaDoorW.PrintMore
abbrev bs (l : List UInt8) : ByteArray := ⟨l.toArray⟩
theorem bs_list (l : List UInt8) : (bs l).data.toList = l := by simp [bs]
def tabL (m n : Int) (t : List Int) : List UInt8 := Lib.itoa m ++ [32] ++ Lib.itoa n ++ [10] ++ Lib.join (t.map Lib.itoa) [32] ++ [10]
theorem itoa_len (n : Int) (h0 : -9223372036854775808 ≤ n) (h1 : n ≤ 9223372036854775807) : (Lib.itoa n).length ≤ 20 := by
  unfold Lib.itoa
  split
  · have := dec_len n.natAbs 18 (by omega)
    simp; omega
  · have := dec_len n.toNat 18 (by omega)
    omega
theorem join_snoc (xs : List (List UInt8)) (y : List UInt8) : Lib.join (xs ++ [y]) [32] = if xs = [] then y else Lib.join xs [32] ++ [32] ++ y := by
  cases xs with
  | nil => simp [Lib.join_one]
  | cons x r =>
    rw [if_neg (by simp), List.cons_append, Lib.join_cons, Lib.join_cons]
    simp [Lib.joinTail]
theorem join_le : ∀ (xs : List (List UInt8)) (c : Nat), (∀ x ∈ xs, x.length ≤ c) → (Lib.join xs [32]).length ≤ xs.length * (c + 1) := by
  intro xs c h
  cases xs with
  | nil => simp [Lib.join_nil]
  | cons x r =>
    rw [Lib.join_cons, List.length_append]
    have h1 := h x (by simp)
    have h2 : ∀ (r : List (List UInt8)), (∀ x ∈ r, x.length ≤ c) → (Lib.joinTail [32] r).length ≤ r.length * (c + 1) := by
      intro r
      induction r with
      | nil => simp [Lib.joinTail]
      | cons y s ih =>
        intro hr
        have := ih (fun x hx => hr x (List.mem_cons_of_mem _ hx))
        have := hr y (by simp)
        simp only [Lib.joinTail, List.map_cons, List.flatten_cons, List.length_append, List.length_cons, List.length_nil, Nat.add_mul, Nat.one_mul] at *
        omega
    have := h2 r (fun x hx => h x (List.mem_cons_of_mem _ hx))
    rw [List.length_cons, Nat.add_mul, Nat.one_mul]
    omega
theorem join_c (W : World) (A : Option Addr) (N cap : Nat) (ws : List (List UInt8)) (hN : ws.length = N) (hN1 : N ≤ 10000) (hl : ∀ x ∈ ws, x.length ≤ 20) (h : SlO W 9 1 (.slice A N cap) N (ws.map fun x => Value.string (bs x))) :
    Calls Tryd.prog 26 #[.slice A N cap, .string ⟨#[32]⟩] W fun e w' => e = .returned (.string (bs (Lib.join ws [32]))) ∧ Below W.heap.size W w' := by
  rcases h.form with ⟨e, rfl, hx⟩ | ⟨g, cap', e, hc, -, -, hlt, hcell⟩
  · injection e with e1 e2 e3
    subst e1 e3
    have hw0 : ws = [] := by simpa using hx
    subst hw0
    refine (Tryd.strings_Join_none none 0 ⟨#[32]⟩ W).mono ?_
    rintro e w' ⟨rfl, rfl⟩
    exact ⟨rfl, Below.refl _ _⟩
  · injection e with e1 e2 e3
    subst e1 e3
    have hm : (ws.map bs).map (fun x => x.data.toList) = ws := by
      rw [List.map_map]
      conv => rhs; rw [← List.map_id ws]
      exact List.map_congr_left (fun x _ => bs_list x)
    have hlen : (ws.map bs).length = N := by simpa using hN
    have hj := Tryd.strings_Join g 0 cap (ws.map bs) ⟨#[32]⟩ W (fun j x hx => by
      rw [Nat.zero_add]
      refine hcell j (.string x) ?_
      rw [List.getElem?_map] at hx ⊢
      cases hw : ws[j]? with
      | none => rw [hw] at hx; cases hx
      | some y => rw [hw] at hx; injection hx with hx; rw [← hx]; rfl) hlt (by omega) (by omega) (by
        rw [hm]
        have := join_le ws 20 hl
        show (Lib.join ws [32]).length ≤ _
        omega)
    rw [hlen, hm] at hj
    exact hj
set_option maxHeartbeats 4000000 in
set_option maxRecDepth 100000 in
theorem table_c (W0 : World) (hT : Tab W0) (m k : Int) (hm : -9223372036854775808 ≤ m ∧ m ≤ 9223372036854775807) (hk : -9223372036854775808 ≤ k ∧ k ≤ 9223372036854775807) (A : Option Addr) (n cap : Nat) (t : List Int) (hn : t.length = n) (hn1 : n ≤ 5000) (hC : Kd.C (Kd.int .u8) W0 A n t) (h8 : ∀ x ∈ t, 0 ≤ x ∧ x ≤ 255) :
    Calls Tryd.prog 13 #[Ef m k (.slice A n cap)] W0 fun e w' => e = .returned (.string (bs (tabL m k t))) ∧ Below W0.heap.size W0 w' := by
  unfold Ef
  have bb := below_alloc (Below.refl _ W0) (.cells #[.int .i64 m, .int .i64 k, .slice A n cap] 27)
  have G1 := heap_alloc_new W0 (.cells #[.int .i64 m, .int .i64 k, .slice A n cap] 27)
  have C1 := Kd.C_below hC bb
  have T1 := Lib.hid (hT.below bb)
  have HN := Lib.hid hn; have H8 := Lib.hid h8; have HB0 := Lib.hid bb
  obtain ⟨i0, hi0, hz0, hz1, hz2⟩ := info_parts Tryd.info_strO
  clear hC hn h8 bb hT
  go_enter Tryd.func13, Tryd.ntmps13
  go_upto_region 1 with (fail)
  generalize W0.alloc (.cells #[.int .i64 m, .int .i64 k, .slice A n cap] 27) = w1 at *
  generalize hb1 : W0.heap.size = b1 at *
  have HE1 := Lib.hid hb1
  have HLE : Hid (b1 ≤ w1.heap.size) := Lib.hid (by have := HB0.out.size; omega)
  have G2 := Lib.hid G1; have C2 := Lib.hid C1
  have p2 : w1.cell? ⟨b1, 2, none⟩ = some (.slice A n cap) := (blk_cell G1 2).trans rfl
  clear hb1 G1 C1
  go_upto_region 3 with (fail)
  clear p2
  go_loopw [3, 9] (fun v3 v9 wr => ∃ (i : Nat), v9 = .int .i64 i ∧ i ≤ n ∧ Hid (SlO wr 9 1 v3 i ((t.take i).map fun x => Value.string (bs (Lib.itoa x)))) ∧ Hid (Below w1.heap.size w1 wr) ∧ Hid (∀ q, v3.ownBlock = some q → w1.heap.size ≤ q)) (fun _ v9 _ => n - (intOf v9).toNat)
  case atStart => exact ⟨0, rfl, Nat.zero_le _, Lib.hid (by rw [List.take_zero]; exact SlO.nil _ _ _), Lib.hid (Below.refl _ _), Lib.hid (fun q hq => by simp [Value.ownBlock] at hq)⟩
  case round =>
    obtain ⟨i, rfl, hi, HSL, HB, HO⟩ := hrel
    by_cases hik : i < n
    · have hik' : (i : Int) < (n : Int) := by omega
      obtain ⟨x, hx⟩ : ∃ x, t[i]? = some x := ⟨t[i]'(by rw [HN.out]; exact hik), List.getElem?_eq_getElem _⟩
      obtain ⟨ad, rfl, hcx⟩ := c8_at (Kd.C_below C2.out HB.out) i x hik hx
      have hxr := H8.out x (List.mem_of_getElem? hx)
      have wx : IntKind.i64.wrap x = x := by rw [IntKind.wrap_i64]; omega
      have htk : t.take (i + 1) = t.take i ++ [x] := by rw [List.take_add_one, hx]; rfl
      have HTK := Lib.hid htk
      have HIT := Lib.hid (fun w (h : Tab w) => itoa_c w h x (by omega) (by omega))
      obtain ⟨A4, cap4, rfl, hc4⟩ := HSL.out.isSlice
      clear hx htk hxr
      go_wp2_with fail
      refine (HIT.out wr (T1.out.below HB.out)).mono ?_
      rintro e w4 ⟨rfl, hb4⟩
      have HS4 := Lib.hid (HSL.out.kept (Kept.of_below (fun _ => False) hb4) (fun _ _ h => h))
      have HB4 := Lib.hid (HB.out.trans (hb4.mono HB.out.size))
      clear hb4 HSL HB
      have hbz : (⟨(Lib.itoa x).toArray⟩ : ByteArray) = bs (Lib.itoa x) := rfl
      rw [hbz]
      clear hbz
      go_wp2_with (at_builtin; go_must (refine wpList_append_sl _ rfl (.tmp 13) (.tmp 17) 42 rfl 9 i0 (.string ByteArray.empty) 1 16 Tryd.underlying42 hi0 hz0 hz1 hz2 rfl (by decide) _ i _ rfl (HS4.out.kept (Kept.alloc (fun _ => False) _ _) (by simp)) ⟨w4.heap.size, 0, none⟩ 1 1 [.string (bs (Lib.itoa x))] rfl rfl ?c1 ?c2 ?c3 ?c4 ?_))
      case c1 =>
        intro j' u hj'
        match j', hj' with
        | 0, hj' => simp at hj'; subst hj'; simp [Addr.add]
      case c2 => intro u hu; simp at hu; subst hu; rfl
      case c3 => unfold maxLen; omega
      case c4 => omega
      · intro A' cap' w5 hs5 hg5 ho5 _
        have hk5 : Kept (fun q => (Value.slice A4 i cap4).ownBlock = some q) w4 w5 := (Kept.alloc _ w4 _).trans (Kept.of_grownBy hg5)
        have HB5 : Hid (Below w1.heap.size w1 w5) := Lib.hid (HB4.out.trans (hk5.below HB4.out.size (fun q hq => HO.out q hq)))
        have HO5 : Hid (∀ q, (Value.slice A' (i + 1) cap').ownBlock = some q → w1.heap.size ≤ q) := Lib.hid (fun q hq => by
          rcases ho5 with h | h
          · exact HO.out q (h ▸ hq)
          · rw [h] at hq; injection hq with hq; have := HB4.out.size; omega)
        have HS5 : Hid (SlO w5 9 1 (.slice A' (i + 1) cap') (i + 1) ((t.take (i + 1)).map fun x => Value.string (bs (Lib.itoa x)))) := Lib.hid (by
          rw [HTK.out, List.map_append, List.map_take]; exact hs5)
        clear hs5 hg5 ho5 hk5 HO HS4
        go_wp2_with fail
        go_roundw
        case rel => exact ⟨i + 1, by go_num, by omega, HS5, HB5, HO5⟩
        case measure => simp [intOf]; omega
    · have hik' : ¬ (i : Int) < (n : Int) := by omega
      obtain rfl : i = n := by omega
      have hs6 := HSL.out
      rw [List.take_of_length_le (by rw [HN.out]; omega)] at hs6
      obtain ⟨A4, cap4, rfl, hc4⟩ := hs6.isSlice
      have S6 : Hid (SlO wr.drew 9 1 (.slice A4 i cap4) i ((t.map Lib.itoa).map fun x => Value.string (bs x))) := Lib.hid (by
        rw [List.map_map]
        exact hs6.kept (Kept.drew (fun _ => False) _) (fun _ _ h => h))
      have BD := Lib.hid (below_drew HB.out)
      have HCL : Hid (∀ w', Below w1.heap.size w1 w' → w'.cell? ⟨b1, 0, none⟩ = some (.int .i64 m) ∧ w'.cell? ⟨b1, 1, none⟩ = some (.int .i64 k)) := Lib.hid (fun w' hb => by
        have := blk_below G2.out hb
        exact ⟨(blk_cell this 0).trans rfl, (blk_cell this 1).trans rfl⟩)
      have TD := Lib.hid (T1.out.below BD.out)
      obtain ⟨J, hJ⟩ : ∃ J, Lib.join (t.map Lib.itoa) [32] = J := ⟨_, rfl⟩
      have hl20 : ∀ x ∈ t.map Lib.itoa, x.length ≤ 20 := fun x hx => by
        obtain ⟨y, hy, rfl⟩ := List.mem_map.1 hx
        have := H8.out y hy
        exact itoa_len y (by omega) (by omega)
      have hJl : J.length ≤ 5000 * 21 := by
        have h1 := join_le (t.map Lib.itoa) 20 hl20
        rw [hJ, List.length_map, HN.out] at h1
        exact Nat.le_trans h1 (Nat.mul_le_mul hn1 (Nat.le_refl _))
      have HJC := Lib.hid (fun W h => join_c W A4 i cap4 (t.map Lib.itoa) (by rw [List.length_map]; exact HN.out) (by omega) hl20 h)
      rw [hJ] at HJC
      have hstr : (((((⟨(Lib.itoa m).toArray⟩ : ByteArray) ++ ⟨#[32]⟩) ++ ⟨(Lib.itoa k).toArray⟩) ++ ⟨#[10]⟩) ++ ⟨J.toArray⟩) ++ ⟨#[10]⟩ = ⟨(tabL m k t).toArray⟩ := by
        rw [show (⟨#[32]⟩ : ByteArray) = ⟨([32] : List UInt8).toArray⟩ from rfl, show (⟨#[10]⟩ : ByteArray) = ⟨([10] : List UInt8).toArray⟩ from rfl, str_app, str_app, str_app, str_app, str_app]
        unfold tabL
        rw [hJ]
      have HSTR := Lib.hid hstr
      have la := itoa_len m hm.1 hm.2
      have lb := itoa_len k hk.1 hk.2
      have q1 : ¬ 9223372036854775807 < (Lib.itoa m).length + 1 := by omega
      have q2 : ¬ 9223372036854775807 < (Lib.itoa m).length + 1 + (Lib.itoa k).length := by omega
      have q3 : ¬ 9223372036854775807 < (Lib.itoa m).length + 1 + (Lib.itoa k).length + 1 := by omega
      have q4 : ¬ 9223372036854775807 < (Lib.itoa m).length + 1 + (Lib.itoa k).length + 1 + J.length := by omega
      have q5 : ¬ 9223372036854775807 < (Lib.itoa m).length + 1 + (Lib.itoa k).length + 1 + J.length + 1 := by omega
      obtain ⟨z0, z1⟩ := HCL.out wr.drew BD.out
      clear hs6 hJ hl20 hJl hstr la lb HSL
      go_upto_region 7 with (fail)
      go_region_held3 (fun w' => w'.cell? ⟨b1, 0, none⟩ = some (.int .i64 m) ∧ w'.cell? ⟨b1, 1, none⟩ = some (.int .i64 k)) (first
        | assumption
        | exact ⟨z0, z1⟩
        | exact HC6
        | exact HC5
        | exact HC4) (first
        | (go_at_call_of 25 m; refine (itoa_c wr.drew TD.out m hm.1 hm.2).mono ?_; rintro e w4 ⟨rfl, hb4⟩; have T4 := Lib.hid (TD.out.below hb4); have B4 := Lib.hid (BD.out.trans (hb4.mono BD.out.size)); have S4 := Lib.hid (S6.out.kept (Kept.of_below (fun _ => False) hb4) (fun _ _ h => h)); have HC4 := HCL.out w4 B4.out; clear hb4)
        | (go_at_call_of 25 k; refine (itoa_c w4 T4.out k hk.1 hk.2).mono ?_; rintro e w5 ⟨rfl, hb5⟩; have B5 := Lib.hid (B4.out.trans (hb5.mono B4.out.size)); have S5 := Lib.hid (S4.out.kept (Kept.of_below (fun _ => False) hb5) (fun _ _ h => h)); have HC5 := HCL.out w5 B5.out; clear hb5)
        | (go_at_call 26; refine (HJC.out w5 S5.out).mono ?_; rintro e w6 ⟨rfl, hb6⟩; have B6 := Lib.hid (B5.out.trans (hb6.mono B5.out.size)); have HC6 := HCL.out w6 B6.out; clear hb6))
      all_goals
        go_wp2_with fail
        go_ret
        rw [HE1.out]
        exact ⟨congrArg (fun x => Ending.returned (Value.string x)) HSTR.out, HB0.out.trans (B6.out.mono HLE.out)⟩
end Go.Proofs.YtaccppchhljnkaaDoor

/- Keys: an atlas's keys, and where their fields are. -/
set_option linter.unusedVariables false
set_option linter.unusedSimpArgs false
namespace Go.Proofs.YtaccppchhljnkaaDoor
open Go.RowKit Go.Shelf Go.Proofs.YtaccppchhljnkaaDoorW.PrintWords Go.Proofs.YtaccppchhljnkaaDoorW.PrintLast Go.Proofs.YtaccppchhljnkaaDoorW.PrintMore
theorem bf_below {w w' : World} {T e : TypeId} {B b : Nat} {bs : List Value} (h : Lib.IsBuilderF T e B b bs w) (hb : Below w.heap.size w w') : Lib.IsBuilderF T e B b bs w' := by
  have one : ∀ p, Lib.BuilderAtF T e B b p bs w → Lib.BuilderAtF T e B b p bs w' := fun p ⟨h1, v, h2, h3, h4⟩ =>
    ⟨h1, v, blk_below h2 hb, h3.kept (grown_of_below hb none) (by cases v.ownBlock with | none => exact .inl rfl | some x => exact .inr (by simp)), h4⟩
  exact h.elim (fun h => .inl (one _ h)) (fun h => .inr (one _ h))
/-- A row of strings, while a builder writes. -/
theorem slO_ok {w w' : World} {b : Nat} {A : Option Addr} {n cap : Nat} {xs : List Value} (h : SlO w 9 1 (.slice A n cap) n xs) (hk : Lib.OthersKept 5 (some b) w w') (hb : ∀ q, (Value.slice A n cap).ownBlock = some q → q ≠ b) : SlO w' 9 1 (.slice A n cap) n xs := by
  refine ⟨h.1, h.2.imp id fun ⟨g, c, cur, e, hg, h1, h2, h3, h4⟩ => ⟨g, c, cur, e, hk g _ hg (fun e2 => hb g (by rw [e]; rfl) (by injection e2)) (fun c' fz e2 => by injection e2 with _ e3; exact absurd e3 (by decide)), h1, h2, h3, h4⟩⟩
def numsR (r : Rc) : List Int := [r.1, r.2.1, r.2.2.1, r.2.2.2]
def partL (ns : List Int) : List UInt8 := (ns.map fun x => (32 : UInt8) :: Lib.itoa x).flatten
def lineL (k : ByteArray) (r : Rc) : List UInt8 := k.data.toList ++ partL (numsR r) ++ [10]
def kyL (pad : Nat) (s : AtS) (ks : List ByteArray) : List UInt8 := (ks.map fun k => lineL k (rectV pad (s.pl k))).flatten
set_option maxHeartbeats 4000000 in
set_option maxRecDepth 100000 in
theorem vkeys_c {P : Nat → Prop} {W0 w : World} {b W H pad : Nat} {s : AtS} (h : AtOn P W0 w b W H pad s) (hT : Tab w) (hk : ∀ k ∈ s.keys, k.size ≤ 100) :
    Calls Tryd.prog 19 #[.pointer (some ⟨b, 0, none⟩)] w fun e w' => e = .returned (.string (bs (kyL pad s s.keys))) ∧ Below w.heap.size w w' := by
  have hwh : (1 ≤ W ∧ W ≤ 64) ∧ (1 ≤ H ∧ H ≤ 64) := by
    obtain ⟨c, g1, _⟩ := h
    exact ⟨g1.w1, g1.h1⟩
  have H0 := Lib.hid h; have T0 := Lib.hid hT; have HIV := Lib.hid h.inv; have HKS := Lib.hid hk
  obtain ⟨K, hK⟩ : ∃ K, s.keys.length = K := ⟨_, rfl⟩
  have hK32 : K ≤ 32 := by rw [← hK]; exact h.inv.le
  have HK := Lib.hid hK
  have HF := Lib.IsBuilderF.of (Lib.fresh_isBuilder 56 5 w)
  have bb := below_alloc (Below.refl _ w) (.cells #[.pointer none, .slice none 0 0] 56)
  obtain ⟨b3, hb3⟩ : ∃ b3, w.heap.size = b3 := ⟨_, rfl⟩
  clear h hT hk hK
  go_enter Tryd.func19, Tryd.ntmps19
  go_upto_region 2 with (fail)
  generalize w.alloc (.cells #[.pointer none, .slice none 0 0] 56) = w1 at *
  rw [hb3] at HF
  have HB1 := Lib.hid bb; have HF1 := Lib.hid HF
  clear HF
  go_wp2_with fail
  refine (keys_on (H0.out.below HB1.out)).mono ?_
  rintro e w2 ⟨v2, rfl, hs2, hb2, ho2, -⟩
  obtain ⟨A2, c2, rfl, hc2⟩ := hs2.isSlice
  rw [HK.out] at hs2 ho2 hc2 ⊢
  have HF2 := Lib.hid (bf_below HF1.out hb2)
  have HB2 : Hid (Below b3 w w2) := Lib.hid (by have h1 := HB1.out.size; rw [← hb3]; exact HB1.out.trans (hb2.mono h1))
  have S2 := Lib.hid hs2
  have HO2 : Hid (∀ q, (Value.slice A2 K c2).ownBlock = some q → q ≠ b3) := Lib.hid (fun q hq => by
    have h1 := ho2 q hq
    have h2 : b3 < w1.heap.size := by
      obtain h3 | h3 := HF1.out
      · exact h3.lt
      · exact h3.lt
    omega)
  have HE3 := Lib.hid hb3
  clear hs2 hb2 ho2 bb HF1 HB1 hb3
  go_upto_region 3 with (fail)
  go_loopw [13] (fun v wr => ∃ (i : Nat) (l : List UInt8), v = .int .i64 i ∧ i ≤ K ∧ Hid (l = kyL pad s (s.keys.take i) ∧ l.length ≤ i * 300) ∧ Hid (Lib.IsBuilderF 56 5 b3 b3 (Lib.byteCells l) wr) ∧ Hid (Below b3 w wr) ∧ Hid (SlO wr 9 1 (.slice A2 K c2) K (s.keys.map Value.string))) (fun v _ => K - (intOf v).toNat)
  case atStart => exact ⟨0, [], rfl, Nat.zero_le _, Lib.hid ⟨rfl, Nat.zero_le _⟩, HF2, HB2, S2⟩
  case round =>
    obtain ⟨i, l, rfl, hi, HL, HI, HB, HS⟩ := hrel
    have HBW : Hid (Below w.heap.size w wr) := Lib.hid (by rw [HE3.out]; exact HB.out)
    have HSZ : Hid (b3 ≤ wr.heap.size) := Lib.hid (by have := HB.out.size; rw [HE3.out] at this; exact this)
    by_cases hik : i < K
    · have hik' : (i : Int) < (K : Int) := by omega
      obtain ⟨k, hk⟩ : ∃ k, s.keys[i]? = some k := ⟨s.keys[i]'(by rw [HK.out]; exact hik), List.getElem?_eq_getElem _⟩
      have hkm : k ∈ s.keys := List.mem_of_getElem? hk
      obtain ⟨g2, rfl, hck, -⟩ := HS.out.elem (i := i) (x := .string k) hik (by rw [List.getElem?_map, hk]; rfl)
      have hks := HKS.out k hkm
      have hkz : k.size ≤ maxLen := by unfold maxLen; omega
      obtain ⟨X, Y, m, n, hr, q1, q2, q3, q4, q5⟩ := HIV.out.nat hkm
      have hw1 := hwh.1.2
      have hh1 := hwh.2.2
      obtain ⟨RX, hRX⟩ : ∃ RX, X + pad = RX := ⟨_, rfl⟩
      obtain ⟨RY, hRY⟩ : ∃ RY, Y + pad = RY := ⟨_, rfl⟩
      have hpl : s.pl k = some ((X : Int), (Y : Int), (m : Int) + 2 * pad, (n : Int) + 2 * pad) := by rw [HIV.out.hasPl hkm, hr]
      have hrv : rectV pad (s.pl k) = ((RX : Int), (RY : Int), (m : Int), (n : Int)) := by
        rw [hpl]
        show ((X : Int) + pad, (Y : Int) + pad, (m : Int) + 2 * pad - 2 * pad, (n : Int) + 2 * pad - 2 * pad) = _
        rw [show (m : Int) + 2 * (pad : Int) - 2 * pad = m from by omega, show (n : Int) + 2 * (pad : Int) - 2 * pad = n from by omega, ← hRX, ← hRY, Int.natCast_add, Int.natCast_add]
      obtain ⟨ns, hns⟩ : ∃ ns : List Int, ns = [(RX : Int), (RY : Int), (m : Int), (n : Int)] := ⟨_, rfl⟩
      have hnr : ∀ x ∈ ns, 0 ≤ x ∧ x ≤ 64 := fun x hx => by
        rw [hns] at hx
        simp only [List.mem_cons, List.not_mem_nil, or_false] at hx
        omega
      have hln : lineL k (rectV pad (s.pl k)) = k.data.toList ++ partL ns ++ [10] := by rw [hrv, hns]; rfl
      have HRC : Hid (∀ w', Below w.heap.size w w' → Calls Tryd.prog 18 #[.pointer (some ⟨b, 0, none⟩), .string k] w' fun e w'' => e = .returned (.tuple #[.agg #[.int .i64 RX, .int .i64 RY, .int .i64 m, .int .i64 n], .bool (s.pl k).isSome]) ∧ Below w'.heap.size w' w'') := Lib.hid (fun w' hb => (rect_on (H0.out.below hb) k hkz).mono (by
        rintro e w'' ⟨rfl, hb', -⟩
        rw [hrv]
        exact ⟨rfl, hb'⟩))
      have HNR := Lib.hid hnr; have HLN := Lib.hid hln; have HKK := Lib.hid (And.intro hkm hk)
      have HNS := Lib.hid hns
      clear hk hkm hkz hr q1 q2 q3 q4 q5 hRX hRY hpl hrv hnr hln hw1 hh1
      go_wp2_with fail
      refine (HRC.out wr HBW.out).mono ?_
      rintro e w5 ⟨rfl, hb5⟩
      have bb5 := below_alloc hb5 (.cells #[.int .i64 RX, .int .i64 RY, .int .i64 m, .int .i64 n] 45)
      have G5 := heap_alloc_new w5 (.cells #[.int .i64 RX, .int .i64 RY, .int .i64 m, .int .i64 n] 45)
      have HI5 := Lib.hid (bf_below HI.out bb5)
      have HB5 := Lib.hid (HB.out.trans (bb5.mono HSZ.out))
      have HS5 := Lib.hid (HS.out.kept (Kept.of_below (fun _ => False) bb5) (fun _ _ h => h))
      have HN5 : Hid (w5.heap.size ≠ b3 ∧ b3 ≤ (w5.alloc (.cells #[.int .i64 RX, .int .i64 RY, .int .i64 m, .int .i64 n] 45)).heap.size) := Lib.hid (by
        have h1 := hb5.size
        have h2 : b3 < wr.heap.size := by
          obtain h3 | h3 := HI.out
          · exact h3.lt
          · exact h3.lt
        rw [World.size_alloc]
        omega)
      clear hb5 bb5 hck HI HB HS
      go_upto_region 6 with (fail)
      generalize w5.alloc (.cells #[.int .i64 RX, .int .i64 RY, .int .i64 m, .int .i64 n] 45) = w6 at *
      generalize w5.heap.size = b6 at *
      go_wp2_with fail
      refine (Tryd.hWriteStringK b3 b3 _ k w6 HI5.out (by rw [Lib.byteCells_length]; have := HL.out.2; omega) HN5.out.2).mono ?_
      rintro e w7 ⟨rfl, h7, b7, k7⟩
      have G7 : w7.heap[b6]? = some (.cells #[.int .i64 RX, .int .i64 RY, .int .i64 m, .int .i64 n] 45 (0, 0)) := k7 b6 _ G5 (fun e => by injection e with e; exact HN5.out.1 e) (fun c fz e => by injection e with _ e3; exact absurd e3 (by decide))
      have HI7 : Hid (Lib.IsBuilderF 56 5 b3 b3 (Lib.byteCells (l ++ k.data.toList)) w7) := Lib.hid (by
        rw [Lib.byteCells_append, ← Lib.strCells_eq]
        exact .inr h7)
      have HB7 := Lib.hid (HB5.out.trans b7)
      have HS7 := Lib.hid (slO_ok HS5.out k7 HO2.out)
      have r0 : w7.cell? ⟨b6, 0, none⟩ = some (.int .i64 RX) := (blk_cell G7 0).trans rfl
      have r1 : w7.cell? ⟨b6, 1, none⟩ = some (.int .i64 RY) := (blk_cell G7 1).trans rfl
      have r2 : w7.cell? ⟨b6, 2, none⟩ = some (.int .i64 m) := (blk_cell G7 2).trans rfl
      have r3 : w7.cell? ⟨b6, 3, none⟩ = some (.int .i64 n) := (blk_cell G7 3).trans rfl
      clear G5 G7 h7 b7 k7 HI5 HB5 HS5
      go_upto_region 8 with (fail)
      clear r0 r1 r2 r3
      go_loopw [34] (fun v wr => ∃ (j : Nat) (l' : List UInt8), v = .int .i64 j ∧ j ≤ 4 ∧ Hid (l' = l ++ k.data.toList ++ partL (ns.take j) ∧ l'.length ≤ i * 300 + 100 + j * 21) ∧ Hid (Lib.IsBuilderF 56 5 b3 b3 (Lib.byteCells l') wr) ∧ Hid (Below b3 w wr) ∧ Hid (SlO wr 9 1 (.slice (some ⟨g2, 0, none⟩) K c2) K (s.keys.map Value.string))) (fun v _ => 4 - (intOf v).toNat)
      case atStart => exact ⟨0, l ++ k.data.toList, rfl, by omega, Lib.hid ⟨by simp [partL], by
        rw [List.length_append]
        have h1 := HL.out.2
        have h2 : k.data.toList.length = k.size := by show k.data.toList.length = k.data.size; exact Array.length_toList
        omega⟩, HI7, HB7, HS7⟩
      case round =>
        obtain ⟨j, l', rfl, hj, HM, HJ, HC, HR⟩ := hrel
        have HCW : Hid (Below w.heap.size w wr) := Lib.hid (by rw [HE3.out]; exact HC.out)
        have HSR : Hid (b3 ≤ wr.heap.size) := Lib.hid (by have := HC.out.size; rw [HE3.out] at this; exact this)
        by_cases hj4 : j < 4
        · have hj4' : (j : Int) < 4 := by omega
          have hjl : j < ns.length := by rw [HNS.out]; exact hj4
          obtain ⟨N, hN⟩ : ∃ N, ns[j]? = some N := ⟨_, List.getElem?_eq_getElem hjl⟩
          have hNr := HNR.out N (List.mem_of_getElem? hN)
          have hix : ∀ w', (Instr.index 82 (.agg #[.int .i64 RX, .int .i64 RY, .int .i64 m, .int .i64 n]) (.int .i64 (j : Int))).run Tryd.prog w' = .ok (.int .i64 N) w' := by
            have h3 : j = 0 ∨ j = 1 ∨ j = 2 ∨ j = 3 := by omega
            rw [HNS.out] at hN
            rcases h3 with rfl | rfl | rfl | rfl
            all_goals
              simp at hN
              subst hN
              intro w'
              show Sem.run Tryd.prog _ w' = _
              kernel_rfl
          have HP : Hid (partL (ns.take (j + 1)) = partL (ns.take j) ++ (32 :: Lib.itoa N)) := Lib.hid (by
            rw [List.take_add_one, hN]
            simp [partL])
          have hln := itoa_len N (by omega) (by omega)
          have q1 : ¬ 9223372036854775807 < 1 + (Lib.itoa N).length := by omega
          have hst : (⟨#[32]⟩ : ByteArray) ++ ⟨(Lib.itoa N).toArray⟩ = ⟨((32 : UInt8) :: Lib.itoa N).toArray⟩ := by
            rw [show (⟨#[32]⟩ : ByteArray) = ⟨([32] : List UInt8).toArray⟩ from rfl, str_app]; simp
          have HIN := Lib.hid (fun w h => itoa_c w h N (by omega) (by omega))
          have HLN2 := Lib.hid hln
          have HST := Lib.hid hst
          clear hN hNr hln hjl hst
          go_wp2_with fail
          refine (HIN.out wr (T0.out.below HCW.out)).mono ?_
          rintro e w8 ⟨rfl, b8⟩
          have HJ8 := Lib.hid (bf_below HJ.out b8)
          have HC8 := Lib.hid (HC.out.trans (b8.mono HSR.out))
          have HR8 := Lib.hid (HR.out.kept (Kept.of_below (fun _ => False) b8) (fun _ _ h => h))
          have HS8 : Hid (b3 ≤ w8.heap.size) := Lib.hid (Nat.le_trans HSR.out b8.size)
          clear b8
          go_wp2_with fail
          refine (Tryd.hWriteStringK b3 b3 _ _ w8 HJ8.out (by
            rw [Lib.byteCells_length, HST.out]
            have h1 := HM.out.2
            have h2 := HLN2.out
            show l'.length + ((32 : UInt8) :: Lib.itoa N).toArray.size ≤ _
            simp
            omega) HS8.out).mono ?_
          rintro e w9 ⟨rfl, h9, b9, k9⟩
          have HJ9 : Hid (Lib.IsBuilderF 56 5 b3 b3 (Lib.byteCells (l' ++ (32 :: Lib.itoa N))) w9) := Lib.hid (by
            rw [Lib.byteCells_append]
            rw [HST.out] at h9
            exact .inr h9)
          have HC9 := Lib.hid (HC8.out.trans b9)
          have HR9 := Lib.hid (slO_ok HR8.out k9 HO2.out)
          clear h9 b9 k9 hix q1
          go_wp2_with fail
          go_roundw
          case rel => exact ⟨j + 1, _, by go_num, by omega, Lib.hid ⟨by rw [HP.out, HM.out.1]; simp, by
            have h1 := HM.out.2
            have h2 := HLN2.out
            simp only [List.length_append, List.length_cons]
            omega⟩, HJ9, HC9, HR9⟩
          case measure => simp [intOf]; omega
        · have hj4' : ¬ (j : Int) < 4 := by omega
          obtain rfl : j = 4 := by omega
          go_wp2_with fail
          refine (Tryd.hWriteByteK b3 b3 _ _ wr HJ.out (by rw [Lib.byteCells_length]; have := HM.out.2; omega) HSR.out).mono ?_
          rintro e w9 ⟨rfl, h9, b9, k9⟩
          have HJ9 : Hid (Lib.IsBuilderF 56 5 b3 b3 (Lib.byteCells (l' ++ [10])) w9) := Lib.hid (by
            rw [Lib.byteCells_append]
            exact .inr h9)
          have HC9 := Lib.hid (HC.out.trans b9)
          have HR9 := Lib.hid (slO_ok HR.out k9 HO2.out)
          clear h9 b9 k9
          go_wp2_with fail
          go_roundw
          case rel => exact ⟨i + 1, _, by go_num, by omega, Lib.hid ⟨by
            have e1 : ns.take 4 = ns := List.take_of_length_le (by rw [HNS.out]; exact Nat.le_refl 4)
            have e2 : s.keys.take (i + 1) = s.keys.take i ++ [k] := by rw [List.take_add_one, HKK.out.2]; rfl
            rw [HM.out.1, HL.out.1, e1, e2]
            unfold kyL
            rw [List.map_append, List.flatten_append]
            simp [HLN.out], by
            have h1 := HM.out.2
            rw [List.length_append]
            simp only [List.length_cons, List.length_nil]
            omega⟩, HJ9, HC9, HR9⟩
          case measure => simp [intOf]; omega
    · have hik' : ¬ (i : Int) < (K : Int) := by omega
      obtain rfl : i = K := by omega
      have hl := HL.out.1
      rw [List.take_of_length_le (by rw [HK.out]; omega)] at hl
      have HL2 := Lib.hid hl
      clear hl
      go_wp2_with fail
      refine (Tryd.hStringK b3 b3 l wr HI.out HSZ.out).mono ?_
      rintro e w9 ⟨rfl, -, b9, -⟩
      go_wp2_with fail
      go_ret
      refine ⟨by rw [← HL2.out]; rfl, ?_⟩
      rw [HE3.out]
      exact HB.out.trans b9
end Go.Proofs.YtaccppchhljnkaaDoor

/- The document's examples of layer 23 hold. -/
set_option linter.unusedVariables false
set_option linter.unusedSimpArgs false
namespace Go.Proofs.YtaccppchhljnkaaDoor
open Go.RowKit Go.Shelf Go.Proofs.YtaccppchhljnkaaDoorW.PrintWords Go.Proofs.YtaccppchhljnkaaDoorW.PrintLast Go.Proofs.YtaccppchhljnkaaDoorW.PrintMore
theorem av0 (k : ByteArray) : loadV 9 9 1 (zeroS 9) k 2 1 [0, 255] = (0, putS (zeroS 9) k (0, 0, 4, 3) [0, 255]) := by
  have hf : fitS 9 9 (zeroS 9) 4 3 = some (0, 0) := by
    unfold fitS zeroS
    rw [if_pos (by simp)]
    exact fit_zeros 9 9 4 3 (by omega) (by omega) (by omega) (by omega)
  have hr := room_fit hf
  unfold loadV
  rw [if_neg (by simp [zeroS]), if_neg (by decide), if_neg (by decide)]
  rw [show (2 : Int) + 2 * ((1 : Nat) : Int) = 4 from rfl, show (1 : Int) + 2 * ((1 : Nat) : Int) = 3 from rfl, hr]
theorem it_small (u : Nat) (h : u < 10) : Lib.itoa (u : Int) = [UInt8.ofNat (48 + u)] := by
  unfold Lib.itoa
  rw [if_neg (by omega), Int.toNat_natCast, dec_small u h]
theorem it255 : Lib.itoa 255 = [50, 53, 53] := by
  unfold Lib.itoa
  rw [if_neg (by decide), show (255 : Int).toNat = 255 from rfl, dec_big 255 (by decide), dec_big (255 / 10) (by decide), dec_small _ (by decide), dec_small _ (by decide)]
  rfl
theorem av1 : tabL 2 1 [0, 255] = [50, 32, 49, 10, 48, 32, 50, 53, 53, 10] := by
  unfold tabL
  rw [List.map_cons, List.map_cons, List.map_nil, it255, show (2 : Int) = ((2 : Nat) : Int) from rfl, show (1 : Int) = ((1 : Nat) : Int) from rfl, show (0 : Int) = ((0 : Nat) : Int) from rfl, it_small 2 (by decide), it_small 1 (by decide), it_small 0 (by decide)]
  rfl
theorem av2 : kyL 1 (putS (zeroS 9) ⟨#[107]⟩ (0, 0, 4, 3) [0, 255]) [⟨#[107]⟩] = [107, 32, 49, 32, 49, 32, 50, 32, 49, 10] := by
  have h : rectV 1 ((putS (zeroS 9) ⟨#[107]⟩ (0, 0, 4, 3) [0, 255]).pl ⟨#[107]⟩) = (((1 : Nat) : Int), ((1 : Nat) : Int), ((2 : Nat) : Int), ((1 : Nat) : Int)) := by
    unfold putS
    show rectV 1 (if (⟨#[107]⟩ : ByteArray) = ⟨#[107]⟩ then some (0, 0, 4, 3) else (zeroS 9).pl ⟨#[107]⟩) = _
    rw [if_pos rfl]
    rfl
  unfold kyL
  rw [List.map_cons, List.map_nil, h]
  unfold lineL numsR partL
  rw [List.map_cons, List.map_cons, List.map_cons, List.map_cons, List.map_nil]
  simp only
  rw [it_small 1 (by decide), it_small 2 (by decide)]
  rfl
set_option maxHeartbeats 4000000 in
set_option maxRecDepth 100000 in
theorem awake23 (W : World) (hT : Tab W) : Calls Tryd.prog 9 #[] W fun e w' => e = .returned (.bool true) ∧ Below W.heap.size W w' := by
  have T0 := Lib.hid hT
  have bb := below_alloc (below_alloc (Below.refl W.heap.size W) (.cells #[.int .u8 0, .int .u8 255] 5)) (.cells #[.int .i64 2, .int .i64 1, .slice (some ⟨W.heap.size, 0, none⟩) 2 2] 27)
  have g1 := blk_below (heap_alloc_new W (.cells #[.int .u8 0, .int .u8 255] 5)) (below_alloc (Below.refl _ _) (.cells #[.int .i64 2, .int .i64 1, .slice (some ⟨W.heap.size, 0, none⟩) 2 2] 27))
  have g2 := heap_alloc_new (W.alloc (.cells #[.int .u8 0, .int .u8 255] 5)) (.cells #[.int .i64 2, .int .i64 1, .slice (some ⟨W.heap.size, 0, none⟩) 2 2] 27)
  rw [World.size_alloc] at g2
  clear hT
  go_enter Tryd.func9, Tryd.ntmps9
  go_upto_region 2 with (fail)
  generalize (W.alloc (.cells #[.int .u8 0, .int .u8 255] 5)).alloc (.cells #[.int .i64 2, .int .i64 1, .slice (some ⟨W.heap.size, 0, none⟩) 2 2] 27) = w2 at *
  generalize hgt : W.heap.size = gt at *
  have HG1 := Lib.hid g1; have HG2 := Lib.hid g2; have HB2 := Lib.hid bb; have HGT := Lib.hid hgt
  have T2 := Lib.hid (T0.out.below (hgt ▸ bb))
  have HOF := Lib.hid (ofA_c w2 9 9 1)
  clear g1 g2 bb hgt
  go_wp2_with fail
  refine HOF.out.mono ?_
  rintro e w3 ⟨b, c, rfl, (hA : AtAt w3 b 9 9 1 (zeroS 9) c), ho, hb⟩
  have HA3 : Hid (AtOn (fun q => q < w2.heap.size) w2 w3 b 9 9 1 (zeroS 9)) := Lib.hid ⟨c, hA, fun q hq e => by have := ho q e; omega, fun q hq => hq, Kept.of_below _ hb⟩
  clear hA ho hb c HOF
  have HLT : Hid (gt < w2.heap.size ∧ gt + 1 < w2.heap.size) := Lib.hid ⟨lt_in HG1.out, lt_in HG2.out⟩
  have HCF : Hid (∀ w s, AtOn (fun q => q < w2.heap.size) w2 w b 9 9 1 s → w.cell? ⟨gt + 1, 0, none⟩ = some (.int .i64 2) ∧ w.cell? ⟨gt + 1, 1, none⟩ = some (.int .i64 1) ∧ w.cell? ⟨gt + 1, 2, none⟩ = some (.slice (some ⟨gt, 0, none⟩) 2 2)) := Lib.hid (fun w s h => by
    have := h.get HLT.out.2 HG2.out
    exact ⟨(blk_cell this 0).trans rfl, (blk_cell this 1).trans rfl, (blk_cell this 2).trans rfl⟩)
  have HSL : Hid (∀ w s, AtOn (fun q => q < w2.heap.size) w2 w b 9 9 1 s → SlO w 5 1 (.slice (some ⟨gt, 0, none⟩) 2 2) 2 (([0, 255] : List Int).map (Value.int .u8))) := Lib.hid (fun w s h => slO_lit (h.get HLT.out.1 HG1.out) rfl (by omega))
  have HLD : Hid (∀ w, AtOn (fun q => q < w2.heap.size) w2 w b 9 9 1 (zeroS 9) → Calls Tryd.prog 22 #[.pointer (some ⟨b, 0, none⟩), .string ⟨#[107]⟩, .agg #[.int .i64 2, .int .i64 1, .slice (some ⟨gt, 0, none⟩) 2 2]] w fun e w' => e = .returned (.int .i64 0) ∧ AtOn (fun q => q < w2.heap.size) w2 w' b 9 9 1 (putS (zeroS 9) ⟨#[107]⟩ (0, 0, 4, 3) [0, 255])) := Lib.hid (fun w h => by
    have := load_on h ⟨#[107]⟩ (by decide) 2 1 (by omega) (by omega) (some ⟨gt, 0, none⟩) 2 2 [0, 255] rfl (by omega) (HSL.out w _ h) (fun q hq => by
      have e : gt = q := by simpa [Value.ownBlock] using hq
      subst e; exact HLT.out.1) (fun x hx => by simp at hx; omega) (by simp [zeroS])
    rw [av0] at this
    exact this)
  have HSH : Hid (∀ w s, AtOn (fun q => q < w2.heap.size) w2 w b 9 9 1 s → Calls Tryd.prog 11 #[.agg #[.int .i64 2, .int .i64 1, .slice (some ⟨gt, 0, none⟩) 2 2]] w fun e w' => e = .returned (.string ⟨#[32, 64, 10]⟩) ∧ AtOn (fun q => q < w2.heap.size) w2 w' b 9 9 1 s) := Lib.hid (fun w s h => (shades_c w 2 1 (some ⟨gt, 0, none⟩) 2 2 [0, 255] (by omega) (by omega) rfl (slO_C8 (by omega) (HSL.out w _ h)).1 (fun x hx => by simp at hx; omega)).mono (by
    rintro e w' ⟨rfl, hb⟩
    exact ⟨rfl, h.below hb⟩))
  have HTB : Hid (∀ w s, Tab w → AtOn (fun q => q < w2.heap.size) w2 w b 9 9 1 s → Calls Tryd.prog 13 #[.agg #[.int .i64 2, .int .i64 1, .slice (some ⟨gt, 0, none⟩) 2 2]] w fun e w' => e = .returned (.string ⟨#[50, 32, 49, 10, 48, 32, 50, 53, 53, 10]⟩) ∧ AtOn (fun q => q < w2.heap.size) w2 w' b 9 9 1 s) := Lib.hid (fun w s ht h => (table_c w ht 2 1 (by omega) (by omega) (some ⟨gt, 0, none⟩) 2 2 [0, 255] rfl (by omega) (slO_C8 (by omega) (HSL.out w _ h)).1 (fun x hx => by simp at hx; omega)).mono (by
    rintro e w' ⟨rfl, hb⟩
    rw [av1]
    exact ⟨rfl, h.below hb⟩))
  have HKY : Hid (∀ w, Tab w → AtOn (fun q => q < w2.heap.size) w2 w b 9 9 1 (putS (zeroS 9) ⟨#[107]⟩ (0, 0, 4, 3) [0, 255]) → Calls Tryd.prog 19 #[.pointer (some ⟨b, 0, none⟩)] w fun e w' => e = .returned (.string ⟨#[107, 32, 49, 32, 49, 32, 50, 32, 49, 10]⟩) ∧ AtOn (fun q => q < w2.heap.size) w2 w' b 9 9 1 (putS (zeroS 9) ⟨#[107]⟩ (0, 0, 4, 3) [0, 255])) := Lib.hid (fun w ht h => (vkeys_c h ht (fun k hk => by
      have hk' : k ∈ ([] : List ByteArray) ++ [⟨#[107]⟩] := hk
      rw [List.nil_append, List.mem_singleton] at hk'
      subst hk'
      decide)).mono (by
    rintro e w' ⟨rfl, hb⟩
    have : (putS (zeroS 9) ⟨#[107]⟩ (0, 0, 4, 3) [0, 255]).keys = [⟨#[107]⟩] := rfl
    rw [this, av2]
    exact ⟨rfl, h.below hb⟩))
  have HT : Hid (∀ w s, AtOn (fun q => q < w2.heap.size) w2 w b 9 9 1 s → Tab w ∧ Below gt W w) := Lib.hid (fun w s h => by
    have hb := h.out (fun q hq => hq) (Nat.le_refl _)
    exact ⟨T2.out.below hb, HB2.out.trans (hb.mono (by have := HLT.out.1; omega))⟩)
  obtain ⟨s1, hs1⟩ : ∃ s1, putS (zeroS 9) ⟨#[107]⟩ (0, 0, 4, 3) [0, 255] = s1 := ⟨_, rfl⟩
  rw [hs1] at HLD HKY
  clear hs1
  obtain ⟨d0, d1, d2⟩ := HCF.out _ _ HA3.out
  go_wp2_with fail
  refine (HLD.out w3 HA3.out).mono ?_
  rintro e w4 ⟨rfl, h4⟩
  have H4 := Lib.hid h4
  clear h4 d0 d1 d2
  obtain ⟨d0, d1, d2⟩ := HCF.out _ _ H4.out
  go_wp2_with fail
  refine (HSH.out w4 _ H4.out).mono ?_
  rintro e w5 ⟨rfl, h5⟩
  have H5 := Lib.hid h5
  clear h5 d0 d1 d2
  obtain ⟨d0, d1, d2⟩ := HCF.out _ _ H5.out
  go_wp2_with fail
  refine (HTB.out w5 _ (HT.out _ _ H5.out).1 H5.out).mono ?_
  rintro e w6 ⟨rfl, h6⟩
  have H6 := Lib.hid h6
  clear h6 d0 d1 d2
  go_wp2_with fail
  refine (HKY.out w6 (HT.out _ _ H6.out).1 H6.out).mono ?_
  rintro e w7 ⟨rfl, h7⟩
  go_wp2_with fail
  go_ret
  rw [HGT.out]
  exact ⟨rfl, (HT.out _ _ h7).2⟩
end Go.Proofs.YtaccppchhljnkaaDoor

/- What the rows of layer 23 share: the library's table, as it was laid. -/
set_option linter.unusedVariables false
set_option linter.unusedSimpArgs false
namespace Go.Proofs.YtaccppchhljnkaaDoor
open Go.ChangeShapes Go.WideShapes Go.ChangeAt Go.RowKit
theorem gPow : Tryd.prog.globalNamed "internal/strconv.uint64pow10" = some 0 := by kernel_rfl
theorem tPow : (Tryd.prog.globals[0]?).map (·.type) = some 118 := by kernel_rfl
def vLaid : List (String × DataW Unit) := [("math/bits.deBruijn32tab", Rows.laid_math_bits_deBruijn32tab), ("math/bits.deBruijn64tab", Rows.laid_math_bits_deBruijn64tab), ("internal/strconv.uint64pow10", Rows.laid_internal_strconv_uint64pow10)]
theorem door_met (os : Os) (args : Array Value) : laidMetH Tryd.prog vLaid ((World.doorLaid Tryd.prog 400 os).forCall (fun _ _ => 0) ⟨#[], args, []⟩).memory :=
  laidMetH_of_parts3 (fuel := 8) (laidMet_of_run' 8 (by kernel_rfl) (by kernel_rfl)) (by kernel_rfl) (by kernel_rfl)
theorem laid_pow : (Rows.laid_internal_strconv_uint64pow10 : DataW Unit) = Lib.tabData .u64 Lib.pow10Tab := rfl
theorem tab_of {W : World} (h : laidMetH Tryd.prog vLaid W) : Tab W := by
  rw [MakeChecks.laidMetH_plain _ _ _ (by kernel_rfl)] at h
  have h2 : laidMet Tryd.prog (("internal/strconv.uint64pow10", Lib.tabData .u64 Lib.pow10Tab) :: []) W := laid_pow ▸ h.tail.tail
  exact Lib.tabIs_of_head gPow tPow Tryd.underlying118 Tryd.underlying111 (by kernel_rfl) (by kernel_rfl) h2
end Go.Proofs.YtaccppchhljnkaaDoor
