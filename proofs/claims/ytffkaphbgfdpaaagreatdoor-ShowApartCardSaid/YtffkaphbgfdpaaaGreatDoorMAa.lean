/- Shelf, Build, NumT, RowG, Digs, Strs, SplL, SplR, Num, Arr, P4, P4W, P4R, Dec, Pr4, Pr4W, HexL, HexW, Unhex, Group, ReadG, Gap, one behind the other. -/
import Derived.Shelf.Strings.Builder1
import Derived.Shelf.Strings.Builder2
import Derived.Shelf.Strings.OnBuilder
import Derived.Shelf.Strings.BuilderF
import Derived.Shelf.Strings.BuilderK
import Derived.Shelf.Utf8.RuneCount
import Derived.Shelf.Strings.Builder2Cap
import Derived.Shelf.Strconv.Itoa0
import Derived.Shelf.Strconv.Itoa1
import Derived.Shelf.LaysM
import Derived.Shelf.Strconv.Itoa2
import Derived.Shelf.Strconv.Itoa3
import Derived.Shelf.Strconv.Clone
import Derived.Shelf.Strconv.SyntaxError
import Derived.Shelf.Strconv.Lower
import Derived.Shelf.Strconv.ParseUint10
import Derived.Shelf.Strconv.ParseUint10Empty
import Derived.Shelf.Strconv.RangeError
import Derived.Shelf.Strconv.ParseUintEmpty
import Derived.Shelf.Strconv.ParseUint10b64
import Derived.Shelf.Strconv.ParseUint10b32
import Derived.Shelf.Strconv.ParseUint10b16
import Derived.Shelf.Strconv.ParseUint10b8
import Derived.Ground.MpProg
import Derived.Shelf.Pu.ParseUintPublic10
import Derived.Shelf.Strings.Search1
import Derived.Shelf.Strings.Search2
import Derived.Shelf.Strings.Search3
import Derived.Shelf.Strings.Cut
import Derived.Shelf.Strings.Count
import Derived.Shelf.Strings.Shaped
import Derived.Shelf.Strings.Prefix
import Derived.Shelf.Strings.Split
import Derived.Shelf.Strings.SplitShaped
import Derived.Shelf.Unicode.Decode
import Derived.Shelf.Strings.RuneCount
import Derived.Shelf.Strings.Explode
import Derived.Shelf.Unicode.DecodeSlow
import Derived.Shelf.Unicode.DecodeAny
import Derived.Test.YtffkaphbgfdpaaaGreatDoorProg
import Derived.Test.YtffkaphbgfdpaaaGreatDoorChecked
import Derived.Lib.AppendIntMem
import Derived.Lib.Hide
import Derived.WalkKit
import Derived.ProofKit
import Derived.Deep.LoopGhost
import Derived.Laws.IdiomStrings
import Derived.Laws.Concat
import Derived.Lib.ItoaLen
import Derived.Below
import Derived.Deep.AppendLies
import Derived.Deep.DeepAppendRoom
import Derived.Deep.MidRow
import Derived.Maps.Range
import Derived.ArgAppend
import Derived.Shelf.Abstract
import Derived.Deep.RegionHeld3
import Derived.WalkSpells
import Derived.Deep.QuietTactic
import Derived.BigQuiet
import Derived.Deep.DeepCutAuto
import Derived.Deep.CutBlock
import Derived.WalkLawsBesides
import Derived.Laws.BytesArg
import Derived.Lib.Split
import Derived.Laws.Rows
import Derived.Lib.ParseIntB
import Derived.Laws.BitsLemmas
section
/- The contracts of the library that are used here, as the shelf lays them. -/
namespace Go.Proofs
open Go.Shelf
def Tryz.lays169_ren : Go.Shelf.Ren := ⟨fun | 169 => 152 | n => n, fun | 70 => 151 | 9 => 9 | 0 => 0 | 72 => 153 | 37 => 110 | 127 => 174 | 3 => 3 | 5 => 5 | n => n, fun | n => n⟩
theorem Tryz.lays169 : Go.Proofs.Lays.n169 Tryz.prog Tryz.lays169_ren := {
  mixed := by kernel_rfl
  f169 := Tryz.func152.trans (congrArg some (by kernel_rfl))
  t0 := Tryz.underlying0
  a0 := Tryz.isAgg0
  z0 := Tryz.sizeOf0
  v0 := Tryz.zeroValue0
  t3 := Tryz.underlying3
  a3 := Tryz.isAgg3
  z3 := Tryz.sizeOf3
  v3 := Tryz.zeroValue3
  t9 := Tryz.underlying9
  a9 := Tryz.isAgg9
  z9 := Tryz.sizeOf9
  v9 := Tryz.zeroValue9
  t37 := Tryz.underlying110
  a37 := Tryz.isAgg110
  z37 := Tryz.sizeOf110
  v37 := Tryz.zeroValue110
  t70 := Tryz.underlying151
  a70 := Tryz.isAgg151
  z70 := Tryz.sizeOf151
  v70 := Tryz.zeroValue151
  t72 := Tryz.underlying153
  a72 := Tryz.isAgg153
  z72 := Tryz.sizeOf153
  v72 := Tryz.zeroValue153
  t127 := Tryz.underlying174
  a127 := Tryz.isAgg174
  z127 := Tryz.sizeOf174
  v127 := Tryz.zeroValue174 }
theorem Tryz.Builder_Extra_169 : Builder.Extra Tryz.prog Tryz.lays169_ren := {
  sizeBuilder := by kernel_rfl
  liesBuilder := by kernel_rfl
  t5 := Tryz.underlying5
  a5 := Tryz.isAgg5
  z5 := Tryz.sizeOf5
  v5 := Tryz.zeroValue5
  infoByte := by kernel_rfl
  cellsByte := by kernel_rfl
  sizeByte := by kernel_rfl
  neB5 := by decide }
def Tryz.lays156_ren : Go.Shelf.Ren := ⟨fun | 156 => 116 | 165 => 150 | 166 => 151 | 169 => 152 | 240 => 168 | 241 => 169 | 276 => 187 | 277 => 188 | n => n, fun | 31 => 86 | 9 => 9 | 3 => 3 | 4 => 4 | 0 => 0 | 20 => 20 | 72 => 153 | 76 => 157 | 70 => 151 | 37 => 110 | 75 => 156 | 127 => 174 | 164 => 190 | 5 => 5 | 80 => 159 | n => n, fun | n => n⟩
theorem Tryz.lays156 : Go.Proofs.Lays.n156 Tryz.prog Tryz.lays156_ren := {
  mixed := by kernel_rfl
  f156 := Tryz.func116.trans (congrArg some (by kernel_rfl))
  f165 := Tryz.func150.trans (congrArg some (by kernel_rfl))
  f166 := Tryz.func151.trans (congrArg some (by kernel_rfl))
  f169 := Tryz.func152.trans (congrArg some (by kernel_rfl))
  f240 := Tryz.func168.trans (congrArg some (by kernel_rfl))
  f241 := Tryz.func169.trans (congrArg some (by kernel_rfl))
  f276 := Tryz.func187.trans (congrArg some (by kernel_rfl))
  f277 := Tryz.func188.trans (congrArg some (by kernel_rfl))
  t0 := Tryz.underlying0
  a0 := Tryz.isAgg0
  z0 := Tryz.sizeOf0
  v0 := Tryz.zeroValue0
  t3 := Tryz.underlying3
  a3 := Tryz.isAgg3
  z3 := Tryz.sizeOf3
  v3 := Tryz.zeroValue3
  t4 := Tryz.underlying4
  a4 := Tryz.isAgg4
  z4 := Tryz.sizeOf4
  v4 := Tryz.zeroValue4
  t9 := Tryz.underlying9
  a9 := Tryz.isAgg9
  z9 := Tryz.sizeOf9
  v9 := Tryz.zeroValue9
  t20 := Tryz.underlying20
  a20 := Tryz.isAgg20
  z20 := Tryz.sizeOf20
  v20 := Tryz.zeroValue20
  t31 := Tryz.underlying86
  a31 := Tryz.isAgg86
  z31 := Tryz.sizeOf86
  v31 := Tryz.zeroValue86
  t37 := Tryz.underlying110
  a37 := Tryz.isAgg110
  z37 := Tryz.sizeOf110
  v37 := Tryz.zeroValue110
  t70 := Tryz.underlying151
  a70 := Tryz.isAgg151
  z70 := Tryz.sizeOf151
  v70 := Tryz.zeroValue151
  t72 := Tryz.underlying153
  a72 := Tryz.isAgg153
  z72 := Tryz.sizeOf153
  v72 := Tryz.zeroValue153
  t75 := Tryz.underlying156
  a75 := Tryz.isAgg156
  z75 := Tryz.sizeOf156
  v75 := Tryz.zeroValue156
  t76 := Tryz.underlying157
  a76 := Tryz.isAgg157
  z76 := Tryz.sizeOf157
  v76 := Tryz.zeroValue157
  t127 := Tryz.underlying174
  a127 := Tryz.isAgg174
  z127 := Tryz.sizeOf174
  v127 := Tryz.zeroValue174
  t164 := Tryz.underlying190
  a164 := Tryz.isAgg190
  z164 := Tryz.sizeOf190
  v164 := Tryz.zeroValue190 }
theorem Tryz.Builder_Extra_156 : Builder.Extra Tryz.prog Tryz.lays156_ren := {
  sizeBuilder := by kernel_rfl
  liesBuilder := by kernel_rfl
  t5 := Tryz.underlying5
  a5 := Tryz.isAgg5
  z5 := Tryz.sizeOf5
  v5 := Tryz.zeroValue5
  infoByte := by kernel_rfl
  cellsByte := by kernel_rfl
  sizeByte := by kernel_rfl
  neB5 := by decide }
open Go.RowKit in
/-- No element: the empty string; the world is as it was. (Whatever the slice's address and capacity: a nil slice too.) (LAID: no walk: one application.) -/
theorem Tryz.strings_Join_none (a : Option Addr) (c : Nat) (sep : ByteArray) (w : World) :
    Calls Tryz.prog 116 #[.slice a 0 c, .string sep] w fun e w' => e = .returned (.string ⟨#[]⟩) ∧ w' = w := Any.strings_Join_none Tryz.lays156 Tryz.Builder_Extra_156 a c sep w
open Go.RowKit in
/-- strings.Join: "Join concatenates the elements of its first argument to create a single string. The separator string sep is placed between elements in the resulting string.": HOWEVER MANY ELEMENTS. Below the heap's end the world is as it was. (LAID: no walk: one application.) -/
theorem Tryz.strings_Join (bk o c : Nat) (xs : List ByteArray) (sep : ByteArray) (w : World) (hcells : ∀ (j : Nat) x, xs[j]? = some x → w.cell? ⟨bk, o + j, none⟩ = some (.string x)) (hbk : bk < w.heap.size) (hN : xs.length ≤ 140737488355328) (hcap : xs.length ≤ c) (hlen : (Lib.join (xs.map (·.data.toList)) sep.data.toList).length ≤ 140737488355328) :
    Calls Tryz.prog 116 #[.slice (some ⟨bk, o, none⟩) xs.length c, .string sep] w fun e w' => e = .returned (.string ⟨(Lib.join (xs.map (·.data.toList)) sep.data.toList).toArray⟩) ∧ Below w.heap.size w w' := Any.strings_Join Tryz.lays156 Tryz.Builder_Extra_156 bk o c xs sep w hcells hbk hN hcap hlen
def Tryz.lays283_ren : Go.Shelf.Ren := ⟨fun | 283 => 170 | n => n, fun | 3 => 3 | 9 => 9 | 4 => 4 | n => n, fun | n => n⟩
theorem Tryz.lays283 : Go.Proofs.Lays.n283 Tryz.prog Tryz.lays283_ren := {
  mixed := by kernel_rfl
  f283 := Tryz.func170.trans (congrArg some (by kernel_rfl))
  t3 := Tryz.underlying3
  a3 := Tryz.isAgg3
  z3 := Tryz.sizeOf3
  v3 := Tryz.zeroValue3
  t4 := Tryz.underlying4
  a4 := Tryz.isAgg4
  z4 := Tryz.sizeOf4
  v4 := Tryz.zeroValue4
  t9 := Tryz.underlying9
  a9 := Tryz.isAgg9
  z9 := Tryz.sizeOf9
  v9 := Tryz.zeroValue9 }
open Go.Lib in
/-- internal/strconv.small: "small returns the string for an i with 0 <= i < nSmalls.": i's decimal numeral. The world is as it was. (LAID: no walk: one application.) -/
theorem Tryz.internal_strconv_small (i : Nat) (h : i < 100) (w : World) :
    Calls Tryz.prog 170 #[.int .i64 i] w fun e w' => e = .returned (.string ⟨(Lib.decDigits i).toArray⟩) ∧ w' = w := Any.internal_strconv_small Tryz.lays283 i h w
def Tryz.laysM284_ren : Go.Shelf.Ren := ⟨fun | 284 => 171 | 129 => 190 | 317 => 189 | 318 => 191 | n => n, fun | 53 => 162 | 3 => 3 | 212 => 194 | 0 => 0 | 4 => 4 | 46 => 173 | 5 => 5 | 9 => 9 | n => n, fun | 17 => 1 | n => n⟩
theorem Tryz.laysM284 : Go.Proofs.LaysM.n284 Tryz.prog Tryz.laysM284_ren := {
  mixed := by kernel_rfl
  f129 := Tryz.func190.trans (congrArg some (by kernel_rfl))
  f284 := Tryz.func171.trans (congrArg some (by kernel_rfl))
  f317 := Tryz.func189.trans (congrArg some (by kernel_rfl))
  f318 := Tryz.func191.trans (congrArg some (by kernel_rfl))
  t0 := Tryz.underlying0
  a0 := Tryz.isAgg0
  z0 := Tryz.sizeOf0
  v0 := Tryz.zeroValue0
  t3 := Tryz.underlying3
  a3 := Tryz.isAgg3
  z3 := Tryz.sizeOf3
  v3 := Tryz.zeroValue3
  t4 := Tryz.underlying4
  a4 := Tryz.isAgg4
  z4 := Tryz.sizeOf4
  v4 := Tryz.zeroValue4
  t5 := Tryz.underlying5
  a5 := Tryz.isAgg5
  z5 := Tryz.sizeOf5
  v5 := Tryz.zeroValue5
  t9 := Tryz.underlying9
  a9 := Tryz.isAgg9
  z9 := Tryz.sizeOf9
  v9 := Tryz.zeroValue9
  t46 := Tryz.underlying173
  a46 := Tryz.isAgg173
  z46 := Tryz.sizeOf173
  v46 := Tryz.zeroValue173
  t53 := Tryz.underlying162
  a53 := Tryz.isAgg162
  z53 := Tryz.sizeOf162
  v53 := Tryz.zeroValue162
  t212 := Tryz.underlying194
  a212 := Tryz.isAgg194
  z212 := Tryz.sizeOf194
  v212 := Tryz.zeroValue194
  g17 := by kernel_rfl
  i0 := by kernel_rfl
  i3 := by kernel_rfl
  i4 := by kernel_rfl
  i5 := by kernel_rfl
  i9 := by kernel_rfl
  i46 := by kernel_rfl
  i53 := by kernel_rfl
  i212 := by kernel_rfl
  m17 := by kernel_rfl }
open Go.Lib in
/-- internal/strconv.numDigits, at a d that is not 0: THE NUMBER OF d's DECIMAL DIGITS. The world is as it was. (LAID: no walk: one application.) -/
theorem Tryz.internal_strconv_numDigits (u : Nat) (h1 : 1 ≤ u) (h2 : u < 18446744073709551616) (w : World) (htab : Lib.TabIs Tryz.prog w "internal/strconv.uint64pow10" .u64 Lib.pow10Tab) :
    Calls Tryz.prog 171 #[.int .u64 u] w fun e w' => e = .returned (.int .i64 (Lib.nDigits u)) ∧ w' = w := Any.internal_strconv_numDigits Tryz.laysM284 u h1 h2 w htab
def Tryz.lays285_ren : Go.Shelf.Ren := ⟨fun | 285 => 172 | n => n, fun | 37 => 110 | 53 => 162 | 3 => 3 | 4 => 4 | 51 => 34 | 9 => 9 | 5 => 5 | 0 => 0 | n => n, fun | n => n⟩
theorem Tryz.lays285 : Go.Proofs.Lays.n285 Tryz.prog Tryz.lays285_ren := {
  mixed := by kernel_rfl
  f285 := Tryz.func172.trans (congrArg some (by kernel_rfl))
  t0 := Tryz.underlying0
  a0 := Tryz.isAgg0
  z0 := Tryz.sizeOf0
  v0 := Tryz.zeroValue0
  t3 := Tryz.underlying3
  a3 := Tryz.isAgg3
  z3 := Tryz.sizeOf3
  v3 := Tryz.zeroValue3
  t4 := Tryz.underlying4
  a4 := Tryz.isAgg4
  z4 := Tryz.sizeOf4
  v4 := Tryz.zeroValue4
  t5 := Tryz.underlying5
  a5 := Tryz.isAgg5
  z5 := Tryz.sizeOf5
  v5 := Tryz.zeroValue5
  t9 := Tryz.underlying9
  a9 := Tryz.isAgg9
  z9 := Tryz.sizeOf9
  v9 := Tryz.zeroValue9
  t37 := Tryz.underlying110
  a37 := Tryz.isAgg110
  z37 := Tryz.sizeOf110
  v37 := Tryz.zeroValue110
  t51 := Tryz.underlying34
  a51 := Tryz.isAgg34
  z51 := Tryz.sizeOf34
  v51 := Tryz.zeroValue34
  t53 := Tryz.underlying162
  a53 := Tryz.isAgg162
  z53 := Tryz.sizeOf162
  v53 := Tryz.zeroValue162 }
open Go.RowKit Go.Sort Go.Lib in
/-- internal/strconv.formatBase10: "formatBase10 formats the decimal representation of u into a. The caller is responsible for ensuring that a is big enough to hold u. If a is too big, leading zeros will be filled in as needed.": THE ROW HOLDS u's DIGITS ('FmtInv .. 0 ..': every place t holds 'dg u (len - 1 - t)'); all else is as it was but for the count of draws. (LAID: no walk: one application.) -/
theorem Tryz.internal_strconv_formatBase10 (blk off cap : Nat) (u : Nat) (d : Array UInt8) (w : World) (hH : Holds (fun (b : UInt8) => Value.int .u8 (b.toNat : Int)) w blk off d) (hu : u < 10 ^ d.size) (hu64 : u < 18446744073709551616) (hsz : d.size < 4611686018427387904) :
    Calls Tryz.prog 172 #[.slice (some ⟨blk, off, none⟩) d.size cap, .int .u64 u] w fun e w' =>
      e = .returned (.tuple #[]) ∧ ∃ (n v' : Nat) (dk : Array UInt8), w' = (putRow (fun (b : UInt8) => Value.int .u8 (b.toNat : Int)) w blk off dk).drewN n ∧ FmtInv d.size u 0 v' dk := Any.internal_strconv_formatBase10 Tryz.lays285 blk off cap u d w hH hu hu64 hsz
def Tryz.laysM171_ren : Go.Shelf.Ren := ⟨fun | 171 => 64 | 243 => 117 | 246 => 153 | 283 => 170 | 284 => 171 | 285 => 172 | 286 => 173 | 129 => 190 | 317 => 189 | 318 => 191 | 319 => 192 | 320 => 193 | 337 => 199 | 338 => 200 | n => n, fun | 3 => 3 | 9 => 9 | 2 => 2 | 4 => 4 | 171 => 175 | 0 => 0 | 53 => 162 | 37 => 110 | 5 => 5 | 173 => 178 | 212 => 194 | 51 => 34 | 20 => 20 | 213 => 195 | 46 => 173 | 232 => 203 | 233 => 204 | n => n, fun | 17 => 1 | 18 => 2 | 19 => 3 | n => n⟩
theorem Tryz.laysM171 : Go.Proofs.LaysM.n171 Tryz.prog Tryz.laysM171_ren := {
  mixed := by kernel_rfl
  f129 := Tryz.func190.trans (congrArg some (by kernel_rfl))
  f171 := Tryz.func64.trans (congrArg some (by kernel_rfl))
  f243 := Tryz.func117.trans (congrArg some (by kernel_rfl))
  f246 := Tryz.func153.trans (congrArg some (by kernel_rfl))
  f283 := Tryz.func170.trans (congrArg some (by kernel_rfl))
  f284 := Tryz.func171.trans (congrArg some (by kernel_rfl))
  f285 := Tryz.func172.trans (congrArg some (by kernel_rfl))
  f286 := Tryz.func173.trans (congrArg some (by kernel_rfl))
  f317 := Tryz.func189.trans (congrArg some (by kernel_rfl))
  f318 := Tryz.func191.trans (congrArg some (by kernel_rfl))
  f319 := Tryz.func192.trans (congrArg some (by kernel_rfl))
  f320 := Tryz.func193.trans (congrArg some (by kernel_rfl))
  f337 := Tryz.func199.trans (congrArg some (by kernel_rfl))
  f338 := Tryz.func200.trans (congrArg some (by kernel_rfl))
  t0 := Tryz.underlying0
  a0 := Tryz.isAgg0
  z0 := Tryz.sizeOf0
  v0 := Tryz.zeroValue0
  t2 := Tryz.underlying2
  a2 := Tryz.isAgg2
  z2 := Tryz.sizeOf2
  v2 := Tryz.zeroValue2
  t3 := Tryz.underlying3
  a3 := Tryz.isAgg3
  z3 := Tryz.sizeOf3
  v3 := Tryz.zeroValue3
  t4 := Tryz.underlying4
  a4 := Tryz.isAgg4
  z4 := Tryz.sizeOf4
  v4 := Tryz.zeroValue4
  t5 := Tryz.underlying5
  a5 := Tryz.isAgg5
  z5 := Tryz.sizeOf5
  v5 := Tryz.zeroValue5
  t9 := Tryz.underlying9
  a9 := Tryz.isAgg9
  z9 := Tryz.sizeOf9
  v9 := Tryz.zeroValue9
  t20 := Tryz.underlying20
  a20 := Tryz.isAgg20
  z20 := Tryz.sizeOf20
  v20 := Tryz.zeroValue20
  t37 := Tryz.underlying110
  a37 := Tryz.isAgg110
  z37 := Tryz.sizeOf110
  v37 := Tryz.zeroValue110
  t46 := Tryz.underlying173
  a46 := Tryz.isAgg173
  z46 := Tryz.sizeOf173
  v46 := Tryz.zeroValue173
  t51 := Tryz.underlying34
  a51 := Tryz.isAgg34
  z51 := Tryz.sizeOf34
  v51 := Tryz.zeroValue34
  t53 := Tryz.underlying162
  a53 := Tryz.isAgg162
  z53 := Tryz.sizeOf162
  v53 := Tryz.zeroValue162
  t171 := Tryz.underlying175
  a171 := Tryz.isAgg175
  z171 := Tryz.sizeOf175
  v171 := Tryz.zeroValue175
  t173 := Tryz.underlying178
  a173 := Tryz.isAgg178
  z173 := Tryz.sizeOf178
  v173 := Tryz.zeroValue178
  t212 := Tryz.underlying194
  a212 := Tryz.isAgg194
  z212 := Tryz.sizeOf194
  v212 := Tryz.zeroValue194
  t213 := Tryz.underlying195
  a213 := Tryz.isAgg195
  z213 := Tryz.sizeOf195
  t232 := Tryz.underlying203
  a232 := Tryz.isAgg203
  z232 := Tryz.sizeOf203
  v232 := Tryz.zeroValue203
  t233 := Tryz.underlying204
  a233 := Tryz.isAgg204
  z233 := Tryz.sizeOf204
  v233 := Tryz.zeroValue204
  g17 := by kernel_rfl
  g18 := by kernel_rfl
  g19 := by kernel_rfl
  i0 := by kernel_rfl
  i2 := by kernel_rfl
  i3 := by kernel_rfl
  i4 := by kernel_rfl
  i5 := by kernel_rfl
  i9 := by kernel_rfl
  i20 := by kernel_rfl
  i37 := by kernel_rfl
  i46 := by kernel_rfl
  i51 := by kernel_rfl
  i53 := by kernel_rfl
  i171 := by kernel_rfl
  i173 := by kernel_rfl
  i212 := by kernel_rfl
  i232 := by kernel_rfl
  i233 := by kernel_rfl
  m17 := by kernel_rfl
  m18 := by kernel_rfl
  m19 := by kernel_rfl }
open Go.RowKit Go.Sort Go.Lib in
/-- strconv.Itoa: "Itoa is equivalent to FormatInt(int64(i), 10).": i's DECIMAL NUMERAL ('Lib.itoa': a '-' where i is negative, then the digits), FOR EVERY int. The world behind the call: the world before it, new blocks behind the heap (the library's 'var a [24]byte'), draws. (LAID: no walk: one application.) -/
theorem Tryz.strconv_Itoa (n : Int) (h0 : -9223372036854775808 ≤ n) (h1 : n ≤ 9223372036854775807) (w : World) (htab : Lib.TabIs Tryz.prog w "internal/strconv.uint64pow10" .u64 Lib.pow10Tab) :
    Calls Tryz.prog 64 #[.int .i64 n] w fun e w' => e = .returned (.string ⟨(Lib.itoa n).toArray⟩) ∧ ∃ k os, w' = grow (w.drewN k) os := Any.strconv_Itoa Tryz.laysM171 n h0 h1 w htab
def Tryz.laysPu14_ren : Go.Shelf.Ren := ⟨fun | 14 => 223 | 16 => 226 | 17 => 227 | 19 => 230 | 20 => 231 | 21 => 232 | 22 => 233 | 23 => 234 | 24 => 235 | 25 => 238 | 27 => 64 | 26 => 239 | 28 => 117 | 29 => 153 | 30 => 170 | 31 => 171 | 32 => 172 | 33 => 173 | 35 => 190 | 34 => 189 | 36 => 191 | 37 => 192 | 38 => 193 | 39 => 199 | 40 => 200 | n => n, fun | 9 => 9 | 3 => 3 | 22 => 162 | 24 => 156 | 25 => 218 | 4 => 4 | 34 => 228 | 5 => 5 | 36 => 173 | 37 => 110 | 0 => 0 | 39 => 230 | 21 => 21 | 44 => 237 | 47 => 174 | 50 => 242 | 48 => 240 | 2 => 2 | 52 => 175 | 55 => 178 | 59 => 194 | 60 => 34 | 20 => 20 | 61 => 195 | 65 => 203 | 66 => 204 | 67 => 159 | n => n, fun | 0 => 6 | 1 => 7 | 2 => 1 | 3 => 2 | 4 => 3 | n => n⟩
theorem Tryz.laysPu14 : Go.Proofs.LaysPu.n14 Tryz.prog Tryz.laysPu14_ren := {
  mixed := by kernel_rfl
  f14 := Tryz.func223.trans (congrArg some (by kernel_rfl))
  f16 := Tryz.func226.trans (congrArg some (by kernel_rfl))
  f17 := Tryz.func227.trans (congrArg some (by kernel_rfl))
  f19 := Tryz.func230.trans (congrArg some (by kernel_rfl))
  f20 := Tryz.func231.trans (congrArg some (by kernel_rfl))
  f21 := Tryz.func232.trans (congrArg some (by kernel_rfl))
  f22 := Tryz.func233.trans (congrArg some (by kernel_rfl))
  f23 := Tryz.func234.trans (congrArg some (by kernel_rfl))
  f24 := Tryz.func235.trans (congrArg some (by kernel_rfl))
  f25 := Tryz.func238.trans (congrArg some (by kernel_rfl))
  f26 := Tryz.func239.trans (congrArg some (by kernel_rfl))
  f27 := Tryz.func64.trans (congrArg some (by kernel_rfl))
  f28 := Tryz.func117.trans (congrArg some (by kernel_rfl))
  f29 := Tryz.func153.trans (congrArg some (by kernel_rfl))
  f30 := Tryz.func170.trans (congrArg some (by kernel_rfl))
  f31 := Tryz.func171.trans (congrArg some (by kernel_rfl))
  f32 := Tryz.func172.trans (congrArg some (by kernel_rfl))
  f33 := Tryz.func173.trans (congrArg some (by kernel_rfl))
  f34 := Tryz.func189.trans (congrArg some (by kernel_rfl))
  f35 := Tryz.func190.trans (congrArg some (by kernel_rfl))
  f36 := Tryz.func191.trans (congrArg some (by kernel_rfl))
  f37 := Tryz.func192.trans (congrArg some (by kernel_rfl))
  f38 := Tryz.func193.trans (congrArg some (by kernel_rfl))
  f39 := Tryz.func199.trans (congrArg some (by kernel_rfl))
  f40 := Tryz.func200.trans (congrArg some (by kernel_rfl))
  t0 := Tryz.underlying0
  a0 := Tryz.isAgg0
  z0 := Tryz.sizeOf0
  v0 := Tryz.zeroValue0
  i0 := by kernel_rfl
  t2 := Tryz.underlying2
  a2 := Tryz.isAgg2
  z2 := Tryz.sizeOf2
  v2 := Tryz.zeroValue2
  i2 := by kernel_rfl
  t3 := Tryz.underlying3
  a3 := Tryz.isAgg3
  z3 := Tryz.sizeOf3
  v3 := Tryz.zeroValue3
  i3 := by kernel_rfl
  t4 := Tryz.underlying4
  a4 := Tryz.isAgg4
  z4 := Tryz.sizeOf4
  v4 := Tryz.zeroValue4
  i4 := by kernel_rfl
  t5 := Tryz.underlying5
  a5 := Tryz.isAgg5
  z5 := Tryz.sizeOf5
  v5 := Tryz.zeroValue5
  i5 := by kernel_rfl
  t9 := Tryz.underlying9
  a9 := Tryz.isAgg9
  z9 := Tryz.sizeOf9
  v9 := Tryz.zeroValue9
  i9 := by kernel_rfl
  t20 := Tryz.underlying20
  a20 := Tryz.isAgg20
  z20 := Tryz.sizeOf20
  v20 := Tryz.zeroValue20
  i20 := by kernel_rfl
  t21 := Tryz.underlying21
  a21 := Tryz.isAgg21
  z21 := Tryz.sizeOf21
  v21 := Tryz.zeroValue21
  i21 := by kernel_rfl
  t22 := Tryz.underlying162
  a22 := Tryz.isAgg162
  z22 := Tryz.sizeOf162
  v22 := Tryz.zeroValue162
  i22 := by kernel_rfl
  t24 := Tryz.underlying156
  a24 := Tryz.isAgg156
  z24 := Tryz.sizeOf156
  v24 := Tryz.zeroValue156
  i24 := by kernel_rfl
  t25 := Tryz.underlying218
  a25 := Tryz.isAgg218
  z25 := Tryz.sizeOf218
  v25 := Tryz.zeroValue218
  i25 := by kernel_rfl
  t34 := Tryz.underlying228
  a34 := Tryz.isAgg228
  z34 := Tryz.sizeOf228
  v34 := Tryz.zeroValue228
  i34 := by kernel_rfl
  c34 := by kernel_rfl
  t36 := Tryz.underlying173
  a36 := Tryz.isAgg173
  z36 := Tryz.sizeOf173
  v36 := Tryz.zeroValue173
  i36 := by kernel_rfl
  t37 := Tryz.underlying110
  a37 := Tryz.isAgg110
  z37 := Tryz.sizeOf110
  v37 := Tryz.zeroValue110
  i37 := by kernel_rfl
  t39 := Tryz.underlying230
  a39 := Tryz.isAgg230
  z39 := Tryz.sizeOf230
  v39 := Tryz.zeroValue230
  i39 := by kernel_rfl
  t44 := Tryz.underlying237
  a44 := Tryz.isAgg237
  z44 := Tryz.sizeOf237
  v44 := Tryz.zeroValue237
  i44 := by kernel_rfl
  t47 := Tryz.underlying174
  a47 := Tryz.isAgg174
  z47 := Tryz.sizeOf174
  v47 := Tryz.zeroValue174
  i47 := by kernel_rfl
  t48 := Tryz.underlying240
  a48 := Tryz.isAgg240
  z48 := Tryz.sizeOf240
  v48 := Tryz.zeroValue240
  i48 := by kernel_rfl
  t50 := Tryz.underlying242
  a50 := Tryz.isAgg242
  z50 := Tryz.sizeOf242
  v50 := Tryz.zeroValue242
  i50 := by kernel_rfl
  t52 := Tryz.underlying175
  a52 := Tryz.isAgg175
  z52 := Tryz.sizeOf175
  v52 := Tryz.zeroValue175
  i52 := by kernel_rfl
  t55 := Tryz.underlying178
  a55 := Tryz.isAgg178
  z55 := Tryz.sizeOf178
  v55 := Tryz.zeroValue178
  i55 := by kernel_rfl
  t59 := Tryz.underlying194
  a59 := Tryz.isAgg194
  z59 := Tryz.sizeOf194
  v59 := Tryz.zeroValue194
  i59 := by kernel_rfl
  t60 := Tryz.underlying34
  a60 := Tryz.isAgg34
  z60 := Tryz.sizeOf34
  v60 := Tryz.zeroValue34
  i60 := by kernel_rfl
  t61 := Tryz.underlying195
  a61 := Tryz.isAgg195
  z61 := Tryz.sizeOf195
  t65 := Tryz.underlying203
  a65 := Tryz.isAgg203
  z65 := Tryz.sizeOf203
  v65 := Tryz.zeroValue203
  i65 := by kernel_rfl
  t66 := Tryz.underlying204
  a66 := Tryz.isAgg204
  z66 := Tryz.sizeOf204
  v66 := Tryz.zeroValue204
  i66 := by kernel_rfl
  t67 := Tryz.underlying159
  a67 := Tryz.isAgg159
  z67 := Tryz.sizeOf159
  v67 := Tryz.zeroValue159
  i67 := by kernel_rfl
  g0 := by kernel_rfl
  m0 := by kernel_rfl
  g1 := by kernel_rfl
  m1 := by kernel_rfl
  g2 := by kernel_rfl
  m2 := by kernel_rfl
  g3 := by kernel_rfl
  m3 := by kernel_rfl
  g4 := by kernel_rfl
  m4 := by kernel_rfl }
open Go.RowKit in
/-- strconv.ParseUint(s, 10, 64), AT EVERY STRING THAT SPELLS A uint64 ('Lib.parseUintB 64 s.data.toList = .ok u'): u, AND NO ERROR. (LAID: no walk: one application.) -/
theorem Tryz.strconv_ParseUint_10_at64_ok (s : ByteArray) (hmax : s.size ≤ 9223372036854775806) (u : Nat) (h : Lib.parseUintB 64 s.data.toList = .ok u) (w : World) :
    Calls Tryz.prog 223 #[.string s, .int .i64 10, .int .i64 64] w fun e w' => e = .returned (.tuple #[.int .u64 u, .nilIface]) ∧ (w' = w ∨ w' = Lib.bytesWorld w 5 s) := Any.strconv_ParseUint_10_at64_ok Tryz.laysPu14 s hmax u h w
open Go.RowKit in
/-- strconv.ParseUint(s, 10, 64), AT EVERY STRING THAT IS NO ROW OF DECIMAL DIGITS (a sign is a fault): 0, AND AN ERROR THAT IS NOT nil: a *NumError in a new block N: {Func: "ParseUint", Num: s's bytes, Err: what the variable ErrSyntax holds}. Of what was there nothing has turned. (LAID: no walk: one application.) -/
theorem Tryz.strconv_ParseUint_10_at64_syntax (s : ByteArray) (hlim : s.size ≤ 281474976710656) (h : Lib.parseUintB 64 s.data.toList = .«syntax») (ev : Value) (w : World) (hv : w.cell? ⟨6, 0, none⟩ = some ev) (hev : ev = .nilIface ∨ ∃ te pe, ev = .iface te pe) :
    Calls Tryz.prog 223 #[.string s, .int .i64 10, .int .i64 64] w fun e w' => ∃ N, e = .returned (.tuple #[.int .u64 0, .iface 230 (.pointer (some ⟨N, 0, none⟩))]) ∧ w.heap.size ≤ N ∧ w'.heap[N]? = some (.cells #[.string ⟨#[80, 97, 114, 115, 101, 85, 105, 110, 116]⟩, .string s, ev] 237 (0, 0)) ∧ Below w.heap.size w w' := Any.strconv_ParseUint_10_at64_syntax Tryz.laysPu14 s hlim h ev w hv hev
open Go.RowKit in
/-- strconv.ParseUint(s, 10, 64), AT EVERY NUMERAL THAT NO uint64 HOLDS: THE GREATEST uint64, AND AN ERROR THAT IS NOT nil: a *NumError in a new block N: {Func: "ParseUint", Num: s's bytes, Err: what the variable ErrRange holds}. Of what was there nothing has turned. (LAID: no walk: one application.) -/
theorem Tryz.strconv_ParseUint_10_at64_range (s : ByteArray) (hlim : s.size ≤ 281474976710656) (h : Lib.parseUintB 64 s.data.toList = .range) (ev : Value) (w : World) (hv : w.cell? ⟨7, 0, none⟩ = some ev) (hev : ev = .nilIface ∨ ∃ te pe, ev = .iface te pe) :
    Calls Tryz.prog 223 #[.string s, .int .i64 10, .int .i64 64] w fun e w' => ∃ N, e = .returned (.tuple #[.int .u64 18446744073709551615, .iface 230 (.pointer (some ⟨N, 0, none⟩))]) ∧ w.heap.size ≤ N ∧ w'.heap[N]? = some (.cells #[.string ⟨#[80, 97, 114, 115, 101, 85, 105, 110, 116]⟩, .string s, ev] 237 (0, 0)) ∧ Below w.heap.size w w' := Any.strconv_ParseUint_10_at64_range Tryz.laysPu14 s hlim h ev w hv hev
open Go.RowKit in
/-- strconv.ParseUint(s, 10, 8), AT EVERY STRING THAT SPELLS A uint8 ('Lib.parseUintB 8 s.data.toList = .ok u'): u, AND NO ERROR. (LAID: no walk: one application.) -/
theorem Tryz.strconv_ParseUint_10_at8_ok (s : ByteArray) (hmax : s.size ≤ 9223372036854775806) (u : Nat) (h : Lib.parseUintB 8 s.data.toList = .ok u) (w : World) :
    Calls Tryz.prog 223 #[.string s, .int .i64 10, .int .i64 8] w fun e w' => e = .returned (.tuple #[.int .u64 u, .nilIface]) ∧ (w' = w ∨ w' = Lib.bytesWorld w 5 s) := Any.strconv_ParseUint_10_at8_ok Tryz.laysPu14 s hmax u h w
open Go.RowKit in
/-- strconv.ParseUint(s, 10, 8), AT EVERY STRING THAT IS NO ROW OF DECIMAL DIGITS (a sign is a fault): 0, AND AN ERROR THAT IS NOT nil: a *NumError in a new block N: {Func: "ParseUint", Num: s's bytes, Err: what the variable ErrSyntax holds}. Of what was there nothing has turned. (LAID: no walk: one application.) -/
theorem Tryz.strconv_ParseUint_10_at8_syntax (s : ByteArray) (hlim : s.size ≤ 281474976710656) (h : Lib.parseUintB 8 s.data.toList = .«syntax») (ev : Value) (w : World) (hv : w.cell? ⟨6, 0, none⟩ = some ev) (hev : ev = .nilIface ∨ ∃ te pe, ev = .iface te pe) :
    Calls Tryz.prog 223 #[.string s, .int .i64 10, .int .i64 8] w fun e w' => ∃ N, e = .returned (.tuple #[.int .u64 0, .iface 230 (.pointer (some ⟨N, 0, none⟩))]) ∧ w.heap.size ≤ N ∧ w'.heap[N]? = some (.cells #[.string ⟨#[80, 97, 114, 115, 101, 85, 105, 110, 116]⟩, .string s, ev] 237 (0, 0)) ∧ Below w.heap.size w w' := Any.strconv_ParseUint_10_at8_syntax Tryz.laysPu14 s hlim h ev w hv hev
open Go.RowKit in
/-- strconv.ParseUint(s, 10, 8), AT EVERY NUMERAL THAT NO uint8 HOLDS: THE GREATEST uint8, AND AN ERROR THAT IS NOT nil: a *NumError in a new block N: {Func: "ParseUint", Num: s's bytes, Err: what the variable ErrRange holds}. Of what was there nothing has turned. (LAID: no walk: one application.) -/
theorem Tryz.strconv_ParseUint_10_at8_range (s : ByteArray) (hlim : s.size ≤ 281474976710656) (h : Lib.parseUintB 8 s.data.toList = .range) (ev : Value) (w : World) (hv : w.cell? ⟨7, 0, none⟩ = some ev) (hev : ev = .nilIface ∨ ∃ te pe, ev = .iface te pe) :
    Calls Tryz.prog 223 #[.string s, .int .i64 10, .int .i64 8] w fun e w' => ∃ N, e = .returned (.tuple #[.int .u64 255, .iface 230 (.pointer (some ⟨N, 0, none⟩))]) ∧ w.heap.size ≤ N ∧ w'.heap[N]? = some (.cells #[.string ⟨#[80, 97, 114, 115, 101, 85, 105, 110, 116]⟩, .string s, ev] 237 (0, 0)) ∧ Below w.heap.size w w' := Any.strconv_ParseUint_10_at8_range Tryz.laysPu14 s hlim h ev w hv hev
def Tryz.lays143_ren : Go.Shelf.Ren := ⟨fun | 143 => 131 | 219 => 158 | 217 => 178 | 225 => 179 | 224 => 180 | 267 => 181 | 266 => 195 | 314 => 196 | n => n, fun | 9 => 9 | 3 => 3 | 4 => 4 | 5 => 5 | 46 => 173 | 146 => 198 | 51 => 34 | n => n, fun | 1 => 0 | n => n⟩
theorem Tryz.lays143 : Go.Proofs.Lays.n143 Tryz.prog Tryz.lays143_ren := {
  mixed := by kernel_rfl
  f143 := Tryz.func131.trans (congrArg some (by kernel_rfl))
  f217 := Tryz.func178.trans (congrArg some (by kernel_rfl))
  f219 := Tryz.func158.trans (congrArg some (by kernel_rfl))
  f224 := Tryz.func180.trans (congrArg some (by kernel_rfl))
  f225 := Tryz.func179.trans (congrArg some (by kernel_rfl))
  f266 := Tryz.func195.trans (congrArg some (by kernel_rfl))
  f267 := Tryz.func181.trans (congrArg some (by kernel_rfl))
  f314 := Tryz.func196.trans (congrArg some (by kernel_rfl))
  t3 := Tryz.underlying3
  a3 := Tryz.isAgg3
  z3 := Tryz.sizeOf3
  v3 := Tryz.zeroValue3
  t4 := Tryz.underlying4
  a4 := Tryz.isAgg4
  z4 := Tryz.sizeOf4
  v4 := Tryz.zeroValue4
  t5 := Tryz.underlying5
  a5 := Tryz.isAgg5
  z5 := Tryz.sizeOf5
  v5 := Tryz.zeroValue5
  t9 := Tryz.underlying9
  a9 := Tryz.isAgg9
  z9 := Tryz.sizeOf9
  v9 := Tryz.zeroValue9
  t46 := Tryz.underlying173
  a46 := Tryz.isAgg173
  z46 := Tryz.sizeOf173
  v46 := Tryz.zeroValue173
  t51 := Tryz.underlying34
  a51 := Tryz.isAgg34
  z51 := Tryz.sizeOf34
  v51 := Tryz.zeroValue34
  t146 := Tryz.underlying198
  a146 := Tryz.isAgg198
  z146 := Tryz.sizeOf198
  v146 := Tryz.zeroValue198
  g1 := by kernel_rfl }
open Go.RowKit Go.Lib in
/-- strings.Index: "Index returns the index of the first instance of substr in s, or -1 if substr is not present in s.": IT RETURNS 'Lib.index s substr'; the world is as it was. (LAID: no walk: one application.) -/
theorem Tryz.strings_Index (s sub : ByteArray) (m : Int) (w : World) (hs : s.size < 4294967281) (hm : w.cell? ⟨0, 0, none⟩ = some (.int .i64 m)) :
    Calls Tryz.prog 131 #[.string s, .string sub] w fun e w' => e = .returned (.int .i64 (Lib.index s.data.toList sub.data.toList)) ∧ w' = w := Any.strings_Index Tryz.lays143 s sub m w hs hm
def Tryz.lays144_ren : Go.Shelf.Ren := ⟨fun | 144 => 133 | 143 => 131 | 219 => 158 | 217 => 178 | 225 => 179 | 224 => 180 | 267 => 181 | 266 => 195 | 314 => 196 | n => n, fun | 9 => 9 | 4 => 4 | 3 => 3 | 5 => 5 | 46 => 173 | 146 => 198 | 51 => 34 | n => n, fun | 1 => 0 | n => n⟩
theorem Tryz.lays144 : Go.Proofs.Lays.n144 Tryz.prog Tryz.lays144_ren := {
  mixed := by kernel_rfl
  f143 := Tryz.func131.trans (congrArg some (by kernel_rfl))
  f144 := Tryz.func133.trans (congrArg some (by kernel_rfl))
  f217 := Tryz.func178.trans (congrArg some (by kernel_rfl))
  f219 := Tryz.func158.trans (congrArg some (by kernel_rfl))
  f224 := Tryz.func180.trans (congrArg some (by kernel_rfl))
  f225 := Tryz.func179.trans (congrArg some (by kernel_rfl))
  f266 := Tryz.func195.trans (congrArg some (by kernel_rfl))
  f267 := Tryz.func181.trans (congrArg some (by kernel_rfl))
  f314 := Tryz.func196.trans (congrArg some (by kernel_rfl))
  t3 := Tryz.underlying3
  a3 := Tryz.isAgg3
  z3 := Tryz.sizeOf3
  v3 := Tryz.zeroValue3
  t4 := Tryz.underlying4
  a4 := Tryz.isAgg4
  z4 := Tryz.sizeOf4
  v4 := Tryz.zeroValue4
  t5 := Tryz.underlying5
  a5 := Tryz.isAgg5
  z5 := Tryz.sizeOf5
  v5 := Tryz.zeroValue5
  t9 := Tryz.underlying9
  a9 := Tryz.isAgg9
  z9 := Tryz.sizeOf9
  v9 := Tryz.zeroValue9
  t46 := Tryz.underlying173
  a46 := Tryz.isAgg173
  z46 := Tryz.sizeOf173
  v46 := Tryz.zeroValue173
  t51 := Tryz.underlying34
  a51 := Tryz.isAgg34
  z51 := Tryz.sizeOf34
  v51 := Tryz.zeroValue34
  t146 := Tryz.underlying198
  a146 := Tryz.isAgg198
  z146 := Tryz.sizeOf198
  v146 := Tryz.zeroValue198
  g1 := by kernel_rfl }
open Go.RowKit Go.Lib in
/-- strings.Contains: "Contains reports whether substr is within s.": AT A substr OF ONE BYTE c: IT RETURNS 'decide (0 ≤ Lib.indexByte s c)'; the world is as it was. (LAID: no walk: one application.) -/
theorem Tryz.strings_Contains_one (s : ByteArray) (c : UInt8) (w : World) :
    Calls Tryz.prog 133 #[.string s, .string ⟨#[c]⟩] w fun e w' => e = .returned (.bool (decide (0 ≤ Lib.indexByte s.data.toList c))) ∧ w' = w := Any.strings_Contains_one Tryz.lays144 s c w
open Go.RowKit Go.Lib in
/-- strings.Contains: "Contains reports whether substr is within s.": IT RETURNS 'Lib.contains s substr'; the world is as it was. (LAID: no walk: one application.) -/
theorem Tryz.strings_Contains (s sub : ByteArray) (m : Int) (w : World) (hs : s.size < 4294967281) (hm : w.cell? ⟨0, 0, none⟩ = some (.int .i64 m)) :
    Calls Tryz.prog 133 #[.string s, .string sub] w fun e w' => e = .returned (.bool (Lib.contains s.data.toList sub.data.toList)) ∧ w' = w := Any.strings_Contains Tryz.lays144 s sub m w hs hm
def Tryz.lays145_ren : Go.Shelf.Ren := ⟨fun | 145 => 224 | 220 => 228 | 219 => 158 | 217 => 178 | 225 => 179 | 224 => 180 | 267 => 181 | 266 => 195 | 314 => 196 | n => n, fun | 9 => 9 | 4 => 4 | 59 => 220 | 3 => 3 | 5 => 5 | 46 => 173 | 146 => 198 | 51 => 34 | n => n, fun | 1 => 0 | n => n⟩
theorem Tryz.lays145 : Go.Proofs.Lays.n145 Tryz.prog Tryz.lays145_ren := {
  mixed := by kernel_rfl
  f145 := Tryz.func224.trans (congrArg some (by kernel_rfl))
  f217 := Tryz.func178.trans (congrArg some (by kernel_rfl))
  f219 := Tryz.func158.trans (congrArg some (by kernel_rfl))
  f220 := Tryz.func228.trans (congrArg some (by kernel_rfl))
  f224 := Tryz.func180.trans (congrArg some (by kernel_rfl))
  f225 := Tryz.func179.trans (congrArg some (by kernel_rfl))
  f266 := Tryz.func195.trans (congrArg some (by kernel_rfl))
  f267 := Tryz.func181.trans (congrArg some (by kernel_rfl))
  f314 := Tryz.func196.trans (congrArg some (by kernel_rfl))
  t3 := Tryz.underlying3
  a3 := Tryz.isAgg3
  z3 := Tryz.sizeOf3
  v3 := Tryz.zeroValue3
  t4 := Tryz.underlying4
  a4 := Tryz.isAgg4
  z4 := Tryz.sizeOf4
  v4 := Tryz.zeroValue4
  t5 := Tryz.underlying5
  a5 := Tryz.isAgg5
  z5 := Tryz.sizeOf5
  v5 := Tryz.zeroValue5
  t9 := Tryz.underlying9
  a9 := Tryz.isAgg9
  z9 := Tryz.sizeOf9
  v9 := Tryz.zeroValue9
  t46 := Tryz.underlying173
  a46 := Tryz.isAgg173
  z46 := Tryz.sizeOf173
  v46 := Tryz.zeroValue173
  t51 := Tryz.underlying34
  a51 := Tryz.isAgg34
  z51 := Tryz.sizeOf34
  v51 := Tryz.zeroValue34
  t59 := Tryz.underlying220
  a59 := Tryz.isAgg220
  z59 := Tryz.sizeOf220
  v59 := Tryz.zeroValue220
  t146 := Tryz.underlying198
  a146 := Tryz.isAgg198
  z146 := Tryz.sizeOf198
  v146 := Tryz.zeroValue198
  g1 := by kernel_rfl }
open Go.RowKit Go.Lib in
/-- strings.Cut: "Cut slices s around the first instance of sep, returning the text before and after sep. The found result reports whether sep appears in s. If sep does not appear in s, cut returns s, "", false.": IT RETURNS 'Lib.cut s sep'; the world is as it was but for the count of draws. (LAID: no walk: one application.) -/
theorem Tryz.strings_Cut (s sep : ByteArray) (m : Int) (w : World) (hs : s.size < 4294967281) (hm : w.cell? ⟨0, 0, none⟩ = some (.int .i64 m)) :
    Calls Tryz.prog 224 #[.string s, .string sep] w fun e w' => e = .returned (.tuple #[.string ⟨(Lib.cut s.data.toList sep.data.toList).1.toArray⟩, .string ⟨(Lib.cut s.data.toList sep.data.toList).2.1.toArray⟩, .bool (Lib.cut s.data.toList sep.data.toList).2.2]) ∧ ∃ n, w' = w.drewN n := Any.strings_Cut Tryz.lays145 s sep m w hs hm
def Tryz.lays138_ren : Go.Shelf.Ren := ⟨fun | 138 => 105 | 195 => 129 | 218 => 130 | 143 => 131 | 219 => 158 | 217 => 178 | 225 => 179 | 224 => 180 | 267 => 181 | 266 => 195 | 314 => 196 | n => n, fun | 9 => 9 | 3 => 3 | 4 => 4 | 5 => 5 | 0 => 0 | 46 => 173 | 146 => 198 | 51 => 34 | n => n, fun | 1 => 0 | n => n⟩
theorem Tryz.lays138 : Go.Proofs.Lays.n138 Tryz.prog Tryz.lays138_ren := {
  mixed := by kernel_rfl
  f138 := Tryz.func105.trans (congrArg some (by kernel_rfl))
  f143 := Tryz.func131.trans (congrArg some (by kernel_rfl))
  f195 := Tryz.func129.trans (congrArg some (by kernel_rfl))
  f217 := Tryz.func178.trans (congrArg some (by kernel_rfl))
  f218 := Tryz.func130.trans (congrArg some (by kernel_rfl))
  f219 := Tryz.func158.trans (congrArg some (by kernel_rfl))
  f224 := Tryz.func180.trans (congrArg some (by kernel_rfl))
  f225 := Tryz.func179.trans (congrArg some (by kernel_rfl))
  f266 := Tryz.func195.trans (congrArg some (by kernel_rfl))
  f267 := Tryz.func181.trans (congrArg some (by kernel_rfl))
  f314 := Tryz.func196.trans (congrArg some (by kernel_rfl))
  t0 := Tryz.underlying0
  a0 := Tryz.isAgg0
  z0 := Tryz.sizeOf0
  v0 := Tryz.zeroValue0
  t3 := Tryz.underlying3
  a3 := Tryz.isAgg3
  z3 := Tryz.sizeOf3
  v3 := Tryz.zeroValue3
  t4 := Tryz.underlying4
  a4 := Tryz.isAgg4
  z4 := Tryz.sizeOf4
  v4 := Tryz.zeroValue4
  t5 := Tryz.underlying5
  a5 := Tryz.isAgg5
  z5 := Tryz.sizeOf5
  v5 := Tryz.zeroValue5
  t9 := Tryz.underlying9
  a9 := Tryz.isAgg9
  z9 := Tryz.sizeOf9
  v9 := Tryz.zeroValue9
  t46 := Tryz.underlying173
  a46 := Tryz.isAgg173
  z46 := Tryz.sizeOf173
  v46 := Tryz.zeroValue173
  t51 := Tryz.underlying34
  a51 := Tryz.isAgg34
  z51 := Tryz.sizeOf34
  v51 := Tryz.zeroValue34
  t146 := Tryz.underlying198
  a146 := Tryz.isAgg198
  z146 := Tryz.sizeOf198
  v146 := Tryz.zeroValue198
  g1 := by kernel_rfl }
open Go.RowKit Go.Lib in
/-- strings.Count AT A substr OF ONE BYTE ('hp'): "Count counts the number of non-overlapping instances of substr in s.": IT RETURNS 'Lib.countByte s (that byte)'; the world is as it was. ✋ NO CONTRACT HERE YET at an empty substr (utf8.RuneCountInString) or at a longer one (a loop over strings.Index). (LAID: no walk: one application.) -/
theorem Tryz.strings_Count_one (s : ByteArray) (c : UInt8) (w : World) :
    Calls Tryz.prog 105 #[.string s, .string ⟨#[c]⟩] w fun e w' => e = .returned (.int .i64 (Lib.countByte s.data.toList c)) ∧ w' = w := Any.strings_Count_one Tryz.lays138 s c w
def Tryz.lays99_ren : Go.Shelf.Ren := ⟨fun | 99 => 137 | 206 => 160 | n => n, fun | 9 => 9 | 4 => 4 | 3 => 3 | n => n, fun | n => n⟩
theorem Tryz.lays99 : Go.Proofs.Lays.n99 Tryz.prog Tryz.lays99_ren := {
  mixed := by kernel_rfl
  f99 := Tryz.func137.trans (congrArg some (by kernel_rfl))
  f206 := Tryz.func160.trans (congrArg some (by kernel_rfl))
  t3 := Tryz.underlying3
  a3 := Tryz.isAgg3
  z3 := Tryz.sizeOf3
  v3 := Tryz.zeroValue3
  t4 := Tryz.underlying4
  a4 := Tryz.isAgg4
  z4 := Tryz.sizeOf4
  v4 := Tryz.zeroValue4
  t9 := Tryz.underlying9
  a9 := Tryz.isAgg9
  z9 := Tryz.sizeOf9
  v9 := Tryz.zeroValue9 }
open Go.RowKit Go.Lib in
/-- strings.HasPrefix: "HasPrefix reports whether the string s begins with prefix.": IT RETURNS 'Lib.hasPrefix s prefix'; the world is as it was. (LAID: no walk: one application.) -/
theorem Tryz.strings_HasPrefix (s p : ByteArray) (w : World) :
    Calls Tryz.prog 137 #[.string s, .string p] w fun e w' => e = .returned (.bool (Lib.hasPrefix s.data.toList p.data.toList)) ∧ w' = w := Any.strings_HasPrefix Tryz.lays99 s p w
def Tryz.lays146_ren : Go.Shelf.Ren := ⟨fun | 146 => 136 | 221 => 159 | 268 => 182 | 138 => 105 | 143 => 131 | 195 => 129 | 197 => 197 | 218 => 130 | 219 => 158 | 260 => 201 | 217 => 178 | 225 => 179 | 224 => 180 | 267 => 181 | 266 => 195 | 314 => 196 | n => n, fun | 9 => 9 | 31 => 86 | 3 => 3 | 4 => 4 | 0 => 0 | 105 => 200 | 21 => 21 | 5 => 5 | 46 => 173 | 119 => 205 | 139 => 208 | 138 => 207 | 146 => 198 | 51 => 34 | n => n, fun | 1 => 0 | 3 => 4 | 4 => 5 | n => n⟩
theorem Tryz.lays146 : Go.Proofs.Lays.n146 Tryz.prog Tryz.lays146_ren := {
  mixed := by kernel_rfl
  f138 := Tryz.func105.trans (congrArg some (by kernel_rfl))
  f143 := Tryz.func131.trans (congrArg some (by kernel_rfl))
  f146 := Tryz.func136.trans (congrArg some (by kernel_rfl))
  f195 := Tryz.func129.trans (congrArg some (by kernel_rfl))
  f197 := Tryz.func197.trans (congrArg some (by kernel_rfl))
  f217 := Tryz.func178.trans (congrArg some (by kernel_rfl))
  f218 := Tryz.func130.trans (congrArg some (by kernel_rfl))
  f219 := Tryz.func158.trans (congrArg some (by kernel_rfl))
  f221 := Tryz.func159.trans (congrArg some (by kernel_rfl))
  f224 := Tryz.func180.trans (congrArg some (by kernel_rfl))
  f225 := Tryz.func179.trans (congrArg some (by kernel_rfl))
  f260 := Tryz.func201.trans (congrArg some (by kernel_rfl))
  f266 := Tryz.func195.trans (congrArg some (by kernel_rfl))
  f267 := Tryz.func181.trans (congrArg some (by kernel_rfl))
  f268 := Tryz.func182.trans (congrArg some (by kernel_rfl))
  f314 := Tryz.func196.trans (congrArg some (by kernel_rfl))
  t0 := Tryz.underlying0
  a0 := Tryz.isAgg0
  z0 := Tryz.sizeOf0
  v0 := Tryz.zeroValue0
  t3 := Tryz.underlying3
  a3 := Tryz.isAgg3
  z3 := Tryz.sizeOf3
  v3 := Tryz.zeroValue3
  t4 := Tryz.underlying4
  a4 := Tryz.isAgg4
  z4 := Tryz.sizeOf4
  v4 := Tryz.zeroValue4
  t5 := Tryz.underlying5
  a5 := Tryz.isAgg5
  z5 := Tryz.sizeOf5
  v5 := Tryz.zeroValue5
  t9 := Tryz.underlying9
  a9 := Tryz.isAgg9
  z9 := Tryz.sizeOf9
  v9 := Tryz.zeroValue9
  t21 := Tryz.underlying21
  a21 := Tryz.isAgg21
  z21 := Tryz.sizeOf21
  v21 := Tryz.zeroValue21
  t31 := Tryz.underlying86
  a31 := Tryz.isAgg86
  z31 := Tryz.sizeOf86
  v31 := Tryz.zeroValue86
  t46 := Tryz.underlying173
  a46 := Tryz.isAgg173
  z46 := Tryz.sizeOf173
  v46 := Tryz.zeroValue173
  t51 := Tryz.underlying34
  a51 := Tryz.isAgg34
  z51 := Tryz.sizeOf34
  v51 := Tryz.zeroValue34
  t105 := Tryz.underlying200
  a105 := Tryz.isAgg200
  z105 := Tryz.sizeOf200
  v105 := Tryz.zeroValue200
  t119 := Tryz.underlying205
  a119 := Tryz.isAgg205
  z119 := Tryz.sizeOf205
  t138 := Tryz.underlying207
  a138 := Tryz.isAgg207
  z138 := Tryz.sizeOf207
  v138 := Tryz.zeroValue207
  t139 := Tryz.underlying208
  a139 := Tryz.isAgg208
  z139 := Tryz.sizeOf208
  v139 := Tryz.zeroValue208
  t146 := Tryz.underlying198
  a146 := Tryz.isAgg198
  z146 := Tryz.sizeOf198
  v146 := Tryz.zeroValue198
  g1 := by kernel_rfl
  g3 := by kernel_rfl
  g4 := by kernel_rfl }
open Go.RowKit Go.Lib in
/-- strings.Split. (LAID: no walk: one application.) -/
theorem Tryz.strings_Split (s sep : ByteArray) (m : Int) (w : World) (hs : s.size < 4294967281) (hm : w.cell? ⟨0, 0, none⟩ = some (.int .i64 m)) (h1 : 1 ≤ sep.size) :
    Calls Tryz.prog 136 #[.string s, .string sep] w fun e w' =>
      e = .returned (.slice (some ⟨w.heap.size, 0, none⟩) (Lib.countB s sep + 1) (Lib.countB s sep + 1)) ∧ w' = w.alloc (.cells ((Lib.splitB sep 0 (Lib.countB s sep) s).map Value.string).toArray 9) := Any.strings_Split Tryz.lays146 (by kernel_rfl) s sep m w hs hm h1
end Go.Proofs
end

section
/- strings.Builder's writers over this program; FormatUint at base 10. -/
namespace Go.Proofs.YtffkaphbgfdpaaaGreatDoor
open Go.RowKit Go.Shelf Go.Sort
set_option linter.unusedVariables false
set_option linter.unusedSimpArgs false

abbrev TB : TypeId := 153
theorem sizeB : (Tryz.prog.info? 153).map (·.size) = some 2 := by kernel_rfl
theorem liesB : liesAt Tryz.prog Tryz.prog.depth 153 (2 / Tryz.prog.cellsOf 153) 0 153 1 = true := by kernel_rfl
theorem infoByte : (Tryz.prog.info? 5).map (fun i => (i.zero, i.size, i.bytes)) = some (some (.int .u8 0), 1, 1) := by kernel_rfl
set_option maxHeartbeats 1000000 in
set_option maxRecDepth 100000 in
theorem copyCheck_used (b : Nat) (w : World) (h0 : w.cell? ⟨b, 0, none⟩ = some (.pointer (some ⟨b, 0, none⟩))) :
    Calls Tryz.prog 168 #[.pointer (some ⟨b, 0, none⟩)] w fun e w' => e = .returned (.tuple #[]) ∧ w' = w := by
  obtain ⟨j, hj, _⟩ := Option.map_eq_some_iff.1 sizeB
  go_enter Tryz.func168, Tryz.ntmps168
  go_wp2
  rw [Lib.run_neq_ptr_same w _ Tryz.underlying151 hj]
  go_wp2
  go_end0
  exact ⟨rfl, rfl⟩
set_option maxHeartbeats 1000000 in
set_option maxRecDepth 100000 in
theorem copyCheck_fresh (b : Nat) (w : World) (h0 : w.cell? ⟨b, 0, none⟩ = some (.pointer none)) (hsh : w.shape? b = some (153, 2)) (hfz : w.frozen? ⟨b, 0, none⟩ = false) :
    Calls Tryz.prog 168 #[.pointer (some ⟨b, 0, none⟩)] w fun e w' => e = .returned (.tuple #[]) ∧ w' = w.setCell ⟨b, 0, none⟩ (.pointer (some ⟨b, 0, none⟩)) := by
  obtain ⟨j, hj, hjs⟩ := Option.map_eq_some_iff.1 sizeB
  go_enter Tryz.func168, Tryz.ntmps168
  go_wp2
  rw [Lib.run_to_unsafe w ⟨b, 0, none⟩ Tryz.underlying151 Tryz.underlying190 hj (by rw [hjs]; decide) hsh (Nat.zero_lt_succ 1)]
  simp only [Result.andThen]
  rw [Oper.upon_value]
  go_wp2
  rw [run_callFunc_extern Tryz.func187 (by kernel_rfl) (by kernel_rfl) (by kernel_rfl) (e := Extern.AbiNoEscape.same) (by kernel_rfl)]
  rw [Lib.run_noEscape]
  simp only [Result.andThen]
  rw [Oper.upon_value]
  go_wp2
  rw [Lib.run_from_unsafe w ⟨b, 0, none⟩ Tryz.underlying190 Tryz.underlying151 hj hsh liesB]
  simp only [Result.andThen]
  rw [Oper.upon_value]
  go_wp2
  go_end0
  exact ⟨rfl, rfl⟩
theorem copyCheck_any (B b : Nat) (bs : List Value) (w : World) (h : Lib.IsBuilder 153 5 B b bs w) :
    Calls Tryz.prog 168 #[.pointer (some ⟨b, 0, none⟩)] w fun e w' => e = .returned (.tuple #[]) ∧ (Lib.BuilderAt 153 5 B b (.pointer (some ⟨b, 0, none⟩)) bs w' ∧ Below B w w') := by
  rcases h with h | h
  · refine (copyCheck_fresh b w h.cell0 h.shape h.frozen0).mono ?_
    rintro e w' ⟨rfl, rfl⟩
    exact ⟨rfl, h.used _, (Below.refl B w).setCell (p := ⟨b, 0, none⟩) h.1 _⟩
  · refine (copyCheck_used b w h.cell0).mono ?_
    rintro e w' ⟨rfl, rfl⟩
    exact ⟨rfl, h, Below.refl B _⟩
set_option maxHeartbeats 2000000 in
set_option maxRecDepth 100000 in
theorem writeByte_any (B b : Nat) (bs : List Value) (c : Int) (w : World) (h : Lib.IsBuilder 153 5 B b bs w) (hlen : bs.length + 1 ≤ 140737488355328) (hBw : B ≤ w.heap.size) :
    Calls Tryz.prog 177 #[.pointer (some ⟨b, 0, none⟩), .int .u8 c] w fun e w' => e = .returned .nilIface ∧ (Lib.BuilderAt 153 5 B b (.pointer (some ⟨b, 0, none⟩)) (bs ++ [.int .u8 c]) w' ∧ Below B w w') := by
  obtain ⟨i0, hi, hz0, hz1, hz2⟩ := info_parts infoByte
  go_enter Tryz.func177, Tryz.ntmps177
  go_wp2_with (go_at_call 168; refine (copyCheck_any B b bs _ h).mono ?_)
  rintro e w1 ⟨rfl, h1, hb1⟩
  obtain ⟨hB, v, hbk, hown, hne⟩ := h1
  have c0 : w1.cell? ⟨b, 0, none⟩ = some (.pointer (some ⟨b, 0, none⟩)) := by rw [Lib.cell_of_heap hbk]; rfl
  have c1 : w1.cell? ⟨b, 1, none⟩ = some v := by rw [Lib.cell_of_heap hbk]; rfl
  go_wp2_with (at_builtin; refine wpList_append_own _ rfl _ _ 110 rfl B 5 i0 (.int .u8 0) 1 1 Tryz.underlying110 hi hz0 hz1 hz2 rfl (by decide) _ _ _ rfl (hown.alloc _) ⟨w1.heap.size, 0, none⟩ 1 1 [.int .u8 c] rfl rfl ?c1 ?c2 ?c3 ?c4 ?c5 ?_)
  case c1 =>
    intro j u hj
    match j, hj with
    | 0, hj => simp at hj; subst hj; simp [Addr.add]
  case c2 => intro u hu; simp at hu; subst hu; rfl
  case c3 => unfold maxLen; omega
  case c4 => omega
  case c5 => have := hb1.size; simp; omega
  intro v' w2 hown' hgrow _
  have hlt : b < w1.heap.size := by
    rcases Nat.lt_or_ge b w1.heap.size with h' | h'
    · exact h'
    · simp [Array.getElem?_eq_none h'] at hbk
  have hb2 : w2.heap[b]? = some (.cells #[.pointer (some ⟨b, 0, none⟩), v] 153 (0, 0)) := by
    rw [hgrow.block b (by simp; omega) (fun e => hne e.symm), Lib.alloc_old w1 _ b hlt]
    exact hbk
  have d0 : w2.cell? ⟨b, 0, none⟩ = some (.pointer (some ⟨b, 0, none⟩)) := by rw [Lib.cell_of_heap hb2]; rfl
  have d1 : w2.cell? ⟨b, 1, none⟩ = some v := by rw [Lib.cell_of_heap hb2]; rfl
  have f1 : w2.frozen? ⟨b, 1, none⟩ = false := Lib.frozen_of_heap hb2 1
  obtain ⟨g, cap, rfl⟩ : ∃ g cap, v' = .slice (some ⟨g, 0, none⟩) (bs.length + 1) cap := by
    rcases hown'.2 with ⟨_, h0⟩ | ⟨g, cap, cur, hv, _⟩
    · omega
    · exact ⟨g, cap, hv⟩
  go_wp2
  go_ret
  refine ⟨rfl, ?_, ?_⟩
  · exact Lib.BuilderAt.put (T := 153) (e := 5) hB hb2 (bs' := bs ++ [.int .u8 c]) (by simpa using hown') (by decide)
  · exact ((hb1.alloc (by have := hb1.size; omega) _).grown hgrow (by have := hb1.size; simp; omega) (fun k hk => (hown.lt k hk).1)).setCell (p := ⟨b, 1, none⟩) hB _
set_option maxHeartbeats 2000000 in
set_option maxRecDepth 100000 in
theorem writeString_any (B b : Nat) (bs : List Value) (s : ByteArray) (w : World) (h : Lib.IsBuilder 153 5 B b bs w) (hlen : bs.length + s.size ≤ 140737488355328) (hBw : B ≤ w.heap.size) :
    Calls Tryz.prog 151 #[.pointer (some ⟨b, 0, none⟩), .string s] w fun e w' => e = .returned (.tuple #[.int .i64 s.size, .nilIface]) ∧ (Lib.BuilderAt 153 5 B b (.pointer (some ⟨b, 0, none⟩)) (bs ++ Lib.strCells s) w' ∧ Below B w w') := by
  obtain ⟨i0, hi, hz0, hz1, hz2⟩ := info_parts infoByte
  go_enter Tryz.func151, Tryz.ntmps151
  go_wp2_with (go_at_call 168; refine (copyCheck_any B b bs _ h).mono ?_)
  rintro e w1 ⟨rfl, h1, hb1⟩
  obtain ⟨hB, v, hbk, hown, hne⟩ := h1
  have c0 : w1.cell? ⟨b, 0, none⟩ = some (.pointer (some ⟨b, 0, none⟩)) := by rw [Lib.cell_of_heap hbk]; rfl
  have c1 : w1.cell? ⟨b, 1, none⟩ = some v := by rw [Lib.cell_of_heap hbk]; rfl
  go_wp2_with (at_builtin; refine Lib.wpList_append_own_string _ rfl _ _ 110 9 rfl B 5 i0 Tryz.underlying110 Tryz.underlying9 hi hz0 hz1 hz2 _ _ _ rfl hown s rfl ?c3 ?c4 ?c5 ?_)
  case c3 => unfold maxLen; omega
  case c4 => omega
  case c5 => have := hb1.size; omega
  intro v' w2 hown' hgrow _
  have hlt : b < w1.heap.size := by
    rcases Nat.lt_or_ge b w1.heap.size with h' | h'
    · exact h'
    · simp [Array.getElem?_eq_none h'] at hbk
  have hb2 : w2.heap[b]? = some (.cells #[.pointer (some ⟨b, 0, none⟩), v] 153 (0, 0)) := by
    rw [hgrow.block b hlt (fun e => hne e.symm)]
    exact hbk
  have d0 : w2.cell? ⟨b, 0, none⟩ = some (.pointer (some ⟨b, 0, none⟩)) := by rw [Lib.cell_of_heap hb2]; rfl
  have d1 : w2.cell? ⟨b, 1, none⟩ = some v := by rw [Lib.cell_of_heap hb2]; rfl
  have f1 : w2.frozen? ⟨b, 1, none⟩ = false := Lib.frozen_of_heap hb2 1
  obtain ⟨ao, n', cap, rfl⟩ : ∃ ao n' cap, v' = .slice ao n' cap := by
    rcases hown'.2 with ⟨hv, _⟩ | ⟨g, cap, cur, hv, _⟩
    · exact ⟨_, _, _, hv⟩
    · exact ⟨_, _, _, hv⟩
  go_wp2
  go_ret2
  refine ⟨rfl, ?_, ?_⟩
  · exact Lib.BuilderAt.put (T := 153) (e := 5) hB hb2 (bs' := bs ++ Lib.strCells s) (by simpa [Lib.strCells_length] using hown') (by decide)
  · exact (hb1.grown hgrow (by have := hb1.size; omega) (fun k hk => (hown.lt k hk).1)).setCell (p := ⟨b, 1, none⟩) hB _
end Go.Proofs.YtffkaphbgfdpaaaGreatDoor
end

section
/- Numbers as texts: strconv's, and the document's. -/
namespace Go.Proofs.YtffkaphbgfdpaaaGreatDoor
open Go.RowKit Go.Shelf Go.Sort
set_option linter.unusedVariables false
set_option linter.unusedSimpArgs false

theorem add_plain (b o j : Nat) : (⟨b, o, none⟩ : Addr).add j = ⟨b, o + j, none⟩ := by unfold Addr.add; split <;> simp_all
theorem size_list (s : ByteArray) : s.data.toList.length = s.size := by simp
def bs (l : List UInt8) : ByteArray := ⟨l.toArray⟩
theorem bs_size (l : List UInt8) : (bs l).size = l.length := by
  show l.toArray.size = _
  simp
theorem bs_list (l : List UInt8) : (bs l).data.toList = l := by simp [bs]
theorem append_list (a b : ByteArray) : (a ++ b).data.toList = a.data.toList ++ b.data.toList := by
  rw [ByteArray.data_append, Array.toList_append]
theorem bs_append (a b : List UInt8) : bs a ++ bs b = bs (a ++ b) := by
  apply ByteArray.ext
  apply Array.toList_inj.1
  rw [append_list, bs_list, bs_list, bs_list]
theorem bs_of (s : ByteArray) : bs s.data.toList = s := by simp [bs]
theorem bs_inj {a b : List UInt8} (h : bs a = bs b) : a = b := by
  have := congrArg (fun s : ByteArray => s.data.toList) h
  rwa [bs_list, bs_list] at this
theorem add_strs {a b c : ByteArray} (h : a.size + b.size ≤ 4611686018427387904) (e : a ++ b = c) (W : World) : (Op.stringOp .add a b).run Tryz.prog W = .ok (.string c) W := by
  rw [← e]
  exact run_string_add_sum W a b (by omega)
theorem add_two (a b c : List UInt8) (h : a.length + b.length ≤ 4611686018427387904) (e : a ++ b = c) (W : World) : (Op.stringOp .add (bs a) (bs b)).run Tryz.prog W = .ok (.string (bs c)) W :=
  add_strs (by rw [bs_size, bs_size]; omega) (by rw [bs_append, e]) W
/-- A digit's sign. -/
def chd (d : Nat) : UInt8 := UInt8.ofNat (48 + d)
/-- A number's decimal text. -/
def dcF : Nat → Nat → List UInt8
  | 0, _ => []
  | f + 1, n => if n < 10 then [chd n] else dcF f (n / 10) ++ [chd (n % 10)]
def dcl (n : Nat) : List UInt8 := dcF 20 n
theorem dcF_eq : ∀ (f n : Nat), n < 10 ^ f → 0 < f → Lib.decDigits n = dcF f n
  | 0, _, _, h => by cases h
  | f + 1, n, hn, _ => by
    unfold dcF
    by_cases h : n < 10
    · rw [if_pos h, Lib.decDigits, dif_pos h]
      rfl
    · rw [if_neg h, Lib.decDigits, dif_neg h]
      have hf : 0 < f := by
        rcases Nat.eq_zero_or_pos f with rfl | h0
        · simp at hn; omega
        · exact h0
      rw [dcF_eq f (n / 10) (by rw [Nat.pow_succ] at hn; omega) hf]
      rfl
theorem dcl_eq {n : Nat} (h : n < 10 ^ 20) : Lib.decDigits n = dcl n := dcF_eq 20 n h (by decide)
theorem dcF_len : ∀ (f n : Nat), (dcF f n).length ≤ f
  | 0, _ => Nat.le_refl _
  | f + 1, n => by
    unfold dcF
    split
    · simp
    · rw [List.length_append]
      have := dcF_len f (n / 10)
      simp
      omega
theorem dcl_len (n : Nat) : (dcl n).length ≤ 20 := dcF_len 20 n
/-- The table of powers of ten stands. -/
def Tab10 (w : World) : Prop := Lib.TabIs Tryz.prog w "internal/strconv.uint64pow10" .u64 Lib.pow10Tab
theorem Tab10.later {w W : World} (h : Tab10 w) (hb : Below w.heap.size w W) : Tab10 W := by
  unfold Tab10 Lib.TabIs World.var? at *
  cases hg : Tryz.prog.globalNamed "internal/strconv.uint64pow10" with
  | none => simp [hg] at h
  | some g =>
    simp only [hg, Option.bind_some] at h ⊢
    have hlt : g < w.heap.size := by
      rcases Nat.lt_or_ge g w.heap.size with h' | h'
      · exact h'
      · rw [Array.getElem?_eq_none h'] at h; simp at h
    rw [hb.block g hlt]
    exact h
theorem itoa_any (n : Nat) (w : World) (hn : n ≤ 4294967295) (ht : Tab10 w) : Calls Tryz.prog 64 #[.int .i64 n] w fun e w' => e = .returned (.string (bs (dcl n))) ∧ Below w.heap.size w w' := by
  refine (Tryz.strconv_Itoa (n : Int) (by omega) (by omega) w ht).mono ?_
  rintro e w' ⟨rfl, k, os, rfl⟩
  refine ⟨?_, Lib.below_grow _ _ (Nat.le_refl _) _ _⟩
  rw [Lib.itoa_nonneg, dcl_eq (by omega)]
  rfl
set_option maxHeartbeats 6400000 in
set_option maxRecDepth 100000 in
theorem ifmtu_any (u : Nat) (w : World) (hu : u ≤ 4294967295) (ht : Tab10 w) : Calls Tryz.prog 174 #[.int .u64 u, .int .i64 10] w fun e w' => e = .returned (.string (bs (dcl u))) ∧ Below w.heap.size w w' := by
  rw [← dcl_eq (by omega)]
  have i0 : (0 : Int) ≤ (u : Int) := by omega
  have i1 : (u : Int) ≤ 4294967295 := by omega
  by_cases hs : u < 100
  · have hd : decide ((u : Int) < 100) = true := decide_eq_true (by omega)
    go_enter Tryz.func174, Tryz.ntmps174
    go_wp2_with (go_at_call 170; refine (Tryz.internal_strconv_small u hs _).mono ?_; rintro e w' ⟨rfl, rfl⟩)
    go_ret
    exact ⟨rfl, Below.refl _ _⟩
  · have hu1 : 1 ≤ u := by omega
    have hu64 : u < 18446744073709551616 := by omega
    have hnd20 : Lib.nDigits u ≤ 20 := Lib.nDigits_le20 u hu64
    have hnp := Lib.nDigits_pos u
    have hal : Tryz.prog.arrayLen 175 = 24 := by simp [Program.arrayLen, Tryz.underlying175]
    have hsl1 : ∀ W, (Instr.sliceAt 175 (.pointer (some ⟨w.heap.size, 0, none⟩)) none (some (.int .i64 (Lib.nDigits u : Int))) none).run Tryz.prog W = .ok (.slice (some ⟨w.heap.size, 0, none⟩) (Lib.nDigits u) 24) W := fun W => by
      rw [run_sliceAt_array_h W 175 ⟨w.heap.size, 0, none⟩ (by simp [Program.arrayLen, Program.elem, Tryz.underlying175]) .i64 (Lib.nDigits u : Int) (by omega) (by rw [hal]; omega)]
      go_simp
    have hH0 := Lib.holds_zero0 w 175 (Lib.nDigits u) (by omega)
    have hfmt := Tryz.internal_strconv_formatBase10 w.heap.size 0 24 u (Array.replicate (Lib.nDigits u) 0) (w.alloc (.cells Lib.zeros24 175)) hH0 (by rw [Array.size_replicate]; exact Lib.lt_pow_nDigits u) hu64 (by rw [Array.size_replicate]; omega)
    rw [Array.size_replicate] at hfmt
    have hnum := Tryz.internal_strconv_numDigits u hu1 hu64 (w.alloc (.cells Lib.zeros24 175)) (Lib.tabIs_alloc ht _)
    have HH0 := Lib.hid hH0
    have Hf := Lib.hid hfmt
    have Hn := Lib.hid hnum
    have hd : decide ((u : Int) < 100) = false := decide_eq_false (by omega)
    clear hH0 hal hfmt hnum hs
    go_enter Tryz.func174, Tryz.ntmps174
    go_wp2_with fail
    refine Hn.out.mono ?_
    rintro e w' ⟨rfl, rfl⟩
    go_wp2_with fail
    refine Hf.out.mono ?_
    rintro e w' ⟨rfl, k, v', dk, rfl, hF⟩
    have hcv : (convert 110 9 (.slice (some ⟨w.heap.size, 0, none⟩) (Lib.nDigits u) 24)).run Tryz.prog ((putRow (fun (b : UInt8) => Value.int .u8 (b.toNat : Int)) (w.alloc (.cells Lib.zeros24 175)) w.heap.size 0 dk).drewN k) = .ok (.string ⟨(Lib.decDigits u).toArray⟩) ((putRow (fun (b : UInt8) => Value.int .u8 (b.toNat : Int)) (w.alloc (.cells Lib.zeros24 175)) w.heap.size 0 dk).drewN k) := by
      have h := run_convert_bytes_back (P := Tryz.prog) ((putRow (fun (b : UInt8) => Value.int .u8 (b.toNat : Int)) (w.alloc (.cells Lib.zeros24 175)) w.heap.size 0 dk).drewN k) 110 9 5 ⟨w.heap.size, 0, none⟩ 24 (Lib.decDigits u) Tryz.underlying110 Tryz.underlying5 Tryz.underlying9 (fun j hj => by
        rw [Lib.row_is_numeral hF j hj, Lib.add_plain, World.cell?_drewN]
        exact cell?_putRow (fun (b : UInt8) => Value.int .u8 (b.toNat : Int)) _ w.heap.size 0 _ dk HH0.out (by rw [hF.size, Array.size_replicate]) j (by rw [hF.size]; rw [Lib.decDigits_length] at hj; exact hj))
      rw [Lib.decDigits_length] at h
      exact h
    go_wp2_with fail
    go_ret
    obtain ⟨os, eo⟩ := Lib.fin_at w (.cells Lib.zeros24 175) dk k 0
    refine ⟨rfl, ?_⟩
    rw [eo]
    exact Lib.below_grow _ _ (Nat.le_refl _) _ _
theorem fmtu_any (u : Nat) (w : World) (hu : u ≤ 4294967295) (ht : Tab10 w) : Calls Tryz.prog 154 #[.int .u64 u, .int .i64 10] w fun e w' => e = .returned (.string (bs (dcl u))) ∧ Below w.heap.size w w' := by
  have c := Lib.hid (ifmtu_any u w hu ht)
  clear hu ht
  go_enter Tryz.func154, Tryz.ntmps154
  go_wp2_with fail
  refine c.out.mono ?_
  rintro e w' ⟨rfl, hB⟩
  have HB := Lib.hid hB
  clear hB
  go_wp2_with fail
  go_ret
  exact ⟨rfl, HB.out⟩
end Go.Proofs.YtffkaphbgfdpaaaGreatDoor
end

section
/- Rows of small structs in memory, whatever the struct: plain lemmas. -/
namespace Go.Proofs.YtffkaphbgfdpaaaGreatDoor
open Go.RowKit Go.Shelf
set_option linter.unusedVariables false
set_option linter.unusedSimpArgs false

/-- How a struct's fields lie: k cells each. -/
structure EncOk {α : Type} (k : Nat) (enc : α → List Value) : Prop where
  len : ∀ a, (enc a).length = k
  one : ∀ a, ∀ v ∈ enc a, v.oneCell' = true
  pos : 0 < k
section
variable {α : Type} {k : Nat} {enc : α → List Value}
def flatG (enc : α → List Value) (xs : List α) : List Value := xs.flatMap enc
theorem flatG_length (E : EncOk k enc) (xs : List α) : (flatG enc xs).length = xs.length * k := by
  unfold flatG
  induction xs with
  | nil => simp
  | cons n xs ih => rw [List.flatMap_cons, List.length_append, ih, List.length_cons, E.len, Nat.add_mul]; omega
theorem flatG_append (a b : List α) : flatG enc (a ++ b) = flatG enc a ++ flatG enc b := List.flatMap_append
theorem flatG_one (E : EncOk k enc) (xs : List α) : ∀ v ∈ flatG enc xs, v.oneCell' = true := by
  intro v hv
  obtain ⟨n, _, h⟩ := List.mem_flatMap.1 hv
  exact E.one n v h
theorem flatG_get (E : EncOk k enc) {xs : List α} {i j : Nat} {x : α} {u : Value} (hi : xs[i]? = some x) (hu : (enc x)[j]? = some u) : (flatG enc xs)[i * k + j]? = some u := by
  have hj : j < k := by
    have := (List.getElem?_eq_some_iff.1 hu).1
    rwa [E.len] at this
  induction xs generalizing i with
  | nil => cases hi
  | cons n ns ih =>
    show (enc n ++ flatG enc ns)[i * k + j]? = some u
    cases i with
    | zero =>
      rw [List.getElem?_append_left (by rw [E.len]; omega)]
      have : n = x := by simpa using hi
      rw [this]
      simpa using hu
    | succ i =>
      have e0 : (i + 1) * k = i * k + k := Nat.succ_mul i k
      rw [List.getElem?_append_right (by rw [E.len]; omega)]
      have e : (i + 1) * k + j - (enc n).length = i * k + j := by rw [E.len]; omega
      rw [e]
      exact ih (by simpa using hi)
/-- A slice of structs: they lie in a row. -/
def Rs (enc : α → List Value) (w : World) (A : Option Addr) (xs : List α) : Prop := 0 < xs.length → ∃ b o, A = some ⟨b, o, none⟩ ∧ ∀ j u, (flatG enc xs)[j]? = some u → w.cell? ⟨b, o + j, none⟩ = some u
theorem Rs.nil {w : World} {A : Option Addr} : Rs enc w A [] := fun h => by cases h
theorem Rs.cell (E : EncOk k enc) {w : World} {b o : Nat} {xs : List α} (h : Rs enc w (some ⟨b, o, none⟩) xs) {i j : Nat} {x : α} {u : Value} (hi : xs[i]? = some x) (hu : (enc x)[j]? = some u) : w.cell? ⟨b, o + i * k + j, none⟩ = some u := by
  obtain ⟨b', o', e, hc⟩ := h (by have := (List.getElem?_eq_some_iff.1 hi).1; omega)
  cases e
  have := hc (i * k + j) u (flatG_get E hi hu)
  rwa [show o + i * k + j = o + (i * k + j) from by omega]
theorem Rs.blk {w : World} {A : Option Addr} {xs : List α} (E : EncOk k enc) (h : Rs enc w A xs) {b o : Nat} (hA : A = some ⟨b, o, none⟩) (hp : 0 < xs.length) : b < w.heap.size := by
  obtain ⟨b', o', e, hc⟩ := h hp
  rw [hA] at e
  cases e
  have hl : 0 < (flatG enc xs).length := by rw [flatG_length E]; exact Nat.mul_pos hp E.pos
  exact World.block_lt_of_cell? w _ (hc 0 _ (List.getElem?_eq_getElem hl))
theorem Rs.later {w W : World} {A : Option Addr} {xs : List α} (h : Rs enc w A xs) (hb : Below w.heap.size w W) : Rs enc W A xs := by
  intro hp
  obtain ⟨b, o, e, hn⟩ := h hp
  exact ⟨b, o, e, fun j u hu => (hb.cell (p := ⟨b, o + j, none⟩) (World.block_lt_of_cell? w _ (hn j u hu))).trans (hn j u hu)⟩
theorem Rs.take {w : World} {A : Option Addr} {l1 l2 : List α} (h : Rs enc w A (l1 ++ l2)) : Rs enc w A l1 := by
  intro hp
  obtain ⟨b, o, e, hn⟩ := h (by simp; omega)
  refine ⟨b, o, e, fun j u hu => hn j u ?_⟩
  rw [flatG_append, List.getElem?_append_left (List.getElem?_eq_some_iff.1 hu).1]
  exact hu
theorem Rs.takeN {w : World} {A : Option Addr} {l : List α} (n : Nat) (h : Rs enc w A l) : Rs enc w A (l.take n) := Rs.take (l2 := l.drop n) (by rw [List.take_append_drop]; exact h)
theorem Rs.sub (E : EncOk k enc) {w : World} {b o : Nat} {l1 l2 : List α} (h : Rs enc w (some ⟨b, o, none⟩) (l1 ++ l2)) : Rs enc w (some ⟨b, o + l1.length * k, none⟩) l2 := by
  intro hp
  obtain ⟨b', o', e, hn⟩ := h (by simp; omega)
  cases e
  refine ⟨b, o + l1.length * k, rfl, fun j u hu => ?_⟩
  have := hn (l1.length * k + j) u (by
    rw [flatG_append, List.getElem?_append_right (by rw [flatG_length E]; omega), flatG_length E]
    rw [show l1.length * k + j - l1.length * k = j from by omega]
    exact hu)
  rwa [show o + l1.length * k + j = o + (l1.length * k + j) from by omega]
theorem rs_news {w : World} {b : Nat} {l : List α} {t : TypeId} {fr : Nat × Nat} (h : w.heap[b]? = some (.cells (flatG enc l).toArray t fr)) : ∀ j u, (flatG enc l)[j]? = some u → w.cell? ((⟨b, 0, none⟩ : Addr).add j) = some u := fun j u hu => by
  rw [add_plain, Nat.zero_add, cell_of_row w b j _ t fr h]
  simpa using hu
theorem rs_new {w : World} {l : List α} {t : TypeId} : Rs enc (w.alloc (.cells (flatG enc l).toArray t)) (some ⟨w.heap.size, 0, none⟩) l := fun _ =>
  ⟨w.heap.size, 0, rfl, fun j u hu => by
    have := rs_news (heap_alloc_new w (.cells (flatG enc l).toArray t)) j u hu
    rwa [add_plain] at this⟩
theorem own_later {w W : World} {base sz n : Nat} {e : TypeId} {v : Value} {xs : List Value} (h : w.ownsRow base e sz v n xs) (hb : ∀ b, v.ownBlock = some b → W.heap[b]? = w.heap[b]?) : W.ownsRow base e sz v n xs := by
  refine ⟨h.1, ?_⟩
  rcases h.2 with h | ⟨g, cap, cur, rfl, h1, h2, h3⟩
  · exact .inl h
  · exact .inr ⟨g, cap, cur, rfl, h1, (hb g rfl).trans h2, h3⟩
theorem own_lt {w : World} {base sz n : Nat} {e : TypeId} {v : Value} {xs : List Value} (h : w.ownsRow base e sz v n xs) {b : Nat} (hb : v.ownBlock = some b) : base ≤ b ∧ b < w.heap.size := by
  rcases h.2 with ⟨rfl, h⟩ | ⟨g, cap, cur, rfl, h1, h2, h3⟩
  · cases hb
  · cases hb
    exact ⟨h1, (Array.getElem?_eq_some_iff.1 h2).1⟩
theorem own_below {w W : World} {base sz n : Nat} {e : TypeId} {v : Value} {xs : List Value} (h : w.ownsRow base e sz v n xs) (hb : Below w.heap.size w W) : W.ownsRow base e sz v n xs :=
  own_later h fun b e => hb.block b (own_lt h e).2
theorem own_mono {w : World} {base base2 sz n : Nat} {e : TypeId} {v : Value} {xs : List Value} (h : w.ownsRow base e sz v n xs) (hb : base2 ≤ base) : w.ownsRow base2 e sz v n xs := by
  refine ⟨h.1, ?_⟩
  rcases h.2 with h | ⟨g, cap, cur, rfl, h1, h2⟩
  · exact .inl h
  · exact .inr ⟨g, cap, cur, rfl, by omega, h2⟩
theorem own_cap {w : World} {base sz n m cap : Nat} {A : Option Addr} {e : TypeId} {xs : List Value} (h : w.ownsRow base e sz (.slice A m cap) n xs) : n ≤ cap := by
  rcases h.2 with ⟨h, h0⟩ | ⟨g, c, cur, h1, h2, h3, h4, _⟩
  · cases h; omega
  · cases h1; exact h4
theorem own_nil (w : World) (base sz : Nat) (e : TypeId) : w.ownsRow base e sz (.slice none 0 0) 0 [] := ⟨by simp, .inl ⟨rfl, rfl⟩⟩
/-- A row of one's own. -/
def OwnG (k : Nat) (enc : α → List Value) (t : TypeId) (w : World) (base : Nat) (v : Value) (xs : List α) : Prop := w.ownsRow base t k v xs.length (flatG enc xs)
theorem OwnG.rs (E : EncOk k enc) {t : TypeId} {w : World} {base : Nat} {v : Value} {xs : List α} (h : OwnG k enc t w base v xs) : ∃ A c, v = .slice A xs.length c ∧ Rs enc w A xs := by
  have h0 := h
  rcases h.2 with ⟨rfl, e⟩ | ⟨g, cap, cur, rfl, hb, hh, _⟩
  · exact ⟨none, 0, by rw [e], fun hp => by omega⟩
  · refine ⟨_, _, rfl, fun hp => ⟨g, 0, rfl, fun j u hu => ?_⟩⟩
    have := World.ownsRow.cells h0 (g := g) rfl j _ hu
    rwa [add_plain] at this
theorem OwnG.is (E : EncOk k enc) {t : TypeId} {w : World} {base g n c : Nat} {xs : List α} (h : OwnG k enc t w base (.slice (some ⟨g, 0, none⟩) n c) xs) : Rs enc w (some ⟨g, 0, none⟩) xs := by
  obtain ⟨A', c', e, hN⟩ := h.rs E
  cases e
  exact hN
theorem OwnG.form {t : TypeId} {w : World} {base : Nat} {v : Value} {xs : List α} (h : OwnG k enc t w base v xs) (hp : 0 < xs.length) : ∃ g c, v = .slice (some ⟨g, 0, none⟩) xs.length c ∧ base ≤ g ∧ g < w.heap.size ∧ xs.length ≤ c := by
  rcases h.2 with ⟨rfl, e⟩ | ⟨g, cap, cur, rfl, hb, hh, hc, _⟩
  · omega
  · exact ⟨g, cap, rfl, hb, (Array.getElem?_eq_some_iff.1 hh).1, hc⟩
theorem own_new (E : EncOk k enc) (t : TypeId) (w : World) (l : List α) (hl : l.length ≤ 1000) : OwnG k enc t (w.alloc (.cells (flatG enc l).toArray t)) w.heap.size (.slice (some ⟨w.heap.size, 0, none⟩) l.length l.length) l :=
  ⟨flatG_length E l, .inr ⟨w.heap.size, l.length, (flatG enc l).toArray, rfl, Nat.le_refl _, heap_alloc_new w _, Nat.le_refl _, by simp only [maxLen]; omega, by simp [flatG_length E], by
    rw [← flatG_length E]
    simp⟩⟩
/-- A block of the call's own with room for n structs. -/
def Room (k : Nat) (t : TypeId) (w : World) (g n : Nat) : Prop := ∃ cur, w.heap[g]? = some (.cells cur t (0, 0)) ∧ n * k ≤ cur.size
theorem Room.there {t : TypeId} {w : World} {g n i : Nat} (h : Room k t w g n) (hi : i < n) : w.there g (i * k) k := by
  obtain ⟨cur, h1, h2⟩ := h
  have e : (i + 1) * k ≤ n * k := Nat.mul_le_mul_right k hi
  rw [Nat.succ_mul] at e
  intro j hj
  refine ⟨?_, frozen_of_row w g _ _ _ h1⟩
  rw [cell_of_row w g _ _ _ _ h1, Array.getElem?_eq_getElem (by omega)]
  rfl
theorem Room.lt {t : TypeId} {w : World} {g n : Nat} (h : Room k t w g n) : g < w.heap.size := by
  obtain ⟨cur, h1, h2⟩ := h
  exact (Array.getElem?_eq_some_iff.1 h1).1
theorem Room.of_own {t : TypeId} {w : World} {base n m c g : Nat} {xs : List Value} (h : w.ownsRow base t k (.slice (some ⟨g, 0, none⟩) m c) n xs) : Room k t w g n := by
  rcases h.2 with ⟨e, _⟩ | ⟨g2, cap, cur, e, h1, h2, h3, h4, h5, _⟩
  · cases e
  · cases e
    exact ⟨cur, h2, by rw [h5]; exact Nat.mul_le_mul_right k h3⟩
theorem Room.mono {t : TypeId} {w : World} {g n m : Nat} (h : Room k t w g n) (hm : m ≤ n) : Room k t w g m := by
  obtain ⟨cur, h1, h2⟩ := h
  exact ⟨cur, h1, Nat.le_trans (Nat.mul_le_mul_right k hm) h2⟩
theorem room_setCell {t : TypeId} {w : World} {g n : Nat} (h : Room k t w g n) (b o : Nat) (v : Value) : Room k t (w.setCell ⟨b, o, none⟩ v) g n := by
  obtain ⟨cur, h1, h2⟩ := h
  by_cases hb : g = b
  · subst hb
    exact ⟨_, heap_setCell_same w g o cur _ v h1, by simpa using h2⟩
  · exact ⟨cur, by rw [heap_setCell_other w ⟨b, o, none⟩ g v hb]; exact h1, h2⟩
theorem room_setCells {t : TypeId} {g n b : Nat} : ∀ (cs : List Value) (o : Nat) (w : World), Room k t w g n → Room k t (w.setCells b o cs) g n
  | [], _, _, h => h
  | v :: cs, o, w, h => room_setCells cs (o + 1) _ (room_setCell h b o v)
theorem grown_setCell (w : World) (b o : Nat) (v : Value) : w.grownBy (w.setCell ⟨b, o, none⟩ v) (some b) :=
  ⟨rfl, rfl, rfl, by simp, fun i hi hne => heap_setCell_other w _ i v (fun e => hne (by rw [e]))⟩
theorem grown_setCells {b : Nat} : ∀ (cs : List Value) (o : Nat) (w : World), w.grownBy (w.setCells b o cs) (some b)
  | [], _, w => ⟨rfl, rfl, rfl, Nat.le_refl _, fun _ _ _ => rfl⟩
  | v :: cs, o, w => World.grownBy.trans (grown_setCell w b o v) (grown_setCells cs (o + 1) _)
theorem own_cells {t : TypeId} {w : World} {base n c : Nat} {A : Option Addr} {xs : List Value} (h : w.ownsRow base t k (.slice A n c) n xs) : ∀ b, A = some b → ∀ j u, xs[j]? = some u → w.cell? (b.add j) = some u := by
  intro b e j u hu
  subst e
  rcases h.2 with ⟨e, _⟩ | ⟨g, cap, cur, e, _⟩
  · cases e
  · cases e
    exact World.ownsRow.cells h (g := g) rfl j u hu
theorem take_succ_getD {xs : List α} {i : Nat} {x : α} (h : xs[i]? = some x) : xs.take (i + 1) = xs.take i ++ [x] := by
  rw [List.take_add_one, h]
  rfl
end
end Go.Proofs.YtffkaphbgfdpaaaGreatDoor
end

section
/- Digits: plain laws of numbers' texts. -/
namespace Go.Proofs.YtffkaphbgfdpaaaGreatDoor
set_option linter.unusedVariables false
set_option linter.unusedSimpArgs false

def isD (b : UInt8) : Bool := 48 ≤ b.toNat && b.toNat ≤ 57
theorem isD_chd {d : Nat} (h : d < 10) : isD (chd d) = true ∧ (chd d).toNat = 48 + d := by
  have h0 : ∀ x : Fin 10, isD (chd x.val) = true ∧ (chd x.val).toNat = 48 + x.val := by decide
  exact h0 ⟨d, h⟩
theorem chd_of {b : UInt8} (h : isD b = true) : chd (b.toNat - 48) = b := by
  unfold isD at h
  simp only [Bool.and_eq_true, decide_eq_true_eq] at h
  unfold chd
  rw [show 48 + (b.toNat - 48) = b.toNat from by omega]
  exact UInt8.ofNat_toNat
/-- Digits' value, on from v. -/
def valD (v : Nat) (l : List UInt8) : Nat := l.foldl (fun v b => v * 10 + (b.toNat - 48)) v
theorem valD_append (v : Nat) (a b : List UInt8) : valD v (a ++ b) = valD (valD v a) b := List.foldl_append
theorem valD_ge : ∀ (l : List UInt8) (v : Nat), v ≤ valD v l
  | [], v => Nat.le_refl _
  | b :: l, v => by
    have := valD_ge l (v * 10 + (b.toNat - 48))
    show v ≤ valD (v * 10 + (b.toNat - 48)) l
    omega
theorem dcF_digits : ∀ (f n : Nat), ∀ b ∈ dcF f n, isD b = true
  | 0, _, b, hb => by cases hb
  | f + 1, n, b, hb => by
    unfold dcF at hb
    split at hb
    · rename_i h
      rw [List.mem_singleton] at hb
      rw [hb]
      exact (isD_chd h).1
    · rcases List.mem_append.1 hb with h | h
      · exact dcF_digits f _ b h
      · rw [List.mem_singleton] at h
        rw [h]
        exact (isD_chd (Nat.mod_lt _ (by decide))).1
theorem dcF_val : ∀ (f n : Nat), n < 10 ^ f → valD 0 (dcF f n) = n
  | 0, n, h => by
    have : n = 0 := by simpa using h
    rw [this]
    rfl
  | f + 1, n, h => by
    unfold dcF
    split
    · rename_i h1
      unfold valD
      simp only [List.foldl_cons, List.foldl_nil]
      rw [(isD_chd h1).2]
      omega
    · rw [valD_append, dcF_val f (n / 10) (by rw [Nat.pow_succ] at h; omega)]
      unfold valD
      simp only [List.foldl_cons, List.foldl_nil]
      rw [(isD_chd (Nat.mod_lt n (by decide))).2]
      omega
theorem dcF_len10 : ∀ (f n k : Nat), n < 10 ^ (k + 1) → (dcF f n).length ≤ k + 1
  | 0, _, _, _ => Nat.zero_le _
  | f + 1, n, k, h => by
    unfold dcF
    split
    · simp
    · rename_i h1
      cases k with
      | zero => simp at h; omega
      | succ k =>
        have := dcF_len10 f (n / 10) k (by rw [Nat.pow_succ] at h; omega)
        rw [List.length_append]
        simp
        omega
theorem dcF_pos (f n : Nat) : dcF (f + 1) n ≠ [] := by
  unfold dcF
  split <;> simp
theorem dcl_digits (n : Nat) : ∀ b ∈ dcl n, isD b = true := dcF_digits 20 n
theorem dcl_val {n : Nat} (h : n ≤ 4294967295) : valD 0 (dcl n) = n := dcF_val 20 n (by omega)
theorem dcl_pos (n : Nat) : dcl n ≠ [] := dcF_pos 19 n
theorem dcl_len10 {n : Nat} (h : n ≤ 4294967295) : (dcl n).length ≤ 10 := dcF_len10 20 n 9 (by omega)
theorem dcF_fuel : ∀ (f n : Nat), n < 10 ^ f → 0 < f → dcF (f + 1) n = dcF f n
  | 0, _, _, h => by cases h
  | f + 1, n, hn, _ => by
    show (if n < 10 then [chd n] else dcF (f + 1) (n / 10) ++ [chd (n % 10)]) = (if n < 10 then [chd n] else dcF f (n / 10) ++ [chd (n % 10)])
    by_cases h : n < 10
    · rw [if_pos h, if_pos h]
    · rw [if_neg h, if_neg h]
      have hf : 0 < f := by
        rcases Nat.eq_zero_or_pos f with rfl | h0
        · simp at hn; omega
        · exact h0
      rw [dcF_fuel f (n / 10) (by rw [Nat.pow_succ] at hn; omega) hf]
theorem dcF_head : ∀ (f n : Nat), 1 ≤ n → n < 10 ^ f → ∃ b r, dcF f n = b :: r ∧ b ≠ 48
  | 0, n, h1, h => by simp at h; omega
  | f + 1, n, h1, h => by
    unfold dcF
    split
    · rename_i h2
      refine ⟨chd n, [], rfl, ?_⟩
      have h0 : ∀ x : Fin 10, 1 ≤ x.val → chd x.val ≠ 48 := by decide
      exact h0 ⟨n, h2⟩ h1
    · obtain ⟨b, r, e, hb⟩ := dcF_head f (n / 10) (by omega) (by rw [Nat.pow_succ] at h; omega)
      exact ⟨b, r ++ [chd (n % 10)], by rw [e]; rfl, hb⟩
/-- No needless nought ahead. -/
def canD (l : List UInt8) : Prop := l ≠ [] ∧ ¬ (1 < l.length ∧ l.head? = some 48)
theorem dcl_can {n : Nat} (h : n ≤ 4294967295) : canD (dcl n) := by
  refine ⟨dcl_pos n, ?_⟩
  rintro ⟨e1, e2⟩
  rcases Nat.eq_zero_or_pos n with rfl | h0
  · have : (dcl 0).length = 1 := by decide
    omega
  · obtain ⟨b, r, e, hb⟩ := dcF_head 20 n h0 (by omega)
    unfold dcl at e2
    rw [e] at e2
    exact hb (Option.some.inj e2)
theorem valD_pos : ∀ (l : List UInt8), (∀ b ∈ l, isD b = true) → l ≠ [] → l.head? ≠ some 48 → 1 ≤ valD 0 l
  | [], _, h, _ => absurd rfl h
  | b :: l, hd, _, h => by
    have hb := hd b (List.mem_cons_self ..)
    unfold isD at hb
    simp only [Bool.and_eq_true, decide_eq_true_eq] at hb
    have h1 : ¬ b = 48 := fun e => h (by rw [e]; rfl)
    have h2 : b.toNat ≠ 48 := fun e => h1 (UInt8.toNat_inj.1 e)
    have := valD_ge l (0 * 10 + (b.toNat - 48))
    show 1 ≤ valD (0 * 10 + (b.toNat - 48)) l
    omega
/-- A text of digits without a needless nought is its value's text. -/
theorem dcF_of : ∀ (k : Nat) (l : List UInt8) (f : Nat), l.length = k → (∀ b ∈ l, isD b = true) → canD l → valD 0 l < 10 ^ f → 0 < f → dcF f (valD 0 l) = l
  | 0, l, f, hk, _, hc, _, _ => absurd (List.length_eq_zero_iff.1 hk) hc.1
  | k + 1, l, f, hk, hd, hc, hv, hf => by
    have hl := (List.dropLast_concat_getLast hc.1).symm
    obtain ⟨x, hx⟩ : ∃ x, l.dropLast = x := ⟨_, rfl⟩
    obtain ⟨b, hb⟩ : ∃ b, l.getLast hc.1 = b := ⟨_, rfl⟩
    rw [hx, hb] at hl
    subst hl
    have hbd := hd b (by simp)
    have hb9 : b.toNat - 48 < 10 := by
      unfold isD at hbd
      simp only [Bool.and_eq_true, decide_eq_true_eq] at hbd
      omega
    have hval : valD 0 (x ++ [b]) = valD 0 x * 10 + (b.toNat - 48) := by
      rw [valD_append]
      rfl
    obtain ⟨f, rfl⟩ : ∃ g, f = g + 1 := ⟨f - 1, by omega⟩
    cases x with
    | nil =>
      have h0 : valD 0 ([] ++ [b]) = b.toNat - 48 := by rw [hval]; show 0 * 10 + _ = _; omega
      rw [h0]
      unfold dcF
      rw [if_pos hb9, chd_of hbd]
      rfl
    | cons a x =>
      have hh : (a :: x).head? ≠ some 48 := by
        intro e
        refine hc.2 ⟨by simp, ?_⟩
        have e : some a = some 48 := e
        show some a = some 48
        exact e
      have hpos := valD_pos (a :: x) (fun c hc2 => hd c (List.mem_append_left _ hc2)) (by simp) hh
      rw [hval] at hv ⊢
      have ih := dcF_of k (a :: x) f (by rw [List.length_append] at hk; simpa using hk) (fun c hc2 => hd c (List.mem_append_left _ hc2)) ⟨by simp, fun e => hh e.2⟩ (by rw [Nat.pow_succ] at hv; omega) (by
        rcases Nat.eq_zero_or_pos f with rfl | h0
        · simp at hv; omega
        · exact h0)
      unfold dcF
      rw [if_neg (by omega)]
      rw [show (valD 0 (a :: x) * 10 + (b.toNat - 48)) / 10 = valD 0 (a :: x) from by omega, show (valD 0 (a :: x) * 10 + (b.toNat - 48)) % 10 = b.toNat - 48 from by omega, ih, chd_of hbd]
theorem dcl_of {l : List UInt8} (hd : ∀ b ∈ l, isD b = true) (hc : canD l) (hv : valD 0 l < 10 ^ 20) : dcl (valD 0 l) = l := dcF_of _ l 20 rfl hd hc hv (by decide)
/-- A number of at most `most`, on from v. -/
def numM (most : Nat) : List UInt8 → Nat → Option Nat
  | [], v => some v
  | b :: r, v => if isD b = false then none else if most < v * 10 + (b.toNat - 48) then none else numM most r (v * 10 + (b.toNat - 48))
theorem numM_some : ∀ (most : Nat) (l : List UInt8) (v u : Nat), numM most l v = some u → v ≤ most → (∀ b ∈ l, isD b = true) ∧ valD v l = u ∧ u ≤ most
  | _, [], v, u, h, hv => by
    have h : some v = some u := h
    cases h
    exact ⟨(fun b hb => by cases hb), rfl, hv⟩
  | most, b :: l, v, u, h, hv => by
    unfold numM at h
    split at h
    · cases h
    · rename_i hb
      split at h
      · cases h
      · obtain ⟨h1, h2, h3⟩ := numM_some most l _ u h (by omega)
        refine ⟨fun c hc => ?_, h2, h3⟩
        rcases List.mem_cons.1 hc with rfl | hc
        · simpa using hb
        · exact h1 c hc
theorem numM_of : ∀ (most : Nat) (l : List UInt8) (v : Nat), (∀ b ∈ l, isD b = true) → valD v l ≤ most → numM most l v = some (valD v l)
  | _, [], v, _, _ => rfl
  | most, b :: l, v, hd, hv => by
    have hv : valD (v * 10 + (b.toNat - 48)) l ≤ most := hv
    have h1 := valD_ge l (v * 10 + (b.toNat - 48))
    unfold numM
    rw [if_neg (by rw [hd b (List.mem_cons_self ..)]; decide), if_neg (by omega)]
    exact numM_of most l _ (fun c hc => hd c (List.mem_cons_of_mem _ hc)) hv
/-- What the document calls a number. -/
def numD (most : Nat) (l : List UInt8) : Option Nat := if l = [] ∨ (1 < l.length ∧ l.head? = some 48) then none else numM most l 0
theorem numD_iff {most : Nat} (hm : most ≤ 4294967295) (l : List UInt8) (u : Nat) : numD most l = some u ↔ u ≤ most ∧ l = dcl u := by
  constructor
  · intro h
    unfold numD at h
    split at h
    · cases h
    · rename_i hc
      obtain ⟨h1, h2, h3⟩ := numM_some most l 0 u h (by omega)
      refine ⟨h3, ?_⟩
      have := dcl_of h1 ⟨fun e => hc (.inl e), fun e => hc (.inr e)⟩ (by rw [h2]; omega)
      rw [← this, h2]
  · rintro ⟨h1, rfl⟩
    have hc := dcl_can (n := u) (by omega)
    unfold numD
    rw [if_neg (fun e => e.elim hc.1 hc.2), numM_of most _ 0 (dcl_digits u) (by rw [dcl_val (by omega)]; exact h1), dcl_val (by omega)]
end Go.Proofs.YtffkaphbgfdpaaaGreatDoor
end

section
/- Texts and rows of them: small lemmas. -/
namespace Go.Proofs.YtffkaphbgfdpaaaGreatDoor
open Go.RowKit Go.Shelf
set_option linter.unusedVariables false
set_option linter.unusedSimpArgs false

theorem drop_byte {s : ByteArray} {i : Nat} (h : i < s.size) : s.data.toList.drop i = s[i] :: s.data.toList.drop (i + 1) := by
  rw [List.drop_eq_getElem_cons (by simpa using h)]
  rfl
theorem extract_list (s : ByteArray) (a b : Nat) : (s.extract a b).data.toList = (s.data.toList.drop a).take (b - a) := by
  rw [Lib.extract_data]
theorem take_byte {s : ByteArray} {i : Nat} (h : i < s.size) : s.data.toList.take (i + 1) = s.data.toList.take i ++ [s[i]] := by
  rw [List.take_succ_eq_append_getElem (by simpa using h)]
  rfl
theorem get_byte {s : ByteArray} {i : Nat} (h : i < s.size) : s.data.toList[i]? = some s[i] := by
  rw [List.getElem?_eq_getElem (by simpa using h)]
  rfl
theorem bs_eq_iff (l : List UInt8) (s : ByteArray) : (bs l = s) ↔ l = s.data.toList := by
  constructor
  · rintro rfl
    rw [bs_list]
  · rintro rfl
    exact bs_of s
theorem strCells_bs (l : List UInt8) : Lib.strCells (bs l) = Lib.byteCells l := by
  unfold Lib.strCells Lib.byteCells
  rw [bs_list]
theorem infoByte' : (Tryz.prog.info? 5).map (fun i => (i.zero, i.size, i.bytes)) = some (some (.int .u8 0), 1, 1) := by kernel_rfl
theorem infoStr : (Tryz.prog.info? 9).map (fun i => (i.zero, i.size, i.bytes)) = some (some (.string ⟨#[]⟩), 1, 16) := by kernel_rfl
abbrev encB (x : ByteArray) : List Value := [.string x]
theorem encB_ok : EncOk 1 encB := ⟨fun _ => rfl, fun a v hv => by
  simp only [encB, List.mem_singleton] at hv
  subst hv
  rfl, by decide⟩
abbrev ls (L : List ByteArray) : List (List UInt8) := L.map fun b => b.data.toList
variable {α : Type} {k : Nat} {enc : α → List Value}
theorem own_rs (E : EncOk k enc) {t : TypeId} {w : World} {base c : Nat} {A : Option Addr} {xs : List α} (h : OwnG k enc t w base (.slice A xs.length c) xs) : Rs enc w A xs := by
  obtain ⟨A', c', e, hr⟩ := OwnG.rs E h
  cases e
  exact hr
theorem own_apart {t : TypeId} {w w5 : World} {base : Nat} {v : Value} {xs : List α} {row : Option Nat} (h : OwnG k enc t w base v xs) (hG : w.grownBy w5 row) (hne : ∀ b, v.ownBlock = some b → row = some b → False) : OwnG k enc t w5 base v xs :=
  own_later h fun b e => hG.block b (own_lt h e).2 (fun e2 => hne b e e2.symm)
/-- What an owned row of bytes is as a string. -/
theorem conv_own {W : World} {base n cap : Nat} {A : Option Addr} {l : List UInt8} (h : W.ownsRow base 5 1 (.slice A n cap) n (Lib.byteCells l)) (hn : n = l.length) : (convert 110 9 (.slice A n cap)).run Tryz.prog W = .ok (.string (bs l)) W := by
  rcases h.2 with ⟨h1, h0⟩ | ⟨g, c, cur, h1, _⟩
  · cases h1
    have : l = [] := List.length_eq_zero_iff.1 hn.symm
    subst this
    have h := run_convert_bytes_nil (P := Tryz.prog) W 110 5 Tryz.underlying110 Tryz.underlying5 0 0 9 Tryz.underlying9
    exact h
  · cases h1
    subst hn
    refine run_convert_bytes_back (P := Tryz.prog) W 110 9 5 ⟨g, 0, none⟩ cap l Tryz.underlying110 Tryz.underlying5 Tryz.underlying9 fun j hj => ?_
    refine own_cells h _ rfl j _ ?_
    unfold Lib.byteCells
    rw [List.getElem?_map, List.getElem?_eq_getElem hj]
    rfl
theorem belowN {B : Nat} {w W : World} (h : Below B w W) (n : Nat) : Below B w (W.drewN n) := h.trans ⟨rfl, rfl, rfl, Nat.le_refl _, fun _ _ => rfl⟩
end Go.Proofs.YtffkaphbgfdpaaaGreatDoor
end

section
/- Plain laws: a text split at a byte. -/
namespace Go.Proofs.YtffkaphbgfdpaaaGreatDoor
set_option linter.unusedVariables false
set_option linter.unusedSimpArgs false

def splitL (c : UInt8) : List UInt8 → List (List UInt8)
  | [] => [[]]
  | b :: r => if b = c then [] :: splitL c r else match splitL c r with
    | [] => [[b]]
    | x :: xs => (b :: x) :: xs
theorem splitL_ne (c : UInt8) : ∀ l, splitL c l ≠ []
  | [] => by simp [splitL]
  | b :: r => by
    unfold splitL
    split
    · simp
    · split <;> simp
theorem splitL_one {c : UInt8} : ∀ (x : List UInt8), c ∉ x → splitL c x = [x]
  | [], _ => rfl
  | b :: x, h => by
    have hb : ¬ b = c := fun e => h (e ▸ List.mem_cons_self ..)
    unfold splitL
    rw [if_neg hb, splitL_one x fun hm => h (List.mem_cons_of_mem _ hm)]
theorem splitL_at {c : UInt8} : ∀ (x r : List UInt8), c ∉ x → splitL c (x ++ c :: r) = x :: splitL c r
  | [], r, _ => by
    show splitL c (c :: r) = _
    rw [splitL.eq_def]
    exact if_pos rfl
  | b :: x, r, h => by
    have hb : ¬ b = c := fun e => h (e ▸ List.mem_cons_self ..)
    show splitL c (b :: (x ++ c :: r)) = _
    rw [splitL.eq_def]
    simp only [hb, if_false]
    rw [splitL_at x r fun hm => h (List.mem_cons_of_mem _ hm)]
theorem mem_split_first {c : UInt8} : ∀ (l : List UInt8), c ∈ l → ∃ x r, l = x ++ c :: r ∧ c ∉ x
  | [], h => by cases h
  | b :: l, h => by
    by_cases hb : b = c
    · subst hb
      exact ⟨[], l, rfl, by simp⟩
    · obtain ⟨x, r, e, hx⟩ := mem_split_first l (by rcases List.mem_cons.1 h with e | h; exact absurd e.symm hb; exact h)
      exact ⟨b :: x, r, by rw [e]; rfl, fun hm => by rcases List.mem_cons.1 hm with e | hm; exact hb e.symm; exact hx hm⟩
/-- Text parts hold no such byte. -/
theorem splitL_no {c : UInt8} : ∀ (l : List UInt8), ∀ x ∈ splitL c l, c ∉ x
  | [], x, hx => by
    have : x = [] := by simpa [splitL] using hx
    rw [this]; simp
  | b :: l, x, hx => by
    have ih := splitL_no (c := c) l
    unfold splitL at hx
    split at hx
    · rcases List.mem_cons.1 hx with rfl | hx
      · simp
      · exact ih x hx
    · rename_i hb
      split at hx
      · rename_i e; exact absurd e (splitL_ne c l)
      · rename_i y ys e
        rcases List.mem_cons.1 hx with rfl | hx
        · intro hm
          rcases List.mem_cons.1 hm with e2 | hm
          · exact hb e2.symm
          · exact ih y (by rw [e]; exact List.mem_cons_self ..) hm
        · exact ih x (by rw [e]; exact List.mem_cons_of_mem _ hx)
/-- The parts, with the byte between. -/
def joinL (c : UInt8) : List (List UInt8) → List UInt8
  | [] => []
  | [x] => x
  | x :: y :: r => x ++ c :: joinL c (y :: r)
theorem splitL_join {c : UInt8} : ∀ (xs : List (List UInt8)), xs ≠ [] → (∀ x ∈ xs, c ∉ x) → splitL c (joinL c xs) = xs
  | [], h, _ => absurd rfl h
  | [x], _, h => splitL_one x (h x (List.mem_cons_self ..))
  | x :: y :: r, _, h => by
    show splitL c (x ++ c :: joinL c (y :: r)) = _
    rw [splitL_at _ _ (h x (List.mem_cons_self ..)), splitL_join (y :: r) (by simp) fun z hz => h z (List.mem_cons_of_mem _ hz)]
theorem joinL_split {c : UInt8} : ∀ (l : List UInt8), joinL c (splitL c l) = l
  | [] => rfl
  | b :: r => by
    have ih := joinL_split (c := c) r
    unfold splitL
    split
    · rename_i hb
      subst hb
      cases h : splitL b r with
      | nil => exact absurd h (splitL_ne b r)
      | cons y ys =>
        show [] ++ b :: joinL b (y :: ys) = _
        rw [← h, ih]
        rfl
    · cases h : splitL c r with
      | nil => exact absurd h (splitL_ne c r)
      | cons y ys =>
        rw [h] at ih
        show joinL c ((b :: y) :: ys) = _
        cases ys with
        | nil =>
          have ih : y = r := ih
          rw [← ih]
          rfl
        | cons z zs =>
          have ih : y ++ c :: joinL c (z :: zs) = r := ih
          show (b :: y) ++ c :: joinL c (z :: zs) = _
          rw [← ih]
          rfl
theorem splitL_len (c : UInt8) : ∀ l, (splitL c l).length ≤ l.length + 1
  | [] => by simp [splitL]
  | b :: r => by
    have := splitL_len c r
    unfold splitL
    split
    · simp; omega
    · split
      · simp
      · rename_i h; rw [h] at this; simp at this ⊢; omega
theorem index_no {c : UInt8} : ∀ (l : List UInt8), c ∉ l → Lib.index l [c] = -1
  | [], _ => rfl
  | b :: l, h => by
    have hb : ¬ c = b := fun e => h (e ▸ List.mem_cons_self ..)
    rw [Lib.index.eq_def]
    have : ([c] : List UInt8).isPrefixOf (b :: l) = false := by
      show (c == b && ([] : List UInt8).isPrefixOf l) = false
      rw [Bool.and_eq_false_iff]
      exact .inl (beq_eq_false_iff_ne.2 hb)
    simp only [this, Bool.false_eq_true, if_false]
    rw [index_no l fun hm => h (List.mem_cons_of_mem _ hm)]
    rfl
theorem index_at {c : UInt8} : ∀ (x r : List UInt8), c ∉ x → Lib.index (x ++ c :: r) [c] = x.length
  | [], r, _ => by
    show Lib.index (c :: r) [c] = _
    unfold Lib.index
    simp
  | b :: x, r, h => by
    have hb : ¬ c = b := fun e => h (e ▸ List.mem_cons_self ..)
    show Lib.index (b :: (x ++ c :: r)) [c] = _
    rw [Lib.index.eq_def]
    have : ([c] : List UInt8).isPrefixOf (b :: (x ++ c :: r)) = false := by
      show (c == b && ([] : List UInt8).isPrefixOf _) = false
      rw [Bool.and_eq_false_iff]
      exact .inl (beq_eq_false_iff_ne.2 hb)
    simp only [this, Bool.false_eq_true, if_false]
    rw [index_at x r fun hm => h (List.mem_cons_of_mem _ hm)]
    have : (((x.length : Nat) : Int) == -1) = false := by rw [beq_eq_false_iff_ne]; omega
    simp [this]
theorem split_eq (c : UInt8) : ∀ (f : Nat) (l : List UInt8), l.length < f → Lib.splitK [c] 0 (Lib.count l [c]) l = splitL c l
  | 0, _, h => by omega
  | f + 1, l, h => by
    by_cases hm : c ∈ l
    · obtain ⟨x, r, rfl, hx⟩ := mem_split_first l hm
      have hi := index_at x r hx
      rw [Lib.count_hit (by simp) hi, splitL_at x r hx, Nat.add_comm, Lib.splitK]
      have h1 : (Lib.index (x ++ c :: r) [c] == -1) = false := by rw [hi, beq_eq_false_iff_ne]; omega
      rw [h1]
      simp only [Bool.false_eq_true, if_false]
      rw [hi]
      have hd : (x ++ c :: r).drop (((x.length : Nat) : Int).toNat + [c].length) = r := by
        rw [show ((x.length : Nat) : Int).toNat + [c].length = x.length + 1 from rfl, ← List.drop_drop, List.drop_left]
        rfl
      have hd2 : (x ++ c :: r).drop (x.length + [c].length) = r := hd
      rw [hd, hd2, split_eq c f r (by rw [List.length_append, List.length_cons] at h; omega)]
      congr 1
      show List.take (x.length + 0) _ = x
      rw [Nat.add_zero, List.take_left]
    · have hi := index_no l hm
      rw [Lib.count_miss hi, splitL_one l hm]
      rfl
theorem splitB_eq (s sep : ByteArray) (c : UInt8) (hc : sep.data.toList = [c]) : ls (Lib.splitB sep 0 (Lib.countB s sep) s) = splitL c s.data.toList := by
  unfold ls
  rw [Lib.splitB_data, hc]
  have h1 : Lib.countB s sep = Lib.count s.data.toList [c] := by
    unfold Lib.countB
    rw [hc]
  rw [h1]
  exact split_eq c _ _ (Nat.lt_succ_self _)
theorem splitB_small (sep : ByteArray) : ∀ (k : Nat) (s : ByteArray), ∀ x ∈ Lib.splitB sep 0 k s, x.size ≤ s.size
  | 0, s, x, hx => by
    rw [Lib.splitB_zero] at hx
    rw [List.mem_singleton.1 hx]
    exact Nat.le_refl _
  | k + 1, s, x, hx => by
    unfold Lib.splitB at hx
    split at hx
    · rw [List.mem_singleton.1 hx]
      exact Nat.le_refl _
    · rcases List.mem_cons.1 hx with rfl | hx
      · rw [ByteArray.size_extract]; omega
      · have := splitB_small sep k _ x hx
        rw [ByteArray.size_extract] at this
        omega
end Go.Proofs.YtffkaphbgfdpaaaGreatDoor
end

section
/- Split: the document's and the library's. -/
namespace Go.Proofs.YtffkaphbgfdpaaaGreatDoor
open Go.RowKit Go.Shelf Go.Deep
set_option linter.unusedVariables false
set_option linter.unusedSimpArgs false

theorem own_newN {α : Type} {k : Nat} {enc : α → List Value} (E : EncOk k enc) (t : TypeId) (w : World) (l : List α) (hl : l.length ≤ 4611686018427387904) : OwnG k enc t (w.alloc (.cells (flatG enc l).toArray t)) w.heap.size (.slice (some ⟨w.heap.size, 0, none⟩) l.length l.length) l :=
  ⟨flatG_length E l, .inr ⟨w.heap.size, l.length, (flatG enc l).toArray, rfl, Nat.le_refl _, heap_alloc_new w _, Nat.le_refl _, by simp only [maxLen]; omega, by simp [flatG_length E], by
    rw [← flatG_length E]
    simp⟩⟩
theorem flatB (L : List ByteArray) : flatG encB L = L.map Value.string := by
  unfold flatG
  induction L with
  | nil => rfl
  | cons x L ih => rw [List.flatMap_cons, ih]; rfl
theorem ls_length (L : List ByteArray) : (ls L).length = L.length := List.length_map ..
theorem psplit_any (s : ByteArray) (c : UInt8) (m : Int) (w : World) (hs : s.size ≤ 1048576) (hm : w.cell? ⟨0, 0, none⟩ = some (.int .i64 m)) : Calls Tryz.prog 136 #[.string s, .string ⟨#[c]⟩] w fun e w' => ∃ v, e = .returned v ∧ ∃ (L : List ByteArray), ls L = splitL c s.data.toList ∧ L.length ≤ s.size + 1 ∧ (∀ x ∈ L, x.size ≤ s.size) ∧ OwnG 1 encB 9 w' w.heap.size v L ∧ Below w.heap.size w w' := by
  refine (Tryz.strings_Split s ⟨#[c]⟩ m w (by omega) hm (Nat.le_refl _)).mono ?_
  rintro e w' ⟨rfl, rfl⟩
  have hL := splitB_eq s ⟨#[c]⟩ c rfl
  have hz := splitB_small ⟨#[c]⟩ (Lib.countB s ⟨#[c]⟩) s
  have hlen := Lib.splitB_all ⟨#[c]⟩ (Nat.le_refl _) 0 _ s rfl
  obtain ⟨L, hLL⟩ : ∃ L, Lib.splitB ⟨#[c]⟩ 0 (Lib.countB s ⟨#[c]⟩) s = L := ⟨_, rfl⟩
  rw [hLL] at hL hz hlen ⊢
  have h9 : L.length ≤ s.size + 1 := by
    rw [← ls_length, hL, ← size_list]
    exact splitL_len c _
  refine ⟨_, rfl, L, hL, h9, hz, ?_, (Below.refl _ _).alloc (Nat.le_refl _) _⟩
  have h := own_newN encB_ok 9 w L (by omega)
  rw [flatB] at h
  rw [← hlen]
  exact h
/-- The parts so far, and the text from the last one's begin on. -/
def PartsAt (c : UInt8) (s : ByteArray) (f i : Nat) (L : List ByteArray) (R : List (List UInt8)) : Prop :=
  f ≤ i ∧ i ≤ s.size ∧ L.length ≤ f ∧ ls L ++ splitL c (s.data.toList.drop f) = R ∧ c ∉ (s.data.toList.drop f).take (i - f) ∧ ∀ x ∈ L, x.size ≤ s.size
theorem PartsAt.skip {c : UInt8} {s : ByteArray} {f i : Nat} {L : List ByteArray} {R : List (List UInt8)} (h : PartsAt c s f i L R) (hi : i < s.size) (hb : ¬ s[i] = c) : PartsAt c s f (i + 1) L R := by
  obtain ⟨h1, h2, h3, h4, h5, h6⟩ := h
  refine ⟨by omega, by omega, h3, h4, ?_, h6⟩
  have e : (s.data.toList.drop f).take (i + 1 - f) = (s.data.toList.drop f).take (i - f) ++ [s[i]] := by
    have hl : i - f < (s.data.toList.drop f).length := by rw [List.length_drop, size_list]; omega
    rw [show i + 1 - f = (i - f) + 1 from by omega, List.take_succ_eq_append_getElem hl]
    congr 2
    have h9 : (s.data.toList.drop f)[i - f]? = some s[i] := by
      rw [List.getElem?_drop, show f + (i - f) = i from by omega]
      exact get_byte hi
    rw [List.getElem?_eq_getElem hl] at h9
    exact Option.some.inj h9
  rw [e]
  intro hm
  rcases List.mem_append.1 hm with hm | hm
  · exact h5 hm
  · exact hb (List.mem_singleton.1 hm).symm
theorem PartsAt.cut {c : UInt8} {s : ByteArray} {f i : Nat} {L : List ByteArray} {R : List (List UInt8)} (h : PartsAt c s f i L R) (hi : i < s.size) (hb : s[i] = c) : PartsAt c s (i + 1) (i + 1) (L ++ [s.extract f i]) R := by
  obtain ⟨h1, h2, h3, h4, h5, h6⟩ := h
  refine ⟨by omega, by omega, by rw [List.length_append]; simp; omega, ?_, by simp, ?_⟩
  · rw [← h4]
    have hd := drop_byte hi
    rw [hb] at hd
    have e : s.data.toList.drop f = (s.data.toList.drop f).take (i - f) ++ c :: s.data.toList.drop (i + 1) := by
      rw [← hd]
      have := (List.take_append_drop (i - f) (s.data.toList.drop f)).symm
      rw [List.drop_drop, show f + (i - f) = i from by omega] at this
      exact this
    have e2 : splitL c (s.data.toList.drop f) = (s.data.toList.drop f).take (i - f) :: splitL c (s.data.toList.drop (i + 1)) := by
      rw [e, splitL_at _ _ h5]
      congr 1
      rw [← e]
    rw [e2]
    unfold ls
    rw [List.map_append, List.append_assoc, List.map_singleton, extract_list]
    rfl
  · intro x hx
    rcases List.mem_append.1 hx with hx | hx
    · exact h6 x hx
    · rw [List.mem_singleton.1 hx, ByteArray.size_extract]; omega
theorem PartsAt.last {c : UInt8} {s : ByteArray} {f i : Nat} {L : List ByteArray} {R : List (List UInt8)} (h : PartsAt c s f i L R) (hi : ¬ i < s.size) : ls (L ++ [s.extract f s.size]) = R ∧ (∀ x ∈ L ++ [s.extract f s.size], x.size ≤ s.size) := by
  obtain ⟨h1, h2, h3, h4, h5, h6⟩ := h
  have hl : (s.data.toList.drop f).length = s.size - f := by rw [List.length_drop, size_list]
  rw [List.take_of_length_le (by rw [hl]; omega)] at h5
  rw [splitL_one _ h5] at h4
  constructor
  · rw [← h4]
    unfold ls
    rw [List.map_append, List.map_singleton, extract_list, List.take_of_length_le (by rw [hl]; omega)]
  · intro x hx
    rcases List.mem_append.1 hx with hx | hx
    · exact h6 x hx
    · rw [List.mem_singleton.1 hx, ByteArray.size_extract]; omega
end Go.Proofs.YtffkaphbgfdpaaaGreatDoor
end

section
/- The document's Number. -/
namespace Go.Proofs.YtffkaphbgfdpaaaGreatDoor
open Go.RowKit Go.Shelf Go.Deep
set_option linter.unusedVariables false
set_option linter.unusedSimpArgs false

end Go.Proofs.YtffkaphbgfdpaaaGreatDoor
end

section
/- Small arrays of bytes in a block of their own; the texts of four numbers. -/
namespace Go.Proofs.YtffkaphbgfdpaaaGreatDoor
open Go.RowKit Go.Shelf
set_option linter.unusedVariables false
set_option linter.unusedSimpArgs false

abbrev c8 (n : Nat) : Value := .int .u8 (n : Int)
/-- A block that is an array of bytes. -/
def ArrAt (t : TypeId) (w : World) (b : Nat) (l : List Nat) : Prop := w.heap[b]? = some (.cells (l.map c8).toArray t (0, 0))
section
variable {t : TypeId} {w W : World} {b : Nat} {l : List Nat}
theorem ArrAt.lt (h : ArrAt t w b l) : b < w.heap.size := (Array.getElem?_eq_some_iff.1 h).1
theorem ArrAt.cell (h : ArrAt t w b l) {i x : Nat} (hi : l[i]? = some x) : w.cell? ⟨b, i, none⟩ = some (.int .u8 (x : Int)) := by
  rw [cell_of_row w b i _ t (0, 0) h, List.getElem?_toArray, List.getElem?_map, hi]
  rfl
theorem ArrAt.frozen (h : ArrAt t w b l) (i : Nat) : w.frozen? ⟨b, i, none⟩ = false := Lib.frozen_of_heap h i
theorem ArrAt.later (h : ArrAt t w b l) (hB : Below w.heap.size w W) : ArrAt t W b l := by
  unfold ArrAt
  rw [hB.block b h.lt]
  exact h
theorem ArrAt.new (t : TypeId) (w : World) (l : List Nat) : ArrAt t (w.alloc (.cells (l.map c8).toArray t)) w.heap.size l := heap_alloc_new w _
theorem ArrAt.old (h : ArrAt t w b l) (o : Obj) : ArrAt t (w.alloc o) b l := by
  unfold ArrAt
  rw [Below.heap_alloc _ _ _ h.lt]
  exact h
theorem ArrAt.set (h : ArrAt t w b l) {i : Nat} (v : Nat) (hi : i < l.length) : ArrAt t (w.setCell ⟨b, i, none⟩ (.int .u8 (v : Int))) b (l.set i v) := by
  have := heap_setCell_same w b i _ t (.int .u8 (v : Int)) h
  unfold ArrAt
  rw [this]
  congr 2
  rw [List.setIfInBounds_toArray, List.map_set]
theorem ArrAt.other (h : ArrAt t w b l) {c i : Nat} (v : Value) (hc : b ≠ c) : ArrAt t (w.setCell ⟨c, i, none⟩ v) b l := by
  unfold ArrAt
  rw [heap_setCell_other w ⟨c, i, none⟩ b v hc]
  exact h
end
def mapO {α β : Type} (f : α → Option β) : List α → Option (List β)
  | [] => some []
  | x :: xs => match f x with
    | none => none
    | some y => (mapO f xs).map (y :: ·)
theorem mapO_len {α β : Type} {f : α → Option β} : ∀ (l : List α) (r : List β), mapO f l = some r → r.length = l.length
  | [], r, h => by cases h; rfl
  | x :: xs, r, h => by
    unfold mapO at h
    split at h
    · cases h
    · cases hx : mapO f xs with
      | none => rw [hx] at h; cases h
      | some ys =>
        rw [hx] at h
        cases h
        rw [List.length_cons, List.length_cons, mapO_len xs ys hx]
theorem mapO_mem {α β : Type} {f : α → Option β} : ∀ (l : List α) (r : List β), mapO f l = some r → ∀ y ∈ r, ∃ x ∈ l, f x = some y
  | [], r, h, y, hy => by cases h; cases hy
  | x :: xs, r, h, y, hy => by
    unfold mapO at h
    split at h
    · cases h
    · rename_i z hz
      cases hx : mapO f xs with
      | none => rw [hx] at h; cases h
      | some ys =>
        rw [hx] at h
        cases h
        rcases List.mem_cons.1 hy with rfl | hy
        · exact ⟨x, List.mem_cons_self .., hz⟩
        · obtain ⟨a, ha, hb⟩ := mapO_mem xs ys hx y hy
          exact ⟨a, List.mem_cons_of_mem _ ha, hb⟩
theorem mapO_map {α β γ : Type} {f : β → Option γ} {g : α → β} {k : α → γ} : ∀ (l : List α), (∀ x ∈ l, f (g x) = some (k x)) → mapO f (l.map g) = some (l.map k)
  | [], _ => rfl
  | x :: xs, h => by
    show mapO f (g x :: xs.map g) = _
    unfold mapO
    rw [h x (List.mem_cons_self ..), mapO_map xs fun y hy => h y (List.mem_cons_of_mem _ hy)]
    rfl
/-- Four numbers with points between. -/
def p4L (l : List UInt8) : Option (List Nat) := if (splitL 46 l).length = 4 then mapO (numD 255) (splitL 46 l) else none
def print4L (a : List Nat) : List UInt8 := joinL 46 (a.map dcl)
theorem dcl_no46 (n : Nat) : (46 : UInt8) ∉ dcl n := fun h => absurd (dcl_digits n _ h) (by decide)
theorem p4_print {a : List Nat} (h4 : a.length = 4) (h : ∀ x ∈ a, x ≤ 255) : p4L (print4L a) = some a := by
  have hs : splitL 46 (print4L a) = a.map dcl := by
    refine splitL_join _ (fun e => ?_) (fun x hx => ?_)
    · have := congrArg List.length e
      rw [List.length_map, h4] at this
      cases this
    · obtain ⟨n, _, rfl⟩ := List.mem_map.1 hx
      exact dcl_no46 n
  unfold p4L
  rw [hs, List.length_map, if_pos h4]
  have := mapO_map (f := numD 255) (g := dcl) (k := fun n => n) a fun x hx => (numD_iff (by decide) _ _).2 ⟨h x hx, rfl⟩
  rw [this, List.map_id']
theorem p4_some {l : List UInt8} {a : List Nat} (h : p4L l = some a) : a.length = 4 ∧ ∀ x ∈ a, x ≤ 255 := by
  unfold p4L at h
  split at h
  · rename_i h4
    refine ⟨by rw [mapO_len _ _ h, h4], fun x hx => ?_⟩
    obtain ⟨y, _, hy⟩ := mapO_mem _ _ h x hx
    exact ((numD_iff (by decide) _ _).1 hy).1
  · cases h
/-- An array's value. -/
def agg4 (l : List Nat) : Value := .agg #[c8 (l.getD 0 0), c8 (l.getD 1 0), c8 (l.getD 2 0), c8 (l.getD 3 0)]
def err60 {α : Type} (o : Option α) : Nat := if o.isSome then 0 else 60
theorem four_of {l : List Nat} (h : l.length = 4) : ∃ a b c d, l = [a, b, c, d] := by
  match l, h with
  | [a, b, c, d], _ => exact ⟨a, b, c, d, rfl⟩
end Go.Proofs.YtffkaphbgfdpaaaGreatDoor
end

section
/- addr.Parse4. -/
namespace Go.Proofs.YtffkaphbgfdpaaaGreatDoor
open Go.RowKit Go.Shelf Go.Deep
set_option linter.unusedVariables false
set_option linter.unusedSimpArgs false

theorem parseM_num : ∀ (M : Nat) (l : List UInt8) (v u : Nat), M ≤ 4294967295 → v ≤ M → Lib.parseUintM M v l = .ok u → numM M l v = some u
  | M, [], v, u, _, _, h => by
    unfold Lib.parseUintM at h
    cases h
    rfl
  | M, b :: l, v, u, hM, hv, h => by
    unfold Lib.parseUintM at h
    split at h
    · rename_i hb
      split at h
      · cases h
      · split at h
        · cases h
        · unfold numM
          rw [if_neg (by unfold isD; simp only [Bool.and_eq_false_iff, decide_eq_false_iff_not]; omega), if_neg (by omega)]
          exact parseM_num M l _ u hM (by omega) h
    · cases h
theorem num_parseM : ∀ (M : Nat) (l : List UInt8) (v u : Nat), M ≤ 4294967295 → v ≤ M → numM M l v = some u → Lib.parseUintM M v l = .ok u
  | M, [], v, u, _, _, h => by
    have h : some v = some u := h
    cases h
    rfl
  | M, b :: l, v, u, hM, hv, h => by
    unfold numM at h
    split at h
    · cases h
    · rename_i hb
      have hb : isD b = true := by simpa using hb
      unfold isD at hb
      simp only [Bool.and_eq_true, decide_eq_true_eq] at hb
      split at h
      · cases h
      · unfold Lib.parseUintM
        rw [if_pos hb, if_neg (by omega), if_neg (by omega)]
        exact num_parseM M l _ u hM (by omega) h
/-- ParseUint(s, 10, 8) and what the document calls a number. -/
theorem parse8_num {l : List UInt8} {u : Nat} (h : numD 255 l = some u) : Lib.parseUintB 8 l = .ok u := by
  unfold numD at h
  split at h
  · cases h
  · rename_i hc
    unfold Lib.parseUintB
    rw [if_neg fun e => hc (.inl e)]
    exact num_parseM 255 l 0 u (by decide) (by decide) h
theorem num_parse8 {l : List UInt8} {u : Nat} (h : Lib.parseUintB 8 l = .ok u) : u ≤ 255 ∧ (numD 255 l = none ∨ numD 255 l = some u) := by
  unfold Lib.parseUintB at h
  split at h
  · cases h
  · have h1 := parseM_num 255 l 0 u (by decide) (by decide) h
    refine ⟨(numM_some _ _ _ _ h1 (by decide)).2.2, ?_⟩
    unfold numD
    split
    · exact .inl rfl
    · exact .inr h1
/-- How ParseUint(s, 10, 8) ends. -/
def PuEnd (w : World) (l : List UInt8) (e : Ending) (w' : World) : Prop :=
  ((∃ u : Nat, e = .returned (.tuple #[.int .u64 u, .nilIface]) ∧ u ≤ 255 ∧ (numD 255 l = none ∧ dcl u ≠ l ∨ numD 255 l = some u ∧ dcl u = l)) ∨ (∃ (u : Nat) (t : TypeId) (p : Option Addr), e = .returned (.tuple #[.int .u64 u, .iface t (.pointer p)]) ∧ u ≤ 255 ∧ numD 255 l = none)) ∧ Below w.heap.size w w'
/-- The two errors' variables hold what an interface of errors holds. -/
def ErrVars (w : World) : Prop := (∃ v, w.cell? ⟨6, 0, none⟩ = some v ∧ (v = .nilIface ∨ ∃ t p, v = .iface t p)) ∧ (∃ v, w.cell? ⟨7, 0, none⟩ = some v ∧ (v = .nilIface ∨ ∃ t p, v = .iface t p))
theorem ErrVars.later {w W : World} (h : ErrVars w) (hB : Below w.heap.size w W) : ErrVars W := by
  obtain ⟨⟨v, h1, h2⟩, ⟨u, h3, h4⟩⟩ := h
  exact ⟨⟨v, (hB.cell (p := ⟨6, 0, none⟩) (World.block_lt_of_cell? w _ h1)).trans h1, h2⟩, ⟨u, (hB.cell (p := ⟨7, 0, none⟩) (World.block_lt_of_cell? w _ h3)).trans h3, h4⟩⟩
theorem pu8_any (s : ByteArray) (w : World) (hs : s.size ≤ 1048576) (hv : ErrVars w) : Calls Tryz.prog 223 #[.string s, .int .i64 10, .int .i64 8] w (PuEnd w s.data.toList) := by
  obtain ⟨⟨v, h1, h2⟩, ⟨u, h3, h4⟩⟩ := hv
  cases h : Lib.parseUintB 8 s.data.toList with
  | ok u =>
    obtain ⟨h5, h6⟩ := num_parse8 h
    refine (Tryz.strconv_ParseUint_10_at8_ok s (by omega) u h w).mono ?_
    rintro e w' ⟨rfl, hw⟩
    refine ⟨.inl ⟨u, rfl, h5, ?_⟩, ?_⟩
    · rcases h6 with h6 | h6
      · refine .inl ⟨h6, fun e => ?_⟩
        rw [(numD_iff (by decide) _ u).2 ⟨h5, e.symm⟩] at h6
        cases h6
      · exact .inr ⟨h6, ((numD_iff (by decide) _ u).1 h6).2.symm⟩
    · rcases hw with rfl | rfl
      · exact Below.refl _ _
      · exact Lib.bytesWorld_below _ _ _
  | «syntax» =>
    have hn : numD 255 s.data.toList = none := by
      cases hd : numD 255 s.data.toList with
      | none => rfl
      | some x => rw [parse8_num hd] at h; cases h
    refine (Tryz.strconv_ParseUint_10_at8_syntax s (by omega) h v w h1 h2).mono ?_
    rintro e w' ⟨N, rfl, _, _, hB⟩
    exact ⟨.inr ⟨0, _, _, rfl, by decide, hn⟩, hB⟩
  | range =>
    have hn : numD 255 s.data.toList = none := by
      cases hd : numD 255 s.data.toList with
      | none => rfl
      | some x => rw [parse8_num hd] at h; cases h
    refine (Tryz.strconv_ParseUint_10_at8_range s (by omega) h u w h3 h4).mono ?_
    rintro e w' ⟨N, rfl, _, _, hB⟩
    exact ⟨.inr ⟨255, _, _, rfl, by decide, hn⟩, hB⟩
end Go.Proofs.YtffkaphbgfdpaaaGreatDoor
end

section
/- addr.Parse4, walked. -/
namespace Go.Proofs.YtffkaphbgfdpaaaGreatDoor
open Go.RowKit Go.Shelf Go.Deep
set_option linter.unusedVariables false
set_option linter.unusedSimpArgs false

abbrev zero4 : List Nat := [0, 0, 0, 0]
theorem max_later {w W : World} {m : Int} (hm : w.cell? ⟨0, 0, none⟩ = some (.int .i64 m)) (hB : Below w.heap.size w W) : W.cell? ⟨0, 0, none⟩ = some (.int .i64 m) :=
  (hB.cell (p := ⟨0, 0, none⟩) (World.block_lt_of_cell? w _ hm)).trans hm
theorem pad_set (us : List Nat) (x k : Nat) (h : us.length = k) (hk : k < 4) : (us ++ List.replicate (4 - k) 0).set k x = (us ++ [x]) ++ List.replicate (4 - (k + 1)) 0 := by
  subst h
  rw [show 4 - us.length = (4 - (us.length + 1)) + 1 from by omega, List.replicate_succ, List.set_append_right _ _ (Nat.le_refl _), Nat.sub_self, List.set_cons_zero, List.append_assoc]
  rfl
theorem p4_parts {s : List UInt8} {L : List ByteArray} (hL : ls L = splitL 46 s) (h : L.length = 4) : p4L s = mapO (numD 255) (ls L) := by
  unfold p4L
  rw [← hL, ls_length, if_pos h]
theorem p4_not {s : List UInt8} {L : List ByteArray} (hL : ls L = splitL 46 s) (h : ¬ L.length = 4) : p4L s = none := by
  unfold p4L
  rw [← hL, ls_length, if_neg h]
theorem mapO_bad {f : List UInt8 → Option Nat} {x : List UInt8} (xs : List (List UInt8)) (h : f x = none) : mapO f (x :: xs) = none := by
  unfold mapO
  rw [h]
theorem mapO_good {f : List UInt8 → Option Nat} {x : List UInt8} {u : Nat} (xs : List (List UInt8)) (us : List Nat) (h : f x = some u) : (mapO f (x :: xs)).map (us ++ ·) = (mapO f xs).map ((us ++ [u]) ++ ·) := by
  rw [mapO.eq_def]
  simp only [h]
  cases mapO f xs with
  | none => rfl
  | some ys => simp
set_option maxRecDepth 100000 in
set_option maxHeartbeats 3200000 in
theorem parse4_any (s : ByteArray) (m : Int) (w : World) (hs : s.size ≤ 1048576) (hm : w.cell? ⟨0, 0, none⟩ = some (.int .i64 m)) (hv : ErrVars w) (ht : Tab10 w) : Calls Tryz.prog 218 #[.string s] w fun e w' => e = .returned (.tuple #[agg4 ((p4L s.data.toList).getD zero4), .int .i64 (err60 (p4L s.data.toList))]) ∧ Below w.heap.size w w' := by
  obtain ⟨R, hR⟩ : ∃ R, p4L s.data.toList = R := ⟨_, rfl⟩
  have HR := Lib.hid hR
  have hB0 : Below w.heap.size w ((w.alloc (.cells (zero4.map c8).toArray 109)).alloc (.cells (zero4.map c8).toArray 109)) := ((Below.refl _ w).alloc (Nat.le_refl _) _).alloc (by simp) _
  have cs := psplit_any s 46 m _ hs (max_later hm hB0)
  have Cs := Lib.hid cs
  have HV := Lib.hid hv
  have HT := Lib.hid ht
  have HB0 := Lib.hid hB0
  have hr0 := (ArrAt.new 109 w zero4).old (.cells (zero4.map c8).toArray 109)
  have hr1 := ArrAt.new 109 (w.alloc (.cells (zero4.map c8).toArray 109)) zero4
  rw [World.size_alloc] at hr1
  have Hr0 := Lib.hid hr0
  have Hr1 := Lib.hid hr1
  rw [hR]
  clear hR cs hv ht hB0 hr0 hr1 hm
  go_enter Tryz.func218, Tryz.ntmps218
  go_wp2_with fail
  refine Cs.out.mono ?_
  rintro e w1 ⟨v1, rfl, L, hL, hL9, hLs, hown, hB1⟩
  obtain ⟨A1, c1, rfl, hRL⟩ := OwnG.rs encB_ok hown
  have HOL := Lib.hid (show OwnG 1 encB 9 w1 (w.heap.size + 2) (.slice A1 L.length c1) L from by simpa using hown)
  have hr0 := Hr0.out.later hB1
  have hr1 := Hr1.out.later hB1
  have hB1' := HB0.out.trans (hB1.mono HB0.out.size)
  have HB1 := Lib.hid hB1'
  have HS1 := Lib.hid hB1'.size
  have HL := Lib.hid hL
  have HLs := Lib.hid hLs
  have n9 : L.length ≤ 1048577 := by omega
  clear hB1 hB1' hRL hL hLs hL9 hown
  by_cases h4 : L.length = 4
  case neg =>
    have d1 : ((L.length : Int) != 4) = true := by rw [bne_iff_ne]; omega
    have hn := p4_not HL.out h4
    have HF := Lib.hid (HR.out.symm.trans hn)
    have f0 : w1.cell? ⟨w.heap.size, 0, none⟩ = some (.int .u8 0) := hr0.cell (i := 0) rfl
    have f1 : w1.cell? ⟨w.heap.size, 1, none⟩ = some (.int .u8 0) := hr0.cell (i := 1) rfl
    have f2 : w1.cell? ⟨w.heap.size, 2, none⟩ = some (.int .u8 0) := hr0.cell (i := 2) rfl
    have f3 : w1.cell? ⟨w.heap.size, 3, none⟩ = some (.int .u8 0) := hr0.cell (i := 3) rfl
    have g0 : w1.cell? ⟨w.heap.size + 1, 0, none⟩ = some (.int .u8 0) := hr1.cell (i := 0) rfl
    have g1 : w1.cell? ⟨w.heap.size + 1, 1, none⟩ = some (.int .u8 0) := hr1.cell (i := 1) rfl
    have g2 : w1.cell? ⟨w.heap.size + 1, 2, none⟩ = some (.int .u8 0) := hr1.cell (i := 2) rfl
    have g3 : w1.cell? ⟨w.heap.size + 1, 3, none⟩ = some (.int .u8 0) := hr1.cell (i := 3) rfl
    have q0 := hr0.frozen 0
    have q1 := hr0.frozen 1
    have q2 := hr0.frozen 2
    have q3 := hr0.frozen 3
    clear hr0 hr1 hn h4
    go_wp2_with fail
    refine bodyPost_ret (v := .tuple #[.agg #[.int .u8 0, .int .u8 0, .int .u8 0, .int .u8 0], .int .i64 60]) (by simp [results, Tryz.results218, go_sem, *]) rfl ⟨by rw [HF.out]; rfl, ?_⟩
    exact (((HB1.out.setCell (p := ⟨w.heap.size, 0, none⟩) (Nat.le_refl _) _).setCell (p := ⟨w.heap.size, 1, none⟩) (Nat.le_refl _) _).setCell (p := ⟨w.heap.size, 2, none⟩) (Nat.le_refl _) _).setCell (p := ⟨w.heap.size, 3, none⟩) (Nat.le_refl _) _
  case pos =>
    have d1 : ((L.length : Int) != 4) = false := by simp; omega
    have hp := p4_parts HL.out h4
    have HM := Lib.hid (hp.symm.trans HR.out)
    have H4 := Lib.hid h4
    have Hr0 := Lib.hid hr0
    have Hr1 := Lib.hid hr1
    clear hp h4 hr0 hr1
    go_wp2_with fail
    go_loopg [6, 7, 8, 9, 18] 4 (fun g s6 s7 s8 s9 s18 wr => ∃ (k : Nat) (us : List Nat), k + g = 4 ∧ s18 = .int .i64 k ∧ Aside (us.length = k) ∧ Aside ((mapO (numD 255) (ls (L.drop k))).map (us ++ ·) = R) ∧ ArrAt 109 wr w.heap.size zero4 ∧ ArrAt 109 wr (w.heap.size + 1) (us ++ List.replicate (4 - k) 0) ∧ Below w.heap.size w wr ∧ OwnG 1 encB 9 wr (w.heap.size + 2) (.slice A1 L.length c1) L)
    case atStart => exact ⟨0, [], by omega, rfl, by
        show _ = _
        rfl, by
        show _ = _
        rw [List.drop_zero, HM.out]
        cases R <;> simp, Hr0.out, Hr1.out, HB1.out, HOL.out⟩
    case round =>
      obtain ⟨k, us, hk, rfl, hus, hA, h0, h1, hB, hO⟩ := hrel
      have k0 : (0 : Int) ≤ (k : Int) := by omega
      have HB := Lib.hid hB
      have HOw := Lib.hid hO
      have Hus := Lib.hid hus.out
      have HA := Lib.hid hA.out
      have H0 := Lib.hid h0
      have H1 := Lib.hid h1
      clear hB hO hus hA h0 h1
      cases gk with
      | zero =>
        have k1 : ¬ (k : Int) < (L.length : Int) := by have := H4.out; omega
        have hk4 : k = 4 := by omega
        have hR := HA.out
        rw [List.drop_of_length_le (by rw [H4.out]; omega)] at hR
        have hR : R = some us := by rw [← hR]; simp [mapO]
        obtain ⟨a, b, c, d, rfl⟩ := four_of (Hus.out.trans hk4)
        subst hk4
        have HF := Lib.hid hR
        have f0 : wr.cell? ⟨w.heap.size, 0, none⟩ = some (.int .u8 0) := H0.out.cell (i := 0) rfl
        have f1 : wr.cell? ⟨w.heap.size, 1, none⟩ = some (.int .u8 0) := H0.out.cell (i := 1) rfl
        have f2 : wr.cell? ⟨w.heap.size, 2, none⟩ = some (.int .u8 0) := H0.out.cell (i := 2) rfl
        have f3 : wr.cell? ⟨w.heap.size, 3, none⟩ = some (.int .u8 0) := H0.out.cell (i := 3) rfl
        have q0 := H0.out.frozen 0
        have q1 := H0.out.frozen 1
        have q2 := H0.out.frozen 2
        have q3 := H0.out.frozen 3
        have g0 : wr.cell? ⟨w.heap.size + 1, 0, none⟩ = some (.int .u8 a) := H1.out.cell (i := 0) rfl
        have g1 : wr.cell? ⟨w.heap.size + 1, 1, none⟩ = some (.int .u8 b) := H1.out.cell (i := 1) rfl
        have g2 : wr.cell? ⟨w.heap.size + 1, 2, none⟩ = some (.int .u8 c) := H1.out.cell (i := 2) rfl
        have g3 : wr.cell? ⟨w.heap.size + 1, 3, none⟩ = some (.int .u8 d) := H1.out.cell (i := 3) rfl
        clear hR
        go_wp2_with fail
        refine bodyPost_ret (v := .tuple #[.agg #[.int .u8 a, .int .u8 b, .int .u8 c, .int .u8 d], .int .i64 0]) (by simp [results, Tryz.results218, go_sem, *]) rfl ⟨by rw [HF.out]; rfl, ?_⟩
        exact (((HB.out.setCell (p := ⟨w.heap.size, 0, none⟩) (Nat.le_refl _) _).setCell (p := ⟨w.heap.size, 1, none⟩) (Nat.le_refl _) _).setCell (p := ⟨w.heap.size, 2, none⟩) (Nat.le_refl _) _).setCell (p := ⟨w.heap.size, 3, none⟩) (Nat.le_refl _) _
      | succ g =>
        have k1 : (k : Int) < (L.length : Int) := by have := H4.out; omega
        have hkl : k < L.length := by omega
        have k4 : (k : Int) < 4 := by omega
        obtain ⟨bb, o, hAe, -⟩ := own_rs encB_ok HOw.out (by omega)
        subst hAe
        obtain ⟨x, hx⟩ : ∃ x, L[k]? = some x := ⟨_, List.getElem?_eq_getElem hkl⟩
        have hcell := (own_rs encB_ok HOw.out).cell encB_ok hx (j := 0) rfl
        simp only [Nat.mul_one, Nat.add_zero] at hcell
        have hdr : L.drop k = x :: L.drop (k + 1) := by
          rw [List.drop_eq_getElem_cons hkl]
          rw [List.getElem?_eq_getElem hkl] at hx
          rw [Option.some.inj hx]
        have hA2 := HA.out
        rw [hdr] at hA2
        have HA2 := Lib.hid (show (mapO (numD 255) (x.data.toList :: ls (L.drop (k + 1)))).map (us ++ ·) = R from hA2)
        have cp := pu8_any x wr (by have := HLs.out x (List.mem_of_getElem? hx); omega) (HV.out.later HB.out)
        have Cp := Lib.hid cp
        clear hA2 hdr hx hkl cp
        go_wp2_with fail
        refine Cp.out.mono ?_
        rintro e w2 ⟨hend, hB2⟩
        have hBt := HB.out.trans (hB2.mono HB.out.size)
        have h0 := H0.out.later hB2
        have h1 := H1.out.later hB2
        have hOw2 := own_below HOw.out hB2
        have HBt := Lib.hid hBt
        have H0' := Lib.hid h0
        have H1' := Lib.hid h1
        have HOw2 := Lib.hid hOw2
        clear hB2 hBt h0 h1 hOw2
        rcases hend with ⟨u, rfl, hu, hd⟩ | ⟨u, t, p, rfl, hu, hd⟩
        · have cf := fmtu_any u w2 (by omega) (HT.out.later HBt.out)
          have Cf := Lib.hid cf
          clear cf
          rcases hd with ⟨hd, hne⟩ | ⟨hd, heq⟩
          · have hR := HA2.out
            rw [mapO_bad _ hd] at hR
            have HF := Lib.hid (show R = none from hR.symm)
            have e1 : ((bs (dcl u)).toList == x.toList) = false := by
              rw [beq_eq_false_iff_ne, ne_eq, ByteArray.toList_eq, ByteArray.toList_eq, bs_list]
              exact hne
            clear hR hd hne
            go_wp2_with fail
            refine Cf.out.mono ?_
            rintro e w3 ⟨rfl, hB3⟩
            have h0 := H0'.out.later hB3
            have HB3 := Lib.hid (HBt.out.trans (hB3.mono HBt.out.size))
            have f0 : w3.cell? ⟨w.heap.size, 0, none⟩ = some (.int .u8 0) := h0.cell (i := 0) rfl
            have f1 : w3.cell? ⟨w.heap.size, 1, none⟩ = some (.int .u8 0) := h0.cell (i := 1) rfl
            have f2 : w3.cell? ⟨w.heap.size, 2, none⟩ = some (.int .u8 0) := h0.cell (i := 2) rfl
            have f3 : w3.cell? ⟨w.heap.size, 3, none⟩ = some (.int .u8 0) := h0.cell (i := 3) rfl
            have q0 := h0.frozen 0
            have q1 := h0.frozen 1
            have q2 := h0.frozen 2
            have q3 := h0.frozen 3
            clear hB3 h0
            go_wp2_with fail
            refine bodyPost_ret (v := .tuple #[.agg #[.int .u8 0, .int .u8 0, .int .u8 0, .int .u8 0], .int .i64 60]) (by simp [results, Tryz.results218, go_sem, *]) rfl ⟨by rw [HF.out]; rfl, ?_⟩
            exact (((HB3.out.setCell (p := ⟨w.heap.size, 0, none⟩) (Nat.le_refl _) _).setCell (p := ⟨w.heap.size, 1, none⟩) (Nat.le_refl _) _).setCell (p := ⟨w.heap.size, 2, none⟩) (Nat.le_refl _) _).setCell (p := ⟨w.heap.size, 3, none⟩) (Nat.le_refl _) _
          · have hR := HA2.out
            rw [mapO_good _ us hd] at hR
            have HF := Lib.hid hR
            have e1 : ((bs (dcl u)).toList == x.toList) = true := by
              rw [beq_iff_eq, ByteArray.toList_eq, ByteArray.toList_eq, bs_list]
              exact heq
            have w8 : IntKind.u8.wrap (u : Int) = u := IntWalk.u8_in _ (by omega)
            clear hR hd heq
            go_wp2_with fail
            refine Cf.out.mono ?_
            rintro e w3 ⟨rfl, hB3⟩
            have h0 := H0'.out.later hB3
            have h1 := H1'.out.later hB3
            have HB3 := Lib.hid (HBt.out.trans (hB3.mono HBt.out.size))
            have HOw3 := Lib.hid (own_below HOw2.out hB3)
            have hk2 : (us ++ List.replicate (4 - k) 0)[k]? = some 0 := by
              rw [List.getElem?_append_right (by have := Hus.out; omega), List.getElem?_replicate, if_pos (by have := Hus.out; omega)]
            have c0 := h1.cell hk2
            have z0 := h1.frozen k
            have h1s := h1.set u (i := k) (by rw [List.length_append, List.length_replicate, Hus.out]; omega)
            rw [pad_set us u k Hus.out (by omega)] at h1s
            have H1s := Lib.hid h1s
            have H0s := Lib.hid (h0.other (c := w.heap.size + 1) (i := k) (.int .u8 (u : Int)) (by omega))
            clear hB3 h0 h1 hk2 h1s
            go_wp2_with fail
            go_roundg g
            case measure => omega
            case rel => exact ⟨k + 1, us ++ [u], by omega, by go_num, by
                show _ = _
                rw [List.length_append, Hus.out]
                rfl, HF.out, H0s.out, H1s.out, HB3.out.setCell (p := ⟨w.heap.size + 1, k, none⟩) (by show _ ≤ w.heap.size + 1; omega) _, own_later HOw3.out fun q e => heap_setCell_other _ ⟨w.heap.size + 1, k, none⟩ q _ (by have := (own_lt HOw3.out e).1; show q ≠ w.heap.size + 1; omega)⟩
        · have hR := HA2.out
          rw [mapO_bad _ hd] at hR
          have HF := Lib.hid (show R = none from hR.symm)
          have f0 : w2.cell? ⟨w.heap.size, 0, none⟩ = some (.int .u8 0) := H0'.out.cell (i := 0) rfl
          have f1 : w2.cell? ⟨w.heap.size, 1, none⟩ = some (.int .u8 0) := H0'.out.cell (i := 1) rfl
          have f2 : w2.cell? ⟨w.heap.size, 2, none⟩ = some (.int .u8 0) := H0'.out.cell (i := 2) rfl
          have f3 : w2.cell? ⟨w.heap.size, 3, none⟩ = some (.int .u8 0) := H0'.out.cell (i := 3) rfl
          have q0 := H0'.out.frozen 0
          have q1 := H0'.out.frozen 1
          have q2 := H0'.out.frozen 2
          have q3 := H0'.out.frozen 3
          clear hR hd
          go_wp2_with fail
          refine bodyPost_ret (v := .tuple #[.agg #[.int .u8 0, .int .u8 0, .int .u8 0, .int .u8 0], .int .i64 60]) (by simp [results, Tryz.results218, go_sem, *]) rfl ⟨by rw [HF.out]; rfl, ?_⟩
          exact (((HBt.out.setCell (p := ⟨w.heap.size, 0, none⟩) (Nat.le_refl _) _).setCell (p := ⟨w.heap.size, 1, none⟩) (Nat.le_refl _) _).setCell (p := ⟨w.heap.size, 2, none⟩) (Nat.le_refl _) _).setCell (p := ⟨w.heap.size, 3, none⟩) (Nat.le_refl _) _
end Go.Proofs.YtffkaphbgfdpaaaGreatDoor
end

section
/- The document's Parse4. -/
namespace Go.Proofs.YtffkaphbgfdpaaaGreatDoor
open Go.RowKit Go.Shelf Go.Deep
set_option linter.unusedVariables false
set_option linter.unusedSimpArgs false

end Go.Proofs.YtffkaphbgfdpaaaGreatDoor
end

section
/- The document's decimal text. -/
namespace Go.Proofs.YtffkaphbgfdpaaaGreatDoor
open Go.RowKit Go.Shelf Go.Sort
set_option linter.unusedVariables false
set_option linter.unusedSimpArgs false

theorem conv_int (c : Int) (b : UInt8) (h : c = (b.toNat : Int)) (W : World) : (convert 110 9 (.slice (some ⟨W.heap.size, 0, none⟩) 1 1)).run Tryz.prog (W.alloc (.cells #[.int .u8 c] 5)) = .ok (.string ⟨#[b]⟩) (W.alloc (.cells #[.int .u8 c] 5)) := by
  subst h
  refine run_convert_bytes_back (P := Tryz.prog) (W.alloc (.cells #[.int .u8 (b.toNat : Int)] 5)) 110 9 5 ⟨W.heap.size, 0, none⟩ 1 [b] Tryz.underlying110 Tryz.underlying5 Tryz.underlying9 ?_
  intro j hj
  have hj : j = 0 := by simpa using hj
  subst hj
  rw [add_plain, World.cell?_alloc_new]
  rfl
theorem dg_nat (d : Nat) (h : d < 10) : (48 : Int) + (d : Int) = ((chd d).toNat : Int) := by
  unfold chd
  rw [UInt8.toNat_ofNat_of_lt' (by show 48 + d < 256; omega)]
  omega
def more (g x : Nat) : List UInt8 := if x = 0 then [] else dcF g x
theorem more_step (g x : Nat) (h : 0 < x) : more (g + 1) x = more g (x / 10) ++ [chd (x % 10)] := by
  unfold more
  rw [if_neg (by omega)]
  conv => lhs; unfold dcF
  by_cases h10 : x < 10
  · rw [if_pos h10, Nat.div_eq_of_lt h10, if_pos rfl, Nat.mod_eq_of_lt h10]
    rfl
  · rw [if_neg h10, if_neg (by omega)]
theorem dcF_more (g n : Nat) : dcF (g + 1) n = more g (n / 10) ++ [chd (n % 10)] := by
  rcases Nat.eq_zero_or_pos n with rfl | h
  · unfold dcF more
    rfl
  · have := more_step g n h
    unfold more at this
    rw [if_neg (by omega)] at this
    exact this
set_option maxRecDepth 100000 in
theorem decimal_any (n : Nat) (w : World) (hn : n ≤ 4294967295) : Calls Tryz.prog 57 #[.int .i64 n] w fun e w' => e = .returned (.string (bs (dcl n))) ∧ Below w.heap.size w w' := by
  obtain ⟨RES, hRES⟩ : ∃ r, dcl n = r := ⟨_, rfl⟩
  rw [hRES]
  have h0 := dcF_more 19 n
  have h0 : RES = more 19 (n / 10) ++ [chd (n % 10)] := by rw [← hRES]; exact h0
  have H0 := Lib.hid h0
  have i0 : (0 : Int) ≤ (n : Int) := by omega
  have i1 : (n : Int) ≤ 4294967295 := by omega
  have kc := fun W => conv_int (48 + (n : Int) % 10) (chd (n % 10)) (by rw [← dg_nat (n % 10) (by omega)]; push_cast; rfl) W
  clear hRES h0
  go_enter Tryz.func57, Tryz.ntmps57
  go_wp2_with fail
  clear kc
  go_loopg [0, 3] 19 (fun g s0 s3 wr => ∃ (x : Nat) (l : List UInt8), s0 = .int .i64 x ∧ s3 = .string (bs l) ∧ x ≤ 4294967295 ∧ Aside (x < 10 ^ g) ∧ l.length + g ≤ 20 ∧ Aside (RES = more g x ++ l) ∧ Below w.heap.size w wr)
  case atStart => exact ⟨n / 10, [chd (n % 10)], by first | rfl | go_num | (congr 1), rfl, by omega, by
      show n / 10 < 10 ^ 19
      omega, by simp, H0.out, (Below.refl _ _).alloc (Nat.le_refl _) _⟩
  case round =>
    obtain ⟨x, l, rfl, rfl, hx, hxp, hl, hA, hB⟩ := hrel
    have HB := Lib.hid hB
    have HS := Lib.hid hB.size
    have x0 : (0 : Int) ≤ (x : Int) := by omega
    have x1 : (x : Int) ≤ 4294967295 := by omega
    clear hB
    by_cases h : 0 < x
    · cases gk with
      | zero =>
        exfalso
        have h1 := hxp.out
        have : x < 1 := h1
        omega
      | succ g =>
        have hst := more_step g x h
        have Hst := Lib.hid hst
        have Hdv : Hid (x / 10 < 10 ^ g) := Lib.hid (by
          have h1 := hxp.out
          rw [Nat.pow_succ] at h1
          omega)
        have kc := fun W => conv_int (48 + (x : Int) % 10) (chd (x % 10)) (by rw [← dg_nat (x % 10) (by omega)]; push_cast; rfl) W
        have ka : ∀ W, (Op.stringOp .add ⟨#[chd (x % 10)]⟩ (bs l)).run Tryz.prog W = .ok (.string (bs (chd (x % 10) :: l))) W := fun W => add_two [chd (x % 10)] l _ (by simp; omega) rfl W
        clear hst
        go_wp2_with fail
        go_roundg g
        case measure => omega
        case rel => exact ⟨x / 10, chd (x % 10) :: l, by go_num, rfl, by omega, Hdv.out, by rw [List.length_cons]; omega, by
            show RES = _
            rw [hA.out, Hst.out, List.append_assoc]
            rfl, HB.out.alloc HS.out _⟩
    · have hx0 : x = 0 := by omega
      subst hx0
      have hl2 : RES = l := by
        rw [hA.out]
        unfold more
        rw [if_pos rfl]
        rfl
      have Hl2 := Lib.hid hl2
      clear hl2 h
      go_wp2_with fail
      go_ret
      rw [Hl2.out]
      exact ⟨rfl, HB.out⟩
end Go.Proofs.YtffkaphbgfdpaaaGreatDoor
end

section
/- Print4: the program's and the document's. -/
namespace Go.Proofs.YtffkaphbgfdpaaaGreatDoor
open Go.RowKit Go.Shelf Go.Deep
set_option linter.unusedVariables false
set_option linter.unusedSimpArgs false

theorem joinL_snoc (c : UInt8) : ∀ (xs : List (List UInt8)) (x : List UInt8), xs ≠ [] → joinL c (xs ++ [x]) = joinL c xs ++ c :: x
  | [], _, h => absurd rfl h
  | [y], x, _ => rfl
  | y :: z :: r, x, _ => by
    show y ++ c :: joinL c ((z :: r) ++ [x]) = (y ++ c :: joinL c (z :: r)) ++ c :: x
    rw [joinL_snoc c (z :: r) x (by simp)]
    simp
theorem print4_len {l : List Nat} (h4 : l.length ≤ 4) (h : ∀ x ∈ l, x ≤ 255) : (print4L l).length ≤ 1000 := by
  have key : ∀ (xs : List (List UInt8)), (∀ x ∈ xs, x.length ≤ 20) → (joinL 46 xs).length ≤ 21 * xs.length := by
    intro xs
    induction xs with
    | nil => intro _; exact Nat.le_refl _
    | cons x r ih =>
      intro hx
      have h1 := hx x (List.mem_cons_self ..)
      have h2 := ih fun y hy => hx y (List.mem_cons_of_mem _ hy)
      cases r with
      | nil => show x.length ≤ 21 * 1; omega
      | cons y r =>
        show (x ++ 46 :: joinL 46 (y :: r)).length ≤ 21 * ((y :: r).length + 1)
        rw [List.length_append, List.length_cons]
        omega
  have := key (l.map dcl) (fun x hx => by obtain ⟨n, _, rfl⟩ := List.mem_map.1 hx; exact dcl_len n)
  rw [List.length_map] at this
  unfold print4L
  omega
set_option maxRecDepth 100000 in
set_option maxHeartbeats 3200000 in
theorem rprint4_any (l : List Nat) (w : World) (h4 : l.length = 4) (hl : ∀ x ∈ l, x ≤ 255) : Calls Tryz.prog 59 #[agg4 l] w fun e w' => e = .returned (.string (bs (print4L l))) ∧ Below w.heap.size w w' := by
  obtain ⟨a, b, c, d, rfl⟩ := four_of h4
  have hbox := ArrAt.new 109 w [a, b, c, d]
  have hB0 : Below w.heap.size w (w.alloc (.cells ([a, b, c, d].map c8).toArray 109)) := (Below.refl _ w).alloc (Nat.le_refl _) _
  have Hbox := Lib.hid hbox
  have HB0 := Lib.hid hB0
  have Hl := Lib.hid hl
  clear hbox hB0 hl h4
  obtain ⟨L, hL⟩ : ∃ L, [a, b, c, d] = L := ⟨_, rfl⟩
  have hL4 : L.length = 4 := by rw [← hL]; rfl
  have HL4 := Lib.hid hL4
  have HLe := Lib.hid hL
  clear hL hL4
  show Calls Tryz.prog 59 #[.agg #[.int .u8 a, .int .u8 b, .int .u8 c, .int .u8 d]] w _
  go_enter Tryz.func59, Tryz.ntmps59
  go_wp2_with fail
  go_loopg [3, 4] 4 (fun g s3 s4 wr => ∃ (k : Nat) (S : ByteArray), k + g = 4 ∧ s3 = .string S ∧ s4 = .int .i64 k ∧ Aside (S = bs (print4L (L.take k))) ∧ ArrAt 109 wr w.heap.size L ∧ Below w.heap.size w wr)
  case atStart => exact ⟨0, ⟨#[]⟩, by omega, rfl, rfl, by
      show _ = _
      rfl, by rw [← HLe.out]; exact Hbox.out, HB0.out⟩
  case round =>
    obtain ⟨k, S, hk, rfl, rfl, hS, hA, hB⟩ := hrel
    have k0 : (0 : Int) ≤ (k : Int) := by omega
    have HB := Lib.hid hB
    have HS := Lib.hid hS.out
    have HA := Lib.hid hA
    clear hB hS hA
    cases gk with
    | zero =>
      have k1 : ¬ (k : Int) < 4 := by omega
      have hf : S = bs (print4L L) := by rw [HS.out, List.take_of_length_le (by rw [HL4.out]; omega)]
      have HF := Lib.hid hf
      clear hf
      go_wp2_with fail
      go_ret
      rw [HF.out, HLe.out]
      exact ⟨rfl, HB.out⟩
    | succ g =>
      have k1 : (k : Int) < 4 := by omega
      have hkl : k < L.length := by rw [HL4.out]; omega
      obtain ⟨x, hx⟩ : ∃ x, L[k]? = some x := ⟨_, List.getElem?_eq_getElem hkl⟩
      have hx9 : x ≤ 255 := Hl.out x (by rw [HLe.out]; exact List.mem_of_getElem? hx)
      have hcell := HA.out.cell hx
      have hcd := decimal_any x wr (by omega)
      have Cd := Lib.hid hcd
      have hSl : S.size ≤ 1000 := by
        rw [HS.out, bs_size]
        exact print4_len (by rw [List.length_take]; omega) fun y hy => Hl.out y (by rw [HLe.out]; exact List.mem_of_mem_take hy)
      have hdl := dcl_len x
      obtain ⟨D, hD⟩ : ∃ D, bs (dcl x) = D := ⟨_, rfl⟩
      by_cases hz : k = 0
      · subst hz
        have e0 : S = ⟨#[]⟩ := by rw [HS.out]; rfl
        subst e0
        have a1 : ∀ W, (Op.stringOp .add ⟨#[]⟩ D).run Tryz.prog W = .ok (.string D) W := fun W => by
          have h := add_two [] (dcl x) (dcl x) (by simp; omega) rfl W
          rw [hD] at h
          exact h
        have z1 : ¬ (((0 : Nat) : Int) > 0) := by decide
        have hfin : D = bs (print4L (L.take (0 + 1))) := by
          rw [take_succ_getD hx, ← hD]
          rfl
        have HF := Lib.hid hfin
        have Cd2 := Lib.hid (show Calls Tryz.prog 57 #[.int .i64 x] wr fun e w' => e = .returned (.string D) ∧ Below wr.heap.size wr w' from by rw [← hD]; exact Cd.out)
        clear Cd hcd hx hD hfin hkl hSl hdl
        go_wp2_with fail
        refine Cd2.out.mono ?_
        rintro e w2 ⟨rfl, hB2⟩
        have HA2 := Lib.hid (HA.out.later hB2)
        have HB2 := Lib.hid (HB.out.trans (hB2.mono HB.out.size))
        clear hB2
        go_wp2_with fail
        go_roundg g
        case measure => omega
        case rel => exact ⟨0 + 1, D, by omega, rfl, by go_num, HF.out, HA2.out, HB2.out⟩
      · have z1 : (k : Int) > 0 := by omega
        obtain ⟨E1, hE1⟩ : ∃ E, S ++ ⟨#[46]⟩ = E := ⟨_, rfl⟩
        obtain ⟨E2, hE2⟩ : ∃ E, E1 ++ D = E := ⟨_, rfl⟩
        have hE1s : E1.size ≤ 1001 := by rw [← hE1, ByteArray.size_append]; show S.size + 1 ≤ _; omega
        have a1 : ∀ W, (Op.stringOp .add S ⟨#[46]⟩).run Tryz.prog W = .ok (.string E1) W := fun W => add_strs (by show S.size + 1 ≤ _; omega) hE1 W
        have a2 : ∀ W, (Op.stringOp .add E1 D).run Tryz.prog W = .ok (.string E2) W := fun W => add_strs (by rw [← hD, bs_size]; omega) hE2 W
        have hfin : E2 = bs (print4L (L.take (k + 1))) := by
          rw [take_succ_getD hx, ← hE2, ← hE1, HS.out, ← hD]
          unfold print4L
          rw [List.map_append, List.map_singleton, joinL_snoc _ _ _ (by
            intro e
            have := congrArg List.length e
            rw [List.length_map, List.length_take] at this
            simp only [List.length_nil] at this
            omega)]
          show bs _ ++ bs [46] ++ bs _ = _
          rw [bs_append, bs_append]
          simp
        have HF := Lib.hid hfin
        have Cd2 := Lib.hid (show Calls Tryz.prog 57 #[.int .i64 x] wr fun e w' => e = .returned (.string D) ∧ Below wr.heap.size wr w' from by rw [← hD]; exact Cd.out)
        clear Cd hcd hx hD hfin hkl hSl hdl hE1 hE2 hE1s hz
        go_wp2_with fail
        refine Cd2.out.mono ?_
        rintro e w2 ⟨rfl, hB2⟩
        have HA2 := Lib.hid (HA.out.later hB2)
        have HB2 := Lib.hid (HB.out.trans (hB2.mono HB.out.size))
        clear hB2
        go_wp2_with fail
        go_roundg g
        case measure => omega
        case rel => exact ⟨k + 1, E2, by omega, rfl, by go_num, HF.out, HA2.out, HB2.out⟩
end Go.Proofs.YtffkaphbgfdpaaaGreatDoor
end

section
/- addr.Print4. -/
namespace Go.Proofs.YtffkaphbgfdpaaaGreatDoor
open Go.RowKit Go.Shelf Go.Deep
set_option linter.unusedVariables false
set_option linter.unusedSimpArgs false

theorem join_eq (c : UInt8) : ∀ (xs : List (List UInt8)), Lib.join xs [c] = joinL c xs
  | [] => rfl
  | [x] => Lib.join_one x [c]
  | x :: y :: r => by
    have ih := join_eq c (y :: r)
    show List.intercalate [c] (x :: y :: r) = x ++ c :: joinL c (y :: r)
    rw [← ih]
    show List.intercalate [c] (x :: y :: r) = x ++ c :: List.intercalate [c] (y :: r)
    simp [List.intercalate, List.intersperse]
theorem own_cell {w : World} {base n c : Nat} {A : Option Addr} {xs : List ByteArray} (h : OwnG 1 encB 9 w base (.slice A n c) xs) {g o : Nat} (hA : A = some ⟨g, o, none⟩) : ∀ (j : Nat) x, xs[j]? = some x → w.cell? ⟨g, o + j, none⟩ = some (.string x) := by
  intro j x hj
  obtain ⟨A', c', e, hr⟩ := OwnG.rs encB_ok h
  cases e
  subst hA
  have := hr.cell encB_ok hj (j := 0) rfl
  simpa only [Nat.mul_one, Nat.add_zero] using this
theorem join_any (sep : UInt8) (xs : List ByteArray) (A : Option Addr) (c base : Nat) (w : World) (h : OwnG 1 encB 9 w base (.slice A xs.length c) xs) (hp : 0 < xs.length) (hl : xs.length ≤ 140737488355328) (hz : (joinL sep (ls xs)).length ≤ 140737488355328) :
    Calls Tryz.prog 116 #[.slice A xs.length c, .string ⟨#[sep]⟩] w fun e w' => e = .returned (.string (bs (joinL sep (ls xs)))) ∧ Below w.heap.size w w' := by
  obtain ⟨g, c', e, hb, hlt, hc⟩ := h.form hp
  cases e
  have hj : Lib.join (xs.map (·.data.toList)) (⟨#[sep]⟩ : ByteArray).data.toList = joinL sep (ls xs) := join_eq sep (ls xs)
  have := Tryz.strings_Join g 0 c xs ⟨#[sep]⟩ w (own_cell h rfl) hlt hl hc (by rw [hj]; exact hz)
  rw [hj] at this
  exact this
set_option maxRecDepth 100000 in
set_option maxHeartbeats 3200000 in
theorem print4_any (l : List Nat) (w : World) (h4 : l.length = 4) (hl : ∀ x ∈ l, x ≤ 255) (ht : Tab10 w) : Calls Tryz.prog 156 #[agg4 l] w fun e w' => e = .returned (.string (bs (print4L l))) ∧ Below w.heap.size w w' := by
  obtain ⟨a, b, c, d, rfl⟩ := four_of h4
  obtain ⟨i0, hi0, hz0, hz1, hz2⟩ := info_parts infoStr
  have Hi0 := Lib.hid hi0
  have Hz0 := Lib.hid hz0
  have Hz1 := Lib.hid hz1
  have Hz2 := Lib.hid hz2
  have hbox := ArrAt.new 109 w [a, b, c, d]
  have hB0 : Below w.heap.size w (w.alloc (.cells ([a, b, c, d].map c8).toArray 109)) := (Below.refl _ w).alloc (Nat.le_refl _) _
  have Hbox := Lib.hid hbox
  have HB0 := Lib.hid hB0
  have Hl := Lib.hid hl
  have HT := Lib.hid ht
  have ix : ∀ (k x : Nat), [a, b, c, d][k]? = some x → ∀ W, (Instr.index 109 (.agg #[.int .u8 a, .int .u8 b, .int .u8 c, .int .u8 d]) (.int .i64 (k : Int))).run Tryz.prog W = .ok (.int .u8 (x : Int)) W := by
    intro k x hx W
    match k, hx with
    | 0, hx => cases hx; exact rfl
    | 1, hx => cases hx; exact rfl
    | 2, hx => cases hx; exact rfl
    | 3, hx => cases hx; exact rfl
    | k + 4, hx => cases hx
  have IX := Lib.hid ix
  clear hbox hB0 hl h4 ht hi0 hz0 hz1 hz2 ix
  obtain ⟨L, hL⟩ : ∃ L, [a, b, c, d] = L := ⟨_, rfl⟩
  have hL4 : L.length = 4 := by rw [← hL]; rfl
  have HL4 := Lib.hid hL4
  have HLe := Lib.hid hL
  clear hL hL4
  show Calls Tryz.prog 156 #[.agg #[.int .u8 a, .int .u8 b, .int .u8 c, .int .u8 d]] w _
  go_enter Tryz.func156, Tryz.ntmps156
  go_wp2_with fail
  go_loopg [3, 5, 7] 4 (fun g s3 s5 s7 wr => ∃ (k n cp : Nat) (A : Option Addr) (xs : List ByteArray), k + g = 4 ∧ n = k ∧ s3 = .slice A n cp ∧ s7 = .int .i64 k ∧ Aside (xs.length = n) ∧ Aside (ls xs = (L.take k).map dcl) ∧ wr.ownsRow w.heap.size 9 1 (.slice A n cp) n (flatG encB xs) ∧ Below w.heap.size w wr)
  case atStart => exact ⟨0, 0, 0, none, [], by omega, rfl, rfl, rfl, by
      show _ = _
      rfl, by
      show _ = _
      rfl, own_nil _ _ _ _, HB0.out⟩
  case round =>
    obtain ⟨k, n, cp, A, xs, hk, rfl, rfl, rfl, hxl, hxs, hO, hB⟩ := hrel
    have k0 : (0 : Int) ≤ (n : Int) := by omega
    have HB := Lib.hid hB
    have HS := Lib.hid hB.size
    have HO := Lib.hid hO
    have Hxl := Lib.hid hxl.out
    have Hxs := Lib.hid hxs.out
    clear hB hO hxl hxs
    cases gk with
    | zero =>
      have k1 : ¬ (n : Int) < 4 := by omega
      have h4 : n = 4 := by omega
      have hj : joinL 46 (ls xs) = print4L L := by
        rw [Hxs.out, List.take_of_length_le (by rw [HL4.out]; omega)]
        rfl
      have ho : OwnG 1 encB 9 wr w.heap.size (.slice A xs.length cp) xs := by
        unfold OwnG
        rw [Hxl.out]
        exact HO.out
      have cj := join_any 46 xs A cp w.heap.size wr ho (by rw [Hxl.out]; omega) (by rw [Hxl.out]; omega) (by
        rw [hj]
        have := print4_len (l := L) (by rw [HL4.out]; omega) (by rw [← HLe.out]; exact Hl.out)
        omega)
      rw [hj, Hxl.out] at cj
      have Cj := Lib.hid cj
      clear hj ho cj h4
      go_wp2_with fail
      (with_reducible refine Cj.out.mono ?_)
      rintro e w2 ⟨rfl, hB2⟩
      have HF := Lib.hid (HB.out.trans (hB2.mono HS.out))
      clear hB2
      go_wp2_with fail
      go_ret
      rw [HLe.out]
      exact ⟨rfl, HF.out⟩
    | succ g =>
      have k1 : (n : Int) < 4 := by omega
      have hkl : n < L.length := by rw [HL4.out]; omega
      obtain ⟨x, hx⟩ : ∃ x, L[n]? = some x := ⟨_, List.getElem?_eq_getElem hkl⟩
      have hx9 : x ≤ 255 := Hl.out x (by rw [HLe.out]; exact List.mem_of_getElem? hx)
      have hix := IX.out n x (by rw [HLe.out]; exact hx)
      have ci := itoa_any x wr (by omega) (HT.out.later HB.out)
      obtain ⟨D, hD⟩ : ∃ D, bs (dcl x) = D := ⟨_, rfl⟩
      rw [hD] at ci
      have Ci := Lib.hid ci
      have hnx : ls (xs ++ [D]) = (L.take (n + 1)).map dcl := by
        unfold ls
        rw [List.map_append, take_succ_getD hx, List.map_append, ← Hxs.out, List.map_singleton, List.map_singleton, ← hD, bs_list]
      have Hnx := Lib.hid hnx
      clear hkl hx ci hD hnx
      go_wp2_with fail
      (with_reducible refine Ci.out.mono ?_)
      rintro e w2 ⟨rfl, hB2⟩
      have hBt := HB.out.trans (hB2.mono HS.out)
      have hx2 : ((w2.alloc (.cells (flatG encB [D]).toArray 9)).heap[w2.heap.size]? = some (.cells (flatG encB [D]).toArray 9 (0, 0))) := heap_alloc_new w2 _
      have Hx2 := Lib.hid (rs_news hx2)
      have hO2 := own_below HO.out hB2
      have HO2 := Lib.hid (show (w2.alloc (.cells (flatG encB [D]).toArray 9)).ownsRow w.heap.size 9 1 (.slice A n cp) n (flatG encB xs) from own_later hO2 fun b hb => Below.heap_alloc _ _ _ (own_lt hO2 hb).2)
      have HBt := Lib.hid hBt
      have HS2 := Lib.hid hBt.size
      clear hB2 hBt hx2 hO2
      go_wp2_with (at_builtin; refine wpList_append_lies _ rfl _ _ 86 rfl w.heap.size 9 i0 (.string ⟨#[]⟩) 1 16 Tryz.underlying86 Hi0.out Hz0.out Hz1.out Hz2.out rfl (by decide) (.slice A n cp) n (flatG encB xs) rfl HO2.out ⟨w2.heap.size, 0, none⟩ 1 1 (flatG encB [D]) (by simp [go_sem]) rfl Hx2.out (flatG_one encB_ok _) (by decide) (by simp only [maxLen]; omega) (by omega) (by have := HS2.out; simp; omega) (w2.heap.size + 1) (by simp) ?_; intro g2 cap w5 hown2 hgrow hat hlt)
      have HF := Lib.hid (And.intro hown2 hgrow)
      clear hown2 hgrow hat hlt
      go_wp2_with fail
      go_roundg g
      case measure => omega
      case rel => exact ⟨n + 1, n + 1, cap, some ⟨g2, 0, none⟩, xs ++ [D], by omega, rfl, rfl, by go_num, by
          show _ = _
          rw [List.length_append, Hxl.out]
          rfl, Hnx.out, by
          rw [flatG_append]
          exact HF.out.1, (HBt.out.alloc HS2.out _).grown HF.out.2 (by have := HS2.out; simp; omega) (fun b e => (own_lt HO.out e).1)⟩
end Go.Proofs.YtffkaphbgfdpaaaGreatDoor
end

section
/- Plain laws: digits of base 16, groups. -/
namespace Go.Proofs.YtffkaphbgfdpaaaGreatDoor
set_option linter.unusedVariables false
set_option linter.unusedSimpArgs false

/-- A digit of base 16. -/
def hxB (b : UInt8) : Option Nat := if 48 ≤ b.toNat ∧ b.toNat ≤ 57 then some (b.toNat - 48) else if 97 ≤ b.toNat ∧ b.toNat ≤ 102 then some (b.toNat - 87) else none
theorem hxB_lt {b : UInt8} {d : Nat} (h : hxB b = some d) : d < 16 := by
  unfold hxB at h
  split at h
  · cases h; omega
  · split at h
    · cases h; omega
    · cases h
def dgI (b : UInt8) : Int := match hxB b with
  | some d => d
  | none => -1
/-- Digits' value, on from v. -/
def hxF : List UInt8 → Nat → Option Nat
  | [], v => some v
  | b :: r, v => match hxB b with
    | none => none
    | some d => hxF r (16 * v + d)
theorem hxF_none {b : UInt8} (r : List UInt8) (v : Nat) (h : hxB b = none) : hxF (b :: r) v = none := by
  rw [hxF.eq_def]
  simp only [h]
theorem hxF_some {b : UInt8} {d : Nat} (r : List UInt8) (v : Nat) (h : hxB b = some d) : hxF (b :: r) v = hxF r (16 * v + d) := by
  rw [hxF.eq_def]
  simp only [h]
theorem hxF_lt : ∀ (l : List UInt8) (v u : Nat), hxF l v = some u → u < (v + 1) * 16 ^ l.length
  | [], v, u, h => by cases h; simp
  | b :: r, v, u, h => by
    cases hb : hxB b with
    | none => rw [hxF_none r v hb] at h; cases h
    | some d =>
      rw [hxF_some r v hb] at h
      have h1 := hxF_lt r _ u h
      have h2 := hxB_lt hb
      have h3 : (16 * v + d + 1) * 16 ^ r.length ≤ ((v + 1) * 16) * 16 ^ r.length := Nat.mul_le_mul_right _ (by omega)
      rw [List.length_cons, Nat.pow_succ, Nat.mul_comm (16 ^ r.length) 16, ← Nat.mul_assoc]
      omega
/-- A group's number: one to four digits. -/
def grpL (l : List UInt8) : Option Nat := if l.length < 1 ∨ 4 < l.length then none else hxF l 0
theorem grp_lt {l : List UInt8} {u : Nat} (h : grpL l = some u) : u < 65536 := by
  unfold grpL at h
  split at h
  · cases h
  · rename_i hl
    have h1 := hxF_lt l 0 u h
    have h2 : 16 ^ l.length ≤ 16 ^ 4 := Nat.pow_le_pow_right (by decide) (by omega)
    omega
theorem hxF_noughts (l : List UInt8) : ∀ n, hxF (List.replicate n 48 ++ l) 0 = hxF l 0
  | 0 => rfl
  | n + 1 => by
    rw [List.replicate_succ]
    show hxF (48 :: (List.replicate n 48 ++ l)) 0 = _
    rw [hxF_some _ 0 (show hxB 48 = some 0 by decide)]
    exact hxF_noughts l n
/-- Some groups, a colon between each two; of no text none. -/
def readG (l : List UInt8) : Option (List Nat) := if l = [] then some [] else mapO grpL (splitL 58 l)
/-- Eight groups, or fewer with a gap. -/
def p6L (l : List UInt8) : Option (List Nat) :=
  match readG (Lib.cut l [58, 58]).1, readG (Lib.cut l [58, 58]).2.1 with
  | some x, some y => if (Lib.cut l [58, 58]).2.2 = true then (if x.length + y.length ≤ 7 then some (x ++ List.replicate (8 - x.length - y.length) 0 ++ y) else none) else if x.length = 8 then some x else none
  | _, _ => none
/-- The groups' bytes. -/
def bytesG (gs : List Nat) : List Nat := gs.flatMap fun g => [g / 256, g % 256]
/-- A digit's sign. -/
def hch (d : Nat) : UInt8 := if d < 10 then UInt8.ofNat (48 + d) else UInt8.ofNat (87 + d)
theorem hch_val : ∀ d : Fin 16, hxB (hch d.val) = some d.val ∧ hch d.val ≠ 58 := by decide
/-- A number's text in base 16. -/
def hexF : Nat → Nat → List UInt8
  | 0, _ => []
  | f + 1, n => if n < 16 then [hch n] else hexF f (n / 16) ++ [hch (n % 16)]
/-- A group's text. -/
def hexL (g : Nat) : List UInt8 := hexF 4 g
theorem hexF_len : ∀ (f n : Nat), (hexF f n).length ≤ f
  | 0, _ => Nat.le_refl _
  | f + 1, n => by
    unfold hexF
    split
    · simp
    · rw [List.length_append]
      have := hexF_len f (n / 16)
      simp
      omega
theorem hexL_len (g : Nat) : (hexL g).length ≤ 4 := hexF_len 4 g
theorem hexF_pos (f n : Nat) : hexF (f + 1) n ≠ [] := by
  unfold hexF
  split <;> simp
theorem hexL_pos (g : Nat) : hexL g ≠ [] := hexF_pos 3 g
theorem hxF_append : ∀ (a b : List UInt8) (v : Nat), hxF (a ++ b) v = (hxF a v).bind (hxF b)
  | [], b, v => rfl
  | c :: a, b, v => by
    cases hc : hxB c with
    | none =>
      rw [hxF_none a v hc]
      exact hxF_none (a ++ b) v hc
    | some d =>
      rw [hxF_some a v hc]
      show hxF (c :: (a ++ b)) v = _
      rw [hxF_some (a ++ b) v hc, hxF_append a b]
theorem hexF_val : ∀ (f n : Nat), n < 16 ^ f → hxF (hexF f n) 0 = some n
  | 0, n, h => by
    have : n = 0 := by simpa using h
    rw [this]
    rfl
  | f + 1, n, h => by
    unfold hexF
    split
    · rename_i h1
      rw [hxF_some [] 0 (hch_val ⟨n, h1⟩).1]
      show some (16 * 0 + n) = some n
      rw [Nat.mul_zero, Nat.zero_add]
    · rw [hxF_append, hexF_val f (n / 16) (by rw [Nat.pow_succ] at h; omega)]
      show hxF [hch (n % 16)] (n / 16) = some n
      rw [hxF_some [] (n / 16) (hch_val ⟨n % 16, Nat.mod_lt _ (by decide)⟩).1]
      show some (16 * (n / 16) + n % 16) = some n
      congr 1
      omega
theorem grp_hex {g : Nat} (h : g < 65536) : grpL (hexL g) = some g := by
  unfold grpL
  have h1 := hexL_len g
  have h2 : (hexL g).length ≠ 0 := fun e => hexL_pos g (List.length_eq_zero_iff.1 e)
  rw [if_neg (by omega)]
  exact hexF_val 4 g (by omega)
theorem hexF_no58 : ∀ (f n : Nat), (58 : UInt8) ∉ hexF f n
  | 0, _ => by simp [hexF]
  | f + 1, n => by
    unfold hexF
    split
    · rename_i h
      intro hm
      exact (hch_val ⟨n, h⟩).2 (List.mem_singleton.1 hm).symm
    · intro hm
      rcases List.mem_append.1 hm with hm | hm
      · exact hexF_no58 f _ hm
      · exact (hch_val ⟨n % 16, Nat.mod_lt _ (by decide)⟩).2 (List.mem_singleton.1 hm).symm
theorem hexL_no58 (g : Nat) : (58 : UInt8) ∉ hexL g := hexF_no58 4 g
end Go.Proofs.YtffkaphbgfdpaaaGreatDoor
end

section
/- Digits of base 16: the program's and the document's; the document's group. -/
namespace Go.Proofs.YtffkaphbgfdpaaaGreatDoor
open Go.RowKit Go.Shelf Go.Deep
set_option linter.unusedVariables false
set_option linter.unusedSimpArgs false

set_option maxHeartbeats 1000000 in
theorem digit_any (b : UInt8) (w : World) : Calls Tryz.prog 240 #[.int .u8 b.toNat] w fun e w' => e = .returned (.int .i64 (dgI b)) ∧ w' = w := by
  have hb9 := b.toNat_lt
  have b0 : (0 : Int) ≤ (b.toNat : Int) := by omega
  have b9 : (b.toNat : Int) ≤ 255 := by omega
  obtain ⟨D, hD⟩ : ∃ D, dgI b = D := ⟨_, rfl⟩
  rw [hD]
  have HD := Lib.hid hD
  clear hD
  by_cases h1 : b.toNat < 48
  · have fgeq48 : ¬ (b.toNat : Int) ≥ 48 := by omega
    have hv : D = -1 := by
      rw [← HD.out]
      unfold dgI hxB
      rw [if_neg (by omega), if_neg (by omega)]
    have HV := Lib.hid hv
    clear hv hb9 h1
    go_enter Tryz.func240, Tryz.ntmps240
    go_wp2_with fail
    go_ret
    rw [HV.out]
    exact ⟨rfl, rfl⟩
  by_cases h2 : b.toNat ≤ 57
  · have fgeq48 : (b.toNat : Int) ≥ 48 := by omega
    have fleq57 : (b.toNat : Int) ≤ 57 := by omega
    have lo : ((48 : Int)) ≤ (b.toNat : Int) := by omega
    have hv : D = (b.toNat : Int) - 48 := by
      rw [← HD.out]
      unfold dgI hxB
      rw [if_pos (by omega)]
      show (((b.toNat - 48 : Nat)) : Int) = _
      omega
    have HV := Lib.hid hv
    clear hv hb9 h1 h2
    go_enter Tryz.func240, Tryz.ntmps240
    go_wp2_with fail
    go_ret
    rw [HV.out]
    exact ⟨rfl, rfl⟩
  by_cases h3 : b.toNat < 97
  · have fgeq48 : (b.toNat : Int) ≥ 48 := by omega
    have fleq57 : ¬ (b.toNat : Int) ≤ 57 := by omega
    have fgeq97 : ¬ (b.toNat : Int) ≥ 97 := by omega
    have hv : D = -1 := by
      rw [← HD.out]
      unfold dgI hxB
      rw [if_neg (by omega), if_neg (by omega)]
    have HV := Lib.hid hv
    clear hv hb9 h1 h2 h3
    go_enter Tryz.func240, Tryz.ntmps240
    go_wp2_with fail
    go_ret
    rw [HV.out]
    exact ⟨rfl, rfl⟩
  by_cases h4 : b.toNat ≤ 102
  · have fgeq48 : (b.toNat : Int) ≥ 48 := by omega
    have fleq57 : ¬ (b.toNat : Int) ≤ 57 := by omega
    have fgeq97 : (b.toNat : Int) ≥ 97 := by omega
    have fleq102 : (b.toNat : Int) ≤ 102 := by omega
    have lo : ((97 : Int)) ≤ (b.toNat : Int) := by omega
    have hv : D = (b.toNat : Int) - 97 + 10 := by
      rw [← HD.out]
      unfold dgI hxB
      rw [if_neg (by omega), if_pos (by omega)]
      show (((b.toNat - 87 : Nat)) : Int) = _
      omega
    have HV := Lib.hid hv
    clear hv hb9 h1 h2 h3 h4
    go_enter Tryz.func240, Tryz.ntmps240
    go_wp2_with fail
    go_ret
    rw [HV.out]
    exact ⟨rfl, rfl⟩
  have fgeq48 : (b.toNat : Int) ≥ 48 := by omega
  have fleq57 : ¬ (b.toNat : Int) ≤ 57 := by omega
  have fgeq97 : (b.toNat : Int) ≥ 97 := by omega
  have fleq102 : ¬ (b.toNat : Int) ≤ 102 := by omega
  have hv : D = -1 := by
    rw [← HD.out]
    unfold dgI hxB
    rw [if_neg (by omega), if_neg (by omega)]
  have HV := Lib.hid hv
  clear hv hb9 h1 h2 h3 h4
  go_enter Tryz.func240, Tryz.ntmps240
  go_wp2_with fail
  go_ret
  rw [HV.out]
  exact ⟨rfl, rfl⟩
theorem dgI_none {b : UInt8} (h : hxB b = none) : dgI b = -1 := by
  unfold dgI
  rw [h]
theorem dgI_some {b : UInt8} {d : Nat} (h : hxB b = some d) : dgI b = (d : Int) := by
  unfold dgI
  rw [h]
end Go.Proofs.YtffkaphbgfdpaaaGreatDoor
end

section
/- word.Unhex of four digits. -/
namespace Go.Proofs.YtffkaphbgfdpaaaGreatDoor
open Go.RowKit Go.Shelf Go.Deep
set_option linter.unusedVariables false
set_option linter.unusedSimpArgs false

theorem or16_all : ((List.finRange 16).all fun a => (List.finRange 16).all fun b => Go.bits .or .i64 ((a.val : Int) * 16) (b.val : Int) == ((16 * a.val + b.val : Nat) : Int)) = true := by kernel_rfl
theorem or16 {a b : Nat} (ha : a < 16) (hb : b < 16) : Go.bits .or .i64 ((a : Int) * 16) (b : Int) = ((16 * a + b : Nat) : Int) := by
  have h := List.all_eq_true.1 (List.all_eq_true.1 or16_all ⟨a, ha⟩ (List.mem_finRange _)) ⟨b, hb⟩ (List.mem_finRange _)
  exact beq_iff_eq.1 h
set_option maxRecDepth 100000 in
set_option maxHeartbeats 3200000 in
theorem unhex_ok (T : ByteArray) (w : World) (h4 : T.size = 4) (d0 d1 d2 d3 : Nat) (h0 : hxB T[0] = some d0) (h1 : hxB T[1] = some d1) (h2 : hxB T[2] = some d2) (h3 : hxB T[3] = some d3) : Calls Tryz.prog 236 #[.string T] w fun e w' => ∃ g, e = .returned (.tuple #[.slice (some ⟨g, 0, none⟩) 2 2, .bool true]) ∧ w'.cell? ⟨g, 0, none⟩ = some (.int .u8 ((16 * d0 + d1 : Nat) : Int)) ∧ w'.cell? ⟨g, 1, none⟩ = some (.int .u8 ((16 * d2 + d3 : Nat) : Int)) ∧ Below w.heap.size w w' := by
  have e0 := dgI_some h0
  have e1 := dgI_some h1
  have e2 := dgI_some h2
  have e3 := dgI_some h3
  have l0 := hxB_lt h0
  have l1 := hxB_lt h1
  have l2 := hxB_lt h2
  have l3 := hxB_lt h3
  have b0 := or16 l0 l1
  have b1 := or16 l2 l3
  obtain ⟨x, hx⟩ : ∃ x, 16 * d0 + d1 = x := ⟨_, rfl⟩
  obtain ⟨y, hy⟩ : ∃ y, 16 * d2 + d3 = y := ⟨_, rfl⟩
  rw [hx] at b0 ⊢
  rw [hy] at b1 ⊢
  have x9 : x ≤ 255 := by omega
  have y9 : y ≤ 255 := by omega
  clear h0 h1 h2 h3 hx hy
  have hmk : ∀ W, (Instr.makeSlice 110 (.int .i64 0) (.int .i64 2)).run Tryz.prog W = .ok (.slice (some ⟨W.heap.size, 0, none⟩) 0 2) (W.alloc (.cells #[.int .u8 0, .int .u8 0] 5)) := fun _ => by kernel_rfl
  have n0 : ¬ (d0 : Int) < 0 := by omega
  have n1 : ¬ (d1 : Int) < 0 := by omega
  have n2 : ¬ (d2 : Int) < 0 := by omega
  have n3 : ¬ (d3 : Int) < 0 := by omega
  have t0 : (0 : Int) ≤ (d0 : Int) := by omega
  have t1 : (0 : Int) ≤ (d1 : Int) := by omega
  have t2 : (0 : Int) ≤ (d2 : Int) := by omega
  have t3 : (0 : Int) ≤ (d3 : Int) := by omega
  have u0 : (d0 : Int) ≤ 15 := by omega
  have u1 : (d1 : Int) ≤ 15 := by omega
  have u2 : (d2 : Int) ≤ 15 := by omega
  have u3 : (d3 : Int) ≤ 15 := by omega
  have m0 : (x : Int) % 256 = (x : Int) := by omega
  have m1 : (y : Int) % 256 = (y : Int) := by omega
  go_enter Tryz.func236, Tryz.ntmps236
  go_wp2_with fail
  refine wp_loop_rounds 3 ?_
  rw [rounds_succ]
  go_wp2_with fail
  go_quiet ((go_at_call 240; exact Calls.quiet_of_same (digit_any _ _)))
  go_wp2_with fail
  rw [rounds_succ]
  go_wp2_with fail
  go_quiet ((go_at_call 240; exact Calls.quiet_of_same (digit_any _ _)))
  go_wp2_with fail
  rw [rounds_succ]
  go_wp2_with fail
  go_ret2
  refine ⟨w.heap.size, rfl, by go_simp, by go_simp, ?_⟩
  exact (((belowN (((belowN ((Below.refl _ w).alloc (Nat.le_refl _) _) _).setCell (p := ⟨w.heap.size, 0, none⟩) (Nat.le_refl _) _).alloc (by simp <;> omega) _) _).setCell (p := ⟨w.heap.size, 1, none⟩) (Nat.le_refl _) _).alloc (by simp <;> omega) _)
set_option maxRecDepth 100000 in
set_option maxHeartbeats 3200000 in
theorem unhex_bad0 (T : ByteArray) (w : World) (h4 : T.size = 4) (h0 : hxB T[0] = none) : Calls Tryz.prog 236 #[.string T] w fun e w' => e = .returned (.tuple #[.slice none 0 0, .bool false]) ∧ Below w.heap.size w w' := by
  have e0 := dgI_none h0
  clear h0
  have hmk : ∀ W, (Instr.makeSlice 110 (.int .i64 0) (.int .i64 2)).run Tryz.prog W = .ok (.slice (some ⟨W.heap.size, 0, none⟩) 0 2) (W.alloc (.cells #[.int .u8 0, .int .u8 0] 5)) := fun _ => by kernel_rfl
  go_enter Tryz.func236, Tryz.ntmps236
  go_wp2_with fail
  refine wp_loop_rounds 3 ?_
  rw [rounds_succ]
  go_wp2_with fail
  go_quiet ((go_at_call 240; exact Calls.quiet_of_same (digit_any _ _)))
  go_wp2_with fail
  go_ret2
  refine ⟨rfl, ?_⟩
  exact (belowN ((Below.refl _ w).alloc (Nat.le_refl _) _) _)
set_option maxRecDepth 100000 in
set_option maxHeartbeats 3200000 in
theorem unhex_bad1 (T : ByteArray) (w : World) (h4 : T.size = 4) (d0 : Nat) (h0 : hxB T[0] = some d0) (h1 : hxB T[1] = none) : Calls Tryz.prog 236 #[.string T] w fun e w' => e = .returned (.tuple #[.slice none 0 0, .bool false]) ∧ Below w.heap.size w w' := by
  have e0 := dgI_some h0
  have l0 := hxB_lt h0
  have n0 : ¬ (d0 : Int) < 0 := by omega
  have t0 : (0 : Int) ≤ (d0 : Int) := by omega
  have u0 : (d0 : Int) ≤ 15 := by omega
  have e1 := dgI_none h1
  clear h0 h1
  have hmk : ∀ W, (Instr.makeSlice 110 (.int .i64 0) (.int .i64 2)).run Tryz.prog W = .ok (.slice (some ⟨W.heap.size, 0, none⟩) 0 2) (W.alloc (.cells #[.int .u8 0, .int .u8 0] 5)) := fun _ => by kernel_rfl
  go_enter Tryz.func236, Tryz.ntmps236
  go_wp2_with fail
  refine wp_loop_rounds 3 ?_
  rw [rounds_succ]
  go_wp2_with fail
  go_quiet ((go_at_call 240; exact Calls.quiet_of_same (digit_any _ _)))
  go_wp2_with fail
  go_ret2
  refine ⟨rfl, ?_⟩
  exact (belowN ((Below.refl _ w).alloc (Nat.le_refl _) _) _)
set_option maxRecDepth 100000 in
set_option maxHeartbeats 3200000 in
theorem unhex_bad2 (T : ByteArray) (w : World) (h4 : T.size = 4) (d0 : Nat) (h0 : hxB T[0] = some d0) (d1 : Nat) (h1 : hxB T[1] = some d1) (h2 : hxB T[2] = none) : Calls Tryz.prog 236 #[.string T] w fun e w' => e = .returned (.tuple #[.slice none 0 0, .bool false]) ∧ Below w.heap.size w w' := by
  have e0 := dgI_some h0
  have l0 := hxB_lt h0
  have n0 : ¬ (d0 : Int) < 0 := by omega
  have t0 : (0 : Int) ≤ (d0 : Int) := by omega
  have u0 : (d0 : Int) ≤ 15 := by omega
  have e1 := dgI_some h1
  have l1 := hxB_lt h1
  have n1 : ¬ (d1 : Int) < 0 := by omega
  have t1 : (0 : Int) ≤ (d1 : Int) := by omega
  have u1 : (d1 : Int) ≤ 15 := by omega
  have b0 := or16 l0 l1
  obtain ⟨x, hx⟩ : ∃ x, 16 * d0 + d1 = x := ⟨_, rfl⟩
  rw [hx] at b0
  have x9 : x ≤ 255 := by omega
  have m0 : (x : Int) % 256 = (x : Int) := by omega
  clear hx
  have e2 := dgI_none h2
  clear h0 h1 h2
  have hmk : ∀ W, (Instr.makeSlice 110 (.int .i64 0) (.int .i64 2)).run Tryz.prog W = .ok (.slice (some ⟨W.heap.size, 0, none⟩) 0 2) (W.alloc (.cells #[.int .u8 0, .int .u8 0] 5)) := fun _ => by kernel_rfl
  go_enter Tryz.func236, Tryz.ntmps236
  go_wp2_with fail
  refine wp_loop_rounds 3 ?_
  rw [rounds_succ]
  go_wp2_with fail
  go_quiet ((go_at_call 240; exact Calls.quiet_of_same (digit_any _ _)))
  go_wp2_with fail
  rw [rounds_succ]
  go_wp2_with fail
  go_quiet ((go_at_call 240; exact Calls.quiet_of_same (digit_any _ _)))
  go_wp2_with fail
  go_ret2
  refine ⟨rfl, ?_⟩
  exact (belowN (((belowN ((Below.refl _ w).alloc (Nat.le_refl _) _) _).setCell (p := ⟨w.heap.size, 0, none⟩) (Nat.le_refl _) _).alloc (by simp <;> omega) _) _)
set_option maxRecDepth 100000 in
set_option maxHeartbeats 3200000 in
theorem unhex_bad3 (T : ByteArray) (w : World) (h4 : T.size = 4) (d0 : Nat) (h0 : hxB T[0] = some d0) (d1 : Nat) (h1 : hxB T[1] = some d1) (d2 : Nat) (h2 : hxB T[2] = some d2) (h3 : hxB T[3] = none) : Calls Tryz.prog 236 #[.string T] w fun e w' => e = .returned (.tuple #[.slice none 0 0, .bool false]) ∧ Below w.heap.size w w' := by
  have e0 := dgI_some h0
  have l0 := hxB_lt h0
  have n0 : ¬ (d0 : Int) < 0 := by omega
  have t0 : (0 : Int) ≤ (d0 : Int) := by omega
  have u0 : (d0 : Int) ≤ 15 := by omega
  have e1 := dgI_some h1
  have l1 := hxB_lt h1
  have n1 : ¬ (d1 : Int) < 0 := by omega
  have t1 : (0 : Int) ≤ (d1 : Int) := by omega
  have u1 : (d1 : Int) ≤ 15 := by omega
  have b0 := or16 l0 l1
  obtain ⟨x, hx⟩ : ∃ x, 16 * d0 + d1 = x := ⟨_, rfl⟩
  rw [hx] at b0
  have x9 : x ≤ 255 := by omega
  have m0 : (x : Int) % 256 = (x : Int) := by omega
  clear hx
  have e2 := dgI_some h2
  have l2 := hxB_lt h2
  have n2 : ¬ (d2 : Int) < 0 := by omega
  have t2 : (0 : Int) ≤ (d2 : Int) := by omega
  have u2 : (d2 : Int) ≤ 15 := by omega
  have e3 := dgI_none h3
  clear h0 h1 h2 h3
  have hmk : ∀ W, (Instr.makeSlice 110 (.int .i64 0) (.int .i64 2)).run Tryz.prog W = .ok (.slice (some ⟨W.heap.size, 0, none⟩) 0 2) (W.alloc (.cells #[.int .u8 0, .int .u8 0] 5)) := fun _ => by kernel_rfl
  go_enter Tryz.func236, Tryz.ntmps236
  go_wp2_with fail
  refine wp_loop_rounds 3 ?_
  rw [rounds_succ]
  go_wp2_with fail
  go_quiet ((go_at_call 240; exact Calls.quiet_of_same (digit_any _ _)))
  go_wp2_with fail
  rw [rounds_succ]
  go_wp2_with fail
  go_quiet ((go_at_call 240; exact Calls.quiet_of_same (digit_any _ _)))
  go_wp2_with fail
  go_ret2
  refine ⟨rfl, ?_⟩
  exact (belowN (((belowN ((Below.refl _ w).alloc (Nat.le_refl _) _) _).setCell (p := ⟨w.heap.size, 0, none⟩) (Nat.le_refl _) _).alloc (by simp <;> omega) _) _)
end Go.Proofs.YtffkaphbgfdpaaaGreatDoor
end

section
/- word.Get of two bytes; addr.group. -/
namespace Go.Proofs.YtffkaphbgfdpaaaGreatDoor
open Go.RowKit Go.Shelf Go.Deep
set_option linter.unusedVariables false
set_option linter.unusedSimpArgs false

theorem or256 {x y : Nat} (hx : x < 256) (hy : y < 256) : Go.bits .or .u32 ((x : Int) * 256) (y : Int) = ((256 * x + y : Nat) : Int) := by
  rw [bits_join .u32 32 (by decide) (fun n h0 h1 => by rw [IntKind.wrap_u32]; omega) 8 ((x : Int) * 256) (y : Int) (by omega) (by omega) (by omega) (by omega) (by omega) (by omega)]
  omega
theorem or0 {x : Nat} (hx : x < 256) : Go.bits .or .u32 0 (x : Int) = (x : Int) := by
  rw [bits_join .u32 32 (by decide) (fun n h0 h1 => by rw [IntKind.wrap_u32]; omega) 8 0 (x : Int) (by omega) (by omega) (by omega) (by omega) (by omega) (by omega)]
  omega
theorem fits_2 (w : World) : Calls Tryz.prog 241 #[.int .i64 2, .int .i64 0, .int .i64 2] w fun e w' => e = .returned (.bool true) ∧ w = w' := by
  go_enter Tryz.func241, Tryz.ntmps241
  go_wp2_with fail
  go_ret
  exact ⟨rfl, rfl⟩
set_option maxRecDepth 100000 in
set_option maxHeartbeats 3200000 in
theorem get2_any (g x y : Nat) (w : World) (hx : x < 256) (hy : y < 256) (h0 : w.cell? ⟨g, 0, none⟩ = some (.int .u8 (x : Int))) (h1 : w.cell? ⟨g, 1, none⟩ = some (.int .u8 (y : Int))) : Calls Tryz.prog 237 #[.slice (some ⟨g, 0, none⟩) 2 2, .int .i64 0, .int .i64 2] w fun e w' => e = .returned (.tuple #[.int .u32 ((256 * x + y : Nat) : Int), .bool true]) ∧ w = w' := by
  have b1 := or256 hx hy
  have b0 := or0 hx
  obtain ⟨v, hv⟩ : ∃ v, 256 * x + y = v := ⟨_, rfl⟩
  rw [hv] at b1 ⊢
  have v9 : v ≤ 65535 := by omega
  have x0 : (0 : Int) ≤ (x : Int) := by omega
  have y0 : (0 : Int) ≤ (y : Int) := by omega
  have x9 : (x : Int) ≤ 255 := by omega
  have y9 : (y : Int) ≤ 255 := by omega
  have cf := fits_2 w
  have Cf := Lib.hid cf
  clear hv cf
  go_enter Tryz.func237, Tryz.ntmps237
  go_wp2_with fail
  (with_reducible refine Cf.out.mono ?_)
  rintro e w2 ⟨rfl, rfl⟩
  go_wp2_with fail
  refine wp_loop_rounds 3 ?_
  rw [rounds_succ]
  go_wp2_with fail
  rw [rounds_succ]
  go_wp2_with fail
  rw [rounds_succ]
  go_wp2_with fail
  go_ret2
  exact ⟨rfl, rfl⟩
theorem nought_text (s : ByteArray) (h1 : 1 ≤ s.size) (h4 : s.size ≤ 4) : ∃ T : ByteArray, (∀ W, (Op.stringOp .add ((⟨#[48, 48, 48, 48]⟩ : ByteArray).extract s.size 4) s).run Tryz.prog W = .ok (.string T) W) ∧ T.size = 4 ∧ T.data.toList = List.replicate (4 - s.size) 48 ++ s.data.toList := by
  refine ⟨_, fun W => add_strs ?_ rfl W, ?_, ?_⟩
  · rw [ByteArray.size_extract]; show _ ≤ _; omega
  · rw [ByteArray.size_append, ByteArray.size_extract]
    show min 4 4 - s.size + s.size = 4
    omega
  · rw [append_list, extract_list]
    congr 1
    have : s.size = 1 ∨ s.size = 2 ∨ s.size = 3 ∨ s.size = 4 := by omega
    rcases this with e | e | e | e <;> rw [e] <;> rfl
theorem four_bytes (T : ByteArray) (h : T.size = 4) : T.data.toList = [T[0], T[1], T[2], T[3]] := by
  have e0 := drop_byte (s := T) (i := 0) (by omega)
  have e1 := drop_byte (s := T) (i := 1) (by omega)
  have e2 := drop_byte (s := T) (i := 2) (by omega)
  have e3 := drop_byte (s := T) (i := 3) (by omega)
  have e4 : T.data.toList.drop 4 = [] := List.drop_of_length_le (by rw [size_list]; omega)
  rw [List.drop_zero] at e0
  rw [e0, e1, e2, e3, e4]
set_option maxRecDepth 100000 in
set_option maxHeartbeats 3200000 in
theorem group_any (s : ByteArray) (w : World) (hs : s.size ≤ 1048576) : Calls Tryz.prog 229 #[.string s] w fun e w' => e = .returned (.tuple #[.int .u16 (((grpL s.data.toList).getD 0 : Nat) : Int), .bool (grpL s.data.toList).isSome]) ∧ Below w.heap.size w w' := by
  obtain ⟨R, hR⟩ : ∃ R, grpL s.data.toList = R := ⟨_, rfl⟩
  rw [hR]
  have hlt : ∀ u, R = some u → u < 65536 := fun u e => grp_lt (hR.trans e)
  unfold grpL at hR
  rw [size_list] at hR
  have s0 : (0 : Int) ≤ (s.size : Int) := by omega
  by_cases h1 : s.size < 1
  · have d1 : decide ((s.size : Int) < 1) = true := decide_eq_true (by omega)
    rw [if_pos (.inl h1)] at hR
    have HF := Lib.hid hR.symm
    clear hR h1 hlt
    go_enter Tryz.func229, Tryz.ntmps229
    go_wp2_with fail
    go_ret2
    rw [HF.out]
    exact ⟨rfl, Below.refl _ _⟩
  have d1 : decide ((s.size : Int) < 1) = false := decide_eq_false (by omega)
  by_cases h4 : 4 < s.size
  · have d2 : decide ((s.size : Int) > 4) = true := decide_eq_true (by omega)
    rw [if_pos (.inr h4)] at hR
    have HF := Lib.hid hR.symm
    clear hR h1 h4 hlt
    go_enter Tryz.func229, Tryz.ntmps229
    go_wp2_with fail
    go_ret2
    rw [HF.out]
    exact ⟨rfl, Below.refl _ _⟩
  have d2 : decide ((s.size : Int) > 4) = false := decide_eq_false (by omega)
  rw [if_neg (by omega)] at hR
  have s4 : (s.size : Int) ≤ 4 := by omega
  obtain ⟨T, hT, hT4, hTl⟩ := nought_text s (by omega) (by omega)
  have hx := hxF_noughts s.data.toList (4 - s.size)
  rw [← hTl, four_bytes T hT4] at hx
  rw [← hx] at hR
  have HLt := Lib.hid hlt
  have fail : (∀ W, Calls Tryz.prog 236 #[.string T] W fun e w' => e = .returned (.tuple #[.slice none 0 0, .bool false]) ∧ Below W.heap.size W w') → R = none → Calls Tryz.prog 229 #[.string s] w fun e w' => e = .returned (.tuple #[.int .u16 ((R.getD 0 : Nat) : Int), .bool R.isSome]) ∧ Below w.heap.size w w' := by
    intro c e
    have C := Lib.hid c
    have HE := Lib.hid e
    clear hR hx hTl hT4 c e h1 h4 hlt
    go_enter Tryz.func229, Tryz.ntmps229
    go_wp2_with fail
    refine (C.out _).mono ?_
    rintro e w2 ⟨rfl, hB⟩
    have HB := Lib.hid hB
    clear hB
    go_wp2_with fail
    go_ret2
    rw [HE.out]
    exact ⟨rfl, HB.out⟩
  cases h0 : hxB T[0] with
  | none => exact fail (fun W => unhex_bad0 T W hT4 h0) (by rw [← hR, hxF_none _ _ h0])
  | some d0 =>
    cases hh1 : hxB T[1] with
    | none => exact fail (fun W => unhex_bad1 T W hT4 d0 h0 hh1) (by rw [← hR, hxF_some _ _ h0, hxF_none _ _ hh1])
    | some d1' =>
      cases h2 : hxB T[2] with
      | none => exact fail (fun W => unhex_bad2 T W hT4 d0 h0 d1' hh1 h2) (by rw [← hR, hxF_some _ _ h0, hxF_some _ _ hh1, hxF_none _ _ h2])
      | some d2' =>
        cases h3 : hxB T[3] with
        | none => exact fail (fun W => unhex_bad3 T W hT4 d0 h0 d1' hh1 d2' h2 h3) (by rw [← hR, hxF_some _ _ h0, hxF_some _ _ hh1, hxF_some _ _ h2, hxF_none _ _ h3])
        | some d3 =>
          have hv : R = some (256 * (16 * d0 + d1') + (16 * d2' + d3)) := by
            rw [← hR, hxF_some _ _ h0, hxF_some _ _ hh1, hxF_some _ _ h2, hxF_some _ _ h3]
            show some _ = some _
            congr 1
            omega
          have l0 := hxB_lt h0
          have l1 := hxB_lt hh1
          have l2 := hxB_lt h2
          have l3 := hxB_lt h3
          have C := Lib.hid (fun W => unhex_ok T W hT4 d0 d1' d2' d3 h0 hh1 h2 h3)
          obtain ⟨x, hx'⟩ : ∃ x, 16 * d0 + d1' = x := ⟨_, rfl⟩
          obtain ⟨y, hy'⟩ : ∃ y, 16 * d2' + d3 = y := ⟨_, rfl⟩
          obtain ⟨v, hv'⟩ : ∃ v, 256 * x + y = v := ⟨_, rfl⟩
          have HX := Lib.hid hx'
          have HY := Lib.hid hy'
          have HV := Lib.hid hv'
          have x9 : x < 256 := by omega
          have y9 : y < 256 := by omega
          rw [hx', hy', hv'] at hv
          have HR := Lib.hid hv
          have w16 : IntKind.u16.wrap (v : Int) = v := IntWalk.u16_in _ (by omega)
          clear hR hx hTl hT4 h1 h4 hlt fail h0 hh1 h2 h3 hx' hy' hv' hv l0 l1 l2 l3
          go_enter Tryz.func229, Tryz.ntmps229
          go_wp2_with fail
          refine (C.out _).mono ?_
          rintro e w2 ⟨g, rfl, q0, q1, hB⟩
          rw [HX.out] at q0
          rw [HY.out] at q1
          have HB := Lib.hid hB
          have cg := get2_any g x y w2 x9 y9 q0 q1
          rw [HV.out] at cg
          have Cg := Lib.hid cg
          clear hB cg q0 q1
          go_wp2_with fail
          (with_reducible refine Cg.out.mono ?_)
          rintro e w3 ⟨rfl, rfl⟩
          go_wp2_with fail
          go_ret2
          rw [HR.out]
          exact ⟨rfl, HB.out⟩
end Go.Proofs.YtffkaphbgfdpaaaGreatDoor
end

section
/- Rows of groups: addr.read, the document's groups. -/
namespace Go.Proofs.YtffkaphbgfdpaaaGreatDoor
open Go.RowKit Go.Shelf Go.Deep
set_option linter.unusedVariables false
set_option linter.unusedSimpArgs false

abbrev enc16 (n : Nat) : List Value := [.int .u16 (n : Int)]
theorem enc16_ok : EncOk 1 enc16 := ⟨fun _ => rfl, fun a v hv => by
  simp only [enc16, List.mem_singleton] at hv
  subst hv
  rfl, by decide⟩
theorem info16 : (Tryz.prog.info? 169).map (fun i => (i.zero, i.size, i.bytes)) = some (some (.int .u16 0), 1, 2) := by kernel_rfl
abbrev encIN (n : Nat) : List Value := [.int .i64 (n : Int)]
theorem encIN_ok : EncOk 1 encIN := ⟨fun _ => rfl, fun a v hv => by
  simp only [encIN, List.mem_singleton] at hv
  subst hv
  rfl, by decide⟩
theorem infoIN : (Tryz.prog.info? 3).map (fun i => (i.zero, i.size, i.bytes)) = some (some (.int .i64 0), 1, 8) := by kernel_rfl
/-- The document's: no more than eight. -/
def rgL (l : List UInt8) : Option (List Nat) := if l = [] then some [] else if (splitL 58 l).length ≤ 8 then mapO grpL (splitL 58 l) else none
theorem list_nil {s : ByteArray} (h : s.data.toList = []) : s = ⟨#[]⟩ := (bs_eq_iff [] s).2 h.symm |>.symm
theorem ne_empty {s : ByteArray} (h : ¬ s.data.toList = []) : s.toList.isEmpty = false := by
  rw [ByteArray.toList_eq]
  cases hl : s.data.toList with
  | nil => exact absurd hl h
  | cons a b => rfl
theorem is_empty {s : ByteArray} (h : s.data.toList = []) : s.toList.isEmpty = true := by
  rw [ByteArray.toList_eq, h]
  rfl
/-- How a reading of groups ends. -/
def RdEnd (enc : Nat → List Value) (t : TypeId) (w : World) (o : Option (List Nat)) (e : Ending) (w' : World) : Prop :=
  (match o with
  | none => e = .returned (.tuple #[.slice none 0 0, .bool false])
  | some gs => ∃ v, e = .returned (.tuple #[v, .bool true]) ∧ OwnG 1 enc t w' w.heap.size v gs) ∧ Below w.heap.size w w'
set_option maxRecDepth 100000 in
set_option maxHeartbeats 3200000 in
theorem read_any (s : ByteArray) (m : Int) (w : World) (hs : s.size ≤ 1048576) (hm : w.cell? ⟨0, 0, none⟩ = some (.int .i64 m)) : Calls Tryz.prog 225 #[.string s] w (RdEnd enc16 169 w (readG s.data.toList)) := by
  obtain ⟨R, hR⟩ : ∃ R, readG s.data.toList = R := ⟨_, rfl⟩
  rw [hR]
  obtain ⟨i0, hi0, hz0, hz1, hz2⟩ := info_parts info16
  have Hi0 := Lib.hid hi0
  have Hz0 := Lib.hid hz0
  have Hz1 := Lib.hid hz1
  have Hz2 := Lib.hid hz2
  unfold readG at hR
  clear hi0 hz0 hz1 hz2
  by_cases h0 : s.data.toList = []
  · rw [if_pos h0] at hR
    obtain rfl := list_nil h0
    have HF := Lib.hid hR.symm
    clear hR h0 hm
    go_enter Tryz.func225, Tryz.ntmps225
    go_wp2_with fail
    go_ret2
    rw [HF.out]
    exact ⟨⟨_, rfl, own_nil _ _ _ _⟩, Below.refl _ _⟩
  · have e1 := ne_empty h0
    rw [if_neg h0] at hR
    have HR := Lib.hid hR
    have cs := psplit_any s 58 m w hs hm
    have Cs := Lib.hid cs
    clear hR h0 cs hm
    go_enter Tryz.func225, Tryz.ntmps225
    go_wp2_with fail
    refine Cs.out.mono ?_
    rintro e w1 ⟨v1, rfl, L, hL, hL9, hLs, hown, hB1⟩
    obtain ⟨A1, c1, rfl, hRL⟩ := OwnG.rs encB_ok hown
    have HRL := Lib.hid hRL
    have HB1 := Lib.hid hB1
    have HS1 := Lib.hid hB1.size
    have HLs := Lib.hid hLs
    have n9 : L.length ≤ 1048577 := by omega
    have hM : mapO grpL (ls L) = R := by
      have h := HR.out
      rw [← hL] at h
      exact h
    have HM := Lib.hid hM
    clear hRL hB1 hLs hL9 hown hL hM
    go_wp2_with fail
    go_loopg [4, 6, 7, 8, 14] L.length (fun g s4 s6 s7 s8 s14 wr => ∃ (k n cp : Nat) (A : Option Addr) (us : List Nat), k + g = L.length ∧ n = k ∧ s4 = .slice A n cp ∧ s14 = .int .i64 k ∧ Aside (us.length = n) ∧ Aside ((mapO grpL (ls (L.drop k))).map (us ++ ·) = R) ∧ wr.ownsRow w1.heap.size 169 1 (.slice A n cp) n (flatG enc16 us) ∧ Below w1.heap.size w1 wr)
    case atStart => exact ⟨0, 0, 0, none, [], by omega, rfl, rfl, rfl, by
        show _ = _
        rfl, by
        have h := HM.out
        show _ = _
        rw [List.drop_zero]
        rw [h]; cases R <;> simp
        , own_nil _ _ _ _, Below.refl _ _⟩
    case round =>
      obtain ⟨k, n, cp, A, us, hk, rfl, rfl, rfl, hul, hA, hO, hB⟩ := hrel
      have k0 : (0 : Int) ≤ (n : Int) := by omega
      have HB := Lib.hid hB
      have HS := Lib.hid hB.size
      have HO := Lib.hid hO
      have Hul := Lib.hid hul.out
      have HA := Lib.hid hA.out
      clear hB hO hul hA
      cases gk with
      | zero =>
        have k1 : ¬ (n : Int) < (L.length : Int) := by omega
        have hR := HA.out
        rw [List.drop_of_length_le (by omega)] at hR
        have hR : R = some us := by rw [← hR]; simp [mapO]
        have HF := Lib.hid hR
        clear hR
        go_wp2_with fail
        go_ret2
        rw [HF.out]
        refine ⟨⟨_, rfl, ?_⟩, HB1.out.trans (HB.out.mono HS1.out)⟩
        have := own_mono HO.out HS1.out
        unfold OwnG
        rw [Hul.out]
        exact this
      | succ g =>
        have k1 : (n : Int) < (L.length : Int) := by omega
        have hkl : n < L.length := by omega
        obtain ⟨bb, o, hAe, -⟩ := HRL.out (by omega)
        subst hAe
        obtain ⟨x, hx⟩ : ∃ x, L[n]? = some x := ⟨_, List.getElem?_eq_getElem hkl⟩
        have hcell := (HRL.out.later HB.out).cell encB_ok hx (j := 0) rfl
        simp only [Nat.mul_one, Nat.add_zero] at hcell
        have hdr : L.drop n = x :: L.drop (n + 1) := by
          rw [List.drop_eq_getElem_cons hkl]
          rw [List.getElem?_eq_getElem hkl] at hx
          rw [Option.some.inj hx]
        have hA2 := HA.out
        rw [hdr] at hA2
        have hxz := HLs.out x (List.mem_of_getElem? hx)
        have cg := group_any x wr (by omega)
        cases hd : grpL x.data.toList with
        | none =>
          rw [hd] at cg
          have Cg := Lib.hid cg
          have hR : R = none := by
            rw [← hA2]
            show Option.map _ (mapO grpL (x.data.toList :: ls (L.drop (n + 1)))) = _
            rw [mapO_bad _ hd]; rfl
          have HF := Lib.hid hR
          clear hR hA2 hd cg hdr hx hkl hxz
          go_wp2_with fail
          (with_reducible refine Cg.out.mono ?_)
          rintro e w3 ⟨rfl, hB3⟩
          have HB3 := Lib.hid (HB1.out.trans ((HB.out.trans (hB3.mono HS.out)).mono HS1.out))
          clear hB3
          go_wp2_with fail
          go_ret2
          rw [HF.out]
          exact ⟨rfl, HB3.out⟩
        | some u =>
          rw [hd] at cg
          have Cg := Lib.hid cg
          have hu := grp_lt hd
          have hR : (mapO grpL (ls (L.drop (n + 1)))).map ((us ++ [u]) ++ ·) = R := by
            rw [← hA2]
            exact (mapO_good _ us hd).symm
          have HR2 := Lib.hid hR
          clear hR hA2 hd cg hdr hx hkl hxz
          go_wp2_with fail
          (with_reducible refine Cg.out.mono ?_)
          rintro e w3 ⟨rfl, hB3⟩
          have hBt : Below w1.heap.size w1 w3 := HB.out.trans (hB3.mono HS.out)
          have hx2 : ((w3.alloc (.cells (flatG enc16 [u]).toArray 169)).heap[w3.heap.size]? = some (.cells (flatG enc16 [u]).toArray 169 (0, 0))) := heap_alloc_new w3 _
          have Hx2 := Lib.hid (rs_news hx2)
          have hO2 : w3.ownsRow w1.heap.size 169 1 (.slice A n cp) n (flatG enc16 us) := own_below HO.out hB3
          have HO2 := Lib.hid (show (w3.alloc (.cells (flatG enc16 [u]).toArray 169)).ownsRow w1.heap.size 169 1 (.slice A n cp) n (flatG enc16 us) from own_later hO2 fun b hb => Below.heap_alloc _ _ _ (own_lt hO2 hb).2)
          have HBt := Lib.hid hBt
          have HS2 := Lib.hid hBt.size
          clear hBt hx2 hO2 hB3
          go_wp2_with (at_builtin; refine wpList_append_lies _ rfl _ _ 222 rfl w1.heap.size 169 i0 (.int .u16 0) 1 2 Tryz.underlying222 Hi0.out Hz0.out Hz1.out Hz2.out rfl (by decide) (.slice A n cp) n (flatG enc16 us) rfl HO2.out ⟨w3.heap.size, 0, none⟩ 1 1 (flatG enc16 [u]) (by simp [go_sem]) rfl Hx2.out (flatG_one enc16_ok _) (by decide) (by simp only [maxLen]; omega) (by omega) (by have := HS2.out; simp; omega) (w3.heap.size + 1) (by simp) ?_; intro g2 cap w5 hown2 hgrow hat hlt)
          have HF := Lib.hid (And.intro hown2 hgrow)
          clear hown2 hgrow hat hlt
          go_wp2_with fail
          go_roundg g
          case measure => omega
          case rel => exact ⟨n + 1, n + 1, cap, some ⟨g2, 0, none⟩, us ++ [u], by omega, rfl, rfl, by go_num, by
              show _ = _
              rw [List.length_append, Hul.out]
              rfl, HR2.out, by
              rw [flatG_append]
              exact HF.out.1, (HBt.out.alloc HS2.out _).grown HF.out.2 (by have := HS2.out; simp; omega) (fun b e => (own_lt HO.out e).1)⟩
end Go.Proofs.YtffkaphbgfdpaaaGreatDoor
end

section
/- The document's gap. -/
namespace Go.Proofs.YtffkaphbgfdpaaaGreatDoor
open Go.RowKit Go.Shelf Go.Deep
set_option linter.unusedVariables false
set_option linter.unusedSimpArgs false

theorem beq58 (b : UInt8) : ((58 : UInt8) == b) = decide (b = 58) := by
  rw [Bool.eq_iff_iff, beq_iff_eq, decide_eq_true_iff]
  exact eq_comm
theorem occ_two {s : ByteArray} {k : Nat} (h : k + 1 < s.size) : Lib.occAt s.data.toList [58, 58] k = (decide (s[k] = 58) && decide (s[k + 1] = 58)) := by
  unfold Lib.occAt
  rw [drop_byte (by omega), drop_byte h]
  show ((58 : UInt8) == s[k] && ((58 : UInt8) == s[k + 1] && ([] : List UInt8).isPrefixOf _)) = _
  rw [beq58, beq58]
  simp
theorem occ_end {s : ByteArray} {k : Nat} (h : ¬ k + 1 < s.size) : Lib.occAt s.data.toList [58, 58] k = false := by
  unfold Lib.occAt
  have hl : (s.data.toList.drop k).length ≤ 1 := by rw [List.length_drop, size_list]; omega
  match hd : s.data.toList.drop k, hl with
  | [], _ => rfl
  | [b], _ =>
    show ((58 : UInt8) == b && ([58] : List UInt8).isPrefixOf []) = false
    simp
end Go.Proofs.YtffkaphbgfdpaaaGreatDoor
end
