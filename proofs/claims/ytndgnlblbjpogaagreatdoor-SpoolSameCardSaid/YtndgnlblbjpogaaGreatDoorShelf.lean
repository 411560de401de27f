/-
  DERIVED: THE SHELF's CONTRACTS AT THIS DUMP, IN PLAIN WORDS (tools/lay-plain.mjs out of 'YtndgnlblbjpogaaGreatDoorShelf.lean', which tools/lay-shelf.mjs wrote): THE SAME DECLARATIONS UNDER THE SAME NAMES: 'import', 'namespace', 'open', 'def', 'theorem' AND NOTHING ELSE: no command of the shelf's: FOR A HAND-IN. Each laying: the table of numbers ('.._ren') and one theorem, a field a fact of the dump's own or the kernel's comparison; each contract: ONE APPLICATION.
-/
import Derived.Shelf.Strings.Builder1
import Derived.Shelf.Strings.Builder2
import Derived.Shelf.Strings.Trim
import Derived.Shelf.Small.Utf8
import Derived.Shelf.Small.Bits
import Derived.Shelf.Small.Strs
import Derived.Shelf.Strings.BuilderF
import Derived.Shelf.Strconv.Itoa0
import Derived.Shelf.Strconv.Itoa1
import Derived.Shelf.LaysM
import Derived.Shelf.Strconv.Itoa2
import Derived.Shelf.Strconv.Itoa3
import Derived.Ground.MpProg
import Derived.Shelf.Pu.ParseUintPublic10
import Derived.Shelf.Strings.Search1
import Derived.Shelf.Sort.Plain
import Derived.Shelf.Strings.Prefix
import Derived.Shelf.Strings.Runes
import Derived.Shelf.Strings.AsciiSet
import Derived.Shelf.Bits.Mul64
import Derived.Shelf.Strings.Repeat
import Derived.Shelf.Unicode.DecodeSlow
import Derived.Ground.SlgnProg
import Derived.Shelf.SlicesE.Clone
import Derived.Ground.SlgmProg
import Derived.Shelf.SortM.SortNone
import Derived.Shelf.SlGeneric
import Derived.Shelf.SlMaps.Clone
import Derived.Ground.SlmcProg
import Derived.Shelf.SlicesQ.IndexFunc
import Derived.Ground.SlgfProg
import Derived.Shelf.SlIter.Nil
import Derived.Shelf.SortM.Plain
import Derived.Ground.GgzProg
import Derived.Test.YtndgnlblbjpogaaGreatDoorProg
namespace Go.Proofs
open Go.Shelf
def Tryz.lays283_ren : Go.Shelf.Ren := ⟨fun | 283 => 179 | n => n, fun | 3 => 3 | 9 => 9 | 4 => 4 | n => n, fun | n => n⟩
theorem Tryz.lays283 : Go.Proofs.Lays.n283 Tryz.prog Tryz.lays283_ren := {
  mixed := by kernel_rfl
  f283 := Tryz.func179.trans (congrArg some (by kernel_rfl))
  t3 := Tryz.underlying3
  a3 := Tryz.isAgg3
  z3 := Tryz.sizeOf3
  v3 := Tryz.zeroValue3
  t4 := Tryz.underlying4
  a4 := Tryz.isAgg4
  z4 := Tryz.sizeOf4
  v4 := Tryz.zeroValue4
  t9 := Tryz.underlying9
  a9 := Tryz.isAgg9
  z9 := Tryz.sizeOf9
  v9 := Tryz.zeroValue9 }
open Go.Lib in
/-- internal/strconv.small: "small returns the string for an i with 0 <= i < nSmalls.": i's decimal numeral. The world is as it was. (LAID: no walk: one application.) -/
theorem Tryz.internal_strconv_small (i : Nat) (h : i < 100) (w : World) :
    Calls Tryz.prog 179 #[.int .i64 i] w fun e w' => e = .returned (.string ⟨(Lib.decDigits i).toArray⟩) ∧ w' = w := Any.internal_strconv_small Tryz.lays283 i h w
def Tryz.laysM284_ren : Go.Shelf.Ren := ⟨fun | 284 => 180 | 129 => 161 | 317 => 201 | 318 => 202 | n => n, fun | 53 => 31 | 3 => 3 | 212 => 247 | 0 => 0 | 4 => 4 | 46 => 157 | 5 => 5 | 9 => 9 | n => n, fun | 17 => 1 | n => n⟩
theorem Tryz.laysM284 : Go.Proofs.LaysM.n284 Tryz.prog Tryz.laysM284_ren := {
  mixed := by kernel_rfl
  f129 := Tryz.func161.trans (congrArg some (by kernel_rfl))
  f284 := Tryz.func180.trans (congrArg some (by kernel_rfl))
  f317 := Tryz.func201.trans (congrArg some (by kernel_rfl))
  f318 := Tryz.func202.trans (congrArg some (by kernel_rfl))
  t0 := Tryz.underlying0
  a0 := Tryz.isAgg0
  z0 := Tryz.sizeOf0
  v0 := Tryz.zeroValue0
  t3 := Tryz.underlying3
  a3 := Tryz.isAgg3
  z3 := Tryz.sizeOf3
  v3 := Tryz.zeroValue3
  t4 := Tryz.underlying4
  a4 := Tryz.isAgg4
  z4 := Tryz.sizeOf4
  v4 := Tryz.zeroValue4
  t5 := Tryz.underlying5
  a5 := Tryz.isAgg5
  z5 := Tryz.sizeOf5
  v5 := Tryz.zeroValue5
  t9 := Tryz.underlying9
  a9 := Tryz.isAgg9
  z9 := Tryz.sizeOf9
  v9 := Tryz.zeroValue9
  t46 := Tryz.underlying157
  a46 := Tryz.isAgg157
  z46 := Tryz.sizeOf157
  v46 := Tryz.zeroValue157
  t53 := Tryz.underlying31
  a53 := Tryz.isAgg31
  z53 := Tryz.sizeOf31
  v53 := Tryz.zeroValue31
  t212 := Tryz.underlying247
  a212 := Tryz.isAgg247
  z212 := Tryz.sizeOf247
  v212 := Tryz.zeroValue247
  g17 := by kernel_rfl
  i0 := by kernel_rfl
  i3 := by kernel_rfl
  i4 := by kernel_rfl
  i5 := by kernel_rfl
  i9 := by kernel_rfl
  i46 := by kernel_rfl
  i53 := by kernel_rfl
  i212 := by kernel_rfl
  m17 := by kernel_rfl }
open Go.Lib in
/-- internal/strconv.numDigits, at a d that is not 0: THE NUMBER OF d's DECIMAL DIGITS. The world is as it was. (LAID: no walk: one application.) -/
theorem Tryz.internal_strconv_numDigits (u : Nat) (h1 : 1 ≤ u) (h2 : u < 18446744073709551616) (w : World) (htab : Lib.TabIs Tryz.prog w "internal/strconv.uint64pow10" .u64 Lib.pow10Tab) :
    Calls Tryz.prog 180 #[.int .u64 u] w fun e w' => e = .returned (.int .i64 (Lib.nDigits u)) ∧ w' = w := Any.internal_strconv_numDigits Tryz.laysM284 u h1 h2 w htab
def Tryz.lays285_ren : Go.Shelf.Ren := ⟨fun | 285 => 181 | n => n, fun | 37 => 78 | 53 => 31 | 3 => 3 | 4 => 4 | 51 => 208 | 9 => 9 | 5 => 5 | 0 => 0 | n => n, fun | n => n⟩
theorem Tryz.lays285 : Go.Proofs.Lays.n285 Tryz.prog Tryz.lays285_ren := {
  mixed := by kernel_rfl
  f285 := Tryz.func181.trans (congrArg some (by kernel_rfl))
  t0 := Tryz.underlying0
  a0 := Tryz.isAgg0
  z0 := Tryz.sizeOf0
  v0 := Tryz.zeroValue0
  t3 := Tryz.underlying3
  a3 := Tryz.isAgg3
  z3 := Tryz.sizeOf3
  v3 := Tryz.zeroValue3
  t4 := Tryz.underlying4
  a4 := Tryz.isAgg4
  z4 := Tryz.sizeOf4
  v4 := Tryz.zeroValue4
  t5 := Tryz.underlying5
  a5 := Tryz.isAgg5
  z5 := Tryz.sizeOf5
  v5 := Tryz.zeroValue5
  t9 := Tryz.underlying9
  a9 := Tryz.isAgg9
  z9 := Tryz.sizeOf9
  v9 := Tryz.zeroValue9
  t37 := Tryz.underlying78
  a37 := Tryz.isAgg78
  z37 := Tryz.sizeOf78
  v37 := Tryz.zeroValue78
  t51 := Tryz.underlying208
  a51 := Tryz.isAgg208
  z51 := Tryz.sizeOf208
  v51 := Tryz.zeroValue208
  t53 := Tryz.underlying31
  a53 := Tryz.isAgg31
  z53 := Tryz.sizeOf31
  v53 := Tryz.zeroValue31 }
open Go.RowKit Go.Sort Go.Lib in
/-- internal/strconv.formatBase10: "formatBase10 formats the decimal representation of u into a. The caller is responsible for ensuring that a is big enough to hold u. If a is too big, leading zeros will be filled in as needed.": THE ROW HOLDS u's DIGITS ('FmtInv .. 0 ..': every place t holds 'dg u (len - 1 - t)'); all else is as it was but for the count of draws. (LAID: no walk: one application.) -/
theorem Tryz.internal_strconv_formatBase10 (blk off cap : Nat) (u : Nat) (d : Array UInt8) (w : World) (hH : Holds (fun (b : UInt8) => Value.int .u8 (b.toNat : Int)) w blk off d) (hu : u < 10 ^ d.size) (hu64 : u < 18446744073709551616) (hsz : d.size < 4611686018427387904) :
    Calls Tryz.prog 181 #[.slice (some ⟨blk, off, none⟩) d.size cap, .int .u64 u] w fun e w' =>
      e = .returned (.tuple #[]) ∧ ∃ (n v' : Nat) (dk : Array UInt8), w' = (putRow (fun (b : UInt8) => Value.int .u8 (b.toNat : Int)) w blk off dk).drewN n ∧ FmtInv d.size u 0 v' dk := Any.internal_strconv_formatBase10 Tryz.lays285 blk off cap u d w hH hu hu64 hsz
def Tryz.lays105_ren : Go.Shelf.Ren := ⟨fun | 105 => 112 | 212 => 144 | 99 => 145 | 165 => 146 | 166 => 147 | 170 => 148 | 169 => 149 | 263 => 183 | 264 => 184 | 206 => 185 | 240 => 186 | 241 => 187 | 276 => 205 | 277 => 206 | n => n, fun | 9 => 9 | 3 => 3 | 4 => 4 | 20 => 20 | 0 => 0 | 46 => 157 | 109 => 189 | 5 => 5 | 72 => 193 | 76 => 197 | 51 => 208 | 146 => 232 | 53 => 31 | 148 => 234 | 70 => 191 | 37 => 78 | 75 => 196 | 127 => 236 | 164 => 250 | 80 => 199 | n => n, fun | n => n⟩
theorem Tryz.lays105 : Go.Proofs.Lays.n105 Tryz.prog Tryz.lays105_ren := {
  mixed := by kernel_rfl
  f99 := Tryz.func145.trans (congrArg some (by kernel_rfl))
  f105 := Tryz.func112.trans (congrArg some (by kernel_rfl))
  f165 := Tryz.func146.trans (congrArg some (by kernel_rfl))
  f166 := Tryz.func147.trans (congrArg some (by kernel_rfl))
  f169 := Tryz.func149.trans (congrArg some (by kernel_rfl))
  f170 := Tryz.func148.trans (congrArg some (by kernel_rfl))
  f206 := Tryz.func185.trans (congrArg some (by kernel_rfl))
  f212 := Tryz.func144.trans (congrArg some (by kernel_rfl))
  f240 := Tryz.func186.trans (congrArg some (by kernel_rfl))
  f241 := Tryz.func187.trans (congrArg some (by kernel_rfl))
  f263 := Tryz.func183.trans (congrArg some (by kernel_rfl))
  f264 := Tryz.func184.trans (congrArg some (by kernel_rfl))
  f276 := Tryz.func205.trans (congrArg some (by kernel_rfl))
  f277 := Tryz.func206.trans (congrArg some (by kernel_rfl))
  t0 := Tryz.underlying0
  a0 := Tryz.isAgg0
  z0 := Tryz.sizeOf0
  v0 := Tryz.zeroValue0
  t3 := Tryz.underlying3
  a3 := Tryz.isAgg3
  z3 := Tryz.sizeOf3
  v3 := Tryz.zeroValue3
  t4 := Tryz.underlying4
  a4 := Tryz.isAgg4
  z4 := Tryz.sizeOf4
  v4 := Tryz.zeroValue4
  t5 := Tryz.underlying5
  a5 := Tryz.isAgg5
  z5 := Tryz.sizeOf5
  v5 := Tryz.zeroValue5
  t9 := Tryz.underlying9
  a9 := Tryz.isAgg9
  z9 := Tryz.sizeOf9
  v9 := Tryz.zeroValue9
  t20 := Tryz.underlying20
  a20 := Tryz.isAgg20
  z20 := Tryz.sizeOf20
  v20 := Tryz.zeroValue20
  t37 := Tryz.underlying78
  a37 := Tryz.isAgg78
  z37 := Tryz.sizeOf78
  v37 := Tryz.zeroValue78
  t46 := Tryz.underlying157
  a46 := Tryz.isAgg157
  z46 := Tryz.sizeOf157
  v46 := Tryz.zeroValue157
  t51 := Tryz.underlying208
  a51 := Tryz.isAgg208
  z51 := Tryz.sizeOf208
  v51 := Tryz.zeroValue208
  t53 := Tryz.underlying31
  a53 := Tryz.isAgg31
  z53 := Tryz.sizeOf31
  v53 := Tryz.zeroValue31
  t70 := Tryz.underlying191
  a70 := Tryz.isAgg191
  z70 := Tryz.sizeOf191
  v70 := Tryz.zeroValue191
  t72 := Tryz.underlying193
  a72 := Tryz.isAgg193
  z72 := Tryz.sizeOf193
  v72 := Tryz.zeroValue193
  t75 := Tryz.underlying196
  a75 := Tryz.isAgg196
  z75 := Tryz.sizeOf196
  v75 := Tryz.zeroValue196
  t76 := Tryz.underlying197
  a76 := Tryz.isAgg197
  z76 := Tryz.sizeOf197
  v76 := Tryz.zeroValue197
  t109 := Tryz.underlying189
  a109 := Tryz.isAgg189
  z109 := Tryz.sizeOf189
  v109 := Tryz.zeroValue189
  t127 := Tryz.underlying236
  a127 := Tryz.isAgg236
  z127 := Tryz.sizeOf236
  v127 := Tryz.zeroValue236
  t146 := Tryz.underlying232
  a146 := Tryz.isAgg232
  z146 := Tryz.sizeOf232
  v146 := Tryz.zeroValue232
  t148 := Tryz.underlying234
  a148 := Tryz.isAgg234
  z148 := Tryz.sizeOf234
  v148 := Tryz.zeroValue234
  t164 := Tryz.underlying250
  a164 := Tryz.isAgg250
  z164 := Tryz.sizeOf250
  v164 := Tryz.zeroValue250 }
theorem Tryz.Builder_Extra_105 : Builder.Extra Tryz.prog Tryz.lays105_ren := {
  sizeBuilder := by kernel_rfl
  liesBuilder := by kernel_rfl
  t5 := Tryz.underlying5
  a5 := Tryz.isAgg5
  z5 := Tryz.sizeOf5
  v5 := Tryz.zeroValue5
  infoByte := by kernel_rfl
  cellsByte := by kernel_rfl
  sizeByte := by kernel_rfl
  neB5 := by decide }
open Go.RowKit Go.Lib in
/-- **strings.Repeat: count ≥ 0, the result within one allocation: count copies of s.** (LAID: no walk: one application.) -/
theorem Tryz.strings_Repeat (s : ByteArray) (c : Nat) (w : World) (hc : c ≤ 9223372036854775807) (hlen : s.size * c ≤ 140737488355328) :
    Calls Tryz.prog 112 #[.string s, .int .i64 c] w fun e w' => e = .returned (.string ⟨(Lib.repeatL s.data.toList c).toArray⟩) ∧ Below w.heap.size w w' := Any.strings_Repeat Tryz.lays105 Tryz.Builder_Extra_105 s c w hc hlen
def Tryz.lays160_ren : Go.Shelf.Ren := ⟨fun | 160 => 107 | 232 => 136 | 231 => 135 | 227 => 137 | 234 => 139 | 233 => 138 | 236 => 141 | 235 => 140 | 228 => 173 | 271 => 176 | 151 => 175 | 197 => 174 | 120 => 199 | 152 => 198 | 260 => 197 | 137 => 106 | 119 => 214 | 224 => 215 | 225 => 216 | 217 => 134 | 266 => 172 | n => n, fun | 9 => 9 | 4 => 4 | 3 => 3 | 5 => 5 | 117 => 184 | 116 => 183 | 0 => 0 | 124 => 187 | 21 => 21 | 105 => 224 | 46 => 157 | 119 => 262 | 139 => 265 | 138 => 264 | n => n, fun | 3 => 3 | 4 => 4 | n => n⟩
theorem Tryz.lays160 : Go.Proofs.Lays.n160 Tryz.prog Tryz.lays160_ren := {
  mixed := by kernel_rfl
  f119 := Tryz.func214.trans (congrArg some (by kernel_rfl))
  f120 := Tryz.func199.trans (congrArg some (by kernel_rfl))
  f137 := Tryz.func106.trans (congrArg some (by kernel_rfl))
  f151 := Tryz.func175.trans (congrArg some (by kernel_rfl))
  f152 := Tryz.func198.trans (congrArg some (by kernel_rfl))
  f160 := Tryz.func107.trans (congrArg some (by kernel_rfl))
  f197 := Tryz.func174.trans (congrArg some (by kernel_rfl))
  f217 := Tryz.func134.trans (congrArg some (by kernel_rfl))
  f224 := Tryz.func215.trans (congrArg some (by kernel_rfl))
  f225 := Tryz.func216.trans (congrArg some (by kernel_rfl))
  f227 := Tryz.func137.trans (congrArg some (by kernel_rfl))
  f228 := Tryz.func173.trans (congrArg some (by kernel_rfl))
  f231 := Tryz.func135.trans (congrArg some (by kernel_rfl))
  f232 := Tryz.func136.trans (congrArg some (by kernel_rfl))
  f233 := Tryz.func138.trans (congrArg some (by kernel_rfl))
  f234 := Tryz.func139.trans (congrArg some (by kernel_rfl))
  f235 := Tryz.func140.trans (congrArg some (by kernel_rfl))
  f236 := Tryz.func141.trans (congrArg some (by kernel_rfl))
  f260 := Tryz.func197.trans (congrArg some (by kernel_rfl))
  f266 := Tryz.func172.trans (congrArg some (by kernel_rfl))
  f271 := Tryz.func176.trans (congrArg some (by kernel_rfl))
  t0 := Tryz.underlying0
  a0 := Tryz.isAgg0
  z0 := Tryz.sizeOf0
  v0 := Tryz.zeroValue0
  t3 := Tryz.underlying3
  a3 := Tryz.isAgg3
  z3 := Tryz.sizeOf3
  v3 := Tryz.zeroValue3
  t4 := Tryz.underlying4
  a4 := Tryz.isAgg4
  z4 := Tryz.sizeOf4
  v4 := Tryz.zeroValue4
  t5 := Tryz.underlying5
  a5 := Tryz.isAgg5
  z5 := Tryz.sizeOf5
  v5 := Tryz.zeroValue5
  t9 := Tryz.underlying9
  a9 := Tryz.isAgg9
  z9 := Tryz.sizeOf9
  v9 := Tryz.zeroValue9
  t21 := Tryz.underlying21
  a21 := Tryz.isAgg21
  z21 := Tryz.sizeOf21
  v21 := Tryz.zeroValue21
  t46 := Tryz.underlying157
  a46 := Tryz.isAgg157
  z46 := Tryz.sizeOf157
  v46 := Tryz.zeroValue157
  t105 := Tryz.underlying224
  a105 := Tryz.isAgg224
  z105 := Tryz.sizeOf224
  v105 := Tryz.zeroValue224
  t116 := Tryz.underlying183
  a116 := Tryz.isAgg183
  z116 := Tryz.sizeOf183
  t117 := Tryz.underlying184
  a117 := Tryz.isAgg184
  z117 := Tryz.sizeOf184
  v117 := Tryz.zeroValue184
  t119 := Tryz.underlying262
  a119 := Tryz.isAgg262
  z119 := Tryz.sizeOf262
  t124 := Tryz.underlying187
  a124 := Tryz.isAgg187
  z124 := Tryz.sizeOf187
  v124 := Tryz.zeroValue187
  t138 := Tryz.underlying264
  a138 := Tryz.isAgg264
  z138 := Tryz.sizeOf264
  v138 := Tryz.zeroValue264
  t139 := Tryz.underlying265
  a139 := Tryz.isAgg265
  z139 := Tryz.sizeOf265
  v139 := Tryz.zeroValue265
  g3 := by kernel_rfl
  g4 := by kernel_rfl }
open Go.RowKit in
/-- strings.Trim: "Trim returns a slice of the string s with all leading and trailing Unicode code points contained in cutset removed.": AT A cutset OF ONE ASCII BYTE. THE WORLD BEHIND IT: as it was, or (where s is not empty) with ONE DRAW MORE off the tape: the statement 'return trimLeftByte(trimRightByte(s, c), c)' draws its order of evaluation. (LAID: no walk: one application.) -/
theorem Tryz.strings_Trim_one (s : ByteArray) (c : UInt8) (hc : c.toNat < 128) (w : World) (hs : s.size ≤ 9223372036854775807) :
    Calls Tryz.prog 107 #[.string s, .string ⟨#[c]⟩] w fun e w' => e = .returned (.string ⟨(Lib.trimB s.data.toList c).toArray⟩) ∧ (w' = w ∨ w' = w.drew) := Any.strings_Trim_one Tryz.lays160 s c hc w hs
def Tryz.lays99_ren : Go.Shelf.Ren := ⟨fun | 99 => 145 | 206 => 185 | n => n, fun | 9 => 9 | 4 => 4 | 3 => 3 | n => n, fun | n => n⟩
theorem Tryz.lays99 : Go.Proofs.Lays.n99 Tryz.prog Tryz.lays99_ren := {
  mixed := by kernel_rfl
  f99 := Tryz.func145.trans (congrArg some (by kernel_rfl))
  f206 := Tryz.func185.trans (congrArg some (by kernel_rfl))
  t3 := Tryz.underlying3
  a3 := Tryz.isAgg3
  z3 := Tryz.sizeOf3
  v3 := Tryz.zeroValue3
  t4 := Tryz.underlying4
  a4 := Tryz.isAgg4
  z4 := Tryz.sizeOf4
  v4 := Tryz.zeroValue4
  t9 := Tryz.underlying9
  a9 := Tryz.isAgg9
  z9 := Tryz.sizeOf9
  v9 := Tryz.zeroValue9 }
open Go.RowKit Go.Lib in
/-- strings.HasPrefix: "HasPrefix reports whether the string s begins with prefix.": IT RETURNS 'Lib.hasPrefix s prefix'; the world is as it was. (LAID: no walk: one application.) -/
theorem Tryz.strings_HasPrefix (s p : ByteArray) (w : World) :
    Calls Tryz.prog 145 #[.string s, .string p] w fun e w' => e = .returned (.bool (Lib.hasPrefix s.data.toList p.data.toList)) ∧ w' = w := Any.strings_HasPrefix Tryz.lays99 s p w
def Tryz.laysPu14_ren : Go.Shelf.Ren := ⟨fun | 14 => 171 | 16 => 195 | 17 => 196 | 19 => 208 | 20 => 209 | 21 => 210 | 22 => 211 | 23 => 212 | 24 => 213 | 25 => 220 | 27 => 222 | 26 => 221 | 28 => 223 | 29 => 224 | 30 => 179 | 31 => 180 | 32 => 181 | 33 => 182 | 35 => 161 | 34 => 201 | 36 => 202 | 37 => 203 | 38 => 204 | 39 => 218 | 40 => 219 | n => n, fun | 9 => 9 | 3 => 3 | 22 => 31 | 24 => 196 | 25 => 221 | 4 => 4 | 34 => 257 | 5 => 5 | 36 => 157 | 37 => 78 | 0 => 0 | 39 => 259 | 21 => 21 | 44 => 270 | 47 => 236 | 50 => 276 | 48 => 274 | 2 => 2 | 52 => 228 | 55 => 230 | 59 => 247 | 60 => 208 | 20 => 20 | 61 => 248 | 65 => 272 | 66 => 273 | 67 => 199 | n => n, fun | 0 => 5 | 1 => 6 | 2 => 1 | 3 => 7 | 4 => 8 | n => n⟩
theorem Tryz.laysPu14 : Go.Proofs.LaysPu.n14 Tryz.prog Tryz.laysPu14_ren := {
  mixed := by kernel_rfl
  f14 := Tryz.func171.trans (congrArg some (by kernel_rfl))
  f16 := Tryz.func195.trans (congrArg some (by kernel_rfl))
  f17 := Tryz.func196.trans (congrArg some (by kernel_rfl))
  f19 := Tryz.func208.trans (congrArg some (by kernel_rfl))
  f20 := Tryz.func209.trans (congrArg some (by kernel_rfl))
  f21 := Tryz.func210.trans (congrArg some (by kernel_rfl))
  f22 := Tryz.func211.trans (congrArg some (by kernel_rfl))
  f23 := Tryz.func212.trans (congrArg some (by kernel_rfl))
  f24 := Tryz.func213.trans (congrArg some (by kernel_rfl))
  f25 := Tryz.func220.trans (congrArg some (by kernel_rfl))
  f26 := Tryz.func221.trans (congrArg some (by kernel_rfl))
  f27 := Tryz.func222.trans (congrArg some (by kernel_rfl))
  f28 := Tryz.func223.trans (congrArg some (by kernel_rfl))
  f29 := Tryz.func224.trans (congrArg some (by kernel_rfl))
  f30 := Tryz.func179.trans (congrArg some (by kernel_rfl))
  f31 := Tryz.func180.trans (congrArg some (by kernel_rfl))
  f32 := Tryz.func181.trans (congrArg some (by kernel_rfl))
  f33 := Tryz.func182.trans (congrArg some (by kernel_rfl))
  f34 := Tryz.func201.trans (congrArg some (by kernel_rfl))
  f35 := Tryz.func161.trans (congrArg some (by kernel_rfl))
  f36 := Tryz.func202.trans (congrArg some (by kernel_rfl))
  f37 := Tryz.func203.trans (congrArg some (by kernel_rfl))
  f38 := Tryz.func204.trans (congrArg some (by kernel_rfl))
  f39 := Tryz.func218.trans (congrArg some (by kernel_rfl))
  f40 := Tryz.func219.trans (congrArg some (by kernel_rfl))
  t0 := Tryz.underlying0
  a0 := Tryz.isAgg0
  z0 := Tryz.sizeOf0
  v0 := Tryz.zeroValue0
  i0 := by kernel_rfl
  t2 := Tryz.underlying2
  a2 := Tryz.isAgg2
  z2 := Tryz.sizeOf2
  v2 := Tryz.zeroValue2
  i2 := by kernel_rfl
  t3 := Tryz.underlying3
  a3 := Tryz.isAgg3
  z3 := Tryz.sizeOf3
  v3 := Tryz.zeroValue3
  i3 := by kernel_rfl
  t4 := Tryz.underlying4
  a4 := Tryz.isAgg4
  z4 := Tryz.sizeOf4
  v4 := Tryz.zeroValue4
  i4 := by kernel_rfl
  t5 := Tryz.underlying5
  a5 := Tryz.isAgg5
  z5 := Tryz.sizeOf5
  v5 := Tryz.zeroValue5
  i5 := by kernel_rfl
  t9 := Tryz.underlying9
  a9 := Tryz.isAgg9
  z9 := Tryz.sizeOf9
  v9 := Tryz.zeroValue9
  i9 := by kernel_rfl
  t20 := Tryz.underlying20
  a20 := Tryz.isAgg20
  z20 := Tryz.sizeOf20
  v20 := Tryz.zeroValue20
  i20 := by kernel_rfl
  t21 := Tryz.underlying21
  a21 := Tryz.isAgg21
  z21 := Tryz.sizeOf21
  v21 := Tryz.zeroValue21
  i21 := by kernel_rfl
  t22 := Tryz.underlying31
  a22 := Tryz.isAgg31
  z22 := Tryz.sizeOf31
  v22 := Tryz.zeroValue31
  i22 := by kernel_rfl
  t24 := Tryz.underlying196
  a24 := Tryz.isAgg196
  z24 := Tryz.sizeOf196
  v24 := Tryz.zeroValue196
  i24 := by kernel_rfl
  t25 := Tryz.underlying221
  a25 := Tryz.isAgg221
  z25 := Tryz.sizeOf221
  v25 := Tryz.zeroValue221
  i25 := by kernel_rfl
  t34 := Tryz.underlying257
  a34 := Tryz.isAgg257
  z34 := Tryz.sizeOf257
  v34 := Tryz.zeroValue257
  i34 := by kernel_rfl
  c34 := by kernel_rfl
  t36 := Tryz.underlying157
  a36 := Tryz.isAgg157
  z36 := Tryz.sizeOf157
  v36 := Tryz.zeroValue157
  i36 := by kernel_rfl
  t37 := Tryz.underlying78
  a37 := Tryz.isAgg78
  z37 := Tryz.sizeOf78
  v37 := Tryz.zeroValue78
  i37 := by kernel_rfl
  t39 := Tryz.underlying259
  a39 := Tryz.isAgg259
  z39 := Tryz.sizeOf259
  v39 := Tryz.zeroValue259
  i39 := by kernel_rfl
  t44 := Tryz.underlying270
  a44 := Tryz.isAgg270
  z44 := Tryz.sizeOf270
  v44 := Tryz.zeroValue270
  i44 := by kernel_rfl
  t47 := Tryz.underlying236
  a47 := Tryz.isAgg236
  z47 := Tryz.sizeOf236
  v47 := Tryz.zeroValue236
  i47 := by kernel_rfl
  t48 := Tryz.underlying274
  a48 := Tryz.isAgg274
  z48 := Tryz.sizeOf274
  v48 := Tryz.zeroValue274
  i48 := by kernel_rfl
  t50 := Tryz.underlying276
  a50 := Tryz.isAgg276
  z50 := Tryz.sizeOf276
  v50 := Tryz.zeroValue276
  i50 := by kernel_rfl
  t52 := Tryz.underlying228
  a52 := Tryz.isAgg228
  z52 := Tryz.sizeOf228
  v52 := Tryz.zeroValue228
  i52 := by kernel_rfl
  t55 := Tryz.underlying230
  a55 := Tryz.isAgg230
  z55 := Tryz.sizeOf230
  v55 := Tryz.zeroValue230
  i55 := by kernel_rfl
  t59 := Tryz.underlying247
  a59 := Tryz.isAgg247
  z59 := Tryz.sizeOf247
  v59 := Tryz.zeroValue247
  i59 := by kernel_rfl
  t60 := Tryz.underlying208
  a60 := Tryz.isAgg208
  z60 := Tryz.sizeOf208
  v60 := Tryz.zeroValue208
  i60 := by kernel_rfl
  t61 := Tryz.underlying248
  a61 := Tryz.isAgg248
  z61 := Tryz.sizeOf248
  t65 := Tryz.underlying272
  a65 := Tryz.isAgg272
  z65 := Tryz.sizeOf272
  v65 := Tryz.zeroValue272
  i65 := by kernel_rfl
  t66 := Tryz.underlying273
  a66 := Tryz.isAgg273
  z66 := Tryz.sizeOf273
  v66 := Tryz.zeroValue273
  i66 := by kernel_rfl
  t67 := Tryz.underlying199
  a67 := Tryz.isAgg199
  z67 := Tryz.sizeOf199
  v67 := Tryz.zeroValue199
  i67 := by kernel_rfl
  g0 := by kernel_rfl
  m0 := by kernel_rfl
  g1 := by kernel_rfl
  m1 := by kernel_rfl
  g2 := by kernel_rfl
  m2 := by kernel_rfl
  g3 := by kernel_rfl
  m3 := by kernel_rfl
  g4 := by kernel_rfl
  m4 := by kernel_rfl }
open Go.RowKit in
/-- strconv.ParseUint(s, 10, 64), AT EVERY STRING THAT SPELLS A uint64 ('Lib.parseUintB 64 s.data.toList = .ok u'): u, AND NO ERROR. (LAID: no walk: one application.) -/
theorem Tryz.strconv_ParseUint_10_at64_ok (s : ByteArray) (hmax : s.size ≤ 9223372036854775806) (u : Nat) (h : Lib.parseUintB 64 s.data.toList = .ok u) (w : World) :
    Calls Tryz.prog 171 #[.string s, .int .i64 10, .int .i64 64] w fun e w' => e = .returned (.tuple #[.int .u64 u, .nilIface]) ∧ (w' = w ∨ w' = Lib.bytesWorld w 5 s) := Any.strconv_ParseUint_10_at64_ok Tryz.laysPu14 s hmax u h w
def Tryz.lays137_ren : Go.Shelf.Ren := ⟨fun | 137 => 106 | 217 => 134 | 266 => 172 | n => n, fun | 9 => 9 | 5 => 5 | 3 => 3 | n => n, fun | n => n⟩
theorem Tryz.lays137 : Go.Proofs.Lays.n137 Tryz.prog Tryz.lays137_ren := {
  mixed := by kernel_rfl
  f137 := Tryz.func106.trans (congrArg some (by kernel_rfl))
  f217 := Tryz.func134.trans (congrArg some (by kernel_rfl))
  f266 := Tryz.func172.trans (congrArg some (by kernel_rfl))
  t3 := Tryz.underlying3
  a3 := Tryz.isAgg3
  z3 := Tryz.sizeOf3
  v3 := Tryz.zeroValue3
  t5 := Tryz.underlying5
  a5 := Tryz.isAgg5
  z5 := Tryz.sizeOf5
  v5 := Tryz.zeroValue5
  t9 := Tryz.underlying9
  a9 := Tryz.isAgg9
  z9 := Tryz.sizeOf9
  v9 := Tryz.zeroValue9 }
open Go.RowKit in
/-- strings.IndexByte: "IndexByte returns the index of the first instance of c in s, or -1 if c is not present in s.": IT RETURNS 'Lib.indexByte s c'; the world is as it was. (LAID: no walk: one application.) -/
theorem Tryz.strings_IndexByte (s : ByteArray) (c : Int) (w : World) :
    Calls Tryz.prog 106 #[.string s, .int .u8 c] w fun e w' => e = .returned (.int .i64 (Lib.indexByte s.data.toList c.toNat.toUInt8)) ∧ w' = w := Any.strings_IndexByte Tryz.lays137 s c w
def Tryz.lays100_ren : Go.Shelf.Ren := ⟨fun | 100 => 98 | 207 => 127 | n => n, fun | 9 => 9 | 4 => 4 | 3 => 3 | n => n, fun | n => n⟩
theorem Tryz.lays100 : Go.Proofs.Lays.n100 Tryz.prog Tryz.lays100_ren := {
  mixed := by kernel_rfl
  f100 := Tryz.func98.trans (congrArg some (by kernel_rfl))
  f207 := Tryz.func127.trans (congrArg some (by kernel_rfl))
  t3 := Tryz.underlying3
  a3 := Tryz.isAgg3
  z3 := Tryz.sizeOf3
  v3 := Tryz.zeroValue3
  t4 := Tryz.underlying4
  a4 := Tryz.isAgg4
  z4 := Tryz.sizeOf4
  v4 := Tryz.zeroValue4
  t9 := Tryz.underlying9
  a9 := Tryz.isAgg9
  z9 := Tryz.sizeOf9
  v9 := Tryz.zeroValue9 }
open Go.RowKit Go.Lib in
/-- strings.HasSuffix: "HasSuffix reports whether the string s ends with suffix.": IT RETURNS 'Lib.hasSuffix s suffix'; the world is as it was. ('hs': no Go string is longer: a caller has it of every string that it was handed.) (LAID: no walk: one application.) -/
theorem Tryz.strings_HasSuffix (s p : ByteArray) (w : World) (hs : s.size ≤ 9223372036854775807) :
    Calls Tryz.prog 98 #[.string s, .string p] w fun e w' => e = .returned (.bool (Lib.hasSuffix s.data.toList p.data.toList)) ∧ w' = w := Any.strings_HasSuffix Tryz.lays100 s p w hs
def Tryz.lays169_ren : Go.Shelf.Ren := ⟨fun | 169 => 149 | n => n, fun | 70 => 191 | 9 => 9 | 0 => 0 | 72 => 193 | 37 => 78 | 127 => 236 | 3 => 3 | 5 => 5 | n => n, fun | n => n⟩
theorem Tryz.lays169 : Go.Proofs.Lays.n169 Tryz.prog Tryz.lays169_ren := {
  mixed := by kernel_rfl
  f169 := Tryz.func149.trans (congrArg some (by kernel_rfl))
  t0 := Tryz.underlying0
  a0 := Tryz.isAgg0
  z0 := Tryz.sizeOf0
  v0 := Tryz.zeroValue0
  t3 := Tryz.underlying3
  a3 := Tryz.isAgg3
  z3 := Tryz.sizeOf3
  v3 := Tryz.zeroValue3
  t9 := Tryz.underlying9
  a9 := Tryz.isAgg9
  z9 := Tryz.sizeOf9
  v9 := Tryz.zeroValue9
  t37 := Tryz.underlying78
  a37 := Tryz.isAgg78
  z37 := Tryz.sizeOf78
  v37 := Tryz.zeroValue78
  t70 := Tryz.underlying191
  a70 := Tryz.isAgg191
  z70 := Tryz.sizeOf191
  v70 := Tryz.zeroValue191
  t72 := Tryz.underlying193
  a72 := Tryz.isAgg193
  z72 := Tryz.sizeOf193
  v72 := Tryz.zeroValue193
  t127 := Tryz.underlying236
  a127 := Tryz.isAgg236
  z127 := Tryz.sizeOf236
  v127 := Tryz.zeroValue236 }
theorem Tryz.Builder_Extra_169 : Builder.Extra Tryz.prog Tryz.lays169_ren := {
  sizeBuilder := by kernel_rfl
  liesBuilder := by kernel_rfl
  t5 := Tryz.underlying5
  a5 := Tryz.isAgg5
  z5 := Tryz.sizeOf5
  v5 := Tryz.zeroValue5
  infoByte := by kernel_rfl
  cellsByte := by kernel_rfl
  sizeByte := by kernel_rfl
  neB5 := by decide }
open Go.RowKit in
/-- (*strings.Builder).String: "String returns the accumulated string.": WHATEVER THE BUILDER HOLDS. (LAID: no walk: one application.) -/
theorem Tryz.Builder_String_any (B b : Nat) (l : List UInt8) (w : World) (h : Lib.IsBuilder 193 5 B b (Lib.byteCells l) w) (hBw : B ≤ w.heap.size) :
    Calls Tryz.prog 149 #[.pointer (some ⟨b, 0, none⟩)] w fun e w' => e = .returned (.string ⟨l.toArray⟩) ∧ Below B w w' := Any.Builder_String_any Tryz.lays169 Tryz.Builder_Extra_169 B b l w h hBw
def Tryz.cloneNames_ren : Go.Shelf.Ren := ⟨fun | 5 => 130 | 7 => 168 | n => n, fun | 23 => 93 | 25 => 9 | 3 => 3 | 4 => 4 | 20 => 20 | n => n, fun | n => n⟩
theorem Tryz.cloneNames : Go.Proofs.SlLaysW.n5 Tryz.prog Tryz.cloneNames_ren := {
  mixed := by kernel_rfl
  f5 := ⟨Tryz.f130.name, by decide, Tryz.func130.trans (congrArg some (by kernel_rfl))⟩
  f7 := Tryz.func168.trans (congrArg some (by kernel_rfl))
  t4 := Tryz.underlying4
  a4 := Tryz.isAgg4
  z4 := Tryz.sizeOf4
  v4 := Tryz.zeroValue4
  t20 := Tryz.underlying20
  a20 := Tryz.isAgg20
  z20 := Tryz.sizeOf20
  v20 := Tryz.zeroValue20
  t23 := Tryz.underlying93
  a23 := Tryz.isAgg93
  z23 := Tryz.sizeOf93
  v23 := Tryz.zeroValue93 }
def Tryz.cloneSegs_ren : Go.Shelf.Ren := ⟨fun | 41 => 77 | n => n, fun | 22 => 82 | 23 => 81 | 4 => 4 | n => n, fun | n => n⟩
theorem Tryz.cloneSegs : Go.Proofs.SlLaysE0.n41 Tryz.prog Tryz.cloneSegs_ren := {
  mixed := by kernel_rfl
  f41 := ⟨Tryz.f77.name, by decide, Tryz.func77.trans (congrArg some (by kernel_rfl))⟩
  t4 := Tryz.underlying4
  a4 := Tryz.isAgg4
  z4 := Tryz.sizeOf4
  v4 := Tryz.zeroValue4
  t22 := Tryz.underlying82
  a22 := Tryz.isAgg82
  z22 := Tryz.sizeOf82
  v22 := Tryz.zeroValue82 }
def Tryz.cloneNums_ren : Go.Shelf.Ren := ⟨fun | 41 => 36 | n => n, fun | 22 => 45 | 23 => 31 | 4 => 4 | n => n, fun | n => n⟩
theorem Tryz.cloneNums : Go.Proofs.SlLaysE0.n41 Tryz.prog Tryz.cloneNums_ren := {
  mixed := by kernel_rfl
  f41 := ⟨Tryz.f36.name, by decide, Tryz.func36.trans (congrArg some (by kernel_rfl))⟩
  t4 := Tryz.underlying4
  a4 := Tryz.isAgg4
  z4 := Tryz.sizeOf4
  v4 := Tryz.zeroValue4
  t22 := Tryz.underlying45
  a22 := Tryz.isAgg45
  z22 := Tryz.sizeOf45
  v22 := Tryz.zeroValue45 }
def Tryz.cloneDests_ren : Go.Shelf.Ren := ⟨fun | 41 => 35 | n => n, fun | 22 => 32 | 23 => 47 | 4 => 4 | n => n, fun | n => n⟩
theorem Tryz.cloneDests : Go.Proofs.SlLaysE0.n41 Tryz.prog Tryz.cloneDests_ren := {
  mixed := by kernel_rfl
  f41 := ⟨Tryz.f35.name, by decide, Tryz.func35.trans (congrArg some (by kernel_rfl))⟩
  t4 := Tryz.underlying4
  a4 := Tryz.isAgg4
  z4 := Tryz.sizeOf4
  v4 := Tryz.zeroValue4
  t22 := Tryz.underlying32
  a22 := Tryz.isAgg32
  z22 := Tryz.sizeOf32
  v22 := Tryz.zeroValue32 }
def Tryz.indexDests_ren : Go.Shelf.Ren := ⟨fun | 6 => 74 | n => n, fun | 22 => 32 | 23 => 47 | 25 => 115 | 3 => 3 | 0 => 0 | 4 => 4 | n => n, fun | n => n⟩
theorem Tryz.indexDests : Go.Proofs.SlLaysH0.n6 Tryz.prog Tryz.indexDests_ren := {
  mixed := by kernel_rfl
  f6 := ⟨Tryz.f74.name, by decide, Tryz.func74.trans (congrArg some (by kernel_rfl))⟩
  t0 := Tryz.underlying0
  a0 := Tryz.isAgg0
  z0 := Tryz.sizeOf0
  v0 := Tryz.zeroValue0
  t3 := Tryz.underlying3
  a3 := Tryz.isAgg3
  z3 := Tryz.sizeOf3
  v3 := Tryz.zeroValue3
  t4 := Tryz.underlying4
  a4 := Tryz.isAgg4
  z4 := Tryz.sizeOf4
  v4 := Tryz.zeroValue4
  t22 := Tryz.underlying32
  a22 := Tryz.isAgg32
  z22 := Tryz.sizeOf32
  v22 := Tryz.zeroValue32
  t25 := Tryz.underlying115
  a25 := Tryz.isAgg115
  z25 := Tryz.sizeOf115
  v25 := Tryz.zeroValue115 }
def Tryz.indexSegs_ren : Go.Shelf.Ren := ⟨fun | 6 => 94 | n => n, fun | 22 => 82 | 23 => 81 | 25 => 132 | 3 => 3 | 0 => 0 | 4 => 4 | n => n, fun | n => n⟩
theorem Tryz.indexSegs : Go.Proofs.SlLaysH0.n6 Tryz.prog Tryz.indexSegs_ren := {
  mixed := by kernel_rfl
  f6 := ⟨Tryz.f94.name, by decide, Tryz.func94.trans (congrArg some (by kernel_rfl))⟩
  t0 := Tryz.underlying0
  a0 := Tryz.isAgg0
  z0 := Tryz.sizeOf0
  v0 := Tryz.zeroValue0
  t3 := Tryz.underlying3
  a3 := Tryz.isAgg3
  z3 := Tryz.sizeOf3
  v3 := Tryz.zeroValue3
  t4 := Tryz.underlying4
  a4 := Tryz.isAgg4
  z4 := Tryz.sizeOf4
  v4 := Tryz.zeroValue4
  t22 := Tryz.underlying82
  a22 := Tryz.isAgg82
  z22 := Tryz.sizeOf82
  v22 := Tryz.zeroValue82
  t25 := Tryz.underlying132
  a25 := Tryz.isAgg132
  z25 := Tryz.sizeOf132
  v25 := Tryz.zeroValue132 }
def Tryz.keys51_ren : Go.Shelf.Ren := ⟨fun | 7 => 51 | 10 => 85 | n => n, fun | 23 => 93 | 26 => 9 | 3 => 3 | 28 => 91 | 0 => 0 | 27 => 90 | 33 => 113 | 4 => 4 | n => n, fun | n => n⟩
theorem Tryz.keys51 : Go.Proofs.SlLaysZ.n7 Tryz.prog Tryz.keys51_ren := {
  mixed := by kernel_rfl
  f7 := ⟨Tryz.f51.name, by decide, Tryz.func51.trans (congrArg some (by kernel_rfl))⟩
  f10 := ⟨Tryz.f85.name, by decide, Tryz.func85.trans (congrArg some (by kernel_rfl))⟩
  t0 := Tryz.underlying0
  a0 := Tryz.isAgg0
  z0 := Tryz.sizeOf0
  v0 := Tryz.zeroValue0
  t4 := Tryz.underlying4
  a4 := Tryz.isAgg4
  z4 := Tryz.sizeOf4
  v4 := Tryz.zeroValue4
  t23 := Tryz.underlying93
  a23 := Tryz.isAgg93
  z23 := Tryz.sizeOf93
  v23 := Tryz.zeroValue93
  t26 := Tryz.underlying9
  a26 := Tryz.isAgg9
  z26 := Tryz.sizeOf9
  v26 := Tryz.zeroValue9
  t27 := Tryz.underlying90
  a27 := Tryz.isAgg90
  z27 := Tryz.sizeOf90
  v27 := Tryz.zeroValue90
  t28 := Tryz.underlying91
  a28 := Tryz.isAgg91
  z28 := Tryz.sizeOf91
  v28 := Tryz.zeroValue91
  t33 := Tryz.underlying113
  a33 := Tryz.isAgg113
  z33 := Tryz.sizeOf113
  v33 := Tryz.zeroValue113 }
def Tryz.sorted50_ren : Go.Shelf.Ren := ⟨fun | 6 => 50 | 8 => 83 | 9 => 84 | 11 => 115 | 13 => 117 | 12 => 116 | 23 => 160 | 24 => 161 | 14 => 151 | 15 => 152 | 16 => 153 | 17 => 154 | 18 => 155 | 19 => 156 | 20 => 157 | 21 => 158 | 22 => 159 | 25 => 188 | 26 => 189 | 27 => 190 | 28 => 191 | 29 => 192 | 30 => 193 | 31 => 207 | n => n, fun | 26 => 9 | 28 => 91 | 24 => 50 | 0 => 0 | 3 => 3 | 37 => 157 | 48 => 208 | 50 => 31 | 4 => 4 | 40 => 202 | 39 => 201 | 45 => 121 | 5 => 5 | 9 => 9 | 51 => 237 | 55 => 240 | 57 => 253 | 58 => 254 | 33 => 113 | n => n, fun | n => n⟩
theorem Tryz.sorted50 : Go.Proofs.SlLaysZ.n6 Tryz.prog Tryz.sorted50_ren := {
  mixed := by kernel_rfl
  f6 := ⟨Tryz.f50.name, by decide, Tryz.func50.trans (congrArg some (by kernel_rfl))⟩
  f8 := ⟨Tryz.f83.name, by decide, Tryz.func83.trans (congrArg some (by kernel_rfl))⟩
  f11 := ⟨Tryz.f115.name, by decide, Tryz.func115.trans (congrArg some (by kernel_rfl))⟩
  t0 := Tryz.underlying0
  a0 := Tryz.isAgg0
  z0 := Tryz.sizeOf0
  v0 := Tryz.zeroValue0
  t24 := Tryz.underlying50
  a24 := Tryz.isAgg50
  z24 := Tryz.sizeOf50
  v24 := Tryz.zeroValue50
  t26 := Tryz.underlying9
  a26 := Tryz.isAgg9
  z26 := Tryz.sizeOf9
  v26 := Tryz.zeroValue9
  t28 := Tryz.underlying91
  a28 := Tryz.isAgg91
  z28 := Tryz.sizeOf91
  v28 := Tryz.zeroValue91
  i26 := by kernel_rfl }
def Tryz.sort84_ren : Go.Shelf.Ren := ⟨fun | 6 => 84 | 8 => 117 | 9 => 116 | 19 => 160 | 20 => 161 | 21 => 151 | 22 => 152 | 23 => 153 | 24 => 154 | 25 => 155 | 26 => 156 | 27 => 157 | 28 => 158 | 29 => 159 | 36 => 188 | 31 => 189 | 32 => 190 | 37 => 191 | 38 => 192 | 39 => 193 | 41 => 207 | n => n, fun | 27 => 50 | 29 => 9 | 3 => 3 | 32 => 157 | 26 => 50 | 0 => 0 | 44 => 208 | 46 => 31 | 4 => 4 | 36 => 202 | 35 => 201 | 41 => 121 | 5 => 5 | 9 => 9 | 53 => 237 | 57 => 240 | 63 => 253 | 64 => 254 | n => n, fun | n => n⟩
theorem Tryz.sort84 : Go.Proofs.SlLaysM.n6 Tryz.prog Tryz.sort84_ren := {
  mixed := by kernel_rfl
  f6 := ⟨Tryz.f84.name, by decide, Tryz.func84.trans (congrArg some (by kernel_rfl))⟩
  f8 := Tryz.func117.trans (congrArg some (by kernel_rfl))
  f9 := ⟨Tryz.f116.name, by decide, Tryz.func116.trans (congrArg some (by kernel_rfl))⟩
  f19 := Tryz.func160.trans (congrArg some (by kernel_rfl))
  f20 := Tryz.func161.trans (congrArg some (by kernel_rfl))
  f21 := ⟨Tryz.f151.name, by decide, Tryz.func151.trans (congrArg some (by kernel_rfl))⟩
  f22 := ⟨Tryz.f152.name, by decide, Tryz.func152.trans (congrArg some (by kernel_rfl))⟩
  f23 := ⟨Tryz.f153.name, by decide, Tryz.func153.trans (congrArg some (by kernel_rfl))⟩
  f24 := ⟨Tryz.f154.name, by decide, Tryz.func154.trans (congrArg some (by kernel_rfl))⟩
  f25 := ⟨Tryz.f155.name, by decide, Tryz.func155.trans (congrArg some (by kernel_rfl))⟩
  f26 := ⟨Tryz.f156.name, by decide, Tryz.func156.trans (congrArg some (by kernel_rfl))⟩
  f27 := ⟨Tryz.f157.name, by decide, Tryz.func157.trans (congrArg some (by kernel_rfl))⟩
  f28 := ⟨Tryz.f158.name, by decide, Tryz.func158.trans (congrArg some (by kernel_rfl))⟩
  f29 := ⟨Tryz.f159.name, by decide, Tryz.func159.trans (congrArg some (by kernel_rfl))⟩
  f31 := Tryz.func189.trans (congrArg some (by kernel_rfl))
  f32 := Tryz.func190.trans (congrArg some (by kernel_rfl))
  f36 := ⟨Tryz.f188.name, by decide, Tryz.func188.trans (congrArg some (by kernel_rfl))⟩
  f37 := ⟨Tryz.f191.name, by decide, Tryz.func191.trans (congrArg some (by kernel_rfl))⟩
  f38 := ⟨Tryz.f192.name, by decide, Tryz.func192.trans (congrArg some (by kernel_rfl))⟩
  f39 := ⟨Tryz.f193.name, by decide, Tryz.func193.trans (congrArg some (by kernel_rfl))⟩
  f41 := ⟨Tryz.f207.name, by decide, Tryz.func207.trans (congrArg some (by kernel_rfl))⟩
  t0 := Tryz.underlying0
  a0 := Tryz.isAgg0
  z0 := Tryz.sizeOf0
  v0 := Tryz.zeroValue0
  t3 := Tryz.underlying3
  a3 := Tryz.isAgg3
  z3 := Tryz.sizeOf3
  v3 := Tryz.zeroValue3
  t4 := Tryz.underlying4
  a4 := Tryz.isAgg4
  z4 := Tryz.sizeOf4
  v4 := Tryz.zeroValue4
  t5 := Tryz.underlying5
  a5 := Tryz.isAgg5
  z5 := Tryz.sizeOf5
  v5 := Tryz.zeroValue5
  t9 := Tryz.underlying9
  a9 := Tryz.isAgg9
  z9 := Tryz.sizeOf9
  v9 := Tryz.zeroValue9
  t26 := Tryz.underlying50
  a26 := Tryz.isAgg50
  z26 := Tryz.sizeOf50
  v26 := Tryz.zeroValue50
  t27 := Tryz.underlying50
  a27 := Tryz.isAgg50
  z27 := Tryz.sizeOf50
  v27 := Tryz.zeroValue50
  t29 := Tryz.underlying9
  a29 := Tryz.isAgg9
  z29 := Tryz.sizeOf9
  v29 := Tryz.zeroValue9
  t32 := Tryz.underlying157
  a32 := Tryz.isAgg157
  z32 := Tryz.sizeOf157
  v32 := Tryz.zeroValue157
  t35 := Tryz.underlying201
  a35 := Tryz.isAgg201
  z35 := Tryz.sizeOf201
  v35 := Tryz.zeroValue201
  t36 := Tryz.underlying202
  a36 := Tryz.isAgg202
  z36 := Tryz.sizeOf202
  v36 := Tryz.zeroValue202
  t41 := Tryz.underlying121
  a41 := Tryz.isAgg121
  z41 := Tryz.sizeOf121
  v41 := Tryz.zeroValue121
  t44 := Tryz.underlying208
  a44 := Tryz.isAgg208
  z44 := Tryz.sizeOf208
  v44 := Tryz.zeroValue208
  t46 := Tryz.underlying31
  a46 := Tryz.isAgg31
  z46 := Tryz.sizeOf31
  v46 := Tryz.zeroValue31
  t53 := Tryz.underlying237
  a53 := Tryz.isAgg237
  z53 := Tryz.sizeOf237
  v53 := Tryz.zeroValue237
  t57 := Tryz.underlying240
  a57 := Tryz.isAgg240
  z57 := Tryz.sizeOf240
  v57 := Tryz.zeroValue240
  t63 := Tryz.underlying253
  a63 := Tryz.isAgg253
  z63 := Tryz.sizeOf253
  v63 := Tryz.zeroValue253
  t64 := Tryz.underlying254
  a64 := Tryz.isAgg254
  z64 := Tryz.sizeOf254
  v64 := Tryz.zeroValue254 }
open Go.RowKit Go.Maps Go.Sort in
/-- slices.Sort's two contracts at this dump, at the fence that asks nothing. -/
theorem Tryz.sorts50 (m : Nat) : AnyZ.SortsIn Tryz.prog Tryz.sorted50_ren Fence.wide m :=
  ⟨fun blk off cap ss W hH hblk hsz => callsIn_wide.2 (AnyM.slices_Sort_string Tryz.sort84 blk off cap ss W hH hblk hsz),
   fun p cap W => callsIn_wide.2 (AnyM.slices_Sort_string_none Tryz.sort84 p cap W)⟩
open Go.RowKit Go.Maps Go.Sort in
/-- **maps.Keys[map[string]int,string,int], at whatever map, the nil one too:** a function value over ONE NEW BLOCK, which holds the map. -/
theorem Tryz.maps_Keys_51 (mb : Option Nat) (W : World) : CallsIn Fence.wide 5 Tryz.prog 51 #[.map mb] W fun e w' => e = .returned (.func (.func 85) #[] #[.pointer (some ⟨W.heap.size, 0, none⟩)]) ∧ w' = W.alloc (.cells #[.map mb] 93) :=
  AnyZ.keys_in Tryz.keys51 Fence.wide 5 trivial rfl mb W
open Go.RowKit Go.Maps Go.Sort in
/-- **slices.Sorted[string] AT WHAT maps.Keys[map[string]int,string,int] HANDED BACK FOR A MAP THAT IS NOT nil** ('w': the world AHEAD of maps.Keys' call): A NEW SLICE THAT HOLDS THE MAP's KEYS, SORTED; nil just where it has none; nothing that lay before has turned. -/
theorem Tryz.slices_Sorted_keys_50_51 {H : Type} (b nn : Nat) (D0 : DataW H) (R : Value → Option (DataW H × List MemPlace)) (w : World) (hown : w.ownsMap Tryz.prog 9 R b nn D0) (hmax : Maps.size D0 ≤ maxLen) (hbytes : Maps.size D0 * 16 ≤ 140737488355328) :
    CallsIn Fence.wide 5 Tryz.prog 50 #[.func (.func 85) #[] #[.pointer (some ⟨w.heap.size, 0, none⟩)]] (w.alloc (.cells #[.map (some b)] 93)) fun e w' => ∃ (v : Value) (ss : List (List UInt8)), e = .returned v ∧ ss.Perm (strKeys D0) ∧
      w'.ownsRow (w.alloc (.cells #[.map (some b)] 93)).heap.size 9 1 v ss.length ((ss.mergeSort (fun x y => decide (x ≤ y))).map encStr) ∧ (v = .slice none 0 0 ↔ ss = []) ∧ Below (w.alloc (.cells #[.map (some b)] 93)).heap.size (w.alloc (.cells #[.map (some b)] 93)) w' := by
  have hbl := hown.lt
  have hseq : SeqGives Fence.wide 2 Tryz.prog 85 #[.pointer (some ⟨w.heap.size, 0, none⟩)] encStr (fun ss => ss.Perm (strKeys D0)) (Maps.size D0) (w.alloc (.cells #[.map (some b)] 93)) :=
    AnyZ.keys_gives (ρ := Tryz.keys51_ren) { Tryz.keys51 with } Fence.wide _ trivial rfl (by omega) w.heap.size b nn D0 _ (by simp) (by simp) (by
      obtain ⟨es, clock, hb, Ft, hs, hD⟩ := hown
      exact ⟨es, clock, (Below.heap_alloc _ _ b hbl).trans hb, Ft, hs, hD⟩)
  exact AnyZ.sorted_in Tryz.sorted50 Fence.wide 5 trivial trivial trivial trivial rfl (by omega) (Tryz.sorts50 _) (enters_of Tryz.func84 (by kernel_rfl) rfl) 85 #[.pointer (some ⟨w.heap.size, 0, none⟩)] trivial (enters_of Tryz.func85 (by kernel_rfl) rfl) _ _ hmax hbytes _ hseq
open Go.RowKit Go.Maps Go.Sort in
/-- **.. AND FOR THE nil MAP: nil.** -/
theorem Tryz.slices_Sorted_keys_nil_50_51 (w : World) :
    CallsIn Fence.wide 5 Tryz.prog 50 #[.func (.func 85) #[] #[.pointer (some ⟨w.heap.size, 0, none⟩)]] (w.alloc (.cells #[.map none] 93)) fun e w' => ∃ (v : Value) (ss : List (List UInt8)), e = .returned v ∧ ss = [] ∧
      w'.ownsRow (w.alloc (.cells #[.map none] 93)).heap.size 9 1 v ss.length ((ss.mergeSort (fun x y => decide (x ≤ y))).map encStr) ∧ (v = .slice none 0 0 ↔ ss = []) ∧ Below (w.alloc (.cells #[.map none] 93)).heap.size (w.alloc (.cells #[.map none] 93)) w' := by
  have hseq : SeqGives Fence.wide 2 Tryz.prog 85 #[.pointer (some ⟨w.heap.size, 0, none⟩)] encStr (fun ss : List (List UInt8) => ss = []) 0 (w.alloc (.cells #[.map none] 93)) :=
    AnyZ.keys_gives_nil (ρ := Tryz.keys51_ren) { Tryz.keys51 with } Fence.wide _ trivial rfl w.heap.size _ (by simp) (by simp)
  exact AnyZ.sorted_in Tryz.sorted50 Fence.wide 5 trivial trivial trivial trivial rfl (by omega) (Tryz.sorts50 _) (enters_of Tryz.func84 (by kernel_rfl) rfl) 85 #[.pointer (some ⟨w.heap.size, 0, none⟩)] trivial (enters_of Tryz.func85 (by kernel_rfl) rfl) _ 0 (Nat.zero_le _) (by omega) _ hseq
end Go.Proofs
