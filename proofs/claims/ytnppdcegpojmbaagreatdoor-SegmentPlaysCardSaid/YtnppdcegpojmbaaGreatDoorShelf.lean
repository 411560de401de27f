/-
  DERIVED: THE SHELF's CONTRACTS AT THIS DUMP, IN PLAIN WORDS (tools/lay-plain.mjs out of 'YtnppdcegpojmbaaGreatDoorShelf.lean', which tools/lay-shelf.mjs wrote): THE SAME DECLARATIONS UNDER THE SAME NAMES: 'import', 'namespace', 'open', 'def', 'theorem' AND NOTHING ELSE: no command of the shelf's: FOR A HAND-IN. Each laying: the table of numbers ('.._ren') and one theorem, a field a fact of the dump's own or the kernel's comparison; each contract: ONE APPLICATION.
-/
import Derived.Shelf.Strings.Builder1
import Derived.Shelf.Strings.Builder2
import Derived.Shelf.Strings.Trim
import Derived.Shelf.Small.Utf8
import Derived.Shelf.Small.Bits
import Derived.Shelf.Small.Strs
import Derived.Shelf.Strings.BuilderF
import Derived.Shelf.Strconv.Itoa0
import Derived.Shelf.Strconv.Itoa1
import Derived.Shelf.LaysM
import Derived.Shelf.Strconv.Itoa2
import Derived.Shelf.Strconv.Itoa3
import Derived.Ground.MpProg
import Derived.Shelf.Pu.ParseUintPublic10
import Derived.Shelf.Strings.Search1
import Derived.Shelf.Sort.Plain
import Derived.Shelf.Strings.Prefix
import Derived.Shelf.Strings.Runes
import Derived.Shelf.Strings.AsciiSet
import Derived.Shelf.Bits.Mul64
import Derived.Shelf.Strings.Repeat
import Derived.Shelf.Unicode.DecodeSlow
import Derived.Ground.Names2Prog
import Derived.Shelf.Slices.SearchI
import Derived.Ground.SlgmProg
import Derived.Shelf.SortM.SortNone
import Derived.Shelf.SlGeneric
import Derived.Shelf.SlMaps.Clone
import Derived.Ground.SlmcProg
import Derived.Shelf.SlicesE.Clone
import Derived.Ground.SlgnProg
import Derived.Shelf.SlicesQ.IndexFunc
import Derived.Ground.SlgfProg
import Derived.Shelf.SlIter.Nil
import Derived.Shelf.SortM.Plain
import Derived.Ground.GgzProg
import Derived.Test.YtnppdcegpojmbaaGreatDoorProg
namespace Go.Proofs
open Go.Shelf
def Tryz.lays283_ren : Go.Shelf.Ren := ⟨fun | 283 => 131 | n => n, fun | 3 => 3 | 9 => 9 | 4 => 4 | n => n, fun | n => n⟩
theorem Tryz.lays283 : Go.Proofs.Lays.n283 Tryz.prog Tryz.lays283_ren := {
  mixed := by kernel_rfl
  f283 := Tryz.func131.trans (congrArg some (by kernel_rfl))
  t3 := Tryz.underlying3
  a3 := Tryz.isAgg3
  z3 := Tryz.sizeOf3
  v3 := Tryz.zeroValue3
  t4 := Tryz.underlying4
  a4 := Tryz.isAgg4
  z4 := Tryz.sizeOf4
  v4 := Tryz.zeroValue4
  t9 := Tryz.underlying9
  a9 := Tryz.isAgg9
  z9 := Tryz.sizeOf9
  v9 := Tryz.zeroValue9 }
open Go.Lib in
/-- internal/strconv.small: "small returns the string for an i with 0 <= i < nSmalls.": i's decimal numeral. The world is as it was. (LAID: no walk: one application.) -/
theorem Tryz.internal_strconv_small (i : Nat) (h : i < 100) (w : World) :
    Calls Tryz.prog 131 #[.int .i64 i] w fun e w' => e = .returned (.string ⟨(Lib.decDigits i).toArray⟩) ∧ w' = w := Any.internal_strconv_small Tryz.lays283 i h w
def Tryz.laysM284_ren : Go.Shelf.Ren := ⟨fun | 284 => 132 | 129 => 165 | 317 => 167 | 318 => 168 | n => n, fun | 53 => 31 | 3 => 3 | 212 => 220 | 0 => 0 | 4 => 4 | 46 => 152 | 5 => 5 | 9 => 9 | n => n, fun | 17 => 0 | n => n⟩
theorem Tryz.laysM284 : Go.Proofs.LaysM.n284 Tryz.prog Tryz.laysM284_ren := {
  mixed := by kernel_rfl
  f129 := Tryz.func165.trans (congrArg some (by kernel_rfl))
  f284 := Tryz.func132.trans (congrArg some (by kernel_rfl))
  f317 := Tryz.func167.trans (congrArg some (by kernel_rfl))
  f318 := Tryz.func168.trans (congrArg some (by kernel_rfl))
  t0 := Tryz.underlying0
  a0 := Tryz.isAgg0
  z0 := Tryz.sizeOf0
  v0 := Tryz.zeroValue0
  t3 := Tryz.underlying3
  a3 := Tryz.isAgg3
  z3 := Tryz.sizeOf3
  v3 := Tryz.zeroValue3
  t4 := Tryz.underlying4
  a4 := Tryz.isAgg4
  z4 := Tryz.sizeOf4
  v4 := Tryz.zeroValue4
  t5 := Tryz.underlying5
  a5 := Tryz.isAgg5
  z5 := Tryz.sizeOf5
  v5 := Tryz.zeroValue5
  t9 := Tryz.underlying9
  a9 := Tryz.isAgg9
  z9 := Tryz.sizeOf9
  v9 := Tryz.zeroValue9
  t46 := Tryz.underlying152
  a46 := Tryz.isAgg152
  z46 := Tryz.sizeOf152
  v46 := Tryz.zeroValue152
  t53 := Tryz.underlying31
  a53 := Tryz.isAgg31
  z53 := Tryz.sizeOf31
  v53 := Tryz.zeroValue31
  t212 := Tryz.underlying220
  a212 := Tryz.isAgg220
  z212 := Tryz.sizeOf220
  v212 := Tryz.zeroValue220
  g17 := by kernel_rfl
  i0 := by kernel_rfl
  i3 := by kernel_rfl
  i4 := by kernel_rfl
  i5 := by kernel_rfl
  i9 := by kernel_rfl
  i46 := by kernel_rfl
  i53 := by kernel_rfl
  i212 := by kernel_rfl
  m17 := by kernel_rfl }
open Go.Lib in
/-- internal/strconv.numDigits, at a d that is not 0: THE NUMBER OF d's DECIMAL DIGITS. The world is as it was. (LAID: no walk: one application.) -/
theorem Tryz.internal_strconv_numDigits (u : Nat) (h1 : 1 ≤ u) (h2 : u < 18446744073709551616) (w : World) (htab : Lib.TabIs Tryz.prog w "internal/strconv.uint64pow10" .u64 Lib.pow10Tab) :
    Calls Tryz.prog 132 #[.int .u64 u] w fun e w' => e = .returned (.int .i64 (Lib.nDigits u)) ∧ w' = w := Any.internal_strconv_numDigits Tryz.laysM284 u h1 h2 w htab
def Tryz.lays285_ren : Go.Shelf.Ren := ⟨fun | 285 => 133 | n => n, fun | 37 => 157 | 53 => 31 | 3 => 3 | 4 => 4 | 51 => 176 | 9 => 9 | 5 => 5 | 0 => 0 | n => n, fun | n => n⟩
theorem Tryz.lays285 : Go.Proofs.Lays.n285 Tryz.prog Tryz.lays285_ren := {
  mixed := by kernel_rfl
  f285 := Tryz.func133.trans (congrArg some (by kernel_rfl))
  t0 := Tryz.underlying0
  a0 := Tryz.isAgg0
  z0 := Tryz.sizeOf0
  v0 := Tryz.zeroValue0
  t3 := Tryz.underlying3
  a3 := Tryz.isAgg3
  z3 := Tryz.sizeOf3
  v3 := Tryz.zeroValue3
  t4 := Tryz.underlying4
  a4 := Tryz.isAgg4
  z4 := Tryz.sizeOf4
  v4 := Tryz.zeroValue4
  t5 := Tryz.underlying5
  a5 := Tryz.isAgg5
  z5 := Tryz.sizeOf5
  v5 := Tryz.zeroValue5
  t9 := Tryz.underlying9
  a9 := Tryz.isAgg9
  z9 := Tryz.sizeOf9
  v9 := Tryz.zeroValue9
  t37 := Tryz.underlying157
  a37 := Tryz.isAgg157
  z37 := Tryz.sizeOf157
  v37 := Tryz.zeroValue157
  t51 := Tryz.underlying176
  a51 := Tryz.isAgg176
  z51 := Tryz.sizeOf176
  v51 := Tryz.zeroValue176
  t53 := Tryz.underlying31
  a53 := Tryz.isAgg31
  z53 := Tryz.sizeOf31
  v53 := Tryz.zeroValue31 }
open Go.RowKit Go.Sort Go.Lib in
/-- internal/strconv.formatBase10: "formatBase10 formats the decimal representation of u into a. The caller is responsible for ensuring that a is big enough to hold u. If a is too big, leading zeros will be filled in as needed.": THE ROW HOLDS u's DIGITS ('FmtInv .. 0 ..': every place t holds 'dg u (len - 1 - t)'); all else is as it was but for the count of draws. (LAID: no walk: one application.) -/
theorem Tryz.internal_strconv_formatBase10 (blk off cap : Nat) (u : Nat) (d : Array UInt8) (w : World) (hH : Holds (fun (b : UInt8) => Value.int .u8 (b.toNat : Int)) w blk off d) (hu : u < 10 ^ d.size) (hu64 : u < 18446744073709551616) (hsz : d.size < 4611686018427387904) :
    Calls Tryz.prog 133 #[.slice (some ⟨blk, off, none⟩) d.size cap, .int .u64 u] w fun e w' =>
      e = .returned (.tuple #[]) ∧ ∃ (n v' : Nat) (dk : Array UInt8), w' = (putRow (fun (b : UInt8) => Value.int .u8 (b.toNat : Int)) w blk off dk).drewN n ∧ FmtInv d.size u 0 v' dk := Any.internal_strconv_formatBase10 Tryz.lays285 blk off cap u d w hH hu hu64 hsz
def Tryz.lays105_ren : Go.Shelf.Ren := ⟨fun | 105 => 58 | 212 => 100 | 99 => 101 | 165 => 102 | 166 => 103 | 170 => 104 | 169 => 105 | 263 => 135 | 264 => 136 | 206 => 137 | 240 => 138 | 241 => 139 | 276 => 171 | 277 => 172 | n => n, fun | 9 => 9 | 3 => 3 | 4 => 4 | 20 => 20 | 0 => 0 | 46 => 152 | 109 => 153 | 5 => 5 | 72 => 159 | 76 => 162 | 51 => 176 | 146 => 190 | 53 => 31 | 148 => 192 | 70 => 156 | 37 => 157 | 75 => 161 | 127 => 194 | 164 => 222 | 80 => 164 | n => n, fun | n => n⟩
theorem Tryz.lays105 : Go.Proofs.Lays.n105 Tryz.prog Tryz.lays105_ren := {
  mixed := by kernel_rfl
  f99 := Tryz.func101.trans (congrArg some (by kernel_rfl))
  f105 := Tryz.func58.trans (congrArg some (by kernel_rfl))
  f165 := Tryz.func102.trans (congrArg some (by kernel_rfl))
  f166 := Tryz.func103.trans (congrArg some (by kernel_rfl))
  f169 := Tryz.func105.trans (congrArg some (by kernel_rfl))
  f170 := Tryz.func104.trans (congrArg some (by kernel_rfl))
  f206 := Tryz.func137.trans (congrArg some (by kernel_rfl))
  f212 := Tryz.func100.trans (congrArg some (by kernel_rfl))
  f240 := Tryz.func138.trans (congrArg some (by kernel_rfl))
  f241 := Tryz.func139.trans (congrArg some (by kernel_rfl))
  f263 := Tryz.func135.trans (congrArg some (by kernel_rfl))
  f264 := Tryz.func136.trans (congrArg some (by kernel_rfl))
  f276 := Tryz.func171.trans (congrArg some (by kernel_rfl))
  f277 := Tryz.func172.trans (congrArg some (by kernel_rfl))
  t0 := Tryz.underlying0
  a0 := Tryz.isAgg0
  z0 := Tryz.sizeOf0
  v0 := Tryz.zeroValue0
  t3 := Tryz.underlying3
  a3 := Tryz.isAgg3
  z3 := Tryz.sizeOf3
  v3 := Tryz.zeroValue3
  t4 := Tryz.underlying4
  a4 := Tryz.isAgg4
  z4 := Tryz.sizeOf4
  v4 := Tryz.zeroValue4
  t5 := Tryz.underlying5
  a5 := Tryz.isAgg5
  z5 := Tryz.sizeOf5
  v5 := Tryz.zeroValue5
  t9 := Tryz.underlying9
  a9 := Tryz.isAgg9
  z9 := Tryz.sizeOf9
  v9 := Tryz.zeroValue9
  t20 := Tryz.underlying20
  a20 := Tryz.isAgg20
  z20 := Tryz.sizeOf20
  v20 := Tryz.zeroValue20
  t37 := Tryz.underlying157
  a37 := Tryz.isAgg157
  z37 := Tryz.sizeOf157
  v37 := Tryz.zeroValue157
  t46 := Tryz.underlying152
  a46 := Tryz.isAgg152
  z46 := Tryz.sizeOf152
  v46 := Tryz.zeroValue152
  t51 := Tryz.underlying176
  a51 := Tryz.isAgg176
  z51 := Tryz.sizeOf176
  v51 := Tryz.zeroValue176
  t53 := Tryz.underlying31
  a53 := Tryz.isAgg31
  z53 := Tryz.sizeOf31
  v53 := Tryz.zeroValue31
  t70 := Tryz.underlying156
  a70 := Tryz.isAgg156
  z70 := Tryz.sizeOf156
  v70 := Tryz.zeroValue156
  t72 := Tryz.underlying159
  a72 := Tryz.isAgg159
  z72 := Tryz.sizeOf159
  v72 := Tryz.zeroValue159
  t75 := Tryz.underlying161
  a75 := Tryz.isAgg161
  z75 := Tryz.sizeOf161
  v75 := Tryz.zeroValue161
  t76 := Tryz.underlying162
  a76 := Tryz.isAgg162
  z76 := Tryz.sizeOf162
  v76 := Tryz.zeroValue162
  t109 := Tryz.underlying153
  a109 := Tryz.isAgg153
  z109 := Tryz.sizeOf153
  v109 := Tryz.zeroValue153
  t127 := Tryz.underlying194
  a127 := Tryz.isAgg194
  z127 := Tryz.sizeOf194
  v127 := Tryz.zeroValue194
  t146 := Tryz.underlying190
  a146 := Tryz.isAgg190
  z146 := Tryz.sizeOf190
  v146 := Tryz.zeroValue190
  t148 := Tryz.underlying192
  a148 := Tryz.isAgg192
  z148 := Tryz.sizeOf192
  v148 := Tryz.zeroValue192
  t164 := Tryz.underlying222
  a164 := Tryz.isAgg222
  z164 := Tryz.sizeOf222
  v164 := Tryz.zeroValue222 }
theorem Tryz.Builder_Extra_105 : Builder.Extra Tryz.prog Tryz.lays105_ren := {
  sizeBuilder := by kernel_rfl
  liesBuilder := by kernel_rfl
  t5 := Tryz.underlying5
  a5 := Tryz.isAgg5
  z5 := Tryz.sizeOf5
  v5 := Tryz.zeroValue5
  infoByte := by kernel_rfl
  cellsByte := by kernel_rfl
  sizeByte := by kernel_rfl
  neB5 := by decide }
open Go.RowKit Go.Lib in
/-- **strings.Repeat: count ≥ 0, the result within one allocation: count copies of s.** (LAID: no walk: one application.) -/
theorem Tryz.strings_Repeat (s : ByteArray) (c : Nat) (w : World) (hc : c ≤ 9223372036854775807) (hlen : s.size * c ≤ 140737488355328) :
    Calls Tryz.prog 58 #[.string s, .int .i64 c] w fun e w' => e = .returned (.string ⟨(Lib.repeatL s.data.toList c).toArray⟩) ∧ Below w.heap.size w w' := Any.strings_Repeat Tryz.lays105 Tryz.Builder_Extra_105 s c w hc hlen
def Tryz.lays160_ren : Go.Shelf.Ren := ⟨fun | 160 => 123 | 232 => 146 | 231 => 145 | 227 => 147 | 234 => 149 | 233 => 148 | 236 => 151 | 235 => 150 | 228 => 184 | 271 => 187 | 151 => 186 | 197 => 185 | 120 => 208 | 152 => 207 | 260 => 206 | 137 => 214 | 119 => 215 | 224 => 216 | 225 => 217 | 217 => 219 | 266 => 221 | n => n, fun | 9 => 9 | 4 => 4 | 3 => 3 | 5 => 5 | 117 => 202 | 116 => 201 | 0 => 0 | 124 => 205 | 21 => 21 | 105 => 232 | 46 => 152 | 119 => 259 | 139 => 262 | 138 => 261 | n => n, fun | 3 => 7 | 4 => 8 | n => n⟩
theorem Tryz.lays160 : Go.Proofs.Lays.n160 Tryz.prog Tryz.lays160_ren := {
  mixed := by kernel_rfl
  f119 := Tryz.func215.trans (congrArg some (by kernel_rfl))
  f120 := Tryz.func208.trans (congrArg some (by kernel_rfl))
  f137 := Tryz.func214.trans (congrArg some (by kernel_rfl))
  f151 := Tryz.func186.trans (congrArg some (by kernel_rfl))
  f152 := Tryz.func207.trans (congrArg some (by kernel_rfl))
  f160 := Tryz.func123.trans (congrArg some (by kernel_rfl))
  f197 := Tryz.func185.trans (congrArg some (by kernel_rfl))
  f217 := Tryz.func219.trans (congrArg some (by kernel_rfl))
  f224 := Tryz.func216.trans (congrArg some (by kernel_rfl))
  f225 := Tryz.func217.trans (congrArg some (by kernel_rfl))
  f227 := Tryz.func147.trans (congrArg some (by kernel_rfl))
  f228 := Tryz.func184.trans (congrArg some (by kernel_rfl))
  f231 := Tryz.func145.trans (congrArg some (by kernel_rfl))
  f232 := Tryz.func146.trans (congrArg some (by kernel_rfl))
  f233 := Tryz.func148.trans (congrArg some (by kernel_rfl))
  f234 := Tryz.func149.trans (congrArg some (by kernel_rfl))
  f235 := Tryz.func150.trans (congrArg some (by kernel_rfl))
  f236 := Tryz.func151.trans (congrArg some (by kernel_rfl))
  f260 := Tryz.func206.trans (congrArg some (by kernel_rfl))
  f266 := Tryz.func221.trans (congrArg some (by kernel_rfl))
  f271 := Tryz.func187.trans (congrArg some (by kernel_rfl))
  t0 := Tryz.underlying0
  a0 := Tryz.isAgg0
  z0 := Tryz.sizeOf0
  v0 := Tryz.zeroValue0
  t3 := Tryz.underlying3
  a3 := Tryz.isAgg3
  z3 := Tryz.sizeOf3
  v3 := Tryz.zeroValue3
  t4 := Tryz.underlying4
  a4 := Tryz.isAgg4
  z4 := Tryz.sizeOf4
  v4 := Tryz.zeroValue4
  t5 := Tryz.underlying5
  a5 := Tryz.isAgg5
  z5 := Tryz.sizeOf5
  v5 := Tryz.zeroValue5
  t9 := Tryz.underlying9
  a9 := Tryz.isAgg9
  z9 := Tryz.sizeOf9
  v9 := Tryz.zeroValue9
  t21 := Tryz.underlying21
  a21 := Tryz.isAgg21
  z21 := Tryz.sizeOf21
  v21 := Tryz.zeroValue21
  t46 := Tryz.underlying152
  a46 := Tryz.isAgg152
  z46 := Tryz.sizeOf152
  v46 := Tryz.zeroValue152
  t105 := Tryz.underlying232
  a105 := Tryz.isAgg232
  z105 := Tryz.sizeOf232
  v105 := Tryz.zeroValue232
  t116 := Tryz.underlying201
  a116 := Tryz.isAgg201
  z116 := Tryz.sizeOf201
  t117 := Tryz.underlying202
  a117 := Tryz.isAgg202
  z117 := Tryz.sizeOf202
  v117 := Tryz.zeroValue202
  t119 := Tryz.underlying259
  a119 := Tryz.isAgg259
  z119 := Tryz.sizeOf259
  t124 := Tryz.underlying205
  a124 := Tryz.isAgg205
  z124 := Tryz.sizeOf205
  v124 := Tryz.zeroValue205
  t138 := Tryz.underlying261
  a138 := Tryz.isAgg261
  z138 := Tryz.sizeOf261
  v138 := Tryz.zeroValue261
  t139 := Tryz.underlying262
  a139 := Tryz.isAgg262
  z139 := Tryz.sizeOf262
  v139 := Tryz.zeroValue262
  g3 := by kernel_rfl
  g4 := by kernel_rfl }
open Go.RowKit in
/-- strings.Trim: "Trim returns a slice of the string s with all leading and trailing Unicode code points contained in cutset removed.": AT A cutset OF ONE ASCII BYTE. THE WORLD BEHIND IT: as it was, or (where s is not empty) with ONE DRAW MORE off the tape: the statement 'return trimLeftByte(trimRightByte(s, c), c)' draws its order of evaluation. (LAID: no walk: one application.) -/
theorem Tryz.strings_Trim_one (s : ByteArray) (c : UInt8) (hc : c.toNat < 128) (w : World) (hs : s.size ≤ 9223372036854775807) :
    Calls Tryz.prog 123 #[.string s, .string ⟨#[c]⟩] w fun e w' => e = .returned (.string ⟨(Lib.trimB s.data.toList c).toArray⟩) ∧ (w' = w ∨ w' = w.drew) := Any.strings_Trim_one Tryz.lays160 s c hc w hs
def Tryz.lays99_ren : Go.Shelf.Ren := ⟨fun | 99 => 101 | 206 => 137 | n => n, fun | 9 => 9 | 4 => 4 | 3 => 3 | n => n, fun | n => n⟩
theorem Tryz.lays99 : Go.Proofs.Lays.n99 Tryz.prog Tryz.lays99_ren := {
  mixed := by kernel_rfl
  f99 := Tryz.func101.trans (congrArg some (by kernel_rfl))
  f206 := Tryz.func137.trans (congrArg some (by kernel_rfl))
  t3 := Tryz.underlying3
  a3 := Tryz.isAgg3
  z3 := Tryz.sizeOf3
  v3 := Tryz.zeroValue3
  t4 := Tryz.underlying4
  a4 := Tryz.isAgg4
  z4 := Tryz.sizeOf4
  v4 := Tryz.zeroValue4
  t9 := Tryz.underlying9
  a9 := Tryz.isAgg9
  z9 := Tryz.sizeOf9
  v9 := Tryz.zeroValue9 }
open Go.RowKit Go.Lib in
/-- strings.HasPrefix: "HasPrefix reports whether the string s begins with prefix.": IT RETURNS 'Lib.hasPrefix s prefix'; the world is as it was. (LAID: no walk: one application.) -/
theorem Tryz.strings_HasPrefix (s p : ByteArray) (w : World) :
    Calls Tryz.prog 101 #[.string s, .string p] w fun e w' => e = .returned (.bool (Lib.hasPrefix s.data.toList p.data.toList)) ∧ w' = w := Any.strings_HasPrefix Tryz.lays99 s p w
def Tryz.laysPu14_ren : Go.Shelf.Ren := ⟨fun | 14 => 124 | 16 => 152 | 17 => 153 | 19 => 188 | 20 => 189 | 21 => 190 | 22 => 191 | 23 => 192 | 24 => 193 | 25 => 209 | 27 => 211 | 26 => 210 | 28 => 218 | 29 => 220 | 30 => 131 | 31 => 132 | 32 => 133 | 33 => 134 | 35 => 165 | 34 => 167 | 36 => 168 | 37 => 169 | 38 => 170 | 39 => 200 | 40 => 201 | n => n, fun | 9 => 9 | 3 => 3 | 22 => 31 | 24 => 161 | 25 => 174 | 4 => 4 | 34 => 235 | 5 => 5 | 36 => 152 | 37 => 157 | 0 => 0 | 39 => 237 | 21 => 21 | 44 => 251 | 47 => 194 | 50 => 268 | 48 => 266 | 2 => 2 | 52 => 185 | 55 => 188 | 59 => 220 | 60 => 176 | 20 => 20 | 61 => 221 | 65 => 256 | 66 => 257 | 67 => 164 | n => n, fun | 0 => 3 | 1 => 4 | 2 => 0 | 3 => 5 | 4 => 6 | n => n⟩
theorem Tryz.laysPu14 : Go.Proofs.LaysPu.n14 Tryz.prog Tryz.laysPu14_ren := {
  mixed := by kernel_rfl
  f14 := Tryz.func124.trans (congrArg some (by kernel_rfl))
  f16 := Tryz.func152.trans (congrArg some (by kernel_rfl))
  f17 := Tryz.func153.trans (congrArg some (by kernel_rfl))
  f19 := Tryz.func188.trans (congrArg some (by kernel_rfl))
  f20 := Tryz.func189.trans (congrArg some (by kernel_rfl))
  f21 := Tryz.func190.trans (congrArg some (by kernel_rfl))
  f22 := Tryz.func191.trans (congrArg some (by kernel_rfl))
  f23 := Tryz.func192.trans (congrArg some (by kernel_rfl))
  f24 := Tryz.func193.trans (congrArg some (by kernel_rfl))
  f25 := Tryz.func209.trans (congrArg some (by kernel_rfl))
  f26 := Tryz.func210.trans (congrArg some (by kernel_rfl))
  f27 := Tryz.func211.trans (congrArg some (by kernel_rfl))
  f28 := Tryz.func218.trans (congrArg some (by kernel_rfl))
  f29 := Tryz.func220.trans (congrArg some (by kernel_rfl))
  f30 := Tryz.func131.trans (congrArg some (by kernel_rfl))
  f31 := Tryz.func132.trans (congrArg some (by kernel_rfl))
  f32 := Tryz.func133.trans (congrArg some (by kernel_rfl))
  f33 := Tryz.func134.trans (congrArg some (by kernel_rfl))
  f34 := Tryz.func167.trans (congrArg some (by kernel_rfl))
  f35 := Tryz.func165.trans (congrArg some (by kernel_rfl))
  f36 := Tryz.func168.trans (congrArg some (by kernel_rfl))
  f37 := Tryz.func169.trans (congrArg some (by kernel_rfl))
  f38 := Tryz.func170.trans (congrArg some (by kernel_rfl))
  f39 := Tryz.func200.trans (congrArg some (by kernel_rfl))
  f40 := Tryz.func201.trans (congrArg some (by kernel_rfl))
  t0 := Tryz.underlying0
  a0 := Tryz.isAgg0
  z0 := Tryz.sizeOf0
  v0 := Tryz.zeroValue0
  i0 := by kernel_rfl
  t2 := Tryz.underlying2
  a2 := Tryz.isAgg2
  z2 := Tryz.sizeOf2
  v2 := Tryz.zeroValue2
  i2 := by kernel_rfl
  t3 := Tryz.underlying3
  a3 := Tryz.isAgg3
  z3 := Tryz.sizeOf3
  v3 := Tryz.zeroValue3
  i3 := by kernel_rfl
  t4 := Tryz.underlying4
  a4 := Tryz.isAgg4
  z4 := Tryz.sizeOf4
  v4 := Tryz.zeroValue4
  i4 := by kernel_rfl
  t5 := Tryz.underlying5
  a5 := Tryz.isAgg5
  z5 := Tryz.sizeOf5
  v5 := Tryz.zeroValue5
  i5 := by kernel_rfl
  t9 := Tryz.underlying9
  a9 := Tryz.isAgg9
  z9 := Tryz.sizeOf9
  v9 := Tryz.zeroValue9
  i9 := by kernel_rfl
  t20 := Tryz.underlying20
  a20 := Tryz.isAgg20
  z20 := Tryz.sizeOf20
  v20 := Tryz.zeroValue20
  i20 := by kernel_rfl
  t21 := Tryz.underlying21
  a21 := Tryz.isAgg21
  z21 := Tryz.sizeOf21
  v21 := Tryz.zeroValue21
  i21 := by kernel_rfl
  t22 := Tryz.underlying31
  a22 := Tryz.isAgg31
  z22 := Tryz.sizeOf31
  v22 := Tryz.zeroValue31
  i22 := by kernel_rfl
  t24 := Tryz.underlying161
  a24 := Tryz.isAgg161
  z24 := Tryz.sizeOf161
  v24 := Tryz.zeroValue161
  i24 := by kernel_rfl
  t25 := Tryz.underlying174
  a25 := Tryz.isAgg174
  z25 := Tryz.sizeOf174
  v25 := Tryz.zeroValue174
  i25 := by kernel_rfl
  t34 := Tryz.underlying235
  a34 := Tryz.isAgg235
  z34 := Tryz.sizeOf235
  v34 := Tryz.zeroValue235
  i34 := by kernel_rfl
  c34 := by kernel_rfl
  t36 := Tryz.underlying152
  a36 := Tryz.isAgg152
  z36 := Tryz.sizeOf152
  v36 := Tryz.zeroValue152
  i36 := by kernel_rfl
  t37 := Tryz.underlying157
  a37 := Tryz.isAgg157
  z37 := Tryz.sizeOf157
  v37 := Tryz.zeroValue157
  i37 := by kernel_rfl
  t39 := Tryz.underlying237
  a39 := Tryz.isAgg237
  z39 := Tryz.sizeOf237
  v39 := Tryz.zeroValue237
  i39 := by kernel_rfl
  t44 := Tryz.underlying251
  a44 := Tryz.isAgg251
  z44 := Tryz.sizeOf251
  v44 := Tryz.zeroValue251
  i44 := by kernel_rfl
  t47 := Tryz.underlying194
  a47 := Tryz.isAgg194
  z47 := Tryz.sizeOf194
  v47 := Tryz.zeroValue194
  i47 := by kernel_rfl
  t48 := Tryz.underlying266
  a48 := Tryz.isAgg266
  z48 := Tryz.sizeOf266
  v48 := Tryz.zeroValue266
  i48 := by kernel_rfl
  t50 := Tryz.underlying268
  a50 := Tryz.isAgg268
  z50 := Tryz.sizeOf268
  v50 := Tryz.zeroValue268
  i50 := by kernel_rfl
  t52 := Tryz.underlying185
  a52 := Tryz.isAgg185
  z52 := Tryz.sizeOf185
  v52 := Tryz.zeroValue185
  i52 := by kernel_rfl
  t55 := Tryz.underlying188
  a55 := Tryz.isAgg188
  z55 := Tryz.sizeOf188
  v55 := Tryz.zeroValue188
  i55 := by kernel_rfl
  t59 := Tryz.underlying220
  a59 := Tryz.isAgg220
  z59 := Tryz.sizeOf220
  v59 := Tryz.zeroValue220
  i59 := by kernel_rfl
  t60 := Tryz.underlying176
  a60 := Tryz.isAgg176
  z60 := Tryz.sizeOf176
  v60 := Tryz.zeroValue176
  i60 := by kernel_rfl
  t61 := Tryz.underlying221
  a61 := Tryz.isAgg221
  z61 := Tryz.sizeOf221
  t65 := Tryz.underlying256
  a65 := Tryz.isAgg256
  z65 := Tryz.sizeOf256
  v65 := Tryz.zeroValue256
  i65 := by kernel_rfl
  t66 := Tryz.underlying257
  a66 := Tryz.isAgg257
  z66 := Tryz.sizeOf257
  v66 := Tryz.zeroValue257
  i66 := by kernel_rfl
  t67 := Tryz.underlying164
  a67 := Tryz.isAgg164
  z67 := Tryz.sizeOf164
  v67 := Tryz.zeroValue164
  i67 := by kernel_rfl
  g0 := by kernel_rfl
  m0 := by kernel_rfl
  g1 := by kernel_rfl
  m1 := by kernel_rfl
  g2 := by kernel_rfl
  m2 := by kernel_rfl
  g3 := by kernel_rfl
  m3 := by kernel_rfl
  g4 := by kernel_rfl
  m4 := by kernel_rfl }
open Go.RowKit in
/-- strconv.ParseUint(s, 10, 64), AT EVERY STRING THAT SPELLS A uint64 ('Lib.parseUintB 64 s.data.toList = .ok u'): u, AND NO ERROR. (LAID: no walk: one application.) -/
theorem Tryz.strconv_ParseUint_10_at64_ok (s : ByteArray) (hmax : s.size ≤ 9223372036854775806) (u : Nat) (h : Lib.parseUintB 64 s.data.toList = .ok u) (w : World) :
    Calls Tryz.prog 124 #[.string s, .int .i64 10, .int .i64 64] w fun e w' => e = .returned (.tuple #[.int .u64 u, .nilIface]) ∧ (w' = w ∨ w' = Lib.bytesWorld w 5 s) := Any.strconv_ParseUint_10_at64_ok Tryz.laysPu14 s hmax u h w
def Tryz.cloneNames_ren : Go.Shelf.Ren := ⟨fun | 5 => 79 | 7 => 117 | n => n, fun | 23 => 76 | 25 => 9 | 3 => 3 | 4 => 4 | 20 => 20 | n => n, fun | n => n⟩
theorem Tryz.cloneNames : Go.Proofs.SlLaysW.n5 Tryz.prog Tryz.cloneNames_ren := {
  mixed := by kernel_rfl
  f5 := ⟨Tryz.f79.name, by decide, Tryz.func79.trans (congrArg some (by kernel_rfl))⟩
  f7 := Tryz.func117.trans (congrArg some (by kernel_rfl))
  t4 := Tryz.underlying4
  a4 := Tryz.isAgg4
  z4 := Tryz.sizeOf4
  v4 := Tryz.zeroValue4
  t20 := Tryz.underlying20
  a20 := Tryz.isAgg20
  z20 := Tryz.sizeOf20
  v20 := Tryz.zeroValue20
  t23 := Tryz.underlying76
  a23 := Tryz.isAgg76
  z23 := Tryz.sizeOf76
  v23 := Tryz.zeroValue76 }
def Tryz.cloneSegs_ren : Go.Shelf.Ren := ⟨fun | 41 => 51 | n => n, fun | 22 => 37 | 23 => 42 | 4 => 4 | n => n, fun | n => n⟩
theorem Tryz.cloneSegs : Go.Proofs.SlLaysE0.n41 Tryz.prog Tryz.cloneSegs_ren := {
  mixed := by kernel_rfl
  f41 := ⟨Tryz.f51.name, by decide, Tryz.func51.trans (congrArg some (by kernel_rfl))⟩
  t4 := Tryz.underlying4
  a4 := Tryz.isAgg4
  z4 := Tryz.sizeOf4
  v4 := Tryz.zeroValue4
  t22 := Tryz.underlying37
  a22 := Tryz.isAgg37
  z22 := Tryz.sizeOf37
  v22 := Tryz.zeroValue37 }
def Tryz.indexSegs_ren : Go.Shelf.Ren := ⟨fun | 6 => 54 | n => n, fun | 22 => 37 | 23 => 42 | 25 => 104 | 3 => 3 | 0 => 0 | 4 => 4 | n => n, fun | n => n⟩
theorem Tryz.indexSegs : Go.Proofs.SlLaysH0.n6 Tryz.prog Tryz.indexSegs_ren := {
  mixed := by kernel_rfl
  f6 := ⟨Tryz.f54.name, by decide, Tryz.func54.trans (congrArg some (by kernel_rfl))⟩
  t0 := Tryz.underlying0
  a0 := Tryz.isAgg0
  z0 := Tryz.sizeOf0
  v0 := Tryz.zeroValue0
  t3 := Tryz.underlying3
  a3 := Tryz.isAgg3
  z3 := Tryz.sizeOf3
  v3 := Tryz.zeroValue3
  t4 := Tryz.underlying4
  a4 := Tryz.isAgg4
  z4 := Tryz.sizeOf4
  v4 := Tryz.zeroValue4
  t22 := Tryz.underlying37
  a22 := Tryz.isAgg37
  z22 := Tryz.sizeOf37
  v22 := Tryz.zeroValue37
  t25 := Tryz.underlying104
  a25 := Tryz.isAgg104
  z25 := Tryz.sizeOf104
  v25 := Tryz.zeroValue104 }
def Tryz.keys53_ren : Go.Shelf.Ren := ⟨fun | 7 => 53 | 10 => 97 | n => n, fun | 23 => 76 | 26 => 9 | 3 => 3 | 28 => 97 | 0 => 0 | 27 => 96 | 33 => 117 | 4 => 4 | n => n, fun | n => n⟩
theorem Tryz.keys53 : Go.Proofs.SlLaysZ.n7 Tryz.prog Tryz.keys53_ren := {
  mixed := by kernel_rfl
  f7 := ⟨Tryz.f53.name, by decide, Tryz.func53.trans (congrArg some (by kernel_rfl))⟩
  f10 := ⟨Tryz.f97.name, by decide, Tryz.func97.trans (congrArg some (by kernel_rfl))⟩
  t0 := Tryz.underlying0
  a0 := Tryz.isAgg0
  z0 := Tryz.sizeOf0
  v0 := Tryz.zeroValue0
  t4 := Tryz.underlying4
  a4 := Tryz.isAgg4
  z4 := Tryz.sizeOf4
  v4 := Tryz.zeroValue4
  t23 := Tryz.underlying76
  a23 := Tryz.isAgg76
  z23 := Tryz.sizeOf76
  v23 := Tryz.zeroValue76
  t26 := Tryz.underlying9
  a26 := Tryz.isAgg9
  z26 := Tryz.sizeOf9
  v26 := Tryz.zeroValue9
  t27 := Tryz.underlying96
  a27 := Tryz.isAgg96
  z27 := Tryz.sizeOf96
  v27 := Tryz.zeroValue96
  t28 := Tryz.underlying97
  a28 := Tryz.isAgg97
  z28 := Tryz.sizeOf97
  v28 := Tryz.zeroValue97
  t33 := Tryz.underlying117
  a33 := Tryz.isAgg117
  z33 := Tryz.sizeOf117
  v33 := Tryz.zeroValue117 }
def Tryz.sorted52_ren : Go.Shelf.Ren := ⟨fun | 6 => 52 | 8 => 95 | 9 => 96 | 11 => 126 | 13 => 128 | 12 => 127 | 23 => 164 | 24 => 165 | 14 => 155 | 15 => 156 | 16 => 157 | 17 => 158 | 18 => 159 | 19 => 160 | 20 => 161 | 21 => 162 | 22 => 163 | 25 => 194 | 26 => 195 | 27 => 196 | 28 => 197 | 29 => 198 | 30 => 199 | 31 => 212 | n => n, fun | 26 => 9 | 28 => 97 | 24 => 22 | 0 => 0 | 3 => 3 | 37 => 152 | 48 => 176 | 50 => 31 | 4 => 4 | 40 => 210 | 39 => 209 | 45 => 144 | 5 => 5 | 9 => 9 | 51 => 241 | 55 => 244 | 57 => 253 | 58 => 254 | 33 => 117 | n => n, fun | n => n⟩
theorem Tryz.sorted52 : Go.Proofs.SlLaysZ.n6 Tryz.prog Tryz.sorted52_ren := {
  mixed := by kernel_rfl
  f6 := ⟨Tryz.f52.name, by decide, Tryz.func52.trans (congrArg some (by kernel_rfl))⟩
  f8 := ⟨Tryz.f95.name, by decide, Tryz.func95.trans (congrArg some (by kernel_rfl))⟩
  f11 := ⟨Tryz.f126.name, by decide, Tryz.func126.trans (congrArg some (by kernel_rfl))⟩
  t0 := Tryz.underlying0
  a0 := Tryz.isAgg0
  z0 := Tryz.sizeOf0
  v0 := Tryz.zeroValue0
  t24 := Tryz.underlying22
  a24 := Tryz.isAgg22
  z24 := Tryz.sizeOf22
  v24 := Tryz.zeroValue22
  t26 := Tryz.underlying9
  a26 := Tryz.isAgg9
  z26 := Tryz.sizeOf9
  v26 := Tryz.zeroValue9
  t28 := Tryz.underlying97
  a28 := Tryz.isAgg97
  z28 := Tryz.sizeOf97
  v28 := Tryz.zeroValue97
  i26 := by kernel_rfl }
def Tryz.sort96_ren : Go.Shelf.Ren := ⟨fun | 6 => 96 | 8 => 128 | 9 => 127 | 19 => 164 | 20 => 165 | 21 => 155 | 22 => 156 | 23 => 157 | 24 => 158 | 25 => 159 | 26 => 160 | 27 => 161 | 28 => 162 | 29 => 163 | 36 => 194 | 31 => 195 | 32 => 196 | 37 => 197 | 38 => 198 | 39 => 199 | 41 => 212 | n => n, fun | 27 => 22 | 29 => 9 | 3 => 3 | 32 => 152 | 26 => 22 | 0 => 0 | 44 => 176 | 46 => 31 | 4 => 4 | 36 => 210 | 35 => 209 | 41 => 144 | 5 => 5 | 9 => 9 | 53 => 241 | 57 => 244 | 63 => 253 | 64 => 254 | n => n, fun | n => n⟩
theorem Tryz.sort96 : Go.Proofs.SlLaysM.n6 Tryz.prog Tryz.sort96_ren := {
  mixed := by kernel_rfl
  f6 := ⟨Tryz.f96.name, by decide, Tryz.func96.trans (congrArg some (by kernel_rfl))⟩
  f8 := Tryz.func128.trans (congrArg some (by kernel_rfl))
  f9 := ⟨Tryz.f127.name, by decide, Tryz.func127.trans (congrArg some (by kernel_rfl))⟩
  f19 := Tryz.func164.trans (congrArg some (by kernel_rfl))
  f20 := Tryz.func165.trans (congrArg some (by kernel_rfl))
  f21 := ⟨Tryz.f155.name, by decide, Tryz.func155.trans (congrArg some (by kernel_rfl))⟩
  f22 := ⟨Tryz.f156.name, by decide, Tryz.func156.trans (congrArg some (by kernel_rfl))⟩
  f23 := ⟨Tryz.f157.name, by decide, Tryz.func157.trans (congrArg some (by kernel_rfl))⟩
  f24 := ⟨Tryz.f158.name, by decide, Tryz.func158.trans (congrArg some (by kernel_rfl))⟩
  f25 := ⟨Tryz.f159.name, by decide, Tryz.func159.trans (congrArg some (by kernel_rfl))⟩
  f26 := ⟨Tryz.f160.name, by decide, Tryz.func160.trans (congrArg some (by kernel_rfl))⟩
  f27 := ⟨Tryz.f161.name, by decide, Tryz.func161.trans (congrArg some (by kernel_rfl))⟩
  f28 := ⟨Tryz.f162.name, by decide, Tryz.func162.trans (congrArg some (by kernel_rfl))⟩
  f29 := ⟨Tryz.f163.name, by decide, Tryz.func163.trans (congrArg some (by kernel_rfl))⟩
  f31 := Tryz.func195.trans (congrArg some (by kernel_rfl))
  f32 := Tryz.func196.trans (congrArg some (by kernel_rfl))
  f36 := ⟨Tryz.f194.name, by decide, Tryz.func194.trans (congrArg some (by kernel_rfl))⟩
  f37 := ⟨Tryz.f197.name, by decide, Tryz.func197.trans (congrArg some (by kernel_rfl))⟩
  f38 := ⟨Tryz.f198.name, by decide, Tryz.func198.trans (congrArg some (by kernel_rfl))⟩
  f39 := ⟨Tryz.f199.name, by decide, Tryz.func199.trans (congrArg some (by kernel_rfl))⟩
  f41 := ⟨Tryz.f212.name, by decide, Tryz.func212.trans (congrArg some (by kernel_rfl))⟩
  t0 := Tryz.underlying0
  a0 := Tryz.isAgg0
  z0 := Tryz.sizeOf0
  v0 := Tryz.zeroValue0
  t3 := Tryz.underlying3
  a3 := Tryz.isAgg3
  z3 := Tryz.sizeOf3
  v3 := Tryz.zeroValue3
  t4 := Tryz.underlying4
  a4 := Tryz.isAgg4
  z4 := Tryz.sizeOf4
  v4 := Tryz.zeroValue4
  t5 := Tryz.underlying5
  a5 := Tryz.isAgg5
  z5 := Tryz.sizeOf5
  v5 := Tryz.zeroValue5
  t9 := Tryz.underlying9
  a9 := Tryz.isAgg9
  z9 := Tryz.sizeOf9
  v9 := Tryz.zeroValue9
  t26 := Tryz.underlying22
  a26 := Tryz.isAgg22
  z26 := Tryz.sizeOf22
  v26 := Tryz.zeroValue22
  t27 := Tryz.underlying22
  a27 := Tryz.isAgg22
  z27 := Tryz.sizeOf22
  v27 := Tryz.zeroValue22
  t29 := Tryz.underlying9
  a29 := Tryz.isAgg9
  z29 := Tryz.sizeOf9
  v29 := Tryz.zeroValue9
  t32 := Tryz.underlying152
  a32 := Tryz.isAgg152
  z32 := Tryz.sizeOf152
  v32 := Tryz.zeroValue152
  t35 := Tryz.underlying209
  a35 := Tryz.isAgg209
  z35 := Tryz.sizeOf209
  v35 := Tryz.zeroValue209
  t36 := Tryz.underlying210
  a36 := Tryz.isAgg210
  z36 := Tryz.sizeOf210
  v36 := Tryz.zeroValue210
  t41 := Tryz.underlying144
  a41 := Tryz.isAgg144
  z41 := Tryz.sizeOf144
  v41 := Tryz.zeroValue144
  t44 := Tryz.underlying176
  a44 := Tryz.isAgg176
  z44 := Tryz.sizeOf176
  v44 := Tryz.zeroValue176
  t46 := Tryz.underlying31
  a46 := Tryz.isAgg31
  z46 := Tryz.sizeOf31
  v46 := Tryz.zeroValue31
  t53 := Tryz.underlying241
  a53 := Tryz.isAgg241
  z53 := Tryz.sizeOf241
  v53 := Tryz.zeroValue241
  t57 := Tryz.underlying244
  a57 := Tryz.isAgg244
  z57 := Tryz.sizeOf244
  v57 := Tryz.zeroValue244
  t63 := Tryz.underlying253
  a63 := Tryz.isAgg253
  z63 := Tryz.sizeOf253
  v63 := Tryz.zeroValue253
  t64 := Tryz.underlying254
  a64 := Tryz.isAgg254
  z64 := Tryz.sizeOf254
  v64 := Tryz.zeroValue254 }
open Go.RowKit Go.Maps Go.Sort in
/-- slices.Sort's two contracts at this dump, at the fence that asks nothing. -/
theorem Tryz.sorts52 (m : Nat) : AnyZ.SortsIn Tryz.prog Tryz.sorted52_ren Fence.wide m :=
  ⟨fun blk off cap ss W hH hblk hsz => callsIn_wide.2 (AnyM.slices_Sort_string Tryz.sort96 blk off cap ss W hH hblk hsz),
   fun p cap W => callsIn_wide.2 (AnyM.slices_Sort_string_none Tryz.sort96 p cap W)⟩
open Go.RowKit Go.Maps Go.Sort in
/-- **maps.Keys[map[string]int,string,int], at whatever map, the nil one too:** a function value over ONE NEW BLOCK, which holds the map. -/
theorem Tryz.maps_Keys_53 (mb : Option Nat) (W : World) : CallsIn Fence.wide 5 Tryz.prog 53 #[.map mb] W fun e w' => e = .returned (.func (.func 97) #[] #[.pointer (some ⟨W.heap.size, 0, none⟩)]) ∧ w' = W.alloc (.cells #[.map mb] 76) :=
  AnyZ.keys_in Tryz.keys53 Fence.wide 5 trivial rfl mb W
open Go.RowKit Go.Maps Go.Sort in
/-- **slices.Sorted[string] AT WHAT maps.Keys[map[string]int,string,int] HANDED BACK FOR A MAP THAT IS NOT nil** ('w': the world AHEAD of maps.Keys' call): A NEW SLICE THAT HOLDS THE MAP's KEYS, SORTED; nil just where it has none; nothing that lay before has turned. -/
theorem Tryz.slices_Sorted_keys_52_53 {H : Type} (b nn : Nat) (D0 : DataW H) (R : Value → Option (DataW H × List MemPlace)) (w : World) (hown : w.ownsMap Tryz.prog 9 R b nn D0) (hmax : Maps.size D0 ≤ maxLen) (hbytes : Maps.size D0 * 16 ≤ 140737488355328) :
    CallsIn Fence.wide 5 Tryz.prog 52 #[.func (.func 97) #[] #[.pointer (some ⟨w.heap.size, 0, none⟩)]] (w.alloc (.cells #[.map (some b)] 76)) fun e w' => ∃ (v : Value) (ss : List (List UInt8)), e = .returned v ∧ ss.Perm (strKeys D0) ∧
      w'.ownsRow (w.alloc (.cells #[.map (some b)] 76)).heap.size 9 1 v ss.length ((ss.mergeSort (fun x y => decide (x ≤ y))).map encStr) ∧ (v = .slice none 0 0 ↔ ss = []) ∧ Below (w.alloc (.cells #[.map (some b)] 76)).heap.size (w.alloc (.cells #[.map (some b)] 76)) w' := by
  have hbl := hown.lt
  have hseq : SeqGives Fence.wide 2 Tryz.prog 97 #[.pointer (some ⟨w.heap.size, 0, none⟩)] encStr (fun ss => ss.Perm (strKeys D0)) (Maps.size D0) (w.alloc (.cells #[.map (some b)] 76)) :=
    AnyZ.keys_gives (ρ := Tryz.keys53_ren) { Tryz.keys53 with } Fence.wide _ trivial rfl (by omega) w.heap.size b nn D0 _ (by simp) (by simp) (by
      obtain ⟨es, clock, hb, Ft, hs, hD⟩ := hown
      exact ⟨es, clock, (Below.heap_alloc _ _ b hbl).trans hb, Ft, hs, hD⟩)
  exact AnyZ.sorted_in Tryz.sorted52 Fence.wide 5 trivial trivial trivial trivial rfl (by omega) (Tryz.sorts52 _) (enters_of Tryz.func96 (by kernel_rfl) rfl) 97 #[.pointer (some ⟨w.heap.size, 0, none⟩)] trivial (enters_of Tryz.func97 (by kernel_rfl) rfl) _ _ hmax hbytes _ hseq
open Go.RowKit Go.Maps Go.Sort in
/-- **.. AND FOR THE nil MAP: nil.** -/
theorem Tryz.slices_Sorted_keys_nil_52_53 (w : World) :
    CallsIn Fence.wide 5 Tryz.prog 52 #[.func (.func 97) #[] #[.pointer (some ⟨w.heap.size, 0, none⟩)]] (w.alloc (.cells #[.map none] 76)) fun e w' => ∃ (v : Value) (ss : List (List UInt8)), e = .returned v ∧ ss = [] ∧
      w'.ownsRow (w.alloc (.cells #[.map none] 76)).heap.size 9 1 v ss.length ((ss.mergeSort (fun x y => decide (x ≤ y))).map encStr) ∧ (v = .slice none 0 0 ↔ ss = []) ∧ Below (w.alloc (.cells #[.map none] 76)).heap.size (w.alloc (.cells #[.map none] 76)) w' := by
  have hseq : SeqGives Fence.wide 2 Tryz.prog 97 #[.pointer (some ⟨w.heap.size, 0, none⟩)] encStr (fun ss : List (List UInt8) => ss = []) 0 (w.alloc (.cells #[.map none] 76)) :=
    AnyZ.keys_gives_nil (ρ := Tryz.keys53_ren) { Tryz.keys53 with } Fence.wide _ trivial rfl w.heap.size _ (by simp) (by simp)
  exact AnyZ.sorted_in Tryz.sorted52 Fence.wide 5 trivial trivial trivial trivial rfl (by omega) (Tryz.sorts52 _) (enters_of Tryz.func96 (by kernel_rfl) rfl) 97 #[.pointer (some ⟨w.heap.size, 0, none⟩)] trivial (enters_of Tryz.func97 (by kernel_rfl) rfl) _ 0 (Nat.zero_le _) (by omega) _ hseq
end Go.Proofs
