/-
  DERIVED: THE SHELF's CONTRACTS AT THIS DUMP, IN PLAIN WORDS (tools/lay-plain.mjs out of 'TryzShelf.lean', which tools/lay-shelf.mjs wrote): THE SAME DECLARATIONS UNDER THE SAME NAMES: 'import', 'namespace', 'open', 'def', 'theorem' AND NOTHING ELSE: no command of the shelf's: FOR A HAND-IN. Each laying: the table of numbers ('.._ren') and one theorem, a field a fact of the dump's own or the kernel's comparison; each contract: ONE APPLICATION.
-/
import Derived.Shelf.Strings.Trim
import Derived.Shelf.Small.Utf8
import Derived.Shelf.Small.Bits
import Derived.Shelf.Small.Strs
import Derived.Shelf.Utf8.RuneCount
import Derived.Shelf.Strconv.Atoi
import Derived.Shelf.Strconv.Itoa0
import Derived.Shelf.Strconv.Itoa1
import Derived.Shelf.LaysM
import Derived.Shelf.Strconv.Itoa2
import Derived.Shelf.Strconv.Itoa3
import Derived.Shelf.Strconv.AtoiErrFast
import Derived.Shelf.Strconv.ParseIntEmpty
import Derived.Shelf.Strconv.Clone
import Derived.Shelf.Strconv.Lower
import Derived.Shelf.Strconv.ParseUint10Empty
import Derived.Shelf.Strconv.ParseUintEmpty
import Derived.Shelf.Strings.Search1
import Derived.Shelf.Strings.Search2
import Derived.Shelf.Strings.Search3
import Derived.Shelf.Strings.Count
import Derived.Shelf.Strings.Shaped
import Derived.Shelf.Sort.Plain
import Derived.Shelf.Strings.Split
import Derived.Shelf.Strings.SplitShaped
import Derived.Shelf.Unicode.Decode
import Derived.Shelf.Strings.Runes
import Derived.Shelf.Strings.RuneCount
import Derived.Shelf.Strings.AsciiSet
import Derived.Shelf.Strings.Explode
import Derived.Shelf.Unicode.DecodeSlow
import Derived.Shelf.Unicode.DecodeAny
import Derived.Shelf.Unicode.DecodeLast
import Derived.Shelf.Strings.FieldsFuncAny
import Derived.Ground.Names2Prog
import Derived.Shelf.Slices.CompactI
import Derived.Shelf.Slices.SearchI
import Derived.Shelf.Slices.Cells
import Derived.Shelf.Slices.In.SortNone
import Derived.Test.YtodamjjlnagpjaaGreatDoorProg
namespace Go.Proofs
open Go.Shelf
def Tryz.lays172_ren : Go.Shelf.Ren := ⟨fun | 172 => 120 | 244 => 139 | 245 => 140 | 247 => 155 | 279 => 156 | 280 => 157 | 281 => 158 | 282 => 159 | 287 => 170 | 316 => 171 | 171 => 173 | 205 => 172 | 321 => 190 | 322 => 191 | 243 => 192 | 246 => 198 | 283 => 200 | 284 => 201 | 285 => 202 | 286 => 203 | 129 => 185 | 317 => 204 | 318 => 205 | 319 => 206 | 320 => 207 | 337 => 208 | 338 => 209 | n => n, fun | 9 => 9 | 3 => 3 | 75 => 209 | 76 => 210 | 4 => 4 | 5 => 5 | 167 => 243 | 37 => 244 | 0 => 0 | 85 => 245 | 2 => 2 | 168 => 247 | 53 => 253 | 175 => 254 | 46 => 234 | 210 => 258 | 127 => 279 | 145 => 282 | 143 => 280 | 21 => 21 | 171 => 293 | 173 => 295 | 212 => 298 | 51 => 269 | 20 => 20 | 213 => 299 | 232 => 300 | 233 => 301 | 80 => 170 | n => n, fun | 15 => 3 | 16 => 4 | 17 => 7 | 18 => 8 | 19 => 9 | n => n⟩
theorem Tryz.lays172 : Go.Proofs.Lays.n172 Tryz.prog Tryz.lays172_ren := {
  mixed := by kernel_rfl
  f129 := Tryz.func185.trans (congrArg some (by kernel_rfl))
  f171 := Tryz.func173.trans (congrArg some (by kernel_rfl))
  f172 := Tryz.func120.trans (congrArg some (by kernel_rfl))
  f205 := Tryz.func172.trans (congrArg some (by kernel_rfl))
  f243 := Tryz.func192.trans (congrArg some (by kernel_rfl))
  f244 := Tryz.func139.trans (congrArg some (by kernel_rfl))
  f245 := Tryz.func140.trans (congrArg some (by kernel_rfl))
  f246 := Tryz.func198.trans (congrArg some (by kernel_rfl))
  f247 := Tryz.func155.trans (congrArg some (by kernel_rfl))
  f279 := Tryz.func156.trans (congrArg some (by kernel_rfl))
  f280 := Tryz.func157.trans (congrArg some (by kernel_rfl))
  f281 := Tryz.func158.trans (congrArg some (by kernel_rfl))
  f282 := Tryz.func159.trans (congrArg some (by kernel_rfl))
  f283 := Tryz.func200.trans (congrArg some (by kernel_rfl))
  f284 := Tryz.func201.trans (congrArg some (by kernel_rfl))
  f285 := Tryz.func202.trans (congrArg some (by kernel_rfl))
  f286 := Tryz.func203.trans (congrArg some (by kernel_rfl))
  f287 := Tryz.func170.trans (congrArg some (by kernel_rfl))
  f316 := Tryz.func171.trans (congrArg some (by kernel_rfl))
  f317 := Tryz.func204.trans (congrArg some (by kernel_rfl))
  f318 := Tryz.func205.trans (congrArg some (by kernel_rfl))
  f319 := Tryz.func206.trans (congrArg some (by kernel_rfl))
  f320 := Tryz.func207.trans (congrArg some (by kernel_rfl))
  f321 := Tryz.func190.trans (congrArg some (by kernel_rfl))
  f322 := Tryz.func191.trans (congrArg some (by kernel_rfl))
  f337 := Tryz.func208.trans (congrArg some (by kernel_rfl))
  f338 := Tryz.func209.trans (congrArg some (by kernel_rfl))
  t0 := Tryz.underlying0
  a0 := Tryz.isAgg0
  z0 := Tryz.sizeOf0
  v0 := Tryz.zeroValue0
  t2 := Tryz.underlying2
  a2 := Tryz.isAgg2
  z2 := Tryz.sizeOf2
  v2 := Tryz.zeroValue2
  t3 := Tryz.underlying3
  a3 := Tryz.isAgg3
  z3 := Tryz.sizeOf3
  v3 := Tryz.zeroValue3
  t4 := Tryz.underlying4
  a4 := Tryz.isAgg4
  z4 := Tryz.sizeOf4
  v4 := Tryz.zeroValue4
  t5 := Tryz.underlying5
  a5 := Tryz.isAgg5
  z5 := Tryz.sizeOf5
  v5 := Tryz.zeroValue5
  t9 := Tryz.underlying9
  a9 := Tryz.isAgg9
  z9 := Tryz.sizeOf9
  v9 := Tryz.zeroValue9
  t20 := Tryz.underlying20
  a20 := Tryz.isAgg20
  z20 := Tryz.sizeOf20
  v20 := Tryz.zeroValue20
  t21 := Tryz.underlying21
  a21 := Tryz.isAgg21
  z21 := Tryz.sizeOf21
  v21 := Tryz.zeroValue21
  t37 := Tryz.underlying244
  a37 := Tryz.isAgg244
  z37 := Tryz.sizeOf244
  v37 := Tryz.zeroValue244
  t46 := Tryz.underlying234
  a46 := Tryz.isAgg234
  z46 := Tryz.sizeOf234
  v46 := Tryz.zeroValue234
  t51 := Tryz.underlying269
  a51 := Tryz.isAgg269
  z51 := Tryz.sizeOf269
  v51 := Tryz.zeroValue269
  t53 := Tryz.underlying253
  a53 := Tryz.isAgg253
  z53 := Tryz.sizeOf253
  v53 := Tryz.zeroValue253
  t75 := Tryz.underlying209
  a75 := Tryz.isAgg209
  z75 := Tryz.sizeOf209
  v75 := Tryz.zeroValue209
  t76 := Tryz.underlying210
  a76 := Tryz.isAgg210
  z76 := Tryz.sizeOf210
  v76 := Tryz.zeroValue210
  t85 := Tryz.underlying245
  a85 := Tryz.isAgg245
  z85 := Tryz.sizeOf245
  v85 := Tryz.zeroValue245
  t127 := Tryz.underlying279
  a127 := Tryz.isAgg279
  z127 := Tryz.sizeOf279
  v127 := Tryz.zeroValue279
  t143 := Tryz.underlying280
  a143 := Tryz.isAgg280
  z143 := Tryz.sizeOf280
  v143 := Tryz.zeroValue280
  t145 := Tryz.underlying282
  a145 := Tryz.isAgg282
  z145 := Tryz.sizeOf282
  v145 := Tryz.zeroValue282
  t167 := Tryz.underlying243
  a167 := Tryz.isAgg243
  z167 := Tryz.sizeOf243
  v167 := Tryz.zeroValue243
  t168 := Tryz.underlying247
  a168 := Tryz.isAgg247
  z168 := Tryz.sizeOf247
  v168 := Tryz.zeroValue247
  t171 := Tryz.underlying293
  a171 := Tryz.isAgg293
  z171 := Tryz.sizeOf293
  v171 := Tryz.zeroValue293
  t173 := Tryz.underlying295
  a173 := Tryz.isAgg295
  z173 := Tryz.sizeOf295
  v173 := Tryz.zeroValue295
  t175 := Tryz.underlying254
  a175 := Tryz.isAgg254
  z175 := Tryz.sizeOf254
  v175 := Tryz.zeroValue254
  t210 := Tryz.underlying258
  a210 := Tryz.isAgg258
  z210 := Tryz.sizeOf258
  v210 := Tryz.zeroValue258
  t212 := Tryz.underlying298
  a212 := Tryz.isAgg298
  z212 := Tryz.sizeOf298
  v212 := Tryz.zeroValue298
  t213 := Tryz.underlying299
  a213 := Tryz.isAgg299
  z213 := Tryz.sizeOf299
  t232 := Tryz.underlying300
  a232 := Tryz.isAgg300
  z232 := Tryz.sizeOf300
  v232 := Tryz.zeroValue300
  t233 := Tryz.underlying301
  a233 := Tryz.isAgg301
  z233 := Tryz.sizeOf301
  v233 := Tryz.zeroValue301
  g15 := by kernel_rfl
  g16 := by kernel_rfl
  g17 := by kernel_rfl
  g18 := by kernel_rfl
  g19 := by kernel_rfl }
open Go.RowKit in
/-- strconv.Atoi: AT A DECIMAL NUMERAL OF AT MOST 18 BYTES: its value, and a nil error. The world behind the call: the one new row that the library's '[]byte(s)' lays. (LAID: no walk: one application.) -/
theorem Tryz.strconv_Atoi (s : ByteArray) (n : Int) (hl : s.size ≤ 18) (h : Lib.atoi s.data.toList = some n) (w : World) :
    Calls Tryz.prog 120 #[.string s] w fun e w' => e = .returned (.tuple #[.int .i64 n, .nilIface]) ∧ ∃ t, w' = Lib.bytesWorld w 5 t := Any.strconv_Atoi Tryz.lays172 s n hl h w
def Tryz.lays189_ren : Go.Shelf.Ren := ⟨fun | 189 => 145 | 125 => 162 | 257 => 161 | 128 => 184 | 129 => 185 | 294 => 175 | 295 => 176 | 296 => 177 | 297 => 178 | 298 => 179 | 299 => 180 | 216 => 181 | 300 => 182 | 301 => 183 | 328 => 193 | 329 => 194 | 330 => 195 | 331 => 196 | 332 => 197 | 215 => 122 | 343 => 199 | n => n, fun | 28 => 22 | 3 => 3 | 46 => 234 | 0 => 0 | 51 => 269 | 53 => 253 | 4 => 4 | 183 => 263 | 182 => 262 | 131 => 162 | 5 => 5 | 9 => 9 | 218 => 283 | 222 => 287 | 228 => 290 | 229 => 291 | n => n, fun | n => n⟩
theorem Tryz.lays189 : Go.Proofs.Lays.n189 Tryz.prog Tryz.lays189_ren := {
  mixed := by kernel_rfl
  f125 := Tryz.func162.trans (congrArg some (by kernel_rfl))
  f128 := Tryz.func184.trans (congrArg some (by kernel_rfl))
  f129 := Tryz.func185.trans (congrArg some (by kernel_rfl))
  f189 := Tryz.func145.trans (congrArg some (by kernel_rfl))
  f215 := Tryz.func122.trans (congrArg some (by kernel_rfl))
  f216 := Tryz.func181.trans (congrArg some (by kernel_rfl))
  f257 := Tryz.func161.trans (congrArg some (by kernel_rfl))
  f294 := Tryz.func175.trans (congrArg some (by kernel_rfl))
  f295 := Tryz.func176.trans (congrArg some (by kernel_rfl))
  f296 := Tryz.func177.trans (congrArg some (by kernel_rfl))
  f297 := Tryz.func178.trans (congrArg some (by kernel_rfl))
  f298 := Tryz.func179.trans (congrArg some (by kernel_rfl))
  f299 := Tryz.func180.trans (congrArg some (by kernel_rfl))
  f300 := Tryz.func182.trans (congrArg some (by kernel_rfl))
  f301 := Tryz.func183.trans (congrArg some (by kernel_rfl))
  f328 := Tryz.func193.trans (congrArg some (by kernel_rfl))
  f329 := Tryz.func194.trans (congrArg some (by kernel_rfl))
  f330 := Tryz.func195.trans (congrArg some (by kernel_rfl))
  f331 := Tryz.func196.trans (congrArg some (by kernel_rfl))
  f332 := Tryz.func197.trans (congrArg some (by kernel_rfl))
  f343 := Tryz.func199.trans (congrArg some (by kernel_rfl))
  t0 := Tryz.underlying0
  a0 := Tryz.isAgg0
  z0 := Tryz.sizeOf0
  v0 := Tryz.zeroValue0
  t3 := Tryz.underlying3
  a3 := Tryz.isAgg3
  z3 := Tryz.sizeOf3
  v3 := Tryz.zeroValue3
  t4 := Tryz.underlying4
  a4 := Tryz.isAgg4
  z4 := Tryz.sizeOf4
  v4 := Tryz.zeroValue4
  t5 := Tryz.underlying5
  a5 := Tryz.isAgg5
  z5 := Tryz.sizeOf5
  v5 := Tryz.zeroValue5
  t9 := Tryz.underlying9
  a9 := Tryz.isAgg9
  z9 := Tryz.sizeOf9
  v9 := Tryz.zeroValue9
  t28 := Tryz.underlying22
  a28 := Tryz.isAgg22
  z28 := Tryz.sizeOf22
  v28 := Tryz.zeroValue22
  t46 := Tryz.underlying234
  a46 := Tryz.isAgg234
  z46 := Tryz.sizeOf234
  v46 := Tryz.zeroValue234
  t51 := Tryz.underlying269
  a51 := Tryz.isAgg269
  z51 := Tryz.sizeOf269
  v51 := Tryz.zeroValue269
  t53 := Tryz.underlying253
  a53 := Tryz.isAgg253
  z53 := Tryz.sizeOf253
  v53 := Tryz.zeroValue253
  t131 := Tryz.underlying162
  a131 := Tryz.isAgg162
  z131 := Tryz.sizeOf162
  v131 := Tryz.zeroValue162
  t182 := Tryz.underlying262
  a182 := Tryz.isAgg262
  z182 := Tryz.sizeOf262
  v182 := Tryz.zeroValue262
  t183 := Tryz.underlying263
  a183 := Tryz.isAgg263
  z183 := Tryz.sizeOf263
  v183 := Tryz.zeroValue263
  t218 := Tryz.underlying283
  a218 := Tryz.isAgg283
  z218 := Tryz.sizeOf283
  v218 := Tryz.zeroValue283
  t222 := Tryz.underlying287
  a222 := Tryz.isAgg287
  z222 := Tryz.sizeOf287
  v222 := Tryz.zeroValue287
  t228 := Tryz.underlying290
  a228 := Tryz.isAgg290
  z228 := Tryz.sizeOf290
  v228 := Tryz.zeroValue290
  t229 := Tryz.underlying291
  a229 := Tryz.isAgg291
  z229 := Tryz.sizeOf291
  v229 := Tryz.zeroValue291 }
open Go.Sort Go.RowKit in
theorem Tryz.slices_Sort_int (blk off cap : Nat) (zs : List Int) (w : World) (hH : Holds (Value.int .i64) w blk off zs.toArray) (hblk : blk < w.heap.size) (hsz : zs.length < 4611686018427387904) :
    Calls Tryz.prog 145 #[.slice (some ⟨blk, off, none⟩) zs.length cap] w fun e w' =>
      e = .returned (.tuple #[]) ∧ ∃ n os, w' = grow (putRow (Value.int .i64) (Sort.ahead w n) blk off (zs.mergeSort fun x y => decide (x ≤ y)).toArray) os := Any.slices_Sort_int Tryz.lays189 blk off cap zs w hH hblk hsz
def Tryz.lays146_ren : Go.Shelf.Ren := ⟨fun | 146 => 89 | 221 => 116 | 268 => 129 | 138 => 130 | 143 => 131 | 195 => 148 | 197 => 149 | 218 => 150 | 219 => 151 | 260 => 163 | 217 => 164 | 225 => 165 | 224 => 166 | 267 => 167 | 266 => 186 | 314 => 187 | n => n, fun | 9 => 9 | 31 => 138 | 3 => 3 | 4 => 4 | 0 => 0 | 105 => 238 | 21 => 21 | 5 => 5 | 46 => 234 | 119 => 271 | 139 => 274 | 138 => 273 | 146 => 275 | 51 => 269 | n => n, fun | 1 => 2 | 3 => 5 | 4 => 6 | n => n⟩
theorem Tryz.lays146 : Go.Proofs.Lays.n146 Tryz.prog Tryz.lays146_ren := {
  mixed := by kernel_rfl
  f138 := Tryz.func130.trans (congrArg some (by kernel_rfl))
  f143 := Tryz.func131.trans (congrArg some (by kernel_rfl))
  f146 := Tryz.func89.trans (congrArg some (by kernel_rfl))
  f195 := Tryz.func148.trans (congrArg some (by kernel_rfl))
  f197 := Tryz.func149.trans (congrArg some (by kernel_rfl))
  f217 := Tryz.func164.trans (congrArg some (by kernel_rfl))
  f218 := Tryz.func150.trans (congrArg some (by kernel_rfl))
  f219 := Tryz.func151.trans (congrArg some (by kernel_rfl))
  f221 := Tryz.func116.trans (congrArg some (by kernel_rfl))
  f224 := Tryz.func166.trans (congrArg some (by kernel_rfl))
  f225 := Tryz.func165.trans (congrArg some (by kernel_rfl))
  f260 := Tryz.func163.trans (congrArg some (by kernel_rfl))
  f266 := Tryz.func186.trans (congrArg some (by kernel_rfl))
  f267 := Tryz.func167.trans (congrArg some (by kernel_rfl))
  f268 := Tryz.func129.trans (congrArg some (by kernel_rfl))
  f314 := Tryz.func187.trans (congrArg some (by kernel_rfl))
  t0 := Tryz.underlying0
  a0 := Tryz.isAgg0
  z0 := Tryz.sizeOf0
  v0 := Tryz.zeroValue0
  t3 := Tryz.underlying3
  a3 := Tryz.isAgg3
  z3 := Tryz.sizeOf3
  v3 := Tryz.zeroValue3
  t4 := Tryz.underlying4
  a4 := Tryz.isAgg4
  z4 := Tryz.sizeOf4
  v4 := Tryz.zeroValue4
  t5 := Tryz.underlying5
  a5 := Tryz.isAgg5
  z5 := Tryz.sizeOf5
  v5 := Tryz.zeroValue5
  t9 := Tryz.underlying9
  a9 := Tryz.isAgg9
  z9 := Tryz.sizeOf9
  v9 := Tryz.zeroValue9
  t21 := Tryz.underlying21
  a21 := Tryz.isAgg21
  z21 := Tryz.sizeOf21
  v21 := Tryz.zeroValue21
  t31 := Tryz.underlying138
  a31 := Tryz.isAgg138
  z31 := Tryz.sizeOf138
  v31 := Tryz.zeroValue138
  t46 := Tryz.underlying234
  a46 := Tryz.isAgg234
  z46 := Tryz.sizeOf234
  v46 := Tryz.zeroValue234
  t51 := Tryz.underlying269
  a51 := Tryz.isAgg269
  z51 := Tryz.sizeOf269
  v51 := Tryz.zeroValue269
  t105 := Tryz.underlying238
  a105 := Tryz.isAgg238
  z105 := Tryz.sizeOf238
  v105 := Tryz.zeroValue238
  t119 := Tryz.underlying271
  a119 := Tryz.isAgg271
  z119 := Tryz.sizeOf271
  t138 := Tryz.underlying273
  a138 := Tryz.isAgg273
  z138 := Tryz.sizeOf273
  v138 := Tryz.zeroValue273
  t139 := Tryz.underlying274
  a139 := Tryz.isAgg274
  z139 := Tryz.sizeOf274
  v139 := Tryz.zeroValue274
  t146 := Tryz.underlying275
  a146 := Tryz.isAgg275
  z146 := Tryz.sizeOf275
  v146 := Tryz.zeroValue275
  g1 := by kernel_rfl
  g3 := by kernel_rfl
  g4 := by kernel_rfl }
open Go.RowKit Go.Lib in
/-- strings.Split. (LAID: no walk: one application.) -/
theorem Tryz.strings_Split (s sep : ByteArray) (m : Int) (w : World) (hs : s.size < 4294967281) (hm : w.cell? ⟨2, 0, none⟩ = some (.int .i64 m)) (h1 : 1 ≤ sep.size) :
    Calls Tryz.prog 89 #[.string s, .string sep] w fun e w' =>
      e = .returned (.slice (some ⟨w.heap.size, 0, none⟩) (Lib.countB s sep + 1) (Lib.countB s sep + 1)) ∧ w' = w.alloc (.cells ((Lib.splitB sep 0 (Lib.countB s sep) s).map Value.string).toArray 9) := Any.strings_Split Tryz.lays146 (by kernel_rfl) s sep m w hs hm h1
def Tryz.lays227_ren : Go.Shelf.Ren := ⟨fun | 227 => 134 | n => n, fun | 9 => 9 | 116 => 226 | 4 => 4 | 0 => 0 | 3 => 3 | 5 => 5 | n => n, fun | n => n⟩
theorem Tryz.lays227 : Go.Proofs.Lays.n227 Tryz.prog Tryz.lays227_ren := {
  mixed := by kernel_rfl
  f227 := Tryz.func134.trans (congrArg some (by kernel_rfl))
  t0 := Tryz.underlying0
  a0 := Tryz.isAgg0
  z0 := Tryz.sizeOf0
  v0 := Tryz.zeroValue0
  t3 := Tryz.underlying3
  a3 := Tryz.isAgg3
  z3 := Tryz.sizeOf3
  v3 := Tryz.zeroValue3
  t4 := Tryz.underlying4
  a4 := Tryz.isAgg4
  z4 := Tryz.sizeOf4
  v4 := Tryz.zeroValue4
  t5 := Tryz.underlying5
  a5 := Tryz.isAgg5
  z5 := Tryz.sizeOf5
  v5 := Tryz.zeroValue5
  t9 := Tryz.underlying9
  a9 := Tryz.isAgg9
  z9 := Tryz.sizeOf9
  v9 := Tryz.zeroValue9
  t116 := Tryz.underlying226
  a116 := Tryz.isAgg226
  z116 := Tryz.sizeOf226 }
open Go.RowKit Go.Lib in
theorem Tryz.strings_makeASCIISet (hv116 : ∀ w, (zeroValue 226).run Tryz.prog w = .ok (.agg (Array.replicate 256 (.bool false))) w) (chars : ByteArray) (w : World) (hs : chars.size < 4294967281) (hascii : ∀ (j : Nat) b, chars.data.toList[j]? = some b → b.toNat < 128) :
    Calls Tryz.prog 134 #[.string chars] w fun e w' => e = .returned (.tuple #[.agg (Lib.setCells chars.data.toList), .bool true]) ∧ w' = w.alloc (.cells (Lib.setCells chars.data.toList) 226) := Any.strings_makeASCIISet Tryz.lays227 hv116 (by kernel_rfl) chars w hs hascii
def Tryz.lays228_ren : Go.Shelf.Ren := ⟨fun | 228 => 152 | n => n, fun | 124 => 230 | 5 => 5 | 4 => 4 | 0 => 0 | 116 => 226 | n => n, fun | n => n⟩
theorem Tryz.lays228 : Go.Proofs.Lays.n228 Tryz.prog Tryz.lays228_ren := {
  mixed := by kernel_rfl
  f228 := Tryz.func152.trans (congrArg some (by kernel_rfl))
  t0 := Tryz.underlying0
  a0 := Tryz.isAgg0
  z0 := Tryz.sizeOf0
  v0 := Tryz.zeroValue0
  t4 := Tryz.underlying4
  a4 := Tryz.isAgg4
  z4 := Tryz.sizeOf4
  v4 := Tryz.zeroValue4
  t5 := Tryz.underlying5
  a5 := Tryz.isAgg5
  z5 := Tryz.sizeOf5
  v5 := Tryz.zeroValue5
  t116 := Tryz.underlying226
  a116 := Tryz.isAgg226
  z116 := Tryz.sizeOf226
  t124 := Tryz.underlying230
  a124 := Tryz.isAgg230
  z124 := Tryz.sizeOf230
  v124 := Tryz.zeroValue230 }
open Go.RowKit Go.Lib in
/-- '(as *asciiSet) contains(c)': 'as[c]': the set lies at block b, whole. (LAID: no walk: one application.) -/
theorem Tryz.asciiSet_contains (b : Nat) (x : UInt8) (v : Bool) (w : World) (hc : w.cell? ⟨b, x.toNat, none⟩ = some (.bool v)) :
    Calls Tryz.prog 152 #[.pointer (some ⟨b, 0, none⟩), .int .u8 x.toNat] w fun e w' => e = .returned (.bool v) ∧ w' = w := Any.asciiSet_contains Tryz.lays228 b x v w hc
def Tryz.lays229_ren : Go.Shelf.Ren := ⟨fun | 229 => 117 | n => n, fun | 9 => 9 | 40 => 206 | 31 => 138 | 152 => 221 | 3 => 3 | 0 => 0 | 4 => 4 | 21 => 21 | 154 => 223 | n => n, fun | n => n⟩
theorem Tryz.lays229 : Go.Proofs.Lays.n229 Tryz.prog Tryz.lays229_ren := {
  mixed := by kernel_rfl
  f229 := Tryz.func117.trans (congrArg some (by kernel_rfl))
  t0 := Tryz.underlying0
  a0 := Tryz.isAgg0
  z0 := Tryz.sizeOf0
  v0 := Tryz.zeroValue0
  t3 := Tryz.underlying3
  a3 := Tryz.isAgg3
  z3 := Tryz.sizeOf3
  v3 := Tryz.zeroValue3
  t4 := Tryz.underlying4
  a4 := Tryz.isAgg4
  z4 := Tryz.sizeOf4
  v4 := Tryz.zeroValue4
  t9 := Tryz.underlying9
  a9 := Tryz.isAgg9
  z9 := Tryz.sizeOf9
  v9 := Tryz.zeroValue9
  t21 := Tryz.underlying21
  a21 := Tryz.isAgg21
  z21 := Tryz.sizeOf21
  v21 := Tryz.zeroValue21
  t31 := Tryz.underlying138
  a31 := Tryz.isAgg138
  z31 := Tryz.sizeOf138
  v31 := Tryz.zeroValue138
  t40 := Tryz.underlying206
  a40 := Tryz.isAgg206
  z40 := Tryz.sizeOf206
  v40 := Tryz.zeroValue206
  t152 := Tryz.underlying221
  a152 := Tryz.isAgg221
  z152 := Tryz.sizeOf221
  v152 := Tryz.zeroValue221
  t154 := Tryz.underlying223
  a154 := Tryz.isAgg223
  z154 := Tryz.sizeOf223
  v154 := Tryz.zeroValue223 }
open Go.RowKit Go.Lib in
/-- .. over a hand of the authors' house's premise as it stands. (LAID: no walk: one application.) -/
theorem Tryz.strings_FieldsFunc (g : Nat) (lb : Array Value) (eg : ∀ args w, (callFunc g args).run Tryz.prog w = .ok (.enter g args) w) (p : Nat → Bool) (s : ByteArray) (w : World) (hs : s.size ≤ 4294967296) (hp : PredAt Tryz.prog g lb encR p w) :
    Calls Tryz.prog 117 #[.string s, .func (.func g) #[] lb] w fun e w' => ∃ A, e = .returned (.slice (some ⟨A, 0, none⟩) (Lib.goFieldsP p s).length (Lib.goFieldsP p s).length) ∧ w.heap.size ≤ A ∧
      w'.ownsRow w.heap.size 9 1 (.slice (some ⟨A, 0, none⟩) (Lib.goFieldsP p s).length (Lib.goFieldsP p s).length) (Lib.goFieldsP p s).length ((Lib.goFieldsP p s).map Value.string) ∧ Below w.heap.size w w' := Any.strings_FieldsFunc Tryz.lays229 g lb eg p s w hs hp (by kernel_rfl) (by kernel_rfl)
def Tryz.laysNm220_ren : Go.Shelf.Ren := ⟨fun | 20 => 146 | n => n, fun | 22 => 22 | 3 => 3 | 4 => 4 | 0 => 0 | n => n, fun | n => n⟩
theorem Tryz.laysNm220 : Go.Proofs.Lays2.n20 Tryz.prog Tryz.laysNm220_ren := {
  mixed := by kernel_rfl
  f20 := Tryz.func146.trans (congrArg some (by kernel_rfl))
  t0 := Tryz.underlying0
  a0 := Tryz.isAgg0
  z0 := Tryz.sizeOf0
  v0 := Tryz.zeroValue0
  t3 := Tryz.underlying3
  a3 := Tryz.isAgg3
  z3 := Tryz.sizeOf3
  v3 := Tryz.zeroValue3
  t4 := Tryz.underlying4
  a4 := Tryz.isAgg4
  z4 := Tryz.sizeOf4
  v4 := Tryz.zeroValue4
  t22 := Tryz.underlying22
  a22 := Tryz.isAgg22
  z22 := Tryz.sizeOf22
  v22 := Tryz.zeroValue22
  i3 := by kernel_rfl }
open Go.RowKit Go.Lib Go.Sort in
/-- slices.Compact at []int: IT RETURNS THE SLICE CUT TO 'Lib.compact zs'; ITS CELLS HOLD 'Lib.compact zs', THEN ZERO VALUES up to the old length; all else is as it was, but for the count of draws. IN THE WORDS OF slices.Sort's CONTRACT ('Holds', 'putRow'): so the everyday 'slices.Sort(xs); xs = slices.Compact(xs)' goes from the one contract to the other. It asks 'zs.length ≤ cap' (every slice's: the reslicing 's[:k]' looks at it). Length 0, nil: '.._empty'. (LAID: no walk: one application.) -/
theorem Tryz.slices_Compact_int (blk off cap : Nat) (zs : List Int) (w : World) (hH : Holds (Value.int .i64) w blk off zs.toArray) (hsz : zs.length ≤ 9223372036854775807) (hcap : zs.length ≤ cap) :
    Calls Tryz.prog 146 #[.slice (some ⟨blk, off, none⟩) zs.length cap] w fun e w' => e = .returned (.slice (some ⟨blk, off, none⟩) (Lib.compact zs).length cap) ∧ ∃ q, w' = putRow (Value.int .i64) (Sort.ahead w q) blk off (Lib.compact zs ++ List.replicate (zs.length - (Lib.compact zs).length) 0).toArray := Any.slices_Compact_int Tryz.laysNm220 blk off cap zs w hH hsz hcap
open Go.RowKit Go.Lib Go.Sort in
/-- slices.Compact at []int, of an argument: the slice cut to 'Lib.compact (elements)'; the n cells hold that, then zeros. (LAID: no walk: one application.) -/
theorem Tryz.slices_Compact_int_cells (b off n c : Nat) (zs : List Int) (w : World) (hz : n ≤ zs.length) (hbig : n ≤ 9223372036854775807) (hcap : n ≤ c) (hc : ∀ j, j < zs.length → w.cell? ⟨b, off + j, none⟩ = some (.int .i64 (zs.getD j 0))) (hf : ∀ j, j < n → w.frozen? ⟨b, off + j, none⟩ = false) :
    Calls Tryz.prog 146 #[.slice (some ⟨b, off, none⟩) n c] w fun e w' => e = .returned (.slice (some ⟨b, off, none⟩) (Lib.compact (zs.take n)).length c) ∧ ∃ q, w' = (w.drewN q).setCells b off ((Lib.compact (zs.take n) ++ List.replicate (n - (Lib.compact (zs.take n)).length) 0).map (Value.int .i64)) := Any.slices_Compact_int_cells Tryz.laysNm220 b off n c zs w hz hbig hcap hc hf
end Go.Proofs
