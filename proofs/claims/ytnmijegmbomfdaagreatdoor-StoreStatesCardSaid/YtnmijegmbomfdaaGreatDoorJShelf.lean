/- The shelf of contracts laid at this dump (printed by the kit), as far as it is needed. -/
import Derived.Shelf.Strings.Builder1
import Derived.Shelf.Strings.Builder2
import Derived.Shelf.Strings.Trim
import Derived.Shelf.Small.Utf8
import Derived.Shelf.Small.Bits
import Derived.Shelf.Small.Strs
import Derived.Shelf.Small.Wraps
import Derived.Shelf.Strings.BuilderF
import Derived.Shelf.Strings.BuilderK
import Derived.Shelf.Strings.Builder2Cap
import Derived.Shelf.Strconv.Itoa0
import Derived.Shelf.Strings.Search1
import Derived.Shelf.Sort.Plain
import Derived.Shelf.Strings.Prefix
import Derived.Shelf.Strings.Runes
import Derived.Shelf.Strings.AsciiSet
import Derived.Shelf.Bits.Mul64
import Derived.Shelf.Strings.Repeat
import Derived.Shelf.Unicode.DecodeSlow
import Derived.Shelf.Unicode.DecodeAny
import Derived.Shelf.Unicode.ValidAny
import Derived.Shelf.Strings.BuilderCap
import Derived.Ground.Names2Prog
import Derived.Shelf.Slices.Clone
import Derived.Shelf.Slices.In.SortNone
import Derived.Ground.SlsfProg
import Derived.Shelf.SlSortCmp.Insertion
import Derived.Shelf.SlSortCmp.Insertion1
import Derived.Shelf.SlSortCmp.Median1
import Derived.Test.YtnmijegmbomfdaaGreatDoorProg
namespace Go.Proofs
open Go.Shelf
def Tryz.lays160_ren : Go.Shelf.Ren := ⟨fun | 160 => 183 | 232 => 200 | 231 => 199 | 227 => 201 | 234 => 203 | 233 => 202 | 236 => 205 | 235 => 204 | 228 => 213 | 271 => 216 | 151 => 215 | 197 => 214 | 120 => 228 | 152 => 227 | 260 => 226 | 137 => 232 | 119 => 233 | 224 => 234 | 225 => 235 | 217 => 237 | 266 => 238 | n => n, fun | 9 => 9 | 4 => 4 | 3 => 3 | 5 => 5 | 117 => 230 | 116 => 229 | 0 => 0 | 124 => 233 | 21 => 21 | 105 => 242 | 46 => 174 | 119 => 256 | 139 => 259 | 138 => 258 | n => n, fun | 3 => 1 | 4 => 2 | n => n⟩
theorem Tryz.lays160 : Go.Proofs.Lays.n160 Tryz.prog Tryz.lays160_ren := {
  mixed := by kernel_rfl
  f119 := Tryz.func233.trans (congrArg some (by kernel_rfl))
  f120 := Tryz.func228.trans (congrArg some (by kernel_rfl))
  f137 := Tryz.func232.trans (congrArg some (by kernel_rfl))
  f151 := Tryz.func215.trans (congrArg some (by kernel_rfl))
  f152 := Tryz.func227.trans (congrArg some (by kernel_rfl))
  f160 := Tryz.func183.trans (congrArg some (by kernel_rfl))
  f197 := Tryz.func214.trans (congrArg some (by kernel_rfl))
  f217 := Tryz.func237.trans (congrArg some (by kernel_rfl))
  f224 := Tryz.func234.trans (congrArg some (by kernel_rfl))
  f225 := Tryz.func235.trans (congrArg some (by kernel_rfl))
  f227 := Tryz.func201.trans (congrArg some (by kernel_rfl))
  f228 := Tryz.func213.trans (congrArg some (by kernel_rfl))
  f231 := Tryz.func199.trans (congrArg some (by kernel_rfl))
  f232 := Tryz.func200.trans (congrArg some (by kernel_rfl))
  f233 := Tryz.func202.trans (congrArg some (by kernel_rfl))
  f234 := Tryz.func203.trans (congrArg some (by kernel_rfl))
  f235 := Tryz.func204.trans (congrArg some (by kernel_rfl))
  f236 := Tryz.func205.trans (congrArg some (by kernel_rfl))
  f260 := Tryz.func226.trans (congrArg some (by kernel_rfl))
  f266 := Tryz.func238.trans (congrArg some (by kernel_rfl))
  f271 := Tryz.func216.trans (congrArg some (by kernel_rfl))
  t0 := Tryz.underlying0
  a0 := Tryz.isAgg0
  z0 := Tryz.sizeOf0
  v0 := Tryz.zeroValue0
  t3 := Tryz.underlying3
  a3 := Tryz.isAgg3
  z3 := Tryz.sizeOf3
  v3 := Tryz.zeroValue3
  t4 := Tryz.underlying4
  a4 := Tryz.isAgg4
  z4 := Tryz.sizeOf4
  v4 := Tryz.zeroValue4
  t5 := Tryz.underlying5
  a5 := Tryz.isAgg5
  z5 := Tryz.sizeOf5
  v5 := Tryz.zeroValue5
  t9 := Tryz.underlying9
  a9 := Tryz.isAgg9
  z9 := Tryz.sizeOf9
  v9 := Tryz.zeroValue9
  t21 := Tryz.underlying21
  a21 := Tryz.isAgg21
  z21 := Tryz.sizeOf21
  v21 := Tryz.zeroValue21
  t46 := Tryz.underlying174
  a46 := Tryz.isAgg174
  z46 := Tryz.sizeOf174
  v46 := Tryz.zeroValue174
  t105 := Tryz.underlying242
  a105 := Tryz.isAgg242
  z105 := Tryz.sizeOf242
  v105 := Tryz.zeroValue242
  t116 := Tryz.underlying229
  a116 := Tryz.isAgg229
  z116 := Tryz.sizeOf229
  t117 := Tryz.underlying230
  a117 := Tryz.isAgg230
  z117 := Tryz.sizeOf230
  v117 := Tryz.zeroValue230
  t119 := Tryz.underlying256
  a119 := Tryz.isAgg256
  z119 := Tryz.sizeOf256
  t124 := Tryz.underlying233
  a124 := Tryz.isAgg233
  z124 := Tryz.sizeOf233
  v124 := Tryz.zeroValue233
  t138 := Tryz.underlying258
  a138 := Tryz.isAgg258
  z138 := Tryz.sizeOf258
  v138 := Tryz.zeroValue258
  t139 := Tryz.underlying259
  a139 := Tryz.isAgg259
  z139 := Tryz.sizeOf259
  v139 := Tryz.zeroValue259
  g3 := by kernel_rfl
  g4 := by kernel_rfl }
open Go.RowKit in
theorem Tryz.strings_Trim_one (s : ByteArray) (c : UInt8) (hc : c.toNat < 128) (w : World) (hs : s.size ≤ 9223372036854775807) :
    Calls Tryz.prog 183 #[.string s, .string ⟨#[c]⟩] w fun e w' => e = .returned (.string ⟨(Lib.trimB s.data.toList c).toArray⟩) ∧ (w' = w ∨ w' = w.drew) := Any.strings_Trim_one Tryz.lays160 s c hc w hs
def Tryz.lays189_ren : Go.Shelf.Ren := ⟨fun | 189 => 155 | 125 => 179 | 257 => 178 | 128 => 196 | 129 => 197 | 294 => 187 | 295 => 188 | 296 => 189 | 297 => 190 | 298 => 191 | 299 => 192 | 216 => 193 | 300 => 194 | 301 => 195 | 328 => 207 | 329 => 208 | 330 => 209 | 331 => 210 | 332 => 211 | 215 => 212 | 343 => 225 | n => n, fun | 28 => 155 | 3 => 3 | 46 => 174 | 0 => 0 | 51 => 148 | 53 => 99 | 4 => 4 | 183 => 220 | 182 => 219 | 131 => 108 | 5 => 5 | 9 => 9 | 218 => 235 | 222 => 239 | 228 => 250 | 229 => 251 | n => n, fun | n => n⟩
theorem Tryz.lays189 : Go.Proofs.Lays.n189 Tryz.prog Tryz.lays189_ren := {
  mixed := by kernel_rfl
  f125 := Tryz.func179.trans (congrArg some (by kernel_rfl))
  f128 := Tryz.func196.trans (congrArg some (by kernel_rfl))
  f129 := Tryz.func197.trans (congrArg some (by kernel_rfl))
  f189 := Tryz.func155.trans (congrArg some (by kernel_rfl))
  f215 := Tryz.func212.trans (congrArg some (by kernel_rfl))
  f216 := Tryz.func193.trans (congrArg some (by kernel_rfl))
  f257 := Tryz.func178.trans (congrArg some (by kernel_rfl))
  f294 := Tryz.func187.trans (congrArg some (by kernel_rfl))
  f295 := Tryz.func188.trans (congrArg some (by kernel_rfl))
  f296 := Tryz.func189.trans (congrArg some (by kernel_rfl))
  f297 := Tryz.func190.trans (congrArg some (by kernel_rfl))
  f298 := Tryz.func191.trans (congrArg some (by kernel_rfl))
  f299 := Tryz.func192.trans (congrArg some (by kernel_rfl))
  f300 := Tryz.func194.trans (congrArg some (by kernel_rfl))
  f301 := Tryz.func195.trans (congrArg some (by kernel_rfl))
  f328 := Tryz.func207.trans (congrArg some (by kernel_rfl))
  f329 := Tryz.func208.trans (congrArg some (by kernel_rfl))
  f330 := Tryz.func209.trans (congrArg some (by kernel_rfl))
  f331 := Tryz.func210.trans (congrArg some (by kernel_rfl))
  f332 := Tryz.func211.trans (congrArg some (by kernel_rfl))
  f343 := Tryz.func225.trans (congrArg some (by kernel_rfl))
  t0 := Tryz.underlying0
  a0 := Tryz.isAgg0
  z0 := Tryz.sizeOf0
  v0 := Tryz.zeroValue0
  t3 := Tryz.underlying3
  a3 := Tryz.isAgg3
  z3 := Tryz.sizeOf3
  v3 := Tryz.zeroValue3
  t4 := Tryz.underlying4
  a4 := Tryz.isAgg4
  z4 := Tryz.sizeOf4
  v4 := Tryz.zeroValue4
  t5 := Tryz.underlying5
  a5 := Tryz.isAgg5
  z5 := Tryz.sizeOf5
  v5 := Tryz.zeroValue5
  t9 := Tryz.underlying9
  a9 := Tryz.isAgg9
  z9 := Tryz.sizeOf9
  v9 := Tryz.zeroValue9
  t28 := Tryz.underlying155
  a28 := Tryz.isAgg155
  z28 := Tryz.sizeOf155
  v28 := Tryz.zeroValue155
  t46 := Tryz.underlying174
  a46 := Tryz.isAgg174
  z46 := Tryz.sizeOf174
  v46 := Tryz.zeroValue174
  t51 := Tryz.underlying148
  a51 := Tryz.isAgg148
  z51 := Tryz.sizeOf148
  v51 := Tryz.zeroValue148
  t53 := Tryz.underlying99
  a53 := Tryz.isAgg99
  z53 := Tryz.sizeOf99
  v53 := Tryz.zeroValue99
  t131 := Tryz.underlying108
  a131 := Tryz.isAgg108
  z131 := Tryz.sizeOf108
  v131 := Tryz.zeroValue108
  t182 := Tryz.underlying219
  a182 := Tryz.isAgg219
  z182 := Tryz.sizeOf219
  v182 := Tryz.zeroValue219
  t183 := Tryz.underlying220
  a183 := Tryz.isAgg220
  z183 := Tryz.sizeOf220
  v183 := Tryz.zeroValue220
  t218 := Tryz.underlying235
  a218 := Tryz.isAgg235
  z218 := Tryz.sizeOf235
  v218 := Tryz.zeroValue235
  t222 := Tryz.underlying239
  a222 := Tryz.isAgg239
  z222 := Tryz.sizeOf239
  v222 := Tryz.zeroValue239
  t228 := Tryz.underlying250
  a228 := Tryz.isAgg250
  z228 := Tryz.sizeOf250
  v228 := Tryz.zeroValue250
  t229 := Tryz.underlying251
  a229 := Tryz.isAgg251
  z229 := Tryz.sizeOf251
  v229 := Tryz.zeroValue251 }
open Go.Sort Go.RowKit in
theorem Tryz.slices_Sort_int (blk off cap : Nat) (zs : List Int) (w : World) (hH : Holds (Value.int .i64) w blk off zs.toArray) (hblk : blk < w.heap.size) (hsz : zs.length < 4611686018427387904) :
    Calls Tryz.prog 155 #[.slice (some ⟨blk, off, none⟩) zs.length cap] w fun e w' =>
      e = .returned (.tuple #[]) ∧ ∃ n os, w' = grow (putRow (Value.int .i64) (Sort.ahead w n) blk off (zs.mergeSort fun x y => decide (x ≤ y)).toArray) os := Any.slices_Sort_int Tryz.lays189 blk off cap zs w hH hblk hsz
def Tryz.lays99_ren : Go.Shelf.Ren := ⟨fun | 99 => 144 | 206 => 171 | n => n, fun | 9 => 9 | 4 => 4 | 3 => 3 | n => n, fun | n => n⟩
theorem Tryz.lays99 : Go.Proofs.Lays.n99 Tryz.prog Tryz.lays99_ren := {
  mixed := by kernel_rfl
  f99 := Tryz.func144.trans (congrArg some (by kernel_rfl))
  f206 := Tryz.func171.trans (congrArg some (by kernel_rfl))
  t3 := Tryz.underlying3
  a3 := Tryz.isAgg3
  z3 := Tryz.sizeOf3
  v3 := Tryz.zeroValue3
  t4 := Tryz.underlying4
  a4 := Tryz.isAgg4
  z4 := Tryz.sizeOf4
  v4 := Tryz.zeroValue4
  t9 := Tryz.underlying9
  a9 := Tryz.isAgg9
  z9 := Tryz.sizeOf9
  v9 := Tryz.zeroValue9 }
open Go.RowKit Go.Lib in
theorem Tryz.strings_HasPrefix (s p : ByteArray) (w : World) :
    Calls Tryz.prog 144 #[.string s, .string p] w fun e w' => e = .returned (.bool (Lib.hasPrefix s.data.toList p.data.toList)) ∧ w' = w := Any.strings_HasPrefix Tryz.lays99 s p w
def Tryz.lays100_ren : Go.Shelf.Ren := ⟨fun | 100 => 182 | 207 => 198 | n => n, fun | 9 => 9 | 4 => 4 | 3 => 3 | n => n, fun | n => n⟩
theorem Tryz.lays100 : Go.Proofs.Lays.n100 Tryz.prog Tryz.lays100_ren := {
  mixed := by kernel_rfl
  f100 := Tryz.func182.trans (congrArg some (by kernel_rfl))
  f207 := Tryz.func198.trans (congrArg some (by kernel_rfl))
  t3 := Tryz.underlying3
  a3 := Tryz.isAgg3
  z3 := Tryz.sizeOf3
  v3 := Tryz.zeroValue3
  t4 := Tryz.underlying4
  a4 := Tryz.isAgg4
  z4 := Tryz.sizeOf4
  v4 := Tryz.zeroValue4
  t9 := Tryz.underlying9
  a9 := Tryz.isAgg9
  z9 := Tryz.sizeOf9
  v9 := Tryz.zeroValue9 }
open Go.RowKit Go.Lib in
theorem Tryz.strings_HasSuffix (s p : ByteArray) (w : World) (hs : s.size ≤ 9223372036854775807) :
    Calls Tryz.prog 182 #[.string s, .string p] w fun e w' => e = .returned (.bool (Lib.hasSuffix s.data.toList p.data.toList)) ∧ w' = w := Any.strings_HasSuffix Tryz.lays100 s p w hs
def Tryz.lays105_ren : Go.Shelf.Ren := ⟨fun | 105 => 101 | 212 => 143 | 99 => 144 | 165 => 145 | 166 => 146 | 170 => 147 | 169 => 148 | 263 => 169 | 264 => 170 | 206 => 171 | 240 => 172 | 241 => 173 | 276 => 184 | 277 => 185 | n => n, fun | 9 => 9 | 3 => 3 | 4 => 4 | 20 => 20 | 0 => 0 | 46 => 174 | 109 => 177 | 5 => 5 | 72 => 182 | 76 => 185 | 51 => 148 | 146 => 202 | 53 => 99 | 148 => 204 | 70 => 180 | 37 => 86 | 75 => 184 | 127 => 206 | 164 => 214 | 80 => 116 | n => n, fun | n => n⟩
theorem Tryz.lays105 : Go.Proofs.Lays.n105 Tryz.prog Tryz.lays105_ren := {
  mixed := by kernel_rfl
  f99 := Tryz.func144.trans (congrArg some (by kernel_rfl))
  f105 := Tryz.func101.trans (congrArg some (by kernel_rfl))
  f165 := Tryz.func145.trans (congrArg some (by kernel_rfl))
  f166 := Tryz.func146.trans (congrArg some (by kernel_rfl))
  f169 := Tryz.func148.trans (congrArg some (by kernel_rfl))
  f170 := Tryz.func147.trans (congrArg some (by kernel_rfl))
  f206 := Tryz.func171.trans (congrArg some (by kernel_rfl))
  f212 := Tryz.func143.trans (congrArg some (by kernel_rfl))
  f240 := Tryz.func172.trans (congrArg some (by kernel_rfl))
  f241 := Tryz.func173.trans (congrArg some (by kernel_rfl))
  f263 := Tryz.func169.trans (congrArg some (by kernel_rfl))
  f264 := Tryz.func170.trans (congrArg some (by kernel_rfl))
  f276 := Tryz.func184.trans (congrArg some (by kernel_rfl))
  f277 := Tryz.func185.trans (congrArg some (by kernel_rfl))
  t0 := Tryz.underlying0
  a0 := Tryz.isAgg0
  z0 := Tryz.sizeOf0
  v0 := Tryz.zeroValue0
  t3 := Tryz.underlying3
  a3 := Tryz.isAgg3
  z3 := Tryz.sizeOf3
  v3 := Tryz.zeroValue3
  t4 := Tryz.underlying4
  a4 := Tryz.isAgg4
  z4 := Tryz.sizeOf4
  v4 := Tryz.zeroValue4
  t5 := Tryz.underlying5
  a5 := Tryz.isAgg5
  z5 := Tryz.sizeOf5
  v5 := Tryz.zeroValue5
  t9 := Tryz.underlying9
  a9 := Tryz.isAgg9
  z9 := Tryz.sizeOf9
  v9 := Tryz.zeroValue9
  t20 := Tryz.underlying20
  a20 := Tryz.isAgg20
  z20 := Tryz.sizeOf20
  v20 := Tryz.zeroValue20
  t37 := Tryz.underlying86
  a37 := Tryz.isAgg86
  z37 := Tryz.sizeOf86
  v37 := Tryz.zeroValue86
  t46 := Tryz.underlying174
  a46 := Tryz.isAgg174
  z46 := Tryz.sizeOf174
  v46 := Tryz.zeroValue174
  t51 := Tryz.underlying148
  a51 := Tryz.isAgg148
  z51 := Tryz.sizeOf148
  v51 := Tryz.zeroValue148
  t53 := Tryz.underlying99
  a53 := Tryz.isAgg99
  z53 := Tryz.sizeOf99
  v53 := Tryz.zeroValue99
  t70 := Tryz.underlying180
  a70 := Tryz.isAgg180
  z70 := Tryz.sizeOf180
  v70 := Tryz.zeroValue180
  t72 := Tryz.underlying182
  a72 := Tryz.isAgg182
  z72 := Tryz.sizeOf182
  v72 := Tryz.zeroValue182
  t75 := Tryz.underlying184
  a75 := Tryz.isAgg184
  z75 := Tryz.sizeOf184
  v75 := Tryz.zeroValue184
  t76 := Tryz.underlying185
  a76 := Tryz.isAgg185
  z76 := Tryz.sizeOf185
  v76 := Tryz.zeroValue185
  t109 := Tryz.underlying177
  a109 := Tryz.isAgg177
  z109 := Tryz.sizeOf177
  v109 := Tryz.zeroValue177
  t127 := Tryz.underlying206
  a127 := Tryz.isAgg206
  z127 := Tryz.sizeOf206
  v127 := Tryz.zeroValue206
  t146 := Tryz.underlying202
  a146 := Tryz.isAgg202
  z146 := Tryz.sizeOf202
  v146 := Tryz.zeroValue202
  t148 := Tryz.underlying204
  a148 := Tryz.isAgg204
  z148 := Tryz.sizeOf204
  v148 := Tryz.zeroValue204
  t164 := Tryz.underlying214
  a164 := Tryz.isAgg214
  z164 := Tryz.sizeOf214
  v164 := Tryz.zeroValue214 }
theorem Tryz.Builder_Extra_105 : Builder.Extra Tryz.prog Tryz.lays105_ren := {
  sizeBuilder := by kernel_rfl
  liesBuilder := by kernel_rfl
  t5 := Tryz.underlying5
  a5 := Tryz.isAgg5
  z5 := Tryz.sizeOf5
  v5 := Tryz.zeroValue5
  infoByte := by kernel_rfl
  cellsByte := by kernel_rfl
  sizeByte := by kernel_rfl
  neB5 := by decide }
open Go.RowKit Go.Lib in
theorem Tryz.strings_Repeat_main (s : ByteArray) (c : Nat) (w : World) (hc2 : 2 ≤ c) (hc : c ≤ 9223372036854775807) (hlen : s.size * c ≤ 140737488355328) (h0 : 0 < s.size) :
    Calls Tryz.prog 101 #[.string s, .int .i64 c] w fun e w' => e = .returned (.string ⟨(Lib.repeatL s.data.toList c).toArray⟩) ∧ Below w.heap.size w w' := Any.strings_Repeat_main Tryz.lays105 Tryz.Builder_Extra_105 s c w hc2 hc hlen h0
def Tryz.laysNm216_ren : Go.Shelf.Ren := ⟨fun | 16 => 79 | n => n, fun | 24 => 70 | 9 => 9 | 4 => 4 | n => n, fun | n => n⟩
theorem Tryz.laysNm216 : Go.Proofs.Lays2.n16 Tryz.prog Tryz.laysNm216_ren := {
  mixed := by kernel_rfl
  f16 := Tryz.func79.trans (congrArg some (by kernel_rfl))
  t4 := Tryz.underlying4
  a4 := Tryz.isAgg4
  z4 := Tryz.sizeOf4
  v4 := Tryz.zeroValue4
  t9 := Tryz.underlying9
  a9 := Tryz.isAgg9
  z9 := Tryz.sizeOf9
  v9 := Tryz.zeroValue9
  t24 := Tryz.underlying70
  a24 := Tryz.isAgg70
  z24 := Tryz.sizeOf70
  v24 := Tryz.zeroValue70
  i9 := by kernel_rfl }
open Go.RowKit Go.Lib in
theorem Tryz.slices_Clone_string (b off n c : Nat) (zs : List ByteArray) (w : World) (hz : n ≤ zs.length) (hbig : n * 16 ≤ 140737488355328) (hc : ∀ j, j < zs.length → w.cell? ⟨b, off + j, none⟩ = some (.string (zs.getD j ByteArray.empty))) :
    Calls Tryz.prog 79 #[.slice (some ⟨b, off, none⟩) n c] w fun e w' => ∃ v', e = .returned v' ∧ w'.ownsRow w.heap.size 9 1 v' n ((zs.take n).map (Value.string)) ∧ v' ≠ .slice none 0 0 ∧ Below w.heap.size w w' := Any.slices_Clone_string Tryz.laysNm216 b off n c zs w hz hbig hc
open Go.RowKit Go.Sort in
theorem Tryz.slices_Sort_int_none (p : Option Addr) (cap : Nat) (w : World) :
    Calls Tryz.prog 155 #[.slice p 0 cap] w fun e w' => e = .returned (.tuple #[]) ∧ w' = w := Any.slices_Sort_int_none Tryz.lays189 p cap w
end Go.Proofs
