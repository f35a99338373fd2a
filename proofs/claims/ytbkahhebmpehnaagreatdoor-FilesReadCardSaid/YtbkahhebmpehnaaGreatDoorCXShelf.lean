/- The shelf of contracts laid at this dump (printed by the kit), as far as it is needed. -/
import Derived.Shelf.Strings.Builder1
import Derived.Shelf.Strings.Builder2
import Derived.Shelf.Strings.Trim
import Derived.Shelf.Small.Utf8
import Derived.Shelf.Small.Bits
import Derived.Shelf.Small.Strs
import Derived.Shelf.Small.Wraps
import Derived.Shelf.Strings.BuilderF
import Derived.Shelf.Strings.BuilderK
import Derived.Shelf.Strings.Builder2Cap
import Derived.Shelf.Strconv.Itoa0
import Derived.Shelf.Strings.Search1
import Derived.Shelf.Sort.Plain
import Derived.Shelf.Strings.Prefix
import Derived.Shelf.Strings.Runes
import Derived.Shelf.Strings.AsciiSet
import Derived.Shelf.Bits.Mul64
import Derived.Shelf.Strings.Repeat
import Derived.Shelf.Unicode.DecodeSlow
import Derived.Shelf.Unicode.DecodeAny
import Derived.Shelf.Strings.BuilderCap
import Derived.Ground.Names2Prog
import Derived.Shelf.Slices.Clone
import Derived.Shelf.Slices.SearchI
import Derived.Shelf.Slices.In.SortNone
import Derived.Ground.SlgnProg
import Derived.Shelf.SlicesE.Clone
import Derived.Ground.SlsfProg
import Derived.Shelf.SlSortCmp.Insertion
import Derived.Shelf.SlSortCmp.SiftDown1
import Derived.Shelf.SlSortCmp.HeapSort1
import Derived.Shelf.SlSortCmp.Insertion1
import Derived.Shelf.SlSortCmp.Median1
import Derived.Shelf.SlSortCmp.Pivot1
import Derived.Shelf.SlSortCmp.ReverseRange1
import Derived.Shelf.SlSortCmp.PartialInsertion1
import Derived.Shelf.SlSortCmp.PartitionEqual1
import Derived.Shelf.SlSortCmp.Partition1
import Derived.Shelf.SlSortCmp.Pdq1
import Derived.Shelf.SlSortCmp.Whole1
import Derived.Test.YtbkahhebmpehnaaGreatDoorProg
namespace Go.Proofs
open Go.Shelf
def Tryz.lays160_ren:Go.Shelf.Ren:=⟨fun|160=>67|232=>123|231=>122|227=>124|234=>126|233=>125|236=>128|235=>127|228=>192|271=>195|151=>194|197=>193|120=>251|152=>250|260=>249|137=>275|119=>276|224=>277|225=>278|217=>287|266=>299|n=>n,fun|9=>9|4=>4|3=>3|5=>5|117=>193|116=>192|0=>0|124=>196|21=>21|105=>249|46=>205|119=>319|139=>322|138=>321|n=>n,fun|3=>0|4=>1|n=>n⟩
theorem Tryz.lays160:Go.Proofs.Lays.n160 Tryz.prog Tryz.lays160_ren:={
 mixed:=by kernel_rfl
 f119:=Tryz.func276.trans (congrArg some (by kernel_rfl))
 f120:=Tryz.func251.trans (congrArg some (by kernel_rfl))
 f137:=Tryz.func275.trans (congrArg some (by kernel_rfl))
 f151:=Tryz.func194.trans (congrArg some (by kernel_rfl))
 f152:=Tryz.func250.trans (congrArg some (by kernel_rfl))
 f160:=Tryz.func67.trans (congrArg some (by kernel_rfl))
 f197:=Tryz.func193.trans (congrArg some (by kernel_rfl))
 f217:=Tryz.func287.trans (congrArg some (by kernel_rfl))
 f224:=Tryz.func277.trans (congrArg some (by kernel_rfl))
 f225:=Tryz.func278.trans (congrArg some (by kernel_rfl))
 f227:=Tryz.func124.trans (congrArg some (by kernel_rfl))
 f228:=Tryz.func192.trans (congrArg some (by kernel_rfl))
 f231:=Tryz.func122.trans (congrArg some (by kernel_rfl))
 f232:=Tryz.func123.trans (congrArg some (by kernel_rfl))
 f233:=Tryz.func125.trans (congrArg some (by kernel_rfl))
 f234:=Tryz.func126.trans (congrArg some (by kernel_rfl))
 f235:=Tryz.func127.trans (congrArg some (by kernel_rfl))
 f236:=Tryz.func128.trans (congrArg some (by kernel_rfl))
 f260:=Tryz.func249.trans (congrArg some (by kernel_rfl))
 f266:=Tryz.func299.trans (congrArg some (by kernel_rfl))
 f271:=Tryz.func195.trans (congrArg some (by kernel_rfl))
 t0:=Tryz.underlying0
 a0:=Tryz.isAgg0
 z0:=Tryz.sizeOf0
 v0:=Tryz.zeroValue0
 t3:=Tryz.underlying3
 a3:=Tryz.isAgg3
 z3:=Tryz.sizeOf3
 v3:=Tryz.zeroValue3
 t4:=Tryz.underlying4
 a4:=Tryz.isAgg4
 z4:=Tryz.sizeOf4
 v4:=Tryz.zeroValue4
 t5:=Tryz.underlying5
 a5:=Tryz.isAgg5
 z5:=Tryz.sizeOf5
 v5:=Tryz.zeroValue5
 t9:=Tryz.underlying9
 a9:=Tryz.isAgg9
 z9:=Tryz.sizeOf9
 v9:=Tryz.zeroValue9
 t21:=Tryz.underlying21
 a21:=Tryz.isAgg21
 z21:=Tryz.sizeOf21
 v21:=Tryz.zeroValue21
 t46:=Tryz.underlying205
 a46:=Tryz.isAgg205
 z46:=Tryz.sizeOf205
 v46:=Tryz.zeroValue205
 t105:=Tryz.underlying249
 a105:=Tryz.isAgg249
 z105:=Tryz.sizeOf249
 v105:=Tryz.zeroValue249
 t116:=Tryz.underlying192
 a116:=Tryz.isAgg192
 z116:=Tryz.sizeOf192
 t117:=Tryz.underlying193
 a117:=Tryz.isAgg193
 z117:=Tryz.sizeOf193
 v117:=Tryz.zeroValue193
 t119:=Tryz.underlying319
 a119:=Tryz.isAgg319
 z119:=Tryz.sizeOf319
 t124:=Tryz.underlying196
 a124:=Tryz.isAgg196
 z124:=Tryz.sizeOf196
 v124:=Tryz.zeroValue196
 t138:=Tryz.underlying321
 a138:=Tryz.isAgg321
 z138:=Tryz.sizeOf321
 v138:=Tryz.zeroValue321
 t139:=Tryz.underlying322
 a139:=Tryz.isAgg322
 z139:=Tryz.sizeOf322
 v139:=Tryz.zeroValue322
 g3:=by kernel_rfl
 g4:=by kernel_rfl }
open Go.RowKit in
theorem Tryz.strings_Trim_one(s:ByteArray)(c:UInt8)(hc:c.toNat<128)(w:World)(hs:s.size≤9223372036854775807):
  Calls Tryz.prog 67 #[.string s,.string ⟨#[c]⟩] w fun e w'=>e=.returned (.string ⟨(Lib.trimB s.data.toList c).toArray⟩)∧(w'=w∨w'=w.drew):=Any.strings_Trim_one Tryz.lays160 s c hc w hs
def Tryz.lays125_ren:Go.Shelf.Ren:=⟨fun|125=>163|128=>236|129=>237|n=>n,fun|46=>205|3=>3|51=>185|53=>170|4=>4|5=>5|9=>9|n=>n,fun|n=>n⟩
theorem Tryz.lays125:Go.Proofs.Lays.n125 Tryz.prog Tryz.lays125_ren:={
 mixed:=by kernel_rfl
 f125:=Tryz.func163.trans (congrArg some (by kernel_rfl))
 f128:=Tryz.func236.trans (congrArg some (by kernel_rfl))
 f129:=Tryz.func237.trans (congrArg some (by kernel_rfl))
 t3:=Tryz.underlying3
 a3:=Tryz.isAgg3
 z3:=Tryz.sizeOf3
 v3:=Tryz.zeroValue3
 t4:=Tryz.underlying4
 a4:=Tryz.isAgg4
 z4:=Tryz.sizeOf4
 v4:=Tryz.zeroValue4
 t5:=Tryz.underlying5
 a5:=Tryz.isAgg5
 z5:=Tryz.sizeOf5
 v5:=Tryz.zeroValue5
 t9:=Tryz.underlying9
 a9:=Tryz.isAgg9
 z9:=Tryz.sizeOf9
 v9:=Tryz.zeroValue9
 t46:=Tryz.underlying205
 a46:=Tryz.isAgg205
 z46:=Tryz.sizeOf205
 v46:=Tryz.zeroValue205
 t51:=Tryz.underlying185
 a51:=Tryz.isAgg185
 z51:=Tryz.sizeOf185
 v51:=Tryz.zeroValue185
 t53:=Tryz.underlying170
 a53:=Tryz.isAgg170
 z53:=Tryz.sizeOf170
 v53:=Tryz.zeroValue170 }
theorem Tryz.bits_Len(x:Int)(w:World)(h0:0≤x)(h1:x≤18446744073709551615):
  Calls Tryz.prog 163 #[.int .u64 x] w fun e w'=>e=.returned (.int .i64 (Lib.bitLen x.toNat))∧w'=w:=Any.bits_Len Tryz.lays125 x w h0 h1
def Tryz.lays103_ren:Go.Shelf.Ren:=⟨fun|103=>156|210=>223|206=>215|n=>n,fun|9=>9|4=>4|24=>117|3=>3|n=>n,fun|n=>n⟩
theorem Tryz.lays103:Go.Proofs.Lays.n103 Tryz.prog Tryz.lays103_ren:={
 mixed:=by kernel_rfl
 f103:=Tryz.func156.trans (congrArg some (by kernel_rfl))
 f206:=Tryz.func215.trans (congrArg some (by kernel_rfl))
 f210:=Tryz.func223.trans (congrArg some (by kernel_rfl))
 t3:=Tryz.underlying3
 a3:=Tryz.isAgg3
 z3:=Tryz.sizeOf3
 v3:=Tryz.zeroValue3
 t4:=Tryz.underlying4
 a4:=Tryz.isAgg4
 z4:=Tryz.sizeOf4
 v4:=Tryz.zeroValue4
 t9:=Tryz.underlying9
 a9:=Tryz.isAgg9
 z9:=Tryz.sizeOf9
 v9:=Tryz.zeroValue9
 t24:=Tryz.underlying117
 a24:=Tryz.isAgg117
 z24:=Tryz.sizeOf117
 v24:=Tryz.zeroValue117 }
open Go.RowKit in
theorem Tryz.strings_CutPrefix(s p:ByteArray)(w:World):
  Calls Tryz.prog 156 #[.string s,.string p] w fun e w'=>e=.returned (.tuple #[.string ⟨(Lib.trimPrefix s.data.toList p.data.toList).toArray⟩,.bool (Lib.hasPrefix s.data.toList p.data.toList)])∧w'=w:=Any.strings_CutPrefix Tryz.lays103 s p w
def Tryz.lays189_ren:Go.Shelf.Ren:=⟨fun|189=>253|125=>163|257=>280|128=>236|129=>237|294=>288|295=>289|296=>290|297=>291|298=>292|299=>293|216=>294|300=>295|301=>296|328=>300|329=>269|330=>270|331=>301|332=>302|215=>303|343=>306|n=>n,fun|28=>51|3=>3|46=>205|0=>0|51=>185|53=>170|4=>4|183=>282|182=>281|131=>121|5=>5|9=>9|218=>310|222=>314|228=>329|229=>330|n=>n,fun|n=>n⟩
theorem Tryz.lays189:Go.Proofs.Lays.n189 Tryz.prog Tryz.lays189_ren:={
 mixed:=by kernel_rfl
 f125:=Tryz.func163.trans (congrArg some (by kernel_rfl))
 f128:=Tryz.func236.trans (congrArg some (by kernel_rfl))
 f129:=Tryz.func237.trans (congrArg some (by kernel_rfl))
 f189:=Tryz.func253.trans (congrArg some (by kernel_rfl))
 f215:=Tryz.func303.trans (congrArg some (by kernel_rfl))
 f216:=Tryz.func294.trans (congrArg some (by kernel_rfl))
 f257:=Tryz.func280.trans (congrArg some (by kernel_rfl))
 f294:=Tryz.func288.trans (congrArg some (by kernel_rfl))
 f295:=Tryz.func289.trans (congrArg some (by kernel_rfl))
 f296:=Tryz.func290.trans (congrArg some (by kernel_rfl))
 f297:=Tryz.func291.trans (congrArg some (by kernel_rfl))
 f298:=Tryz.func292.trans (congrArg some (by kernel_rfl))
 f299:=Tryz.func293.trans (congrArg some (by kernel_rfl))
 f300:=Tryz.func295.trans (congrArg some (by kernel_rfl))
 f301:=Tryz.func296.trans (congrArg some (by kernel_rfl))
 f328:=Tryz.func300.trans (congrArg some (by kernel_rfl))
 f329:=Tryz.func269.trans (congrArg some (by kernel_rfl))
 f330:=Tryz.func270.trans (congrArg some (by kernel_rfl))
 f331:=Tryz.func301.trans (congrArg some (by kernel_rfl))
 f332:=Tryz.func302.trans (congrArg some (by kernel_rfl))
 f343:=Tryz.func306.trans (congrArg some (by kernel_rfl))
 t0:=Tryz.underlying0
 a0:=Tryz.isAgg0
 z0:=Tryz.sizeOf0
 v0:=Tryz.zeroValue0
 t3:=Tryz.underlying3
 a3:=Tryz.isAgg3
 z3:=Tryz.sizeOf3
 v3:=Tryz.zeroValue3
 t4:=Tryz.underlying4
 a4:=Tryz.isAgg4
 z4:=Tryz.sizeOf4
 v4:=Tryz.zeroValue4
 t5:=Tryz.underlying5
 a5:=Tryz.isAgg5
 z5:=Tryz.sizeOf5
 v5:=Tryz.zeroValue5
 t9:=Tryz.underlying9
 a9:=Tryz.isAgg9
 z9:=Tryz.sizeOf9
 v9:=Tryz.zeroValue9
 t28:=Tryz.underlying51
 a28:=Tryz.isAgg51
 z28:=Tryz.sizeOf51
 v28:=Tryz.zeroValue51
 t46:=Tryz.underlying205
 a46:=Tryz.isAgg205
 z46:=Tryz.sizeOf205
 v46:=Tryz.zeroValue205
 t51:=Tryz.underlying185
 a51:=Tryz.isAgg185
 z51:=Tryz.sizeOf185
 v51:=Tryz.zeroValue185
 t53:=Tryz.underlying170
 a53:=Tryz.isAgg170
 z53:=Tryz.sizeOf170
 v53:=Tryz.zeroValue170
 t131:=Tryz.underlying121
 a131:=Tryz.isAgg121
 z131:=Tryz.sizeOf121
 v131:=Tryz.zeroValue121
 t182:=Tryz.underlying281
 a182:=Tryz.isAgg281
 z182:=Tryz.sizeOf281
 v182:=Tryz.zeroValue281
 t183:=Tryz.underlying282
 a183:=Tryz.isAgg282
 z183:=Tryz.sizeOf282
 v183:=Tryz.zeroValue282
 t218:=Tryz.underlying310
 a218:=Tryz.isAgg310
 z218:=Tryz.sizeOf310
 v218:=Tryz.zeroValue310
 t222:=Tryz.underlying314
 a222:=Tryz.isAgg314
 z222:=Tryz.sizeOf314
 v222:=Tryz.zeroValue314
 t228:=Tryz.underlying329
 a228:=Tryz.isAgg329
 z228:=Tryz.sizeOf329
 v228:=Tryz.zeroValue329
 t229:=Tryz.underlying330
 a229:=Tryz.isAgg330
 z229:=Tryz.sizeOf330
 v229:=Tryz.zeroValue330 }
open Go.Sort Go.RowKit in
theorem Tryz.slices_Sort_int(blk off cap:Nat)(zs:List Int)(w:World)(hH:Holds (Value.int .i64) w blk off zs.toArray)(hblk:blk<w.heap.size)(hsz:zs.length<4611686018427387904):
  Calls Tryz.prog 253 #[.slice (some ⟨blk,off,none⟩) zs.length cap] w fun e w' =>
   e=.returned (.tuple #[])∧∃n os,w'=grow (putRow (Value.int .i64) (Sort.ahead w n) blk off (zs.mergeSort fun x y=>decide (x≤y)).toArray) os:=Any.slices_Sort_int Tryz.lays189 blk off cap zs w hH hblk hsz
def Tryz.lays99_ren:Go.Shelf.Ren:=⟨fun|99=>145|206=>215|n=>n,fun|9=>9|4=>4|3=>3|n=>n,fun|n=>n⟩
theorem Tryz.lays99:Go.Proofs.Lays.n99 Tryz.prog Tryz.lays99_ren:={
 mixed:=by kernel_rfl
 f99:=Tryz.func145.trans (congrArg some (by kernel_rfl))
 f206:=Tryz.func215.trans (congrArg some (by kernel_rfl))
 t3:=Tryz.underlying3
 a3:=Tryz.isAgg3
 z3:=Tryz.sizeOf3
 v3:=Tryz.zeroValue3
 t4:=Tryz.underlying4
 a4:=Tryz.isAgg4
 z4:=Tryz.sizeOf4
 v4:=Tryz.zeroValue4
 t9:=Tryz.underlying9
 a9:=Tryz.isAgg9
 z9:=Tryz.sizeOf9
 v9:=Tryz.zeroValue9 }
open Go.RowKit Go.Lib in
theorem Tryz.strings_HasPrefix(s p:ByteArray)(w:World):
  Calls Tryz.prog 145 #[.string s,.string p] w fun e w'=>e=.returned (.bool (Lib.hasPrefix s.data.toList p.data.toList))∧w'=w:=Any.strings_HasPrefix Tryz.lays99 s p w
def Tryz.lays100_ren:Go.Shelf.Ren:=⟨fun|100=>297|207=>304|n=>n,fun|9=>9|4=>4|3=>3|n=>n,fun|n=>n⟩
theorem Tryz.lays100:Go.Proofs.Lays.n100 Tryz.prog Tryz.lays100_ren:={
 mixed:=by kernel_rfl
 f100:=Tryz.func297.trans (congrArg some (by kernel_rfl))
 f207:=Tryz.func304.trans (congrArg some (by kernel_rfl))
 t3:=Tryz.underlying3
 a3:=Tryz.isAgg3
 z3:=Tryz.sizeOf3
 v3:=Tryz.zeroValue3
 t4:=Tryz.underlying4
 a4:=Tryz.isAgg4
 z4:=Tryz.sizeOf4
 v4:=Tryz.zeroValue4
 t9:=Tryz.underlying9
 a9:=Tryz.isAgg9
 z9:=Tryz.sizeOf9
 v9:=Tryz.zeroValue9 }
open Go.RowKit Go.Lib in
theorem Tryz.strings_HasSuffix(s p:ByteArray)(w:World)(hs:s.size≤9223372036854775807):
  Calls Tryz.prog 297 #[.string s,.string p] w fun e w'=>e=.returned (.bool (Lib.hasSuffix s.data.toList p.data.toList))∧w'=w:=Any.strings_HasSuffix Tryz.lays100 s p w hs
def Tryz.lays105_ren:Go.Shelf.Ren:=⟨fun|105=>76|212=>144|99=>145|165=>146|166=>79|170=>147|169=>80|263=>213|264=>214|206=>215|240=>155|241=>216|276=>222|277=>262|n=>n,fun|9=>9|3=>3|4=>4|20=>20|0=>0|46=>205|109=>206|5=>5|72=>139|76=>143|51=>185|146=>267|53=>170|148=>269|70=>137|37=>92|75=>142|127=>217|164=>277|80=>105|n=>n,fun|n=>n⟩
theorem Tryz.lays105:Go.Proofs.Lays.n105 Tryz.prog Tryz.lays105_ren:={
 mixed:=by kernel_rfl
 f99:=Tryz.func145.trans (congrArg some (by kernel_rfl))
 f105:=Tryz.func76.trans (congrArg some (by kernel_rfl))
 f165:=Tryz.func146.trans (congrArg some (by kernel_rfl))
 f166:=Tryz.func79.trans (congrArg some (by kernel_rfl))
 f169:=Tryz.func80.trans (congrArg some (by kernel_rfl))
 f170:=Tryz.func147.trans (congrArg some (by kernel_rfl))
 f206:=Tryz.func215.trans (congrArg some (by kernel_rfl))
 f212:=Tryz.func144.trans (congrArg some (by kernel_rfl))
 f240:=Tryz.func155.trans (congrArg some (by kernel_rfl))
 f241:=Tryz.func216.trans (congrArg some (by kernel_rfl))
 f263:=Tryz.func213.trans (congrArg some (by kernel_rfl))
 f264:=Tryz.func214.trans (congrArg some (by kernel_rfl))
 f276:=Tryz.func222.trans (congrArg some (by kernel_rfl))
 f277:=Tryz.func262.trans (congrArg some (by kernel_rfl))
 t0:=Tryz.underlying0
 a0:=Tryz.isAgg0
 z0:=Tryz.sizeOf0
 v0:=Tryz.zeroValue0
 t3:=Tryz.underlying3
 a3:=Tryz.isAgg3
 z3:=Tryz.sizeOf3
 v3:=Tryz.zeroValue3
 t4:=Tryz.underlying4
 a4:=Tryz.isAgg4
 z4:=Tryz.sizeOf4
 v4:=Tryz.zeroValue4
 t5:=Tryz.underlying5
 a5:=Tryz.isAgg5
 z5:=Tryz.sizeOf5
 v5:=Tryz.zeroValue5
 t9:=Tryz.underlying9
 a9:=Tryz.isAgg9
 z9:=Tryz.sizeOf9
 v9:=Tryz.zeroValue9
 t20:=Tryz.underlying20
 a20:=Tryz.isAgg20
 z20:=Tryz.sizeOf20
 v20:=Tryz.zeroValue20
 t37:=Tryz.underlying92
 a37:=Tryz.isAgg92
 z37:=Tryz.sizeOf92
 v37:=Tryz.zeroValue92
 t46:=Tryz.underlying205
 a46:=Tryz.isAgg205
 z46:=Tryz.sizeOf205
 v46:=Tryz.zeroValue205
 t51:=Tryz.underlying185
 a51:=Tryz.isAgg185
 z51:=Tryz.sizeOf185
 v51:=Tryz.zeroValue185
 t53:=Tryz.underlying170
 a53:=Tryz.isAgg170
 z53:=Tryz.sizeOf170
 v53:=Tryz.zeroValue170
 t70:=Tryz.underlying137
 a70:=Tryz.isAgg137
 z70:=Tryz.sizeOf137
 v70:=Tryz.zeroValue137
 t72:=Tryz.underlying139
 a72:=Tryz.isAgg139
 z72:=Tryz.sizeOf139
 v72:=Tryz.zeroValue139
 t75:=Tryz.underlying142
 a75:=Tryz.isAgg142
 z75:=Tryz.sizeOf142
 v75:=Tryz.zeroValue142
 t76:=Tryz.underlying143
 a76:=Tryz.isAgg143
 z76:=Tryz.sizeOf143
 v76:=Tryz.zeroValue143
 t109:=Tryz.underlying206
 a109:=Tryz.isAgg206
 z109:=Tryz.sizeOf206
 v109:=Tryz.zeroValue206
 t127:=Tryz.underlying217
 a127:=Tryz.isAgg217
 z127:=Tryz.sizeOf217
 v127:=Tryz.zeroValue217
 t146:=Tryz.underlying267
 a146:=Tryz.isAgg267
 z146:=Tryz.sizeOf267
 v146:=Tryz.zeroValue267
 t148:=Tryz.underlying269
 a148:=Tryz.isAgg269
 z148:=Tryz.sizeOf269
 v148:=Tryz.zeroValue269
 t164:=Tryz.underlying277
 a164:=Tryz.isAgg277
 z164:=Tryz.sizeOf277
 v164:=Tryz.zeroValue277 }
theorem Tryz.Builder_Extra_105:Builder.Extra Tryz.prog Tryz.lays105_ren:={
 sizeBuilder:=by kernel_rfl
 liesBuilder:=by kernel_rfl
 t5:=Tryz.underlying5
 a5:=Tryz.isAgg5
 z5:=Tryz.sizeOf5
 v5:=Tryz.zeroValue5
 infoByte:=by kernel_rfl
 cellsByte:=by kernel_rfl
 sizeByte:=by kernel_rfl
 neB5:=by decide }
open Go.RowKit Go.Lib in
theorem Tryz.strings_Repeat_main(s:ByteArray)(c:Nat)(w:World)(hc2:2≤c)(hc:c≤9223372036854775807)(hlen:s.size*c≤140737488355328)(h0:0<s.size):
  Calls Tryz.prog 76 #[.string s,.int .i64 c] w fun e w'=>e=.returned (.string ⟨(Lib.repeatL s.data.toList c).toArray⟩)∧Below w.heap.size w w':=Any.strings_Repeat_main Tryz.lays105 Tryz.Builder_Extra_105 s c w hc2 hc hlen h0
open Go.RowKit Go.Lib in
theorem Tryz.strings_Repeat(s:ByteArray)(c:Nat)(w:World)(hc:c≤9223372036854775807)(hlen:s.size*c≤140737488355328):
  Calls Tryz.prog 76 #[.string s,.int .i64 c] w fun e w'=>e=.returned (.string ⟨(Lib.repeatL s.data.toList c).toArray⟩)∧Below w.heap.size w w':=Any.strings_Repeat Tryz.lays105 Tryz.Builder_Extra_105 s c w hc hlen
def Tryz.laysNm216_ren:Go.Shelf.Ren:=⟨fun|16=>202|n=>n,fun|24=>101|9=>9|4=>4|n=>n,fun|n=>n⟩
theorem Tryz.laysNm216:Go.Proofs.Lays2.n16 Tryz.prog Tryz.laysNm216_ren:={
 mixed:=by kernel_rfl
 f16:=Tryz.func202.trans (congrArg some (by kernel_rfl))
 t4:=Tryz.underlying4
 a4:=Tryz.isAgg4
 z4:=Tryz.sizeOf4
 v4:=Tryz.zeroValue4
 t9:=Tryz.underlying9
 a9:=Tryz.isAgg9
 z9:=Tryz.sizeOf9
 v9:=Tryz.zeroValue9
 t24:=Tryz.underlying101
 a24:=Tryz.isAgg101
 z24:=Tryz.sizeOf101
 v24:=Tryz.zeroValue101
 i9:=by kernel_rfl }
open Go.RowKit Go.Lib in
theorem Tryz.slices_Clone_string(b off n c:Nat)(zs:List ByteArray)(w:World)(hz:n≤zs.length)(hbig:n*16≤140737488355328)(hc:∀j,j<zs.length→w.cell? ⟨b,off+j,none⟩=some (.string (zs.getD j ByteArray.empty))):
  Calls Tryz.prog 202 #[.slice (some ⟨b,off,none⟩) n c] w fun e w'=>∃v',e=.returned v'∧w'.ownsRow w.heap.size 9 1 v' n ((zs.take n).map (Value.string))∧v'≠.slice none 0 0∧Below w.heap.size w w':=Any.slices_Clone_string Tryz.laysNm216 b off n c zs w hz hbig hc
open Go.RowKit Go.Sort in
theorem Tryz.slices_Sort_int_none(p:Option Addr)(cap:Nat)(w:World):
  Calls Tryz.prog 253 #[.slice p 0 cap] w fun e w'=>e=.returned (.tuple #[])∧w'=w:=Any.slices_Sort_int_none Tryz.lays189 p cap w
end Go.Proofs
