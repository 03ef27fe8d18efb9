/- The library's contracts at this program: what lay-shelf and lay-plain print. -/
import Derived.Shelf.Strings.Builder1
import Derived.Shelf.Strings.Builder2
import Derived.Shelf.Strings.OnBuilder
import Derived.Shelf.Small.Utf8
import Derived.Shelf.Small.Bits
import Derived.Shelf.Small.Strs
import Derived.Shelf.Small.Wraps
import Derived.Shelf.Strings.BuilderF
import Derived.Shelf.Strings.BuilderK
import Derived.Shelf.Strings.Builder2Cap
import Derived.Shelf.Strconv.Itoa0
import Derived.Shelf.Strconv.Itoa1
import Derived.Shelf.LaysM
import Derived.Shelf.Strconv.Itoa2
import Derived.Shelf.Strconv.Itoa3
import Derived.Shelf.Strings.Search1
import Derived.Shelf.Strings.Runes
import Derived.Shelf.Strings.IndexAny
import Derived.Shelf.Strings.AsciiSet
import Derived.Shelf.Strings.IndexAnyAll
import Derived.Shelf.Bits.Mul64
import Derived.Shelf.Strings.BuilderCap
import Derived.Shelf.Slices.Turned
import Derived.Ground.Names2Prog
import Derived.Shelf.Slices.SearchI
import Derived.Ground.SlgfProg
import Derived.Shelf.SlicesE.IndexFunc
import Derived.Ground.SlsfProg
import Derived.Shelf.SlSortCmp.Insertion
import Derived.Test.YthkklilhjnpedaaGreatDoorProg
set_option maxHeartbeats 16000000
set_option maxRecDepth 8000
namespace Go.Proofs
open Go.Shelf
def Tryz.lays156_ren:Go.Shelf.Ren:=⟨fun | 156=>66 | 165=>112 | 166=>113 | 169=>114 | 240=>157 | 241=>158 | 276=>191 | 277=>192 | n=>n,fun | 31=>30 | 9=>9 | 3=>3 | 4=>4 | 0=>0 | 20=>20 | 72=>150 | 76=>154 | 70=>148 | 37=>22 | 75=>153 | 127=>207 | 164=>238 | 5=>5 | 80=>156 | n=>n,fun | n=>n⟩
theorem Tryz.lays156:Go.Proofs.Lays.n156 Tryz.prog Tryz.lays156_ren:={
 mixed:=by kernel_rfl
 f156:=Tryz.func66.trans (congrArg some (by kernel_rfl))
 f165:=Tryz.func112.trans (congrArg some (by kernel_rfl))
 f166:=Tryz.func113.trans (congrArg some (by kernel_rfl))
 f169:=Tryz.func114.trans (congrArg some (by kernel_rfl))
 f240:=Tryz.func157.trans (congrArg some (by kernel_rfl))
 f241:=Tryz.func158.trans (congrArg some (by kernel_rfl))
 f276:=Tryz.func191.trans (congrArg some (by kernel_rfl))
 f277:=Tryz.func192.trans (congrArg some (by kernel_rfl))
 t0:=Tryz.underlying0
 a0:=Tryz.isAgg0
 z0:=Tryz.sizeOf0
 v0:=Tryz.zeroValue0
 t3:=Tryz.underlying3
 a3:=Tryz.isAgg3
 z3:=Tryz.sizeOf3
 v3:=Tryz.zeroValue3
 t4:=Tryz.underlying4
 a4:=Tryz.isAgg4
 z4:=Tryz.sizeOf4
 v4:=Tryz.zeroValue4
 t9:=Tryz.underlying9
 a9:=Tryz.isAgg9
 z9:=Tryz.sizeOf9
 v9:=Tryz.zeroValue9
 t20:=Tryz.underlying20
 a20:=Tryz.isAgg20
 z20:=Tryz.sizeOf20
 v20:=Tryz.zeroValue20
 t31:=Tryz.underlying30
 a31:=Tryz.isAgg30
 z31:=Tryz.sizeOf30
 v31:=Tryz.zeroValue30
 t37:=Tryz.underlying22
 a37:=Tryz.isAgg22
 z37:=Tryz.sizeOf22
 v37:=Tryz.zeroValue22
 t70:=Tryz.underlying148
 a70:=Tryz.isAgg148
 z70:=Tryz.sizeOf148
 v70:=Tryz.zeroValue148
 t72:=Tryz.underlying150
 a72:=Tryz.isAgg150
 z72:=Tryz.sizeOf150
 v72:=Tryz.zeroValue150
 t75:=Tryz.underlying153
 a75:=Tryz.isAgg153
 z75:=Tryz.sizeOf153
 v75:=Tryz.zeroValue153
 t76:=Tryz.underlying154
 a76:=Tryz.isAgg154
 z76:=Tryz.sizeOf154
 v76:=Tryz.zeroValue154
 t127:=Tryz.underlying207
 a127:=Tryz.isAgg207
 z127:=Tryz.sizeOf207
 v127:=Tryz.zeroValue207
 t164:=Tryz.underlying238
 a164:=Tryz.isAgg238
 z164:=Tryz.sizeOf238
 v164:=Tryz.zeroValue238 }
theorem Tryz.Builder_Extra_156:Builder.Extra Tryz.prog Tryz.lays156_ren:={
 sizeBuilder:=by kernel_rfl
 liesBuilder:=by kernel_rfl
 t5:=Tryz.underlying5
 a5:=Tryz.isAgg5
 z5:=Tryz.sizeOf5
 v5:=Tryz.zeroValue5
 infoByte:=by kernel_rfl
 cellsByte:=by kernel_rfl
 sizeByte:=by kernel_rfl
 neB5:=by decide }
open Go.RowKit in
theorem Tryz.strings_Join(bk o c:Nat)(xs:List ByteArray)(sep:ByteArray)(w:World)(hcells:∀ (j:Nat) x,xs[j]?=some x→w.cell? ⟨bk,o+j,none⟩=some (.string x))(hbk:bk<w.heap.size)(hN:xs.length≤140737488355328)(hcap:xs.length≤c)(hlen:(Lib.join (xs.map (·.data.toList)) sep.data.toList).length≤140737488355328) :
  Calls Tryz.prog 66 #[.slice (some ⟨bk,o,none⟩) xs.length c,.string sep] w fun e w'=>e=.returned (.string ⟨(Lib.join (xs.map (·.data.toList)) sep.data.toList).toArray⟩)∧Below w.heap.size w w':=Any.strings_Join Tryz.lays156 Tryz.Builder_Extra_156 bk o c xs sep w hcells hbk hN hcap hlen
def Tryz.lays122_ren:Go.Shelf.Ren:=⟨fun | 122=>30 | 215=>64 | n=>n,fun | 3=>3 | 4=>4 | n=>n,fun | n=>n⟩
theorem Tryz.lays122:Go.Proofs.Lays.n122 Tryz.prog Tryz.lays122_ren:={
 mixed:=by kernel_rfl
 f122:=Tryz.func30.trans (congrArg some (by kernel_rfl))
 f215:=Tryz.func64.trans (congrArg some (by kernel_rfl))
 t3:=Tryz.underlying3
 a3:=Tryz.isAgg3
 z3:=Tryz.sizeOf3
 v3:=Tryz.zeroValue3
 t4:=Tryz.underlying4
 a4:=Tryz.isAgg4
 z4:=Tryz.sizeOf4
 v4:=Tryz.zeroValue4 }
open Go.RowKit in
theorem Tryz.cmp_Compare_int(x y:Int)(w:World) :
  Calls Tryz.prog 30 #[.int .i64 x,.int .i64 y] w fun e w'=>e=.returned (.int .i64 (Lib.compareInt x y))∧w'=w:=Any.cmp_Compare_int Tryz.lays122 x y w
def Tryz.lays171_ren:Go.Shelf.Ren:=⟨fun | 171=>65 | 243=>111 | 246=>156 | 283=>187 | 284=>188 | 285=>189 | 286=>190 | 129=>110 | 317=>201 | 318=>202 | 319=>203 | 320=>204 | 337=>209 | 338=>210 | n=>n,fun | 3=>3 | 9=>9 | 2=>2 | 4=>4 | 171=>234 | 0=>0 | 53=>147 | 37=>22 | 5=>5 | 173=>236 | 212=>248 | 51=>135 | 20=>20 | 213=>249 | 46=>109 | 232=>255 | 233=>256 | n=>n,fun | 17=>0 | 18=>2 | 19=>3 | n=>n⟩
theorem Tryz.lays171:Go.Proofs.Lays.n171 Tryz.prog Tryz.lays171_ren:={
 mixed:=by kernel_rfl
 f129:=Tryz.func110.trans (congrArg some (by kernel_rfl))
 f171:=Tryz.func65.trans (congrArg some (by kernel_rfl))
 f243:=Tryz.func111.trans (congrArg some (by kernel_rfl))
 f246:=Tryz.func156.trans (congrArg some (by kernel_rfl))
 f283:=Tryz.func187.trans (congrArg some (by kernel_rfl))
 f284:=Tryz.func188.trans (congrArg some (by kernel_rfl))
 f285:=Tryz.func189.trans (congrArg some (by kernel_rfl))
 f286:=Tryz.func190.trans (congrArg some (by kernel_rfl))
 f317:=Tryz.func201.trans (congrArg some (by kernel_rfl))
 f318:=Tryz.func202.trans (congrArg some (by kernel_rfl))
 f319:=Tryz.func203.trans (congrArg some (by kernel_rfl))
 f320:=Tryz.func204.trans (congrArg some (by kernel_rfl))
 f337:=Tryz.func209.trans (congrArg some (by kernel_rfl))
 f338:=Tryz.func210.trans (congrArg some (by kernel_rfl))
 t0:=Tryz.underlying0
 a0:=Tryz.isAgg0
 z0:=Tryz.sizeOf0
 v0:=Tryz.zeroValue0
 t2:=Tryz.underlying2
 a2:=Tryz.isAgg2
 z2:=Tryz.sizeOf2
 v2:=Tryz.zeroValue2
 t3:=Tryz.underlying3
 a3:=Tryz.isAgg3
 z3:=Tryz.sizeOf3
 v3:=Tryz.zeroValue3
 t4:=Tryz.underlying4
 a4:=Tryz.isAgg4
 z4:=Tryz.sizeOf4
 v4:=Tryz.zeroValue4
 t5:=Tryz.underlying5
 a5:=Tryz.isAgg5
 z5:=Tryz.sizeOf5
 v5:=Tryz.zeroValue5
 t9:=Tryz.underlying9
 a9:=Tryz.isAgg9
 z9:=Tryz.sizeOf9
 v9:=Tryz.zeroValue9
 t20:=Tryz.underlying20
 a20:=Tryz.isAgg20
 z20:=Tryz.sizeOf20
 v20:=Tryz.zeroValue20
 t37:=Tryz.underlying22
 a37:=Tryz.isAgg22
 z37:=Tryz.sizeOf22
 v37:=Tryz.zeroValue22
 t46:=Tryz.underlying109
 a46:=Tryz.isAgg109
 z46:=Tryz.sizeOf109
 v46:=Tryz.zeroValue109
 t51:=Tryz.underlying135
 a51:=Tryz.isAgg135
 z51:=Tryz.sizeOf135
 v51:=Tryz.zeroValue135
 t53:=Tryz.underlying147
 a53:=Tryz.isAgg147
 z53:=Tryz.sizeOf147
 v53:=Tryz.zeroValue147
 t171:=Tryz.underlying234
 a171:=Tryz.isAgg234
 z171:=Tryz.sizeOf234
 v171:=Tryz.zeroValue234
 t173:=Tryz.underlying236
 a173:=Tryz.isAgg236
 z173:=Tryz.sizeOf236
 v173:=Tryz.zeroValue236
 t212:=Tryz.underlying248
 a212:=Tryz.isAgg248
 z212:=Tryz.sizeOf248
 v212:=Tryz.zeroValue248
 t213:=Tryz.underlying249
 a213:=Tryz.isAgg249
 z213:=Tryz.sizeOf249
 t232:=Tryz.underlying255
 a232:=Tryz.isAgg255
 z232:=Tryz.sizeOf255
 v232:=Tryz.zeroValue255
 t233:=Tryz.underlying256
 a233:=Tryz.isAgg256
 z233:=Tryz.sizeOf256
 v233:=Tryz.zeroValue256
 g17:=by kernel_rfl
 g18:=by kernel_rfl
 g19:=by kernel_rfl }
open Go.RowKit Go.Sort Go.Lib in
theorem Tryz.strconv_Itoa_small(i:Nat)(hi:i<100)(w:World) :
  Calls Tryz.prog 65 #[.int .i64 i] w fun e w'=>e=.returned (.string ⟨(Lib.decDigits i).toArray⟩)∧w'=w:=Any.strconv_Itoa_small Tryz.lays171 i hi w
def Tryz.lays150_ren:Go.Shelf.Ren:=⟨fun | 150=>71 | 153=>116 | 152=>160 | 226=>161 | 227=>162 | 228=>163 | 137=>193 | 119=>194 | 224=>195 | 225=>196 | 217=>205 | 266=>211 | n=>n,fun | 9=>9 | 4=>4 | 3=>3 | 5=>5 | 21=>21 | 117=>211 | 116=>210 | 0=>0 | 46=>109 | 124=>243 | n=>n,fun | n=>n⟩
theorem Tryz.lays150:Go.Proofs.Lays.n150 Tryz.prog Tryz.lays150_ren:={
 mixed:=by kernel_rfl
 f119:=Tryz.func194.trans (congrArg some (by kernel_rfl))
 f137:=Tryz.func193.trans (congrArg some (by kernel_rfl))
 f150:=Tryz.func71.trans (congrArg some (by kernel_rfl))
 f152:=Tryz.func160.trans (congrArg some (by kernel_rfl))
 f153:=Tryz.func116.trans (congrArg some (by kernel_rfl))
 f217:=Tryz.func205.trans (congrArg some (by kernel_rfl))
 f224:=Tryz.func195.trans (congrArg some (by kernel_rfl))
 f225:=Tryz.func196.trans (congrArg some (by kernel_rfl))
 f226:=Tryz.func161.trans (congrArg some (by kernel_rfl))
 f227:=Tryz.func162.trans (congrArg some (by kernel_rfl))
 f228:=Tryz.func163.trans (congrArg some (by kernel_rfl))
 f266:=Tryz.func211.trans (congrArg some (by kernel_rfl))
 t0:=Tryz.underlying0
 a0:=Tryz.isAgg0
 z0:=Tryz.sizeOf0
 v0:=Tryz.zeroValue0
 t3:=Tryz.underlying3
 a3:=Tryz.isAgg3
 z3:=Tryz.sizeOf3
 v3:=Tryz.zeroValue3
 t4:=Tryz.underlying4
 a4:=Tryz.isAgg4
 z4:=Tryz.sizeOf4
 v4:=Tryz.zeroValue4
 t5:=Tryz.underlying5
 a5:=Tryz.isAgg5
 z5:=Tryz.sizeOf5
 v5:=Tryz.zeroValue5
 t9:=Tryz.underlying9
 a9:=Tryz.isAgg9
 z9:=Tryz.sizeOf9
 v9:=Tryz.zeroValue9
 t21:=Tryz.underlying21
 a21:=Tryz.isAgg21
 z21:=Tryz.sizeOf21
 v21:=Tryz.zeroValue21
 t46:=Tryz.underlying109
 a46:=Tryz.isAgg109
 z46:=Tryz.sizeOf109
 v46:=Tryz.zeroValue109
 t116:=Tryz.underlying210
 a116:=Tryz.isAgg210
 z116:=Tryz.sizeOf210
 t117:=Tryz.underlying211
 a117:=Tryz.isAgg211
 z117:=Tryz.sizeOf211
 v117:=Tryz.zeroValue211
 t124:=Tryz.underlying243
 a124:=Tryz.isAgg243
 z124:=Tryz.sizeOf243
 v124:=Tryz.zeroValue243 }
open Go.RowKit Go.Lib in
theorem Tryz.strings_ContainsAny_laid(s chars:ByteArray)(w:World)(hs:s.size<4294967281)(hcs:chars.size<4294967281)(has:∀ (j:Nat) b,s.data.toList[j]?=some b→b.toNat<128)(hac:∀ (j:Nat) b,chars.data.toList[j]?=some b→b.toNat<128) :
  Calls Tryz.prog 71 #[.string s,.string chars] w fun e w'=>e=.returned (.bool (Lib.containsAny s.data.toList chars.data.toList))∧Below w.heap.size w w':=Any.strings_ContainsAny_laid Tryz.lays150 (by kernel_rfl) s chars w hs hcs has hac
def Tryz.lays212_ren:Go.Shelf.Ren:=⟨fun | 212=>117 | 263=>164 | 264=>165 | n=>n,fun | 46=>109 | 51=>135 | 146=>214 | 53=>147 | 148=>216 | n=>n,fun | n=>n⟩
theorem Tryz.lays212:Go.Proofs.Lays.n212 Tryz.prog Tryz.lays212_ren:={
 mixed:=by kernel_rfl
 f212:=Tryz.func117.trans (congrArg some (by kernel_rfl))
 f263:=Tryz.func164.trans (congrArg some (by kernel_rfl))
 f264:=Tryz.func165.trans (congrArg some (by kernel_rfl))
 t46:=Tryz.underlying109
 a46:=Tryz.isAgg109
 z46:=Tryz.sizeOf109
 v46:=Tryz.zeroValue109
 t51:=Tryz.underlying135
 a51:=Tryz.isAgg135
 z51:=Tryz.sizeOf135
 v51:=Tryz.zeroValue135
 t53:=Tryz.underlying147
 a53:=Tryz.isAgg147
 z53:=Tryz.sizeOf147
 v53:=Tryz.zeroValue147
 t146:=Tryz.underlying214
 a146:=Tryz.isAgg214
 z146:=Tryz.sizeOf214
 v146:=Tryz.zeroValue214
 t148:=Tryz.underlying216
 a148:=Tryz.isAgg216
 z148:=Tryz.sizeOf216
 v148:=Tryz.zeroValue216 }
open Go.RowKit Go.Lib in
theorem Tryz.bits_Mul(x y:Nat)(hx:x<18446744073709551616)(hy:y<18446744073709551616)(w:World) :
  Calls Tryz.prog 117 #[.int .u64 x,.int .u64 y] w fun e w'=>e=.returned (.tuple #[.int .u64 ((x*y / 18446744073709551616:Nat):Int),.int .u64 ((x*y % 18446744073709551616:Nat):Int)])∧w'=w:=Any.bits_Mul Tryz.lays212 x y hx hy w
def Tryz.lays107_ren:Go.Shelf.Ren:=⟨fun | 107=>42 | 108=>75 | n=>n,fun | 28=>40 | 3=>3 | 4=>4 | 0=>0 | n=>n,fun | n=>n⟩
theorem Tryz.lays107:Go.Proofs.Lays.n107 Tryz.prog Tryz.lays107_ren:={
 mixed:=by kernel_rfl
 f107:=Tryz.func42.trans (congrArg some (by kernel_rfl))
 f108:=Tryz.func75.trans (congrArg some (by kernel_rfl))
 t0:=Tryz.underlying0
 a0:=Tryz.isAgg0
 z0:=Tryz.sizeOf0
 v0:=Tryz.zeroValue0
 t3:=Tryz.underlying3
 a3:=Tryz.isAgg3
 z3:=Tryz.sizeOf3
 v3:=Tryz.zeroValue3
 t4:=Tryz.underlying4
 a4:=Tryz.isAgg4
 z4:=Tryz.sizeOf4
 v4:=Tryz.zeroValue4
 t28:=Tryz.underlying40
 a28:=Tryz.isAgg40
 z28:=Tryz.sizeOf40
 v28:=Tryz.zeroValue40 }
open Go.Lib in
theorem Tryz.slices_Contains_int(b off n c:Nat)(zs:List Int)(x:Int)(w:World)(hz:n≤zs.length)(hbig:n≤9223372036854775807)(hc:∀ j,j<zs.length→w.cell? ⟨b,off+j,none⟩=some (.int .i64 (zs.getD j 0))) :
  Calls Tryz.prog 42 #[.slice (some ⟨b,off,none⟩) n c,.int .i64 x] w fun e w'=>e=.returned (.bool ((zs.take n).contains x))∧w'=w:=Any.slices_Contains_int Tryz.lays107 b off n c zs x w hz hbig hc
end Go.Proofs
