/- One text out of several: Shelf, HexD, BuildS, UnhexW, RowS, SegS, ScanW, TypeW. -/
import Derived.Shelf.Strings.Builder1
import Derived.Shelf.Strings.OnBuilder
import Derived.Shelf.Strings.Trim
import Derived.Shelf.Small.Strs
import Derived.Shelf.Small.Wraps
import Derived.Shelf.Utf8.AppendRunePlain
import Derived.Shelf.Strings.Search2
import Derived.Shelf.Strings.Cut
import Derived.Shelf.LaysM
import Derived.Shelf.Sort.Plain
import Derived.Shelf.Strings.Prefix
import Derived.Shelf.Strings.Split
import Derived.Shelf.Strings.Replace
import Derived.Shelf.Unicode.DecodeSlow
import Derived.Shelf.Strings.MapAny
import Derived.Shelf.Slices.Turned
import Derived.Shelf.Slices.Clone
import Derived.Shelf.Slices.CompactS
import Derived.Shelf.Slices.Delete
import Derived.Shelf.Slices.In.SortNone
import Derived.Shelf.Slices.Empties
import Derived.Test.YtmnpfkbjpeaemaaGreatDoorProg
import Derived.Test.YtmnpfkbjpeaemaaGreatDoorRows
import Derived.Test.YtmnpfkbjpeaemaaGreatDoorT1
import Derived.Lib.Builder
import Derived.Lib.AppendZeros
import Derived.WalkLawsBesides
import Derived.Lib.AppendStr
import Derived.Laws.CopyRow
import Derived.Lib.AppendZerosOnto
import Derived.Lib.Overlaps
set_option linter.unusedVariables false
set_option linter.unusedSimpArgs false
set_option maxRecDepth 20000
set_option maxHeartbeats 4000000
namespace Go.Proofs
open Go.Shelf
def Tryz.lays170_ren:Go.Shelf.Ren:=⟨fun | 170=>129 | n=>n,fun | 70=>130 | 3=>3 | 0=>0 | 72=>133 | 37=>131 | 5=>5 | n=>n,fun | n=>n⟩
theorem Tryz.lays170:Go.Proofs.Lays.n170 Tryz.prog Tryz.lays170_ren:={
 mixed:=by kernel_rfl
 f170:=Tryz.func129.trans (congrArg some (by kernel_rfl))
 t0:=Tryz.underlying0
 a0:=Tryz.isAgg0
 z0:=Tryz.sizeOf0
 v0:=Tryz.zeroValue0
 t3:=Tryz.underlying3
 a3:=Tryz.isAgg3
 z3:=Tryz.sizeOf3
 v3:=Tryz.zeroValue3
 t37:=Tryz.underlying131
 a37:=Tryz.isAgg131
 z37:=Tryz.sizeOf131
 v37:=Tryz.zeroValue131
 t70:=Tryz.underlying130
 a70:=Tryz.isAgg130
 z70:=Tryz.sizeOf130
 v70:=Tryz.zeroValue130
 t72:=Tryz.underlying133
 a72:=Tryz.isAgg133
 z72:=Tryz.sizeOf133
 v72:=Tryz.zeroValue133}
open Go.RowKit in
theorem Tryz.Builder_Len (B b:Nat)(bs:List Value)(w:World)(h:Lib.IsBuilder 133 5 B b bs w):
  Calls Tryz.prog 129 #[.pointer (some ⟨b,0,none⟩)] w fun e w'=>e= .returned (.int .i64 bs.length)∧w'=w:=Any.Builder_Len Tryz.lays170 B b bs w h
def Tryz.lays169_ren:Go.Shelf.Ren:=⟨fun | 169=>105 | n=>n,fun | 70=>130 | 9=>9 | 0=>0 | 72=>133 | 37=>131 | 127=>198 | 3=>3 | 5=>5 | n=>n,fun | n=>n⟩
theorem Tryz.lays169:Go.Proofs.Lays.n169 Tryz.prog Tryz.lays169_ren:={
 mixed:=by kernel_rfl
 f169:=Tryz.func105.trans (congrArg some (by kernel_rfl))
 t0:=Tryz.underlying0
 a0:=Tryz.isAgg0
 z0:=Tryz.sizeOf0
 v0:=Tryz.zeroValue0
 t3:=Tryz.underlying3
 a3:=Tryz.isAgg3
 z3:=Tryz.sizeOf3
 v3:=Tryz.zeroValue3
 t9:=Tryz.underlying9
 a9:=Tryz.isAgg9
 z9:=Tryz.sizeOf9
 v9:=Tryz.zeroValue9
 t37:=Tryz.underlying131
 a37:=Tryz.isAgg131
 z37:=Tryz.sizeOf131
 v37:=Tryz.zeroValue131
 t70:=Tryz.underlying130
 a70:=Tryz.isAgg130
 z70:=Tryz.sizeOf130
 v70:=Tryz.zeroValue130
 t72:=Tryz.underlying133
 a72:=Tryz.isAgg133
 z72:=Tryz.sizeOf133
 v72:=Tryz.zeroValue133
 t127:=Tryz.underlying198
 a127:=Tryz.isAgg198
 z127:=Tryz.sizeOf198
 v127:=Tryz.zeroValue198}
theorem Tryz.Builder_Extra_169:Builder.Extra Tryz.prog Tryz.lays169_ren:={
 sizeBuilder:=by kernel_rfl
 liesBuilder:=by kernel_rfl
 t5:=Tryz.underlying5
 a5:=Tryz.isAgg5
 z5:=Tryz.sizeOf5
 v5:=Tryz.zeroValue5
 infoByte:=by kernel_rfl
 cellsByte:=by kernel_rfl
 sizeByte:=by kernel_rfl
 neB5:=by decide}
open Go.RowKit in
theorem Tryz.Builder_String_any (B b:Nat)(l:List UInt8)(w:World)(h:Lib.IsBuilder 133 5 B b (Lib.byteCells l) w)(hBw:B≤w.heap.size):
  Calls Tryz.prog 105 #[.pointer (some ⟨b,0,none⟩)] w fun e w'=>e= .returned (.string ⟨l.toArray⟩)∧Below B w w':=Any.Builder_String_any Tryz.lays169 Tryz.Builder_Extra_169 B b l w h hBw
def Tryz.lays156_ren:Go.Shelf.Ren:=⟨fun | 156=>165 | 165=>212 | 166=>101 | 169=>105 | 240=>167 | 241=>266 | 276=>214 | 277=>296 | n=>n,fun | 31=>35 | 9=>9 | 3=>3 | 4=>4 | 0=>0 | 20=>20 | 72=>133 | 76=>136 | 70=>130 | 37=>131 | 75=>135 | 127=>198 | 164=>228 | 5=>5 | 80=>93 | n=>n,fun | n=>n⟩
theorem Tryz.lays156:Go.Proofs.Lays.n156 Tryz.prog Tryz.lays156_ren:={
 mixed:=by kernel_rfl
 f156:=Tryz.func165.trans (congrArg some (by kernel_rfl))
 f165:=Tryz.func212.trans (congrArg some (by kernel_rfl))
 f166:=Tryz.func101.trans (congrArg some (by kernel_rfl))
 f169:=Tryz.func105.trans (congrArg some (by kernel_rfl))
 f240:=Tryz.func167.trans (congrArg some (by kernel_rfl))
 f241:=Tryz.func266.trans (congrArg some (by kernel_rfl))
 f276:=Tryz.func214.trans (congrArg some (by kernel_rfl))
 f277:=Tryz.func296.trans (congrArg some (by kernel_rfl))
 t0:=Tryz.underlying0
 a0:=Tryz.isAgg0
 z0:=Tryz.sizeOf0
 v0:=Tryz.zeroValue0
 t3:=Tryz.underlying3
 a3:=Tryz.isAgg3
 z3:=Tryz.sizeOf3
 v3:=Tryz.zeroValue3
 t4:=Tryz.underlying4
 a4:=Tryz.isAgg4
 z4:=Tryz.sizeOf4
 v4:=Tryz.zeroValue4
 t9:=Tryz.underlying9
 a9:=Tryz.isAgg9
 z9:=Tryz.sizeOf9
 v9:=Tryz.zeroValue9
 t20:=Tryz.underlying20
 a20:=Tryz.isAgg20
 z20:=Tryz.sizeOf20
 v20:=Tryz.zeroValue20
 t31:=Tryz.underlying35
 a31:=Tryz.isAgg35
 z31:=Tryz.sizeOf35
 v31:=Tryz.zeroValue35
 t37:=Tryz.underlying131
 a37:=Tryz.isAgg131
 z37:=Tryz.sizeOf131
 v37:=Tryz.zeroValue131
 t70:=Tryz.underlying130
 a70:=Tryz.isAgg130
 z70:=Tryz.sizeOf130
 v70:=Tryz.zeroValue130
 t72:=Tryz.underlying133
 a72:=Tryz.isAgg133
 z72:=Tryz.sizeOf133
 v72:=Tryz.zeroValue133
 t75:=Tryz.underlying135
 a75:=Tryz.isAgg135
 z75:=Tryz.sizeOf135
 v75:=Tryz.zeroValue135
 t76:=Tryz.underlying136
 a76:=Tryz.isAgg136
 z76:=Tryz.sizeOf136
 v76:=Tryz.zeroValue136
 t127:=Tryz.underlying198
 a127:=Tryz.isAgg198
 z127:=Tryz.sizeOf198
 v127:=Tryz.zeroValue198
 t164:=Tryz.underlying228
 a164:=Tryz.isAgg228
 z164:=Tryz.sizeOf228
 v164:=Tryz.zeroValue228}
theorem Tryz.Builder_Extra_156:Builder.Extra Tryz.prog Tryz.lays156_ren:={
 sizeBuilder:=by kernel_rfl
 liesBuilder:=by kernel_rfl
 t5:=Tryz.underlying5
 a5:=Tryz.isAgg5
 z5:=Tryz.sizeOf5
 v5:=Tryz.zeroValue5
 infoByte:=by kernel_rfl
 cellsByte:=by kernel_rfl
 sizeByte:=by kernel_rfl
 neB5:=by decide}
open Go.RowKit in
theorem Tryz.strings_Join_none (a:Option Addr)(c:Nat)(sep:ByteArray)(w:World):
  Calls Tryz.prog 165 #[.slice a 0 c,.string sep] w fun e w'=>e= .returned (.string ⟨#[]⟩)∧w'=w:=Any.strings_Join_none Tryz.lays156 Tryz.Builder_Extra_156 a c sep w
open Go.RowKit in
theorem Tryz.strings_Join (bk o c:Nat)(xs:List ByteArray)(sep:ByteArray)(w:World)(hcells: ∀ (j:Nat) x,xs[j]? =some x→w.cell? ⟨bk,o+j,none⟩=some (.string x))(hbk:bk<w.heap.size)(hN:xs.length≤140737488355328)(hcap:xs.length≤c)(hlen:(Lib.join (xs.map (·.data.toList)) sep.data.toList).length≤140737488355328):
  Calls Tryz.prog 165 #[.slice (some ⟨bk,o,none⟩) xs.length c,.string sep] w fun e w'=>e= .returned (.string ⟨(Lib.join (xs.map (·.data.toList)) sep.data.toList).toArray⟩)∧Below w.heap.size w w':=Any.strings_Join Tryz.lays156 Tryz.Builder_Extra_156 bk o c xs sep w hcells hbk hN hcap hlen
def Tryz.lays106_ren:Go.Shelf.Ren:=⟨fun | 106=>276 | 213=>309 | 265=>325 | n=>n,fun | 9=>9 | 3=>3 | n=>n,fun | n=>n⟩
theorem Tryz.lays106:Go.Proofs.Lays.n106 Tryz.prog Tryz.lays106_ren:={
 mixed:=by kernel_rfl
 f106:=Tryz.func276.trans (congrArg some (by kernel_rfl))
 f213:=Tryz.func309.trans (congrArg some (by kernel_rfl))
 f265:=Tryz.func325.trans (congrArg some (by kernel_rfl))
 t3:=Tryz.underlying3
 a3:=Tryz.isAgg3
 z3:=Tryz.sizeOf3
 v3:=Tryz.zeroValue3
 t9:=Tryz.underlying9
 a9:=Tryz.isAgg9
 z9:=Tryz.sizeOf9
 v9:=Tryz.zeroValue9}
open Go.RowKit in
theorem Tryz.strings_Compare (a b:ByteArray)(w:World):
  Calls Tryz.prog 276 #[.string a,.string b] w fun e w'=>e= .returned (.int .i64 (Lib.compareBytes a.data.toList b.data.toList))∧w'=w:=Any.strings_Compare Tryz.lays106 a b w
def Tryz.lays137_ren:Go.Shelf.Ren:=⟨fun | 137=>175 | 217=>219 | 266=>268 | n=>n,fun | 9=>9 | 5=>5 | 3=>3 | n=>n,fun | n=>n⟩
theorem Tryz.lays137:Go.Proofs.Lays.n137 Tryz.prog Tryz.lays137_ren:={
 mixed:=by kernel_rfl
 f137:=Tryz.func175.trans (congrArg some (by kernel_rfl))
 f217:=Tryz.func219.trans (congrArg some (by kernel_rfl))
 f266:=Tryz.func268.trans (congrArg some (by kernel_rfl))
 t3:=Tryz.underlying3
 a3:=Tryz.isAgg3
 z3:=Tryz.sizeOf3
 v3:=Tryz.zeroValue3
 t5:=Tryz.underlying5
 a5:=Tryz.isAgg5
 z5:=Tryz.sizeOf5
 v5:=Tryz.zeroValue5
 t9:=Tryz.underlying9
 a9:=Tryz.isAgg9
 z9:=Tryz.sizeOf9
 v9:=Tryz.zeroValue9}
open Go.RowKit in
theorem Tryz.strings_IndexByte (s:ByteArray)(c:Int)(w:World):
  Calls Tryz.prog 175 #[.string s,.int .u8 c] w fun e w'=>e= .returned (.int .i64 (Lib.indexByte s.data.toList c.toNat.toUInt8))∧w'=w:=Any.strings_IndexByte Tryz.lays137 s c w
def Tryz.lays103_ren:Go.Shelf.Ren:=⟨fun | 103=>174 | 210=>218 | 206=>176 | n=>n,fun | 9=>9 | 4=>4 | 24=>158 | 3=>3 | n=>n,fun | n=>n⟩
theorem Tryz.lays103:Go.Proofs.Lays.n103 Tryz.prog Tryz.lays103_ren:={
 mixed:=by kernel_rfl
 f103:=Tryz.func174.trans (congrArg some (by kernel_rfl))
 f206:=Tryz.func176.trans (congrArg some (by kernel_rfl))
 f210:=Tryz.func218.trans (congrArg some (by kernel_rfl))
 t3:=Tryz.underlying3
 a3:=Tryz.isAgg3
 z3:=Tryz.sizeOf3
 v3:=Tryz.zeroValue3
 t4:=Tryz.underlying4
 a4:=Tryz.isAgg4
 z4:=Tryz.sizeOf4
 v4:=Tryz.zeroValue4
 t9:=Tryz.underlying9
 a9:=Tryz.isAgg9
 z9:=Tryz.sizeOf9
 v9:=Tryz.zeroValue9
 t24:=Tryz.underlying158
 a24:=Tryz.isAgg158
 z24:=Tryz.sizeOf158
 v24:=Tryz.zeroValue158}
open Go.RowKit in
theorem Tryz.strings_CutPrefix (s p:ByteArray)(w:World):
  Calls Tryz.prog 174 #[.string s,.string p] w fun e w'=>e= .returned (.tuple #[.string ⟨(Lib.trimPrefix s.data.toList p.data.toList).toArray⟩,.bool (Lib.hasPrefix s.data.toList p.data.toList)])∧w'=w:=Any.strings_CutPrefix Tryz.lays103 s p w
def Tryz.lays104_ren:Go.Shelf.Ren:=⟨fun | 104=>305 | 211=>319 | 207=>215 | n=>n,fun | 9=>9 | 4=>4 | 24=>158 | 3=>3 | n=>n,fun | n=>n⟩
theorem Tryz.lays104:Go.Proofs.Lays.n104 Tryz.prog Tryz.lays104_ren:={
 mixed:=by kernel_rfl
 f104:=Tryz.func305.trans (congrArg some (by kernel_rfl))
 f207:=Tryz.func215.trans (congrArg some (by kernel_rfl))
 f211:=Tryz.func319.trans (congrArg some (by kernel_rfl))
 t3:=Tryz.underlying3
 a3:=Tryz.isAgg3
 z3:=Tryz.sizeOf3
 v3:=Tryz.zeroValue3
 t4:=Tryz.underlying4
 a4:=Tryz.isAgg4
 z4:=Tryz.sizeOf4
 v4:=Tryz.zeroValue4
 t9:=Tryz.underlying9
 a9:=Tryz.isAgg9
 z9:=Tryz.sizeOf9
 v9:=Tryz.zeroValue9
 t24:=Tryz.underlying158
 a24:=Tryz.isAgg158
 z24:=Tryz.sizeOf158
 v24:=Tryz.zeroValue158}
open Go.RowKit in
theorem Tryz.strings_CutSuffix (s p:ByteArray)(w:World)(hs:s.size≤9223372036854775807):
  Calls Tryz.prog 305 #[.string s,.string p] w fun e w'=>e= .returned (.tuple #[.string ⟨(Lib.trimSuffix s.data.toList p.data.toList).toArray⟩,.bool (Lib.hasSuffix s.data.toList p.data.toList)])∧w'=w:=Any.strings_CutSuffix Tryz.lays104 s p w hs
def Tryz.lays122_ren:Go.Shelf.Ren:=⟨fun | 122=>275 | 215=>308 | n=>n,fun | 3=>3 | 4=>4 | n=>n,fun | n=>n⟩
theorem Tryz.lays122:Go.Proofs.Lays.n122 Tryz.prog Tryz.lays122_ren:={
 mixed:=by kernel_rfl
 f122:=Tryz.func275.trans (congrArg some (by kernel_rfl))
 f215:=Tryz.func308.trans (congrArg some (by kernel_rfl))
 t3:=Tryz.underlying3
 a3:=Tryz.isAgg3
 z3:=Tryz.sizeOf3
 v3:=Tryz.zeroValue3
 t4:=Tryz.underlying4
 a4:=Tryz.isAgg4
 z4:=Tryz.sizeOf4
 v4:=Tryz.zeroValue4}
open Go.RowKit in
theorem Tryz.cmp_Compare_int (x y:Int)(w:World):
  Calls Tryz.prog 275 #[.int .i64 x,.int .i64 y] w fun e w'=>e= .returned (.int .i64 (Lib.compareInt x y))∧w'=w:=Any.cmp_Compare_int Tryz.lays122 x y w
def Tryz.lays242_ren:Go.Shelf.Ren:=⟨fun | 242=>285 | 278=>312 | n=>n,fun | 37=>131 | 21=>21 | 51=>253 | 4=>4 | 5=>5 | 46=>44 | n=>n,fun | n=>n⟩
theorem Tryz.lays242:Go.Proofs.Lays.n242 Tryz.prog Tryz.lays242_ren:={
 mixed:=by kernel_rfl
 f242:=Tryz.func285.trans (congrArg some (by kernel_rfl))
 f278:=Tryz.func312.trans (congrArg some (by kernel_rfl))
 t4:=Tryz.underlying4
 a4:=Tryz.isAgg4
 z4:=Tryz.sizeOf4
 v4:=Tryz.zeroValue4
 t5:=Tryz.underlying5
 a5:=Tryz.isAgg5
 z5:=Tryz.sizeOf5
 v5:=Tryz.zeroValue5
 t21:=Tryz.underlying21
 a21:=Tryz.isAgg21
 z21:=Tryz.sizeOf21
 v21:=Tryz.zeroValue21
 t37:=Tryz.underlying131
 a37:=Tryz.isAgg131
 z37:=Tryz.sizeOf131
 v37:=Tryz.zeroValue131
 t46:=Tryz.underlying44
 a46:=Tryz.isAgg44
 z46:=Tryz.sizeOf44
 v46:=Tryz.zeroValue44
 t51:=Tryz.underlying253
 a51:=Tryz.isAgg253
 z51:=Tryz.sizeOf253
 v51:=Tryz.zeroValue253}
open Go.RowKit in
theorem Tryz.utf8_AppendRune_plain (B:Nat)(v:Value)(n:Nat)(xs:List Value)(r:Int)(hr0: -2147483648≤r)(hr1:r≤2147483647)(w:World)(hown:w.ownsRow B 5 1 v n xs)(hlen:n+4≤140737488355328)(hBw:B≤w.heap.size):
  Calls Tryz.prog 285 #[v,.int .i32 r] w fun e w'=> ∃v',e= .returned v'∧w'.ownsRow B 5 1 v' (n+(Lib.runeCells r).length) (xs++Lib.runeCells r)∧ ∃o,(w.alloc o).grownBy w' v.ownBlock:=Any.utf8_AppendRune_plain Tryz.lays242 (by kernel_rfl) B v n xs r hr0 hr1 w hown hlen hBw
def Tryz.lays145_ren:Go.Shelf.Ren:=⟨fun | 145=>172 | 220=>216 | 219=>267 | 217=>219 | 225=>297 | 224=>298 | 267=>299 | 266=>268 | 314=>316 | n=>n,fun | 9=>9 | 4=>4 | 59=>199 | 3=>3 | 5=>5 | 46=>44 | 146=>286 | 51=>253 | n=>n,fun | 1=>1 | n=>n⟩
theorem Tryz.lays145:Go.Proofs.Lays.n145 Tryz.prog Tryz.lays145_ren:={
 mixed:=by kernel_rfl
 f145:=Tryz.func172.trans (congrArg some (by kernel_rfl))
 f217:=Tryz.func219.trans (congrArg some (by kernel_rfl))
 f219:=Tryz.func267.trans (congrArg some (by kernel_rfl))
 f220:=Tryz.func216.trans (congrArg some (by kernel_rfl))
 f224:=Tryz.func298.trans (congrArg some (by kernel_rfl))
 f225:=Tryz.func297.trans (congrArg some (by kernel_rfl))
 f266:=Tryz.func268.trans (congrArg some (by kernel_rfl))
 f267:=Tryz.func299.trans (congrArg some (by kernel_rfl))
 f314:=Tryz.func316.trans (congrArg some (by kernel_rfl))
 t3:=Tryz.underlying3
 a3:=Tryz.isAgg3
 z3:=Tryz.sizeOf3
 v3:=Tryz.zeroValue3
 t4:=Tryz.underlying4
 a4:=Tryz.isAgg4
 z4:=Tryz.sizeOf4
 v4:=Tryz.zeroValue4
 t5:=Tryz.underlying5
 a5:=Tryz.isAgg5
 z5:=Tryz.sizeOf5
 v5:=Tryz.zeroValue5
 t9:=Tryz.underlying9
 a9:=Tryz.isAgg9
 z9:=Tryz.sizeOf9
 v9:=Tryz.zeroValue9
 t46:=Tryz.underlying44
 a46:=Tryz.isAgg44
 z46:=Tryz.sizeOf44
 v46:=Tryz.zeroValue44
 t51:=Tryz.underlying253
 a51:=Tryz.isAgg253
 z51:=Tryz.sizeOf253
 v51:=Tryz.zeroValue253
 t59:=Tryz.underlying199
 a59:=Tryz.isAgg199
 z59:=Tryz.sizeOf199
 v59:=Tryz.zeroValue199
 t146:=Tryz.underlying286
 a146:=Tryz.isAgg286
 z146:=Tryz.sizeOf286
 v146:=Tryz.zeroValue286
 g1:=by kernel_rfl}
open Go.RowKit Go.Lib in
theorem Tryz.strings_Cut (s sep:ByteArray)(m:Int)(w:World)(hs:s.size<4294967281)(hm:w.cell? ⟨1,0,none⟩=some (.int .i64 m)):
  Calls Tryz.prog 172 #[.string s,.string sep] w fun e w'=>e= .returned (.tuple #[.string ⟨(Lib.cut s.data.toList sep.data.toList).1.toArray⟩,.string ⟨(Lib.cut s.data.toList sep.data.toList).2.1.toArray⟩,.bool (Lib.cut s.data.toList sep.data.toList).2.2])∧ ∃n,w'=w.drewN n:=Any.strings_Cut Tryz.lays145 s sep m w hs hm
def Tryz.lays190_ren:Go.Shelf.Ren:=⟨fun | 190=>116 | 125=>183 | 258=>182 | 128=>245 | 129=>246 | 302=>236 | 303=>237 | 304=>238 | 305=>239 | 306=>240 | 307=>241 | 308=>242 | 309=>243 | 310=>244 | 333=>277 | 329=>278 | 330=>279 | 334=>280 | 335=>281 | 336=>282 | 344=>310 | n=>n,fun | 31=>35 | 9=>9 | 3=>3 | 46=>44 | 0=>0 | 51=>253 | 53=>161 | 4=>4 | 183=>247 | 182=>246 | 131=>150 | 5=>5 | 218=>268 | 222=>272 | 228=>283 | 229=>218 | n=>n,fun | n=>n⟩
theorem Tryz.lays190:Go.Proofs.Lays.n190 Tryz.prog Tryz.lays190_ren:={
 mixed:=by kernel_rfl
 f125:=Tryz.func183.trans (congrArg some (by kernel_rfl))
 f128:=Tryz.func245.trans (congrArg some (by kernel_rfl))
 f129:=Tryz.func246.trans (congrArg some (by kernel_rfl))
 f190:=Tryz.func116.trans (congrArg some (by kernel_rfl))
 f258:=Tryz.func182.trans (congrArg some (by kernel_rfl))
 f302:=Tryz.func236.trans (congrArg some (by kernel_rfl))
 f303:=Tryz.func237.trans (congrArg some (by kernel_rfl))
 f304:=Tryz.func238.trans (congrArg some (by kernel_rfl))
 f305:=Tryz.func239.trans (congrArg some (by kernel_rfl))
 f306:=Tryz.func240.trans (congrArg some (by kernel_rfl))
 f307:=Tryz.func241.trans (congrArg some (by kernel_rfl))
 f308:=Tryz.func242.trans (congrArg some (by kernel_rfl))
 f309:=Tryz.func243.trans (congrArg some (by kernel_rfl))
 f310:=Tryz.func244.trans (congrArg some (by kernel_rfl))
 f329:=Tryz.func278.trans (congrArg some (by kernel_rfl))
 f330:=Tryz.func279.trans (congrArg some (by kernel_rfl))
 f333:=Tryz.func277.trans (congrArg some (by kernel_rfl))
 f334:=Tryz.func280.trans (congrArg some (by kernel_rfl))
 f335:=Tryz.func281.trans (congrArg some (by kernel_rfl))
 f336:=Tryz.func282.trans (congrArg some (by kernel_rfl))
 f344:=Tryz.func310.trans (congrArg some (by kernel_rfl))
 t0:=Tryz.underlying0
 a0:=Tryz.isAgg0
 z0:=Tryz.sizeOf0
 v0:=Tryz.zeroValue0
 t3:=Tryz.underlying3
 a3:=Tryz.isAgg3
 z3:=Tryz.sizeOf3
 v3:=Tryz.zeroValue3
 t4:=Tryz.underlying4
 a4:=Tryz.isAgg4
 z4:=Tryz.sizeOf4
 v4:=Tryz.zeroValue4
 t5:=Tryz.underlying5
 a5:=Tryz.isAgg5
 z5:=Tryz.sizeOf5
 v5:=Tryz.zeroValue5
 t9:=Tryz.underlying9
 a9:=Tryz.isAgg9
 z9:=Tryz.sizeOf9
 v9:=Tryz.zeroValue9
 t31:=Tryz.underlying35
 a31:=Tryz.isAgg35
 z31:=Tryz.sizeOf35
 v31:=Tryz.zeroValue35
 t46:=Tryz.underlying44
 a46:=Tryz.isAgg44
 z46:=Tryz.sizeOf44
 v46:=Tryz.zeroValue44
 t51:=Tryz.underlying253
 a51:=Tryz.isAgg253
 z51:=Tryz.sizeOf253
 v51:=Tryz.zeroValue253
 t53:=Tryz.underlying161
 a53:=Tryz.isAgg161
 z53:=Tryz.sizeOf161
 v53:=Tryz.zeroValue161
 t131:=Tryz.underlying150
 a131:=Tryz.isAgg150
 z131:=Tryz.sizeOf150
 v131:=Tryz.zeroValue150
 t182:=Tryz.underlying246
 a182:=Tryz.isAgg246
 z182:=Tryz.sizeOf246
 v182:=Tryz.zeroValue246
 t183:=Tryz.underlying247
 a183:=Tryz.isAgg247
 z183:=Tryz.sizeOf247
 v183:=Tryz.zeroValue247
 t218:=Tryz.underlying268
 a218:=Tryz.isAgg268
 z218:=Tryz.sizeOf268
 v218:=Tryz.zeroValue268
 t222:=Tryz.underlying272
 a222:=Tryz.isAgg272
 z222:=Tryz.sizeOf272
 v222:=Tryz.zeroValue272
 t228:=Tryz.underlying283
 a228:=Tryz.isAgg283
 z228:=Tryz.sizeOf283
 v228:=Tryz.zeroValue283
 t229:=Tryz.underlying218
 a229:=Tryz.isAgg218
 z229:=Tryz.sizeOf218
 v229:=Tryz.zeroValue218}
open Go.Sort Go.RowKit in
theorem Tryz.slices_Sort_string (blk off cap:Nat)(ss:List (List UInt8))(w:World)(hH:Holds encStr w blk off ss.toArray)(hblk:blk<w.heap.size)(hsz:ss.length<4611686018427387904):
  Calls Tryz.prog 116 #[.slice (some ⟨blk,off,none⟩) ss.length cap] w fun e w'=>
   e= .returned (.tuple #[])∧ ∃n os,w'=grow (putRow encStr (Sort.ahead w n) blk off (ss.mergeSort fun x y=>decide (x≤y)).toArray) os:=Any.slices_Sort_string Tryz.lays190 blk off cap ss w hH hblk hsz
def Tryz.lays99_ren:Go.Shelf.Ren:=⟨fun | 99=>108 | 206=>176 | n=>n,fun | 9=>9 | 4=>4 | 3=>3 | n=>n,fun | n=>n⟩
theorem Tryz.lays99:Go.Proofs.Lays.n99 Tryz.prog Tryz.lays99_ren:={
 mixed:=by kernel_rfl
 f99:=Tryz.func108.trans (congrArg some (by kernel_rfl))
 f206:=Tryz.func176.trans (congrArg some (by kernel_rfl))
 t3:=Tryz.underlying3
 a3:=Tryz.isAgg3
 z3:=Tryz.sizeOf3
 v3:=Tryz.zeroValue3
 t4:=Tryz.underlying4
 a4:=Tryz.isAgg4
 z4:=Tryz.sizeOf4
 v4:=Tryz.zeroValue4
 t9:=Tryz.underlying9
 a9:=Tryz.isAgg9
 z9:=Tryz.sizeOf9
 v9:=Tryz.zeroValue9}
open Go.RowKit Go.Lib in
theorem Tryz.strings_HasPrefix (s p:ByteArray)(w:World):
  Calls Tryz.prog 108 #[.string s,.string p] w fun e w'=>e= .returned (.bool (Lib.hasPrefix s.data.toList p.data.toList))∧w'=w:=Any.strings_HasPrefix Tryz.lays99 s p w
def Tryz.lays101_ren:Go.Shelf.Ren:=⟨fun | 101=>315 | 208=>326 | 206=>176 | n=>n,fun | 9=>9 | 4=>4 | 3=>3 | n=>n,fun | n=>n⟩
theorem Tryz.lays101:Go.Proofs.Lays.n101 Tryz.prog Tryz.lays101_ren:={
 mixed:=by kernel_rfl
 f101:=Tryz.func315.trans (congrArg some (by kernel_rfl))
 f206:=Tryz.func176.trans (congrArg some (by kernel_rfl))
 f208:=Tryz.func326.trans (congrArg some (by kernel_rfl))
 t3:=Tryz.underlying3
 a3:=Tryz.isAgg3
 z3:=Tryz.sizeOf3
 v3:=Tryz.zeroValue3
 t4:=Tryz.underlying4
 a4:=Tryz.isAgg4
 z4:=Tryz.sizeOf4
 v4:=Tryz.zeroValue4
 t9:=Tryz.underlying9
 a9:=Tryz.isAgg9
 z9:=Tryz.sizeOf9
 v9:=Tryz.zeroValue9}
open Go.RowKit Go.Lib in
theorem Tryz.strings_TrimPrefix (s p:ByteArray)(w:World):
  Calls Tryz.prog 315 #[.string s,.string p] w fun e w'=>e= .returned (.string ⟨(Lib.trimPrefix s.data.toList p.data.toList).toArray⟩)∧w'=w:=Any.strings_TrimPrefix Tryz.lays101 s p w
def Tryz.lays146_ren:Go.Shelf.Ren:=⟨fun | 146=>193 | 221=>258 | 268=>286 | 138=>287 | 143=>288 | 195=>313 | 197=>270 | 218=>314 | 219=>267 | 260=>300 | 217=>219 | 225=>297 | 224=>298 | 267=>299 | 266=>268 | 314=>316 | n=>n,fun | 9=>9 | 31=>35 | 3=>3 | 4=>4 | 0=>0 | 105=>263 | 21=>21 | 5=>5 | 46=>44 | 119=>288 | 139=>291 | 138=>290 | 146=>286 | 51=>253 | n=>n,fun | 1=>1 | 3=>2 | 4=>3 | n=>n⟩
theorem Tryz.lays146:Go.Proofs.Lays.n146 Tryz.prog Tryz.lays146_ren:={
 mixed:=by kernel_rfl
 f138:=Tryz.func287.trans (congrArg some (by kernel_rfl))
 f143:=Tryz.func288.trans (congrArg some (by kernel_rfl))
 f146:=Tryz.func193.trans (congrArg some (by kernel_rfl))
 f195:=Tryz.func313.trans (congrArg some (by kernel_rfl))
 f197:=Tryz.func270.trans (congrArg some (by kernel_rfl))
 f217:=Tryz.func219.trans (congrArg some (by kernel_rfl))
 f218:=Tryz.func314.trans (congrArg some (by kernel_rfl))
 f219:=Tryz.func267.trans (congrArg some (by kernel_rfl))
 f221:=Tryz.func258.trans (congrArg some (by kernel_rfl))
 f224:=Tryz.func298.trans (congrArg some (by kernel_rfl))
 f225:=Tryz.func297.trans (congrArg some (by kernel_rfl))
 f260:=Tryz.func300.trans (congrArg some (by kernel_rfl))
 f266:=Tryz.func268.trans (congrArg some (by kernel_rfl))
 f267:=Tryz.func299.trans (congrArg some (by kernel_rfl))
 f268:=Tryz.func286.trans (congrArg some (by kernel_rfl))
 f314:=Tryz.func316.trans (congrArg some (by kernel_rfl))
 t0:=Tryz.underlying0
 a0:=Tryz.isAgg0
 z0:=Tryz.sizeOf0
 v0:=Tryz.zeroValue0
 t3:=Tryz.underlying3
 a3:=Tryz.isAgg3
 z3:=Tryz.sizeOf3
 v3:=Tryz.zeroValue3
 t4:=Tryz.underlying4
 a4:=Tryz.isAgg4
 z4:=Tryz.sizeOf4
 v4:=Tryz.zeroValue4
 t5:=Tryz.underlying5
 a5:=Tryz.isAgg5
 z5:=Tryz.sizeOf5
 v5:=Tryz.zeroValue5
 t9:=Tryz.underlying9
 a9:=Tryz.isAgg9
 z9:=Tryz.sizeOf9
 v9:=Tryz.zeroValue9
 t21:=Tryz.underlying21
 a21:=Tryz.isAgg21
 z21:=Tryz.sizeOf21
 v21:=Tryz.zeroValue21
 t31:=Tryz.underlying35
 a31:=Tryz.isAgg35
 z31:=Tryz.sizeOf35
 v31:=Tryz.zeroValue35
 t46:=Tryz.underlying44
 a46:=Tryz.isAgg44
 z46:=Tryz.sizeOf44
 v46:=Tryz.zeroValue44
 t51:=Tryz.underlying253
 a51:=Tryz.isAgg253
 z51:=Tryz.sizeOf253
 v51:=Tryz.zeroValue253
 t105:=Tryz.underlying263
 a105:=Tryz.isAgg263
 z105:=Tryz.sizeOf263
 v105:=Tryz.zeroValue263
 t119:=Tryz.underlying288
 a119:=Tryz.isAgg288
 z119:=Tryz.sizeOf288
 t138:=Tryz.underlying290
 a138:=Tryz.isAgg290
 z138:=Tryz.sizeOf290
 v138:=Tryz.zeroValue290
 t139:=Tryz.underlying291
 a139:=Tryz.isAgg291
 z139:=Tryz.sizeOf291
 v139:=Tryz.zeroValue291
 t146:=Tryz.underlying286
 a146:=Tryz.isAgg286
 z146:=Tryz.sizeOf286
 v146:=Tryz.zeroValue286
 g1:=by kernel_rfl
 g3:=by kernel_rfl
 g4:=by kernel_rfl}
open Go.RowKit Go.Lib in
theorem Tryz.strings_Split (s sep:ByteArray)(m:Int)(w:World)(hs:s.size<4294967281)(hm:w.cell? ⟨1,0,none⟩=some (.int .i64 m))(h1:1≤sep.size):
  Calls Tryz.prog 193 #[.string s,.string sep] w fun e w'=>
   e= .returned (.slice (some ⟨w.heap.size,0,none⟩) (Lib.countB s sep+1) (Lib.countB s sep+1))∧w'=w.alloc (.cells ((Lib.splitB sep 0 (Lib.countB s sep) s).map Value.string).toArray 9):=Any.strings_Split Tryz.lays146 (by kernel_rfl) s sep m w hs hm h1
def Tryz.lays155_ren:Go.Shelf.Ren:=⟨fun | 155=>284 | 154=>311 | 138=>287 | 165=>212 | 143=>288 | 166=>101 | 197=>270 | 169=>105 | 195=>313 | 218=>314 | 240=>167 | 241=>266 | 219=>267 | 260=>300 | 276=>214 | 277=>296 | 217=>219 | 225=>297 | 224=>298 | 267=>299 | 266=>268 | 314=>316 | n=>n,fun | 9=>9 | 3=>3 | 4=>4 | 72=>133 | 0=>0 | 76=>136 | 105=>263 | 21=>21 | 5=>5 | 70=>130 | 20=>20 | 37=>131 | 75=>135 | 127=>198 | 164=>228 | 46=>44 | 119=>288 | 139=>291 | 138=>290 | 146=>286 | 51=>253 | 80=>93 | n=>n,fun | 1=>1 | 3=>2 | 4=>3 | n=>n⟩
theorem Tryz.lays155:Go.Proofs.Lays.n155 Tryz.prog Tryz.lays155_ren:={
 mixed:=by kernel_rfl
 f138:=Tryz.func287.trans (congrArg some (by kernel_rfl))
 f143:=Tryz.func288.trans (congrArg some (by kernel_rfl))
 f154:=Tryz.func311.trans (congrArg some (by kernel_rfl))
 f155:=Tryz.func284.trans (congrArg some (by kernel_rfl))
 f165:=Tryz.func212.trans (congrArg some (by kernel_rfl))
 f166:=Tryz.func101.trans (congrArg some (by kernel_rfl))
 f169:=Tryz.func105.trans (congrArg some (by kernel_rfl))
 f195:=Tryz.func313.trans (congrArg some (by kernel_rfl))
 f197:=Tryz.func270.trans (congrArg some (by kernel_rfl))
 f217:=Tryz.func219.trans (congrArg some (by kernel_rfl))
 f218:=Tryz.func314.trans (congrArg some (by kernel_rfl))
 f219:=Tryz.func267.trans (congrArg some (by kernel_rfl))
 f224:=Tryz.func298.trans (congrArg some (by kernel_rfl))
 f225:=Tryz.func297.trans (congrArg some (by kernel_rfl))
 f240:=Tryz.func167.trans (congrArg some (by kernel_rfl))
 f241:=Tryz.func266.trans (congrArg some (by kernel_rfl))
 f260:=Tryz.func300.trans (congrArg some (by kernel_rfl))
 f266:=Tryz.func268.trans (congrArg some (by kernel_rfl))
 f267:=Tryz.func299.trans (congrArg some (by kernel_rfl))
 f276:=Tryz.func214.trans (congrArg some (by kernel_rfl))
 f277:=Tryz.func296.trans (congrArg some (by kernel_rfl))
 f314:=Tryz.func316.trans (congrArg some (by kernel_rfl))
 t0:=Tryz.underlying0
 a0:=Tryz.isAgg0
 z0:=Tryz.sizeOf0
 v0:=Tryz.zeroValue0
 t3:=Tryz.underlying3
 a3:=Tryz.isAgg3
 z3:=Tryz.sizeOf3
 v3:=Tryz.zeroValue3
 t4:=Tryz.underlying4
 a4:=Tryz.isAgg4
 z4:=Tryz.sizeOf4
 v4:=Tryz.zeroValue4
 t5:=Tryz.underlying5
 a5:=Tryz.isAgg5
 z5:=Tryz.sizeOf5
 v5:=Tryz.zeroValue5
 t9:=Tryz.underlying9
 a9:=Tryz.isAgg9
 z9:=Tryz.sizeOf9
 v9:=Tryz.zeroValue9
 t20:=Tryz.underlying20
 a20:=Tryz.isAgg20
 z20:=Tryz.sizeOf20
 v20:=Tryz.zeroValue20
 t21:=Tryz.underlying21
 a21:=Tryz.isAgg21
 z21:=Tryz.sizeOf21
 v21:=Tryz.zeroValue21
 t37:=Tryz.underlying131
 a37:=Tryz.isAgg131
 z37:=Tryz.sizeOf131
 v37:=Tryz.zeroValue131
 t46:=Tryz.underlying44
 a46:=Tryz.isAgg44
 z46:=Tryz.sizeOf44
 v46:=Tryz.zeroValue44
 t51:=Tryz.underlying253
 a51:=Tryz.isAgg253
 z51:=Tryz.sizeOf253
 v51:=Tryz.zeroValue253
 t70:=Tryz.underlying130
 a70:=Tryz.isAgg130
 z70:=Tryz.sizeOf130
 v70:=Tryz.zeroValue130
 t72:=Tryz.underlying133
 a72:=Tryz.isAgg133
 z72:=Tryz.sizeOf133
 v72:=Tryz.zeroValue133
 t75:=Tryz.underlying135
 a75:=Tryz.isAgg135
 z75:=Tryz.sizeOf135
 v75:=Tryz.zeroValue135
 t76:=Tryz.underlying136
 a76:=Tryz.isAgg136
 z76:=Tryz.sizeOf136
 v76:=Tryz.zeroValue136
 t105:=Tryz.underlying263
 a105:=Tryz.isAgg263
 z105:=Tryz.sizeOf263
 v105:=Tryz.zeroValue263
 t119:=Tryz.underlying288
 a119:=Tryz.isAgg288
 z119:=Tryz.sizeOf288
 t127:=Tryz.underlying198
 a127:=Tryz.isAgg198
 z127:=Tryz.sizeOf198
 v127:=Tryz.zeroValue198
 t138:=Tryz.underlying290
 a138:=Tryz.isAgg290
 z138:=Tryz.sizeOf290
 v138:=Tryz.zeroValue290
 t139:=Tryz.underlying291
 a139:=Tryz.isAgg291
 z139:=Tryz.sizeOf291
 v139:=Tryz.zeroValue291
 t146:=Tryz.underlying286
 a146:=Tryz.isAgg286
 z146:=Tryz.sizeOf286
 v146:=Tryz.zeroValue286
 t164:=Tryz.underlying228
 a164:=Tryz.isAgg228
 z164:=Tryz.sizeOf228
 v164:=Tryz.zeroValue228
 g1:=by kernel_rfl
 g3:=by kernel_rfl
 g4:=by kernel_rfl}
theorem Tryz.Builder_Extra_155:Builder.Extra Tryz.prog Tryz.lays155_ren:={
 sizeBuilder:=by kernel_rfl
 liesBuilder:=by kernel_rfl
 t5:=Tryz.underlying5
 a5:=Tryz.isAgg5
 z5:=Tryz.sizeOf5
 v5:=Tryz.zeroValue5
 infoByte:=by kernel_rfl
 cellsByte:=by kernel_rfl
 sizeByte:=by kernel_rfl
 neB5:=by decide}
open Go.RowKit Go.Lib in
theorem Tryz.strings_ReplaceAll (s old new:ByteArray)(m:Int)(w:World)(hs:s.size<4294967281)(hm:w.cell? ⟨1,0,none⟩=some (.int .i64 m))(h1:1≤old.size)(hlen:s.size+Lib.countB s old*new.size≤140737488355328):
  Calls Tryz.prog 284 #[.string s,.string old,.string new] w fun e w'=>
   e= .returned (.string ⟨(Lib.replaceAll s.data.toList old.data.toList new.data.toList).toArray⟩)∧Below w.heap.size w w':=Any.strings_ReplaceAll Tryz.lays155 Tryz.Builder_Extra_155 s old new m w hs hm h1 hlen
def Tryz.laysM146_ren:Go.Shelf.Ren:=⟨fun | 146=>193 | 221=>258 | 268=>286 | 138=>287 | 143=>288 | 195=>313 | 197=>270 | 218=>314 | 219=>267 | 260=>300 | 217=>219 | 225=>297 | 224=>298 | 267=>299 | 266=>268 | 314=>316 | n=>n,fun | 9=>9 | 31=>35 | 3=>3 | 4=>4 | 0=>0 | 105=>263 | 21=>21 | 5=>5 | 46=>44 | 119=>288 | 139=>291 | 138=>290 | 146=>286 | 51=>253 | n=>n,fun | 1=>1 | 3=>2 | 4=>3 | n=>n⟩
theorem Tryz.laysM146:Go.Proofs.LaysM.n146 Tryz.prog Tryz.laysM146_ren:={
 mixed:=by kernel_rfl
 f138:=Tryz.func287.trans (congrArg some (by kernel_rfl))
 f143:=Tryz.func288.trans (congrArg some (by kernel_rfl))
 f146:=Tryz.func193.trans (congrArg some (by kernel_rfl))
 f195:=Tryz.func313.trans (congrArg some (by kernel_rfl))
 f197:=Tryz.func270.trans (congrArg some (by kernel_rfl))
 f217:=Tryz.func219.trans (congrArg some (by kernel_rfl))
 f218:=Tryz.func314.trans (congrArg some (by kernel_rfl))
 f219:=Tryz.func267.trans (congrArg some (by kernel_rfl))
 f221:=Tryz.func258.trans (congrArg some (by kernel_rfl))
 f224:=Tryz.func298.trans (congrArg some (by kernel_rfl))
 f225:=Tryz.func297.trans (congrArg some (by kernel_rfl))
 f260:=Tryz.func300.trans (congrArg some (by kernel_rfl))
 f266:=Tryz.func268.trans (congrArg some (by kernel_rfl))
 f267:=Tryz.func299.trans (congrArg some (by kernel_rfl))
 f268:=Tryz.func286.trans (congrArg some (by kernel_rfl))
 f314:=Tryz.func316.trans (congrArg some (by kernel_rfl))
 t0:=Tryz.underlying0
 a0:=Tryz.isAgg0
 z0:=Tryz.sizeOf0
 v0:=Tryz.zeroValue0
 t3:=Tryz.underlying3
 a3:=Tryz.isAgg3
 z3:=Tryz.sizeOf3
 v3:=Tryz.zeroValue3
 t4:=Tryz.underlying4
 a4:=Tryz.isAgg4
 z4:=Tryz.sizeOf4
 v4:=Tryz.zeroValue4
 t5:=Tryz.underlying5
 a5:=Tryz.isAgg5
 z5:=Tryz.sizeOf5
 v5:=Tryz.zeroValue5
 t9:=Tryz.underlying9
 a9:=Tryz.isAgg9
 z9:=Tryz.sizeOf9
 v9:=Tryz.zeroValue9
 t21:=Tryz.underlying21
 a21:=Tryz.isAgg21
 z21:=Tryz.sizeOf21
 v21:=Tryz.zeroValue21
 t31:=Tryz.underlying35
 a31:=Tryz.isAgg35
 z31:=Tryz.sizeOf35
 v31:=Tryz.zeroValue35
 t46:=Tryz.underlying44
 a46:=Tryz.isAgg44
 z46:=Tryz.sizeOf44
 v46:=Tryz.zeroValue44
 t51:=Tryz.underlying253
 a51:=Tryz.isAgg253
 z51:=Tryz.sizeOf253
 v51:=Tryz.zeroValue253
 t105:=Tryz.underlying263
 a105:=Tryz.isAgg263
 z105:=Tryz.sizeOf263
 v105:=Tryz.zeroValue263
 t119:=Tryz.underlying288
 a119:=Tryz.isAgg288
 z119:=Tryz.sizeOf288
 t138:=Tryz.underlying290
 a138:=Tryz.isAgg290
 z138:=Tryz.sizeOf290
 v138:=Tryz.zeroValue290
 t139:=Tryz.underlying291
 a139:=Tryz.isAgg291
 z139:=Tryz.sizeOf291
 v139:=Tryz.zeroValue291
 t146:=Tryz.underlying286
 a146:=Tryz.isAgg286
 z146:=Tryz.sizeOf286
 v146:=Tryz.zeroValue286
 g1:=by kernel_rfl
 g3:=by kernel_rfl
 g4:=by kernel_rfl
 i0:=by kernel_rfl
 i3:=by kernel_rfl
 i4:=by kernel_rfl
 i5:=by kernel_rfl
 i9:=by kernel_rfl
 i21:=by kernel_rfl
 i31:=by kernel_rfl
 i46:=by kernel_rfl
 i51:=by kernel_rfl
 i105:=by kernel_rfl
 i138:=by kernel_rfl
 i139:=by kernel_rfl
 i146:=by kernel_rfl
 m1:=by kernel_rfl
 s1_3:=fun w h=>Go.Proofs.cell_of_shapedOpen_int (zero:=#[.int .i64 0]) (t:=3) h (of_decide_eq_true (by kernel_rfl)) (by kernel_rfl) rfl (by kernel_rfl) (by kernel_rfl) Tryz.underlying3
 m3:=by kernel_rfl
 m4:=by kernel_rfl}
def Tryz.lays260_ren:Go.Shelf.Ren:=⟨fun | 260=>300 | n=>n,fun | 9=>9 | 21=>21 | 3=>3 | 4=>4 | 5=>5 | 119=>288 | 0=>0 | 46=>44 | 139=>291 | 138=>290 | n=>n,fun | 3=>2 | 4=>3 | n=>n⟩
theorem Tryz.lays260:Go.Proofs.Lays.n260 Tryz.prog Tryz.lays260_ren:={
 mixed:=by kernel_rfl
 f260:=Tryz.func300.trans (congrArg some (by kernel_rfl))
 t0:=Tryz.underlying0
 a0:=Tryz.isAgg0
 z0:=Tryz.sizeOf0
 v0:=Tryz.zeroValue0
 t3:=Tryz.underlying3
 a3:=Tryz.isAgg3
 z3:=Tryz.sizeOf3
 v3:=Tryz.zeroValue3
 t4:=Tryz.underlying4
 a4:=Tryz.isAgg4
 z4:=Tryz.sizeOf4
 v4:=Tryz.zeroValue4
 t5:=Tryz.underlying5
 a5:=Tryz.isAgg5
 z5:=Tryz.sizeOf5
 v5:=Tryz.zeroValue5
 t9:=Tryz.underlying9
 a9:=Tryz.isAgg9
 z9:=Tryz.sizeOf9
 v9:=Tryz.zeroValue9
 t21:=Tryz.underlying21
 a21:=Tryz.isAgg21
 z21:=Tryz.sizeOf21
 v21:=Tryz.zeroValue21
 t46:=Tryz.underlying44
 a46:=Tryz.isAgg44
 z46:=Tryz.sizeOf44
 v46:=Tryz.zeroValue44
 t119:=Tryz.underlying288
 a119:=Tryz.isAgg288
 z119:=Tryz.sizeOf288
 t138:=Tryz.underlying290
 a138:=Tryz.isAgg290
 z138:=Tryz.sizeOf290
 v138:=Tryz.zeroValue290
 t139:=Tryz.underlying291
 a139:=Tryz.isAgg291
 z139:=Tryz.sizeOf291
 v139:=Tryz.zeroValue291
 g3:=by kernel_rfl
 g4:=by kernel_rfl}
def Tryz.lays230_ren:Go.Shelf.Ren:=⟨fun | 230=>262 | 197=>270 | 118=>293 | 165=>212 | 166=>101 | 168=>257 | 270=>294 | 167=>128 | 169=>105 | 260=>300 | 240=>167 | 241=>266 | 242=>285 | 276=>214 | 277=>296 | 278=>312 | n=>n,fun | 107=>183 | 9=>9 | 72=>133 | 0=>0 | 4=>4 | 3=>3 | 21=>21 | 105=>263 | 76=>136 | 5=>5 | 75=>135 | 70=>130 | 20=>20 | 37=>131 | 127=>198 | 119=>288 | 46=>44 | 139=>291 | 138=>290 | 164=>228 | 51=>253 | 80=>93 | n=>n,fun | 3=>2 | 4=>3 | n=>n⟩
theorem Tryz.lays230:Go.Proofs.Lays.n230 Tryz.prog Tryz.lays230_ren:={
 mixed:=by kernel_rfl
 f118:=Tryz.func293.trans (congrArg some (by kernel_rfl))
 f165:=Tryz.func212.trans (congrArg some (by kernel_rfl))
 f166:=Tryz.func101.trans (congrArg some (by kernel_rfl))
 f167:=Tryz.func128.trans (congrArg some (by kernel_rfl))
 f168:=Tryz.func257.trans (congrArg some (by kernel_rfl))
 f169:=Tryz.func105.trans (congrArg some (by kernel_rfl))
 f197:=Tryz.func270.trans (congrArg some (by kernel_rfl))
 f230:=Tryz.func262.trans (congrArg some (by kernel_rfl))
 f240:=Tryz.func167.trans (congrArg some (by kernel_rfl))
 f241:=Tryz.func266.trans (congrArg some (by kernel_rfl))
 f242:=Tryz.func285.trans (congrArg some (by kernel_rfl))
 f260:=Tryz.func300.trans (congrArg some (by kernel_rfl))
 f270:=Tryz.func294.trans (congrArg some (by kernel_rfl))
 f276:=Tryz.func214.trans (congrArg some (by kernel_rfl))
 f277:=Tryz.func296.trans (congrArg some (by kernel_rfl))
 f278:=Tryz.func312.trans (congrArg some (by kernel_rfl))
 t0:=Tryz.underlying0
 a0:=Tryz.isAgg0
 z0:=Tryz.sizeOf0
 v0:=Tryz.zeroValue0
 t3:=Tryz.underlying3
 a3:=Tryz.isAgg3
 z3:=Tryz.sizeOf3
 v3:=Tryz.zeroValue3
 t4:=Tryz.underlying4
 a4:=Tryz.isAgg4
 z4:=Tryz.sizeOf4
 v4:=Tryz.zeroValue4
 t5:=Tryz.underlying5
 a5:=Tryz.isAgg5
 z5:=Tryz.sizeOf5
 v5:=Tryz.zeroValue5
 t9:=Tryz.underlying9
 a9:=Tryz.isAgg9
 z9:=Tryz.sizeOf9
 v9:=Tryz.zeroValue9
 t20:=Tryz.underlying20
 a20:=Tryz.isAgg20
 z20:=Tryz.sizeOf20
 v20:=Tryz.zeroValue20
 t21:=Tryz.underlying21
 a21:=Tryz.isAgg21
 z21:=Tryz.sizeOf21
 v21:=Tryz.zeroValue21
 t37:=Tryz.underlying131
 a37:=Tryz.isAgg131
 z37:=Tryz.sizeOf131
 v37:=Tryz.zeroValue131
 t46:=Tryz.underlying44
 a46:=Tryz.isAgg44
 z46:=Tryz.sizeOf44
 v46:=Tryz.zeroValue44
 t51:=Tryz.underlying253
 a51:=Tryz.isAgg253
 z51:=Tryz.sizeOf253
 v51:=Tryz.zeroValue253
 t70:=Tryz.underlying130
 a70:=Tryz.isAgg130
 z70:=Tryz.sizeOf130
 v70:=Tryz.zeroValue130
 t72:=Tryz.underlying133
 a72:=Tryz.isAgg133
 z72:=Tryz.sizeOf133
 v72:=Tryz.zeroValue133
 t75:=Tryz.underlying135
 a75:=Tryz.isAgg135
 z75:=Tryz.sizeOf135
 v75:=Tryz.zeroValue135
 t76:=Tryz.underlying136
 a76:=Tryz.isAgg136
 z76:=Tryz.sizeOf136
 v76:=Tryz.zeroValue136
 t105:=Tryz.underlying263
 a105:=Tryz.isAgg263
 z105:=Tryz.sizeOf263
 v105:=Tryz.zeroValue263
 t107:=Tryz.underlying183
 a107:=Tryz.isAgg183
 z107:=Tryz.sizeOf183
 v107:=Tryz.zeroValue183
 t119:=Tryz.underlying288
 a119:=Tryz.isAgg288
 z119:=Tryz.sizeOf288
 t127:=Tryz.underlying198
 a127:=Tryz.isAgg198
 z127:=Tryz.sizeOf198
 v127:=Tryz.zeroValue198
 t138:=Tryz.underlying290
 a138:=Tryz.isAgg290
 z138:=Tryz.sizeOf290
 v138:=Tryz.zeroValue290
 t139:=Tryz.underlying291
 a139:=Tryz.isAgg291
 z139:=Tryz.sizeOf291
 v139:=Tryz.zeroValue291
 t164:=Tryz.underlying228
 a164:=Tryz.isAgg228
 z164:=Tryz.sizeOf228
 v164:=Tryz.zeroValue228
 g3:=by kernel_rfl
 g4:=by kernel_rfl}
theorem Tryz.Builder_Extra_230:Builder.Extra Tryz.prog Tryz.lays230_ren:={
 sizeBuilder:=by kernel_rfl
 liesBuilder:=by kernel_rfl
 t5:=Tryz.underlying5
 a5:=Tryz.isAgg5
 z5:=Tryz.sizeOf5
 v5:=Tryz.zeroValue5
 infoByte:=by kernel_rfl
 cellsByte:=by kernel_rfl
 sizeByte:=by kernel_rfl
 neB5:=by decide}
open Go.RowKit Go.Lib in
theorem Tryz.strings_Map_runes (g:Nat)(lb:Array Value)(eg: ∀args w,(callFunc g args).run Tryz.prog w= .ok (.enter g args) w)(f:Int→Int)(s:ByteArray)(w:World)(hs:s.size<35184372088832)(hf:MapAtRunes Tryz.prog g lb f w)(hnn: ∀x:Nat,x≤1114111→0≤f x∧f x≤2147483647)(hT:Lib.Utf8Tabs 2 3 w):
  Calls Tryz.prog 262 #[.func (.func g) #[] lb,.string s] w fun e w'=>e= .returned (.string ⟨(Lib.mapD f s.data.toList).toArray⟩)∧Below w.heap.size w w':=Any.strings_Map_runes Tryz.lays230 Tryz.Builder_Extra_230 g lb eg f s w hs hf hnn hT
open Go.RowKit Go.Sort in
theorem Tryz.slices_Sort_string_none (p:Option Addr)(cap:Nat)(w:World):
  Calls Tryz.prog 116 #[.slice p 0 cap] w fun e w'=>e= .returned (.tuple #[])∧w'=w:=Any.slices_Sort_string_none Tryz.lays190 p cap w
end Go.Proofs
namespace Go.Proofs.YtmnpfkbjpeaemaaGreatDoor
open Go.RowKit
theorem hx_drewN {B:Nat}{a b:World}(h:Below B a b)(n:Nat):Below B a (b.drewN n):=⟨h.os,h.tape,h.output,h.size,h.block⟩
theorem ix_val (c:UInt8):Lib.indexByte b64p.digits ((if 65≤c.toNat∧c.toNat≤70 then c.toNat+32 else c.toNat).toUInt8)=b64p.valI c:=by
 have all: ∀m:Fin 256,Lib.indexByte b64p.digits ((if 65≤m.val∧m.val≤70 then m.val+32 else m.val).toUInt8)=b64p.valI (UInt8.ofNat m.val):=by decide+kernel
 have h:=all ⟨c.toNat,c.toNat_lt⟩;simpa using h
theorem digit_any (c:UInt8)(w:World):Calls Tryz.prog 295 #[.int .u8 (c.toNat:Int)] w fun e w'=>e= .returned (.int .i64 (b64p.valI c))∧w=w':=by
 have hx:=ix_val c;have hc:=c.toNat_lt;by_cases h1:65≤c.toNat
 ·by_cases h2:c.toNat≤70
  ·rw[if_pos ⟨h1,h2⟩]at hx;have C:=Tryz.strings_IndexByte {data:=#[48,49,50,51,52,53,54,55,56,57,97,98,99,100,101,102]} ((c.toNat:Int)+32) w;have hi:Lib.indexByte (ByteArray.mk #[48,49,50,51,52,53,54,55,56,57,97,98,99,100,101,102]).data.toList ((c.toNat:Int)+32).toNat.toUInt8=b64p.valI c:=hx;rw[hi]at C;have C:=Lib.hid C;clear hx hi;go_enter Tryz.func295,Tryz.ntmps295;go_wp2_with fail;refine C.out.mono ?_;rintro e w' ⟨rfl,rfl⟩;go_wp2_with fail;go_ret;exact⟨rfl,rfl⟩
  ·rw[if_neg (by omega)]at hx;have C:=Tryz.strings_IndexByte {data:=#[48,49,50,51,52,53,54,55,56,57,97,98,99,100,101,102]} (c.toNat:Int) w;have hi:Lib.indexByte (ByteArray.mk #[48,49,50,51,52,53,54,55,56,57,97,98,99,100,101,102]).data.toList (c.toNat:Int).toNat.toUInt8=b64p.valI c:=hx;rw[hi]at C;have C:=Lib.hid C;clear hx hi;go_enter Tryz.func295,Tryz.ntmps295;go_wp2_with fail;refine C.out.mono ?_;rintro e w' ⟨rfl,rfl⟩;go_wp2_with fail;go_ret;exact⟨rfl,rfl⟩
 ·rw[if_neg (by omega)]at hx;have C:=Tryz.strings_IndexByte {data:=#[48,49,50,51,52,53,54,55,56,57,97,98,99,100,101,102]} (c.toNat:Int) w;have hi:Lib.indexByte (ByteArray.mk #[48,49,50,51,52,53,54,55,56,57,97,98,99,100,101,102]).data.toList (c.toNat:Int).toNat.toUInt8=b64p.valI c:=hx;rw[hi]at C;have C:=Lib.hid C;clear hx hi;go_enter Tryz.func295,Tryz.ntmps295;go_wp2_with fail;refine C.out.mono ?_;rintro e w' ⟨rfl,rfl⟩;go_wp2_with fail;go_ret;exact⟨rfl,rfl⟩
theorem value_any (c:UInt8)(w:World):Calls Tryz.prog 207 #[.int .u8 (c.toNat:Int)] w fun e w'=>e= .returned (.int .i64 (b64p.valI c))∧w=w':=by
 have hc:=c.toNat_lt;unfold b64p.valI;by_cases a1:48≤c.toNat<;>by_cases a2:c.toNat≤57<;>by_cases a3:97≤c.toNat<;>by_cases a4:c.toNat≤102<;>by_cases a5:65≤c.toNat<;>by_cases a6:c.toNat≤70<;>first | (exfalso;omega) | skip
 all_goals go_enter Tryz.func207,Tryz.ntmps207;go_wp2_with fail;go_ret;exact⟨kt.ret_int (by simp[*]),rfl⟩
end Go.Proofs.YtmnpfkbjpeaemaaGreatDoor
namespace Go.Proofs.YtmnpfkbjpeaemaaGreatDoor
open Go.RowKit
namespace bld
theorem sizeB:(Tryz.prog.info? 133).map (·.size)=some 2:=by kernel_rfl
theorem liesB:liesAt Tryz.prog Tryz.prog.depth 133 (2 / Tryz.prog.cellsOf 133) 0 133 1=true:=by kernel_rfl
theorem infoByte:(Tryz.prog.info? 5).map (fun i=>(i.zero,i.size,i.bytes))=some (some (.int .u8 0),1,1):=by kernel_rfl
abbrev Is (B b:Nat)(l:List UInt8)(w:World):Prop:=Lib.IsBuilder 133 5 B b (Lib.byteCells l) w
theorem copyCheck_used (b:Nat)(w:World)(h0:w.cell? ⟨b,0,none⟩=some (.pointer (some ⟨b,0,none⟩))):
  Calls Tryz.prog 167 #[.pointer (some ⟨b,0,none⟩)] w fun e w'=>e= .returned (.tuple #[])∧w=w':=by
 obtain⟨j,hj,_⟩:=Option.map_eq_some_iff.1 sizeB;have hne:=fun w':World=>Lib.run_neq_ptr_same (P:=Tryz.prog) w' (⟨b,0,none⟩:Addr) Tryz.underlying130 hj;go_enter Tryz.func167,Tryz.ntmps167;go_wp2;go_end0;exact⟨rfl,rfl⟩
theorem copyCheck_fresh (b:Nat)(w:World)(h0:w.cell? ⟨b,0,none⟩=some (.pointer none))(hsh:w.shape? b=some (133,2))(hfz:w.frozen? ⟨b,0,none⟩=false):
  Calls Tryz.prog 167 #[.pointer (some ⟨b,0,none⟩)] w fun e w'=>e= .returned (.tuple #[])∧w.setCell ⟨b,0,none⟩ (.pointer (some ⟨b,0,none⟩))=w':=by
 obtain⟨j,hj,hjs⟩:=Option.map_eq_some_iff.1 sizeB;have hne:=fun w':World=>Lib.run_neq_ptr_same (P:=Tryz.prog) w' (⟨b,0,none⟩:Addr) Tryz.underlying130 hj;go_enter Tryz.func167,Tryz.ntmps167;go_wp2;rw[Lib.run_to_unsafe w ⟨b,0,none⟩ Tryz.underlying130 Tryz.underlying228 hj (by rw[hjs];decide) hsh (Nat.zero_lt_succ 1)];simp only[Result.andThen];rw[Oper.upon_value];go_wp2;rw[run_callFunc_extern Tryz.func214 (by kernel_rfl) (by kernel_rfl) (by kernel_rfl) (e:=Extern.AbiNoEscape.same) (by kernel_rfl)];rw[Lib.run_noEscape];simp only[Result.andThen];rw[Oper.upon_value];go_wp2;rw[Lib.run_from_unsafe w ⟨b,0,none⟩ Tryz.underlying228 Tryz.underlying130 hj hsh liesB];simp only[Result.andThen];rw[Oper.upon_value];go_wp2;go_end0;exact⟨rfl,rfl⟩
theorem copyCheck_any (B b:Nat)(bs:List Value)(w:World)(h:Lib.IsBuilder 133 5 B b bs w):
  Calls Tryz.prog 167 #[.pointer (some ⟨b,0,none⟩)] w fun e w'=>e= .returned (.tuple #[])∧(Lib.BuilderAt 133 5 B b (.pointer (some ⟨b,0,none⟩)) bs w'∧Below B w w'):=by
 rcases h with h | h
 ·refine(copyCheck_fresh b w h.cell0 h.shape h.frozen0).mono ?_;rintro e w' ⟨rfl,rfl⟩;exact⟨rfl,h.used _,(Below.refl B w).setCell (p:=⟨b,0,none⟩) h.1 _⟩
 ·refine(copyCheck_used b w h.cell0).mono ?_;rintro e w' ⟨rfl,rfl⟩;exact⟨rfl,h,Below.refl B _⟩
theorem lt_of_heap {w:World}{b:Nat}{o:Obj}(h:w.heap[b]? =some o):b<w.heap.size:=by
 rcases Nat.lt_or_ge b w.heap.size with h' | h'
 ·exact h'
 ·simp[Array.getElem?_eq_none h']at h
theorem writeString_any (B b:Nat)(l:List UInt8)(t:ByteArray)(w:World)(h:Is B b l w)(hlen:l.length+t.size≤140737488355328)(hBw:B≤w.heap.size):
  Calls Tryz.prog 101 #[.pointer (some ⟨b,0,none⟩),.string t] w fun e w'=>e= .returned (.tuple #[.int .i64 (t.size:Int),.nilIface])∧(Is B b (l++t.data.toList) w'∧Below B w w'):=by
 have hbc:(Lib.byteCells l).length=l.length:=Lib.byteCells_length l;have hbc':Lib.byteCells (l++t.data.toList)=Lib.byteCells l++Lib.strCells t:=by rw[Lib.byteCells_append];rfl
 unfold Is;rw[hbc'];have h0:Lib.IsBuilder 133 5 B b (Lib.byteCells l) w:=h;clear h hbc';generalize Lib.byteCells l=bs at h0 hbc ⊢;have C:=Lib.hid (copyCheck_any B b bs w h0);clear h0;obtain⟨i0,hi,hz0,hz1,hz2⟩:=info_parts infoByte;go_enter Tryz.func101,Tryz.ntmps101;go_wp2_with fail;refine C.out.mono ?_;rintro e w1 ⟨rfl,h1,hb1⟩;obtain⟨hB,v,hbk,hown,hne⟩:=h1;have hsz:=hb1.size;have c0:w1.cell? ⟨b,0,none⟩=some (.pointer (some ⟨b,0,none⟩)):=by rw[Lib.cell_of_heap hbk];rfl
 have c1:w1.cell? ⟨b,1,none⟩=some v:=by rw[Lib.cell_of_heap hbk];rfl
 obtain⟨v',w2,hap,hown',hgr,_⟩:=Lib.run_append_own_string (P:=Tryz.prog) w1 B 131 9 131 5 i0 Tryz.underlying131 Tryz.underlying9 hi hz0 hz1 hz2 v bs.length bs hown t (by rw[hbc];unfold maxLen;omega) (by rw[hbc];omega) (by omega);have hlt:=lt_of_heap hbk;have hbk2:w2.heap[b]? =some (.cells #[.pointer (some ⟨b,0,none⟩),v] 133 (0,0)):=by rw[hgr.block b hlt (fun e=>hne e.symm)];exact hbk
 have hb2:Below B w1 w2:=(Below.refl B w1).grown hgr (by omega) (fun k hk=>(hown.lt k hk).1);have d1:w2.cell? ⟨b,1,none⟩=some v:=by rw[Lib.cell_of_heap hbk2];rfl
 have f1:w2.frozen? ⟨b,1,none⟩=false:=Lib.frozen_of_heap hbk2 1;have hown2:w2.ownsRow B 5 1 v' (bs++Lib.strCells t).length (bs++Lib.strCells t):=by rw[List.length_append,Lib.strCells_length];exact hown'
 obtain⟨ao,n,cap,rfl,hn⟩:=kt.row_form hown2;have H1:=Lib.hid hown2;have HB:=Lib.hid hbk2;clear hown' hown hbk2 hbk hne hgr C hown2;go_wp2_with (at_builtin;refine Lib.wpList_append_run _ rfl _ _ _ _ rfl _ _ rfl rfl _ _ hap ?_);go_ret2;exact⟨rfl,Or.inr (Lib.BuilderAt.put hB HB.out H1.out (by decide)),(hb1.trans hb2).setCell (p:=⟨b,1,none⟩) hB _⟩
theorem fresh (w:World):Is w.heap.size w.heap.size [] (w.alloc (.cells #[.pointer none,.slice none 0 0] 133)):=Lib.fresh_isBuilder _ _ w
end bld
end Go.Proofs.YtmnpfkbjpeaemaaGreatDoor
namespace Go.Proofs.YtmnpfkbjpeaemaaGreatDoor
open Go.RowKit
def UhRes (o:Option (List UInt8))(w:World)(e:Ending)(w':World):Prop:=e= .returned (b64p.uhV o)∧Below w.heap.size w w'
theorem unhex_any (s:ByteArray)(w:World)(hs:s.size≤10000):
  Calls Tryz.prog 264 #[.string s] w (UhRes (b64p.unhex s.data.toList) w):=by
 by_cases hodd:s.size % 2=1
 ·have ho:=b64p.unhex_odd _ s.data.toList (Nat.le_refl _) (by rw[kt.size_len];exact hodd);have HO:=Lib.hid ho;have q1:((s.size:Int) % 2 !=0)=true:=by rw[bne_iff_ne];omega
  clear ho hodd;go_enter Tryz.func264,Tryz.ntmps264;go_wp2_with fail;go_ret2;exact⟨by rw[HO.out];rfl,Below.refl _ _⟩
 ·have q1:((s.size:Int) % 2 !=0)=false:=by rw[bne_eq_false_iff_eq];omega
  have hodd':=Lib.hid hodd;clear hodd;go_enter Tryz.func264,Tryz.ntmps264;go_wp2_with fail;go_loopw [4,5] (fun bv iv wr=> ∃ (i:Nat) (d:List UInt8),i≤s.size∧Hid (i % 2=0)∧d.length≤i∧iv= .int .i64 i∧Hid (wr.ownsRow w.heap.size 5 1 bv (Lib.byteCells d).length (Lib.byteCells d))∧Hid (b64p.unhex s.data.toList=(b64p.unhex (s.data.toList.drop i)).map (d++ ·))∧Below w.heap.size w wr) (fun _ iv _=>s.size- (intOf iv).toNat);case atStart=>exact⟨0,[],Nat.zero_le _,rfl,by simp,rfl,World.ownsRow_nil _ _ _ _,by show _=_;simp,Below.refl _ _⟩
  case round=>
   obtain⟨i,d,hi,hpar,hd,rfl,hO,hU,hB⟩:=hrel;have hsz:=hB.size;by_cases hlt:i<s.size
   ·have hi1:i+1<s.size:=(by have:=hpar.out;have:=hodd'.out;omega);have hstep:=b64p.unhex_step s.data.toList i (by rw[kt.size_len];exact hi1);have g1:s.data.toList[i]'(by rw[kt.size_len];exact hlt)=s[i]:=rfl;have g2:s.data.toList[i+1]'(by rw[kt.size_len];exact hi1)=s[i+1]:=rfl;rw[g1,g2]at hstep;have hstep':=Lib.hid hstep;clear hstep g1 g2;obtain⟨a,ha⟩: ∃a:Int,Hid (a=b64p.valI s[i]):=⟨b64p.valI s[i],rfl⟩;obtain⟨b,hb⟩: ∃b:Int,Hid (b=b64p.valI s[i+1]):=⟨b64p.valI s[i+1],rfl⟩;have va: -1≤a∧a≤15:=(by rw[ha.out];exact b64p.valI_le _);have vb: -1≤b∧b≤15:=(by rw[hb.out];exact b64p.valI_le _);obtain⟨va1,va2⟩:=va;obtain⟨vb1,vb2⟩:=vb;obtain⟨n1,en1⟩: ∃n:Nat,s[i].toNat=n:=⟨_,rfl⟩;obtain⟨n2,en2⟩: ∃n:Nat,s[i+1].toNat=n:=⟨_,rfl⟩;have DA:Hid (∀W:World,Calls Tryz.prog 295 #[.int .u8 (n1:Int)] W fun e w'=>e= .returned (.int .i64 a)∧w'=W):=(by intro W;rw[ha.out,←en1];exact kt.flip (digit_any _ W));have DB:Hid (∀W:World,Calls Tryz.prog 295 #[.int .u8 (n2:Int)] W fun e w'=>e= .returned (.int .i64 b)∧w'=W):=(by intro W;rw[hb.out,←en2];exact kt.flip (digit_any _ W));have f1:(0:Int)≤(i:Int):=(by omega);have f2:(i:Int)<(s.size:Int):=(by omega);have f3:(0:Int)≤(i:Int)+1:=(by omega);have f4:(i:Int)+1<(s.size:Int):=(by omega);have f5:IntKind.i64.wrap ((i:Int)+1)=(i:Int)+1:=IntWalk.i64_in _ (by omega);have f6:((i:Int)+1).toNat=i+1:=(by omega);go_wp2_with fail;go_quiet ((first | (go_at_call_of 295 (Value.int IntKind.u8 (n1:Int));exact Calls.quiet_of_same (DA.out _)) | (go_at_call_of 295 (Value.int IntKind.u8 (n2:Int));exact Calls.quiet_of_same (DB.out _))));by_cases hneg:a<0∨b<0
    ·have hnone:b64p.unhex s.data.toList=none:=(by rw[hU.out,hstep'.out,if_pos (by rw[←ha.out,←hb.out];exact hneg)];rfl);have HN:=Lib.hid hnone;clear hnone;by_cases ha0:a<0
     ·clear hneg;go_wp2_with fail;go_ret2;exact⟨by rw[HN.out];rfl,hB.trans (hx_drewN (Below.refl _ _) _)⟩
     ·have hb0:b<0:=(by omega);clear hneg;go_wp2_with fail;go_ret2;exact⟨by rw[HN.out];rfl,hB.trans (hx_drewN (Below.refl _ _) _)⟩
    ·have ha0:0≤a:=(by omega);have hb0:0≤b:=(by omega);have hsome:b64p.unhex s.data.toList=(b64p.unhex (s.data.toList.drop (i+2))).map ((d++[UInt8.ofNat (16*a+b).toNat])++ ·):=(by rw[hU.out,hstep'.out,if_neg (by rw[←ha.out,←hb.out];exact hneg),←ha.out,←hb.out,Option.map_map];congr 1;funext x;simp);have HS:=Lib.hid hsome;clear hsome hneg;obtain⟨A,rfl⟩:=Int.eq_ofNat_of_zero_le ha0;obtain⟨B,rfl⟩:=Int.eq_ofNat_of_zero_le hb0;obtain⟨m,hm⟩: ∃m:UInt8,Hid (m=UInt8.ofNat (16*(A:Int)+(B:Int)).toNat):=⟨_,rfl⟩;have em:(m.toNat:Int)=16*A+B:=(by rw[hm.out,UInt8.toNat_ofNat'];omega);have e1:bits .or .i64 ((A:Int)*16) (B:Int)=(m.toNat:Int):=(by have h:=kt.i64_or_low 4 A B (by omega) (by omega);rw[em,show(A:Int)*16=((2 ^ 4*A:Nat):Int)from by omega,h];omega);have e2:(m.toNat:Int) % 256=(m.toNat:Int):=(by have:=m.toNat_lt;omega);obtain⟨v',w1,hap,hO1,hg1,hB1⟩:=kt.app1 (P:=Tryz.prog) (ty:=131) (w:=wr.drewN nq) Tryz.underlying131 bld.infoByte rfl (.int .u8 (m.toNat:Int)) rfl hO.out (by rw[Lib.byteCells_length];unfold maxLen;omega) (by rw[Lib.byteCells_length];omega) hsz;have HO1:=Lib.hid hO1;have HG1:=Lib.hid hg1;have EM:=Lib.hid em;clear hO1 hg1 em;go_wp2_with (at_builtin;refine Lib.wpList_append_run _ rfl _ _ _ _ rfl _ _ rfl rfl _ _ hap ?_);go_roundw;case rel=>
      refine⟨i+2,d++[m],by omega,by show _=_;have:=hpar.out;omega,by simp;omega,by go_num,?_,?_,(hB.trans (hx_drewN (Below.refl _ _) _)).trans hB1⟩
      ·show World.ownsRow _ _ _ _ _ _ _;rw[Lib.byteCells_append];exact HO1.out
      ·show _=_;rw[hm.out];exact HS.out
     case measure=>simp[intOf];omega
   ·obtain rfl:i=s.size:=(by omega);have hst:=kt.str_of_row (P:=Tryz.prog) (dst:=9) Tryz.underlying131 Tryz.underlying5 Tryz.underlying9 hO.out;have hfin:b64p.unhex s.data.toList=some d:=(by rw[hU.out,List.drop_of_length_le (by simp)];simp[b64p.unhex]);have HF:=Lib.hid hfin;clear hfin;go_wp2_with fail;go_ret2;exact⟨by rw[HF.out];rfl,hB⟩
end Go.Proofs.YtmnpfkbjpeaemaaGreatDoor
namespace Go.Proofs.YtmnpfkbjpeaemaaGreatDoor
open Go.RowKit
namespace kt
theorem row_nil (w:World)(B:Nat)(e:TypeId)(sz:Nat):w.ownsRow B e sz (.slice none 0 0) 0 []:=⟨by simp,Or.inl ⟨rfl,rfl⟩⟩
theorem flat_get {α:Type}(f:α→List Value)(sz:Nat)(hf: ∀a,(f a).length=sz): ∀ (l:List α) (i j:Nat) (hi:i<l.length) (_:j<sz),(l.flatMap f)[i*sz+j]? =(f l[i])[j]? :=by
 intro l;induction l with
 | nil=>intro i j hi;simp at hi
 | cons c r ih=>
  intro i j hi hj;rw[List.flatMap_cons]
  match i,hi with
  | 0,_=>rw[List.getElem?_append_left (by rw[hf];omega)];simp
  | k+1,hi=>rw[List.getElem?_append_right (by rw[hf,Nat.add_mul];omega),hf];have e:(k+1)*sz+j-sz=k*sz+j:=(by rw[Nat.add_mul];omega);rw[e,ih k j (by simpa using hi) hj];simp
end kt
end Go.Proofs.YtmnpfkbjpeaemaaGreatDoor
namespace Go.Proofs.YtmnpfkbjpeaemaaGreatDoor
open Go.RowKit
namespace kt
def SegX (w:World)(B:Nat)(e:TypeId)(sz:Nat)(v:Value)(n:Nat)(xs:List Value):Prop:=
 xs.length=n*sz∧((v= .slice none 0 0∧n=0)∨
  ∃ (g o cap:Nat) (pre post:List Value),v= .slice (some ⟨g,o,none⟩) n cap∧B≤g∧w.heap[g]? =some (.cells (pre++xs++post).toArray e (0,0))∧pre.length=o∧n≤cap∧cap≤maxLen∧(cap-n)*sz≤post.length)
theorem segX_nil (w:World)(B:Nat)(e:TypeId)(sz:Nat):SegX w B e sz (.slice none 0 0) 0 []:=⟨by simp,Or.inl ⟨rfl,rfl⟩⟩
theorem segX_of_row {w:World}{B:Nat}{e:TypeId}{sz:Nat}{v:Value}{n:Nat}{xs:List Value}(h:w.ownsRow B e sz v n xs):SegX w B e sz v n xs:=by
 refine⟨h.1,?_⟩;rcases h.2 with h0 | ⟨g,cap,cur,rfl,hb,hg,hc,hm,hs,ht⟩
 ·exact Or.inl h0
 ·refine Or.inr ⟨g,0,cap,[],cur.toList.drop (n*sz),rfl,hb,?_,rfl,hc,hm,?_⟩
  ·rw[hg,←ht];simp
  ·rw[List.length_drop,Array.length_toList,hs,Nat.sub_mul];omega
theorem segX_slice {w:World}{B n:Nat}{e:TypeId}{sz:Nat}{v:Value}{xs:List Value}(h:SegX w B e sz v n xs): ∃ao cap,v= .slice ao n cap∧n≤cap:=by
 rcases h.2 with⟨rfl,rfl⟩ | ⟨g,o,cap,pre,post,rfl,_,_,_,hc,_⟩
 ·exact⟨none,0,rfl,Nat.le_refl _⟩
 ·exact⟨_,cap,rfl,hc⟩
theorem segX_same {w w':World}{B n:Nat}{e:TypeId}{sz:Nat}{v:Value}{xs:List Value}(h:SegX w B e sz v n xs)(hb: ∀k,v.ownBlock=some k→w'.heap[k]? =w.heap[k]?):SegX w' B e sz v n xs:=by
 refine⟨h.1,?_⟩;rcases h.2 with h0 | ⟨g,o,cap,pre,post,rfl,hB,hg,hr⟩
 ·exact Or.inl h0
 ·exact Or.inr ⟨g,o,cap,pre,post,rfl,hB,(hb g rfl).trans hg,hr⟩
theorem bld_lt {w:World}{b:Nat}{o:Obj}(h:w.heap[b]? =some o):b<w.heap.size:=by
 rcases Nat.lt_or_ge b w.heap.size with h' | h'
 ·exact h'
 ·simp[Array.getElem?_eq_none h']at h
theorem segX_lt {w:World}{B n:Nat}{e:TypeId}{sz:Nat}{v:Value}{xs:List Value}(h:SegX w B e sz v n xs): ∀k,v.ownBlock=some k→B≤k∧k<w.heap.size:=by
 intro k hk;rcases h.2 with⟨rfl,_⟩ | ⟨g,o,cap,pre,post,rfl,hB,hg,_⟩
 ·cases hk
 ·cases hk;exact⟨hB,bld_lt hg⟩
theorem segX_below {w w':World}{B n:Nat}{e:TypeId}{sz:Nat}{v:Value}{xs:List Value}(h:SegX w B e sz v n xs)(hb:Below w.heap.size w w'):SegX w' B e sz v n xs:=segX_same h fun k hk=>hb.block k (segX_lt h k hk).2
theorem segX_mono {w:World}{B C n:Nat}{e:TypeId}{sz:Nat}{v:Value}{xs:List Value}(h:SegX w B e sz v n xs)(hc:C≤B):SegX w C e sz v n xs:=by
 refine⟨h.1,?_⟩;rcases h.2 with h0 | ⟨g,o,cap,pre,post,rfl,hB,hr⟩
 ·exact Or.inl h0
 ·exact Or.inr ⟨g,o,cap,pre,post,rfl,Nat.le_trans hc hB,hr⟩
def SameOrNew (w:World)(v v':Value):Prop:= ∀k,v'.ownBlock=some k→v.ownBlock=some k∨w.heap.size≤k
theorem segX_cell {w:World}{B n:Nat}{e:TypeId}{sz:Nat}{v:Value}{xs:List Value}(h:SegX w B e sz v n xs)(hn:0<n): ∃g o cap,v= .slice (some ⟨g,o,none⟩) n cap∧B≤g∧n≤cap∧(∀ (j:Nat) (x:Value),xs[j]? =some x→w.cell? ⟨g,o+j,none⟩=some x):=by
 rcases h.2 with⟨_,h0⟩ | ⟨g,o,cap,pre,post,rfl,hB,hg,hp,hc,_⟩
 ·omega
 ·refine⟨g,o,cap,rfl,hB,hc,fun j x hx=> ?_⟩;have hj:=(List.getElem?_eq_some_iff.1 hx).1;rw[Lib.cell_of_heap hg];simp only[List.getElem?_toArray];rw[List.append_assoc,List.getElem?_append_right (by omega),show o+j-pre.length=j by omega,List.getElem?_append_left hj];exact hx
theorem run_append_room_at {P:Program}{w:World}(t ty e:TypeId)(i:TypeInfo)(ht:P.underlying t=some (.slice e))(hi:P.info? e=some i)
  (g o sLen sCap:Nat) (cur:Array Value) (hg:w.heap[g]? =some (.cells cur e (0,0)))
  (a:Addr) (m c:Nat) (news:List Value) (hl:news.length=m*i.size) (hnews: ∀j u,news[j]? =some u→w.cell? (a.add j)=some u) (h1: ∀u∈news,u.oneCell'=true)
  (hroom:sLen+m≤sCap) (hfit:o+sLen*i.size+news.length≤cur.size):
  (Builtin.append_ #[t,t] ty #[.slice (some ⟨g,o,none⟩) sLen sCap,.slice (some a) m c]).run P w=
   .ok (.slice (some ⟨g,o,none⟩) (sLen+m) sCap) (w.setRow g (cur.toList.take (o+sLen*i.size)++news++cur.toList.drop (o+sLen*i.size+news.length)).toArray):=by
 have hf:=run_firstCells_some (P:=P) w i.size m a m c news hl hnews;have hst:=run_storeCells_at P g (o+sLen*i.size) e news 0 cur w hg (by simpa using hfit) h1;simp only[Nat.add_zero]at hst;have ha:(⟨g,o,none⟩:Addr).add (sLen*i.size)=⟨g,o+sLen*i.size,none⟩:=by rw[Addr.add_mid]
 simp[Builtin.append_,run_underlying ht,sizeOf,typeInfo,hi,Builtin.lenOf,hroom,hf,ha,hst]
theorem grown_trans {w w1 w2:World}{k:Option Nat}(h:w.grownBy w1 k)(h2:w1.grownBy w2 k):w.grownBy w2 k:=⟨h2.os.trans h.os,h2.tape.trans h.tape,h2.output.trans h.output,Nat.le_trans h.size h2.size,fun j hj hne=>(h2.block j (Nat.lt_of_lt_of_le hj h.size) hne).trans (h.block j hj hne)⟩
theorem grown_row (w:World)(g:Nat)(cs:Array Value):w.grownBy (w.setRow g cs) (some g):=⟨rfl,rfl,rfl,by simp,fun j hj hne=>setRow_other w g j cs (fun h=>hne (by rw[h]))⟩
theorem segX_append {P:Program}{t e ty:TypeId}{z:Value}{sz bytes:Nat}(ht:P.underlying t=some (.slice e))(hinfo:(P.info? e).map (fun i=>(i.zero,i.size,i.bytes))=some (some z,sz,bytes))(hzs:z.cells.size=sz)(hsz:0<sz)
  {w:World} {B:Nat} {v:Value} {n:Nat} {xs:List Value} (ad:Addr) (m c:Nat) (news:List Value) (hl:news.length=m*sz) (hnews: ∀j u,news[j]? =some u→w.cell? (ad.add j)=some u) (h1: ∀u∈news,u.oneCell'=true)
  (hown:SegX w B e sz v n xs) (h63:n+m≤maxLen) (hb:(n+m)*bytes≤140737488355328) (hbase:B≤w.heap.size):
  ∃v' w1,(Builtin.append_ #[t,t] ty #[v,.slice (some ad) m c]).run P w= .ok v' w1∧SegX w1 B e sz v' (n+m) (xs++news)∧w.grownBy w1 v.ownBlock∧SameOrNew w v v':=by
 rcases hown.2 with⟨rfl,rfl⟩ | ⟨g,o,cap,pre,post,rfl,hB,hg,hp,hc,hm,hpost⟩
 ·have h0:xs=[]:=List.eq_nil_of_length_eq_zero (by simpa using hown.1);subst h0;obtain⟨i0,hi,hz0,hz1,hz2⟩:=info_parts hinfo;obtain⟨v',w1,hr,ho,hgr,_⟩:=run_append_own (P:=P) w w.heap.size t ty e i0 z sz bytes ht hi hz0 hz1 hz2 hzs hsz (.slice none 0 0) 0 [] (row_nil _ _ _ _) ad m c news hl hnews h1 h63 hb (Nat.le_refl _);exact⟨v',w1,hr,segX_mono (segX_of_row ho) hbase,hgr,fun k hk=>Or.inr (segX_lt (segX_of_row ho) k hk).1⟩
 ·obtain⟨i0,hi,hz0,hz1,hz2⟩:=info_parts hinfo;subst hz1 hz2;by_cases hroom:n+m≤cap
  ·have hfit:m*i0.size≤post.length:=(by refine Nat.le_trans (Nat.mul_le_mul_right _ ?_) hpost;omega);have hxl:=hown.1;have hr:=run_append_room_at (P:=P) (w:=w) t ty e i0 ht hi g o n cap _ hg ad m c news hl hnews h1 hroom (by simp;omega);refine⟨_,_,hr,⟨by rw[List.length_append,hown.1,hl,Nat.add_mul],Or.inr ⟨g,o,cap,pre,post.drop (m*i0.size),rfl,hB,?_,hp,hroom,hm,?_⟩⟩,grown_row _ _ _,fun k hk=>Or.inl hk⟩
   ·rw[setRow_heap w g _ _ e _ hg];congr 3;have e1:(pre++xs++post).take (o+n*i0.size)=pre++xs:=(by rw[List.take_append_of_le_length (by rw[List.length_append];omega),List.take_of_length_le (by rw[List.length_append];omega)]);have e2:(pre++xs++post).drop (o+n*i0.size+news.length)=post.drop (m*i0.size):=(by rw[List.drop_append,List.drop_of_length_le (by rw[List.length_append];omega),List.nil_append];congr 1;rw[List.length_append];omega);rw[e1,e2];simp
   ·rw[List.length_drop,Nat.sub_mul];rw[Nat.sub_mul]at hpost;rw[Nat.add_mul];omega
  ·have holds: ∀j u,xs[j]? =some u→w.cell? ((⟨g,o,none⟩:Addr).add j)=some u:=(by intro j u hj;have hj':=(List.getElem?_eq_some_iff.1 hj).1;rw[Addr.add_mid,Lib.cell_of_heap hg];simp only[List.getElem?_toArray];rw[List.append_assoc,List.getElem?_append_right (by omega),show o+j-pre.length=j by omega,List.getElem?_append_left hj'];exact hj);have hr:=run_append_grow (P:=P) w t ty e i0 z ht hi hz0 ⟨g,o,none⟩ n cap xs hown.1 holds ad m c news hl hnews (by omega) (by unfold maxLen at h63;omega) (growslice_fits (by omega) hb);have hge:=grownCap_ge w (n+m) cap e;refine⟨_,_,hr,⟨by rw[List.length_append,hown.1,hl,Nat.add_mul],Or.inr ⟨w.heap.size,0,_,[],(Builtin.zeroCells z.cells (grownCap w (n+m) cap e- (n+m))).toList,rfl,hbase,?_,rfl,hge,grownCap_le_maxLen w (n+m) cap e h63,?_⟩⟩,⟨rfl,rfl,rfl,by simp,fun k hk _=>Below.heap_alloc w.drew _ _ hk⟩,fun k hk=>Or.inr (by cases hk;exact Nat.le_refl _)⟩
   ·refine(heap_alloc_new w.drew _).trans ?_;congr 3;simp
   ·rw[Array.length_toList,size_zeroCells,hzs];exact Nat.le_refl _
end kt
end Go.Proofs.YtmnpfkbjpeaemaaGreatDoor
namespace Go.Proofs.YtmnpfkbjpeaemaaGreatDoor
open Go.RowKit
namespace dnw
open dnp
def Sc (w:World)(b:Nat)(s:ByteArray)(i:Nat):Prop:=w.heap[b]? =some (.cells #[.string s,.int .i64 (i:Int)] 187 (0,0))
theorem set_same {w:World}{g j:Nat}{cs:Array Value}{t:TypeId}{fr:Nat × Nat}(h:w.heap[g]? =some (.cells cs t fr))(v:Value):(w.setCell ⟨g,j,none⟩ v).heap[g]? =some (.cells (cs.setIfInBounds j v) t fr):=by simp[World.setCell,Array.getElem?_modify,h]
theorem sc_set {w:World}{b i:Nat}{s:ByteArray}(h:Sc w b s i)(n j:Nat):Sc ((w.drewN n).setCell ⟨b,1,none⟩ (.int .i64 (j:Int))) b s j:=by have h':(w.drewN n).heap[b]? =some (.cells #[.string s,.int .i64 (i:Int)] 187 (0,0)):=h;exact set_same (j:=1) h' _
theorem sc_set0 {w:World}{b i:Nat}{s:ByteArray}(h:Sc w b s i)(j:Nat):Sc (w.setCell ⟨b,1,none⟩ (.int .i64 (j:Int))) b s j:=set_same (j:=1) h _
theorem sc_inc {w:World}{b i:Nat}{s:ByteArray}(h:Sc w b s i)(n:Nat):Sc ((w.drewN n).setCell ⟨b,1,none⟩ (.int .i64 ((i:Int)+1))) b s (i+1):=sc_set h n (i+1)
theorem sc_cells {w:World}{b i:Nat}{s:ByteArray}(h:Sc w b s i):w.cell? ⟨b,0,none⟩=some (.string s)∧w.cell? ⟨b,1,none⟩=some (.int .i64 (i:Int))∧w.frozen? ⟨b,1,none⟩=false∧b<w.heap.size:=by
 refine⟨?_,?_,Lib.frozen_of_heap h 1,kt.bld_lt h⟩
 ·rw[Lib.cell_of_heap h];rfl
 ·rw[Lib.cell_of_heap h];rfl
theorem sc_drewN {w:World}{b i:Nat}{s:ByteArray}(h:Sc w b s i)(n:Nat):Sc (w.drewN n) b s i:=h
theorem sc_below {w w':World}{b i:Nat}{s:ByteArray}(h:Sc w b s i)(hb:Below w.heap.size w w'):Sc w' b s i:=(hb.block b (kt.bld_lt h)).trans h
theorem gr_refl (w:World)(k:Option Nat):w.grownBy w k:=⟨rfl,rfl,rfl,Nat.le_refl _,fun _ _ _=>rfl⟩
theorem gr_set {w w':World}{b:Nat}(h:w.grownBy w' (some b))(n:Nat)(v:Value):w.grownBy ((w'.drewN n).setCell ⟨b,1,none⟩ v) (some b):=⟨h.os,h.tape,h.output,by rw[World.size_setCell];exact h.size,fun k hk hne=>(Below.heap_setCell _ _ _ _ (fun e=>hne (by have e':k=b:=e;rw[e']))).trans (h.block k hk hne)⟩
theorem gr_drewN {w w':World}{k:Option Nat}(h:w.grownBy w' k)(n:Nat):w.grownBy (w'.drewN n) k:=⟨h.os,h.tape,h.output,h.size,h.block⟩
theorem gr_below {w w':World}(k:Option Nat)(hb:Below w.heap.size w w'):w.grownBy w' k:=⟨hb.os,hb.tape,hb.output,hb.size,fun j hj _=>hb.block j hj⟩
theorem drop_cons (s:ByteArray)(i:Nat)(h:i<s.size):s.data.toList.drop i=s[i]::s.data.toList.drop (i+1):=by
 have h':i<s.data.toList.length:=by simpa using h
 rw[List.drop_eq_getElem_cons h'];rfl
theorem drop_end (s:ByteArray):s.data.toList.drop s.size=[]:=List.drop_of_length_le (by simp)
def posOf (w:World)(b:Nat):Nat:=match w.heap[b]? with
 | some (.cells cs _ _)=>(intOf (cs.getD 1 undef)).toNat
 | _=>0
theorem posOf_sc {w:World}{b i:Nat}{s:ByteArray}(h:Sc w b s i):posOf w b=i:=by unfold posOf;rw[h];simp[intOf]
def BlanksE (b:Nat)(s:ByteArray)(i:Nat)(w:World)(e:Ending)(w':World):Prop:=e= .returned (.tuple #[])∧ ∃j,i≤j∧j≤s.size∧s.data.toList.drop j=(s.data.toList.drop i).dropWhile (· =32)∧Sc w' b s j∧w.grownBy w' (some b)
theorem blanks_any (b:Nat)(s:ByteArray)(i:Nat)(w:World)(hS:Hid (Sc w b s i))(hi:i≤s.size)(hs:s.size≤100000):
  Calls Tryz.prog 155 #[.pointer (some ⟨b,0,none⟩)] w fun e w'=>BlanksE b s i w e w':=by
 go_enter Tryz.func155,Tryz.ntmps155;go_wp2_with fail;go_loopw [] (fun wr=> ∃j,i≤j∧j≤s.size∧Hid ((s.data.toList.drop j).dropWhile (· =32)=(s.data.toList.drop i).dropWhile (· =32))∧Hid (Sc wr b s j)∧w.grownBy wr (some b)) (fun wr=>s.size-posOf wr b);case atStart=>exact⟨i,Nat.le_refl _,hi,rfl,hS,gr_refl _ _⟩
 case round=>
  obtain⟨j,hij,hj,hD,hC,hG⟩:=hrel;obtain⟨c0,c1,f1,hb⟩:=sc_cells hC.out;by_cases hlt:j<s.size
  ·have hlt':(j:Int)<(s.size:Int):=(by omega);have hdc:=drop_cons s j hlt;by_cases h32:((s[j]'hlt).toNat:Int)=32
   ·have hD2:Hid ((s.data.toList.drop (j+1)).dropWhile (· =32)=(s.data.toList.drop i).dropWhile (· =32)):=(by show _=_;rw[←hD.out,hdc,List.dropWhile_cons,if_pos (by have:s[j]=32:=UInt8.toNat_inj.1 (by show _=32;omega);simp[this])]);clear hdc;go_wp2_with fail;go_quiet (fail);go_wp2_with fail;go_roundw;case rel=>exact⟨j+1,by omega,by omega,hD2,sc_set hC.out nq (j+1),gr_set hG nq _⟩
    case measure=>rw[posOf_sc hC.out,posOf_sc (sc_inc hC.out nq)];omega
   ·have hD2:Hid (s.data.toList.drop j=(s.data.toList.drop i).dropWhile (· =32)):=(by show _=_;rw[←hD.out,hdc,List.dropWhile_cons,if_neg (by intro e;have:s[j]=32:=(by simpa using e);rw[this]at h32;exact h32 rfl)]);have h1:(((s[j]'hlt).toNat:Int)==32)=false:=(by rw[beq_eq_false_iff_ne];exact h32);clear hdc;go_wp2_with fail;go_quiet (fail);go_wp2_with fail;go_end0;exact⟨rfl,j,hij,hj,hD2.out,sc_drewN hC.out nq,gr_drewN hG nq⟩
  ·obtain rfl:j=s.size:=(by omega);have hD2:Hid (s.data.toList.drop s.size=(s.data.toList.drop i).dropWhile (· =32)):=(by show _=_;rw[←hD.out,drop_end];rfl);go_wp2_with fail;go_quiet (fail);go_wp2_with fail;go_end0;exact⟨rfl,_,hij,hj,hD2.out,sc_drewN hC.out nq,gr_drewN hG nq⟩
end dnw
end Go.Proofs.YtmnpfkbjpeaemaaGreatDoor
namespace Go.Proofs.YtmnpfkbjpeaemaaGreatDoor
open Go.RowKit
namespace dnw
open dnp
def tyAt (k:Nat)(c:UInt8):Prop:=(97≤(c.toNat:Int)∧(c.toNat:Int)≤122)∨(k≠0∧((c.toNat:Int)=45∨(48≤(c.toNat:Int)∧(c.toNat:Int)≤57)))
theorem letter_iff (c:UInt8):letter c=true↔97≤(c.toNat:Int)∧(c.toNat:Int)≤122:=by unfold letter;rw[decide_eq_true_iff,UInt8.le_iff_toNat_le,UInt8.le_iff_toNat_le];show(97≤c.toNat∧c.toNat≤122)↔_;omega
theorem typeCh_iff (c:UInt8):typeCh c=true↔(97≤(c.toNat:Int)∧(c.toNat:Int)≤122)∨(c.toNat:Int)=45∨(48≤(c.toNat:Int)∧(c.toNat:Int)≤57):=by unfold typeCh;rw[Bool.or_eq_true,Bool.or_eq_true,letter_iff,decide_eq_true_iff,decide_eq_true_iff,UInt8.le_iff_toNat_le,UInt8.le_iff_toNat_le,←UInt8.toNat_inj];show(_∨(48≤c.toNat∧c.toNat≤57))∨c.toNat=45↔_;omega
theorem typeOK_iff (l:List UInt8):typeOK l=true↔l≠[]∧l.length≤32∧ ∀k (h:k<l.length),tyAt k l[k]:=by
 unfold typeOK;cases l with
 | nil=>simp
 | cons c t=>
  simp only[Bool.and_eq_true,decide_eq_true_eq,List.all_eq_true,letter_iff,ne_eq,reduceCtorEq,not_false_eq_true,true_and];constructor
  ·rintro⟨⟨h1,h2⟩,h3⟩;refine⟨h2,fun k hk=> ?_⟩;cases k with
   | zero=>exact Or.inl h1
   | succ k=>have:=(typeCh_iff _).1 (h3 (c::t)[k+1] (List.getElem_mem hk));unfold tyAt;omega
  ·rintro⟨h2,h3⟩;refine⟨⟨?_,h2⟩,?_⟩
   ·have:=h3 0 (by simp);unfold tyAt at this;simp only[List.getElem_cons_zero,ne_eq,not_true_eq_false,false_and,or_false]at this;exact this
   ·intro x hx;obtain⟨k,hk,rfl⟩:=List.mem_iff_getElem.1 hx;have:=h3 k hk;unfold tyAt at this;rw[typeCh_iff];omega
theorem typeOK_no {s:ByteArray}{k:Nat}(hk:k<s.size)(h: ¬tyAt k s[k]):false=typeOK s.data.toList:=by symm;rw[Bool.eq_false_iff];intro e;exact h (((typeOK_iff _).1 e).2.2 k (by simpa using hk))
theorem typeOK_end {s:ByteArray}(h: ∀k (hk:k<s.size),tyAt k s[k])(h0:s.size≠0)(h1:s.size≤32):true=typeOK s.data.toList:=by
 symm;rw[typeOK_iff];have hl:s.data.toList.length=s.size:=by simp
 refine⟨fun e=>by rw[e]at hl;simp at hl;omega,by omega,fun k hk=>h k (by omega)⟩
theorem typeOK_len {s:ByteArray}(h1:s.size=0∨32<s.size):false=typeOK s.data.toList:=by
 symm;rw[Bool.eq_false_iff];intro e;have hl:s.data.toList.length=s.size:=by simp
 obtain⟨h2,h3,_⟩:=(typeOK_iff _).1 e;rcases h1 with h1 | h1
 ·exact h2 (List.eq_nil_of_length_eq_zero (by omega))
 ·omega
theorem rightType_any (s:ByteArray)(w:World)(hs:s.size≤100000):Calls Tryz.prog 204 #[.string s] w fun e w'=>e= .returned (.bool (typeOK s.data.toList))∧w=w':=by
 go_enter Tryz.func204,Tryz.ntmps204;go_wp2_with fail;go_loop [3,4,5,8] (fun _ _ _ iv=> ∃k:Nat,k≤s.size∧iv= .int .i64 (k:Int)∧Hid (∀j (hj:j<s.size),j<k→tyAt j s[j])) (fun _ _ _ iv=>s.size- (intOf iv).toNat);case atStart=>exact⟨0,Nat.zero_le _,rfl,fun j hj h=>by omega⟩
 case round=>
  obtain⟨k,hk,rfl,hA⟩:=hrel;by_cases hlt:k<s.size
  ·have hlt':(k:Int)<(s.size:Int):=(by omega);have g0:0≤((s[k]'hlt).toNat:Int):=(by omega);by_cases ht:tyAt k (s[k]'hlt)
   ·have HA:Hid (∀j (hj:j<s.size),j<k+1→tyAt j s[j]):=by
     intro j hj h;by_cases e:j=k
     ·subst e;exact ht
     ·exact hA.out j hj (by omega)
    unfold tyAt at ht;rcases ht with⟨h1,h2⟩ | ⟨h0,h1 | ⟨h1,h2⟩⟩
    ·go_wp2_with fail;go_round;case rel=>exact⟨k+1,by omega,by go_num,HA⟩
     case measure=>simp[intOf];omega
    ·have hk0:((k:Int)==0)=false:=(by rw[beq_eq_false_iff_ne];omega);have hc1:(((s[k]'hlt).toNat:Int)==45)=true:=(by rw[beq_iff_eq];exact h1);have hc2:(((s[k]'hlt).toNat:Int) !=45)=false:=(by rw[bne_eq_false_iff_eq];exact h1);have hc3: ¬97≤((s[k]'hlt).toNat:Int):=(by omega);clear h1 h0;go_wp2_with fail;go_round;case rel=>exact⟨k+1,by omega,by go_num,HA⟩
     case measure=>simp[intOf];omega
    ·have hk0:((k:Int)==0)=false:=(by rw[beq_eq_false_iff_ne];omega);have hc1:(((s[k]'hlt).toNat:Int)==45)=false:=(by rw[beq_eq_false_iff_ne];omega);have hc2:(((s[k]'hlt).toNat:Int) !=45)=true:=(by rw[bne_iff_ne];omega);have hc3: ¬97≤((s[k]'hlt).toNat:Int):=(by omega);clear h0;go_wp2_with fail;go_round;case rel=>exact⟨k+1,by omega,by go_num,HA⟩
     case measure=>simp[intOf];omega
   ·have HN:=Lib.hid (typeOK_no hlt ht);unfold tyAt at ht;have g256:((s[k]'hlt).toNat:Int)<256:=(by have:=(s[k]'hlt).toNat_lt;omega);by_cases hk0:k=0
    ·subst hk0;by_cases h97:97≤((s[0]'hlt).toNat:Int)
     ·have h122:decide (((s[0]'hlt).toNat:Int)≤122)=false:=(by rw[decide_eq_false_iff_not];omega);clear ht;go_wp2_with fail;go_ret;exact⟨kt.ret_bool HN.out,rfl⟩
     ·clear ht;go_wp2_with fail;go_ret;exact⟨kt.ret_bool HN.out,rfl⟩
    ·have hk1:((k:Int)==0)=false:=(by rw[beq_eq_false_iff_ne];omega);have hc1:(((s[k]'hlt).toNat:Int)==45)=false:=(by rw[beq_eq_false_iff_ne];omega);have hc2:(((s[k]'hlt).toNat:Int) !=45)=true:=(by rw[bne_iff_ne];omega);by_cases h97:97≤((s[k]'hlt).toNat:Int)
     ·have h122:decide (((s[k]'hlt).toNat:Int)≤122)=false:=(by rw[decide_eq_false_iff_not];omega);have h57:57<((s[k]'hlt).toNat:Int):=(by omega);have h48:48≤((s[k]'hlt).toNat:Int):=(by omega);clear ht hk0;go_wp2_with fail;go_ret;exact⟨kt.ret_bool HN.out,rfl⟩
     ·by_cases h48:48≤((s[k]'hlt).toNat:Int)
      ·have h57:57<((s[k]'hlt).toNat:Int):=(by omega);clear ht hk0;go_wp2_with fail;go_ret;exact⟨kt.ret_bool HN.out,rfl⟩
      ·clear ht hk0;go_wp2_with fail;go_ret;exact⟨kt.ret_bool HN.out,rfl⟩
  ·obtain rfl:k=s.size:=(by omega);by_cases h0:s.size=0
   ·have HN:=Lib.hid (typeOK_len (s:=s) (Or.inl h0));obtain rfl:s=⟨#[]⟩:=kt.str_eq (by have:s.data.toList.length=0:=(by simpa using h0);exact List.eq_nil_of_length_eq_zero this);clear h0;go_wp2_with fail;go_ret;exact⟨kt.ret_bool HN.out,rfl⟩
   ·have g1:(s.toList==[])=false:=(by rw[beq_eq_false_iff_ne,Lib.toList_data];intro e;apply h0;have:=congrArg List.length e;simpa using this);have g2: ¬s.toList=[]:=(by simpa using g1);by_cases h32:s.size≤32
    ·have h32':(s.size:Int)≤32:=(by omega);have HN:=Lib.hid (typeOK_end (s:=s) (fun j hj=>hA.out j hj hj) h0 h32);clear h0;go_wp2_with fail;go_ret;exact⟨kt.ret_bool HN.out,rfl⟩
    ·have h32': ¬ (s.size:Int)≤32:=(by omega);have HN:=Lib.hid (typeOK_len (s:=s) (Or.inr (by omega)));clear h0;go_wp2_with fail;go_ret;exact⟨kt.ret_bool HN.out,rfl⟩
end dnw
end Go.Proofs.YtmnpfkbjpeaemaaGreatDoor
