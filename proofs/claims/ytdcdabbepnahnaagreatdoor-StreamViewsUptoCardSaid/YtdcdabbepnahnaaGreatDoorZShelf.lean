/- Contracts of the library's functions at this program, laid by the kit's tool. -/
import Derived.Shelf.Strings.Builder1
import Derived.Shelf.Strings.Builder2
import Derived.Shelf.Strings.OnBuilder
import Derived.Shelf.Small.Bits
import Derived.Shelf.Small.Strs
import Derived.Shelf.Small.Wraps
import Derived.Shelf.Strconv.Itoa0
import Derived.Shelf.Strings.Search1
import Derived.Shelf.Strings.Search2
import Derived.Shelf.Strings.Search3
import Derived.Shelf.Strings.Count
import Derived.Shelf.LaysM
import Derived.Shelf.Strings.Shaped
import Derived.Shelf.Strings.Prefix
import Derived.Shelf.Strings.Split
import Derived.Shelf.Strings.SplitShaped
import Derived.Shelf.Unicode.DecodeSlow
import Derived.Shelf.Slices.Equal
import Derived.Ground.Names2Prog
import Derived.Shelf.Slices.Clone
import Derived.Test.YtdcdabbepnahnaaGreatDoorProg
namespace Go.Proofs
open Go.Shelf
open Go.RowKit in
open Go.RowKit in
open Go.RowKit in
open Go.RowKit in
open Go.RowKit in
def Tryz.lays156_ren:Go.Shelf.Ren:=⟨fun | 156=>120 | 165=>157 | 166=>158 | 169=>159 | 240=>179 | 241=>180 | 276=>198 | 277=>199 | n=>n,fun | 31=>41 | 9=>9 | 3=>3 | 4=>4 | 0=>0 | 20=>20 | 72=>211 | 76=>215 | 70=>208 | 37=>209 | 75=>214 | 127=>226 | 164=>240 | 5=>5 | 80=>217 | n=>n,fun | n=>n⟩
theorem Tryz.lays156:Go.Proofs.Lays.n156 Tryz.prog Tryz.lays156_ren:={
 mixed:=by kernel_rfl
 f156:=Tryz.func120.trans (congrArg some (by kernel_rfl))
 f165:=Tryz.func157.trans (congrArg some (by kernel_rfl))
 f166:=Tryz.func158.trans (congrArg some (by kernel_rfl))
 f169:=Tryz.func159.trans (congrArg some (by kernel_rfl))
 f240:=Tryz.func179.trans (congrArg some (by kernel_rfl))
 f241:=Tryz.func180.trans (congrArg some (by kernel_rfl))
 f276:=Tryz.func198.trans (congrArg some (by kernel_rfl))
 f277:=Tryz.func199.trans (congrArg some (by kernel_rfl))
 t0:=Tryz.underlying0
 a0:=Tryz.isAgg0
 z0:=Tryz.sizeOf0
 v0:=Tryz.zeroValue0
 t3:=Tryz.underlying3
 a3:=Tryz.isAgg3
 z3:=Tryz.sizeOf3
 v3:=Tryz.zeroValue3
 t4:=Tryz.underlying4
 a4:=Tryz.isAgg4
 z4:=Tryz.sizeOf4
 v4:=Tryz.zeroValue4
 t9:=Tryz.underlying9
 a9:=Tryz.isAgg9
 z9:=Tryz.sizeOf9
 v9:=Tryz.zeroValue9
 t20:=Tryz.underlying20
 a20:=Tryz.isAgg20
 z20:=Tryz.sizeOf20
 v20:=Tryz.zeroValue20
 t31:=Tryz.underlying41
 a31:=Tryz.isAgg41
 z31:=Tryz.sizeOf41
 v31:=Tryz.zeroValue41
 t37:=Tryz.underlying209
 a37:=Tryz.isAgg209
 z37:=Tryz.sizeOf209
 v37:=Tryz.zeroValue209
 t70:=Tryz.underlying208
 a70:=Tryz.isAgg208
 z70:=Tryz.sizeOf208
 v70:=Tryz.zeroValue208
 t72:=Tryz.underlying211
 a72:=Tryz.isAgg211
 z72:=Tryz.sizeOf211
 v72:=Tryz.zeroValue211
 t75:=Tryz.underlying214
 a75:=Tryz.isAgg214
 z75:=Tryz.sizeOf214
 v75:=Tryz.zeroValue214
 t76:=Tryz.underlying215
 a76:=Tryz.isAgg215
 z76:=Tryz.sizeOf215
 v76:=Tryz.zeroValue215
 t127:=Tryz.underlying226
 a127:=Tryz.isAgg226
 z127:=Tryz.sizeOf226
 v127:=Tryz.zeroValue226
 t164:=Tryz.underlying240
 a164:=Tryz.isAgg240
 z164:=Tryz.sizeOf240
 v164:=Tryz.zeroValue240 }
theorem Tryz.Builder_Extra_156:Builder.Extra Tryz.prog Tryz.lays156_ren:={
 sizeBuilder:=by kernel_rfl
 liesBuilder:=by kernel_rfl
 t5:=Tryz.underlying5
 a5:=Tryz.isAgg5
 z5:=Tryz.sizeOf5
 v5:=Tryz.zeroValue5
 infoByte:=by kernel_rfl
 cellsByte:=by kernel_rfl
 sizeByte:=by kernel_rfl
 neB5:=by decide }
open Go.RowKit in
theorem Tryz.strings_Join_none (a:Option Addr) (c:Nat) (sep:ByteArray) (w:World) :
  Calls Tryz.prog 120 #[.slice a 0 c,.string sep] w fun e w'=>e=.returned (.string ⟨#[]⟩)∧w'=w:=Any.strings_Join_none Tryz.lays156 Tryz.Builder_Extra_156 a c sep w
open Go.RowKit in
theorem Tryz.strings_Join (bk o c:Nat) (xs:List ByteArray) (sep:ByteArray) (w:World) (hcells:∀(j:Nat) x,xs[j]?=some x→w.cell? ⟨bk,o+j,none⟩=some (.string x)) (hbk:bk < w.heap.size) (hN:xs.length≤140737488355328) (hcap:xs.length≤c) (hlen:(Lib.join (xs.map (·.data.toList)) sep.data.toList).length≤140737488355328) :
  Calls Tryz.prog 120 #[.slice (some ⟨bk,o,none⟩) xs.length c,.string sep] w fun e w'=>e=.returned (.string ⟨(Lib.join (xs.map (·.data.toList)) sep.data.toList).toArray⟩)∧Below w.heap.size w w':=Any.strings_Join Tryz.lays156 Tryz.Builder_Extra_156 bk o c xs sep w hcells hbk hN hcap hlen
open Go.RowKit in
def Tryz.lays106_ren:Go.Shelf.Ren:=⟨fun | 106=>132 | 213=>167 | 265=>192 | n=>n,fun | 9=>9 | 3=>3 | n=>n,fun | n=>n⟩
theorem Tryz.lays106:Go.Proofs.Lays.n106 Tryz.prog Tryz.lays106_ren:={
 mixed:=by kernel_rfl
 f106:=Tryz.func132.trans (congrArg some (by kernel_rfl))
 f213:=Tryz.func167.trans (congrArg some (by kernel_rfl))
 f265:=Tryz.func192.trans (congrArg some (by kernel_rfl))
 t3:=Tryz.underlying3
 a3:=Tryz.isAgg3
 z3:=Tryz.sizeOf3
 v3:=Tryz.zeroValue3
 t9:=Tryz.underlying9
 a9:=Tryz.isAgg9
 z9:=Tryz.sizeOf9
 v9:=Tryz.zeroValue9 }
open Go.RowKit in
theorem Tryz.strings_Compare (a b:ByteArray) (w:World) :
  Calls Tryz.prog 132 #[.string a,.string b] w fun e w'=>e=.returned (.int .i64 (Lib.compareBytes a.data.toList b.data.toList))∧w'=w:=Any.strings_Compare Tryz.lays106 a b w
def Tryz.lays137_ren:Go.Shelf.Ren:=⟨fun | 137=>93 | 217=>139 | 266=>169 | n=>n,fun | 9=>9 | 5=>5 | 3=>3 | n=>n,fun | n=>n⟩
theorem Tryz.lays137:Go.Proofs.Lays.n137 Tryz.prog Tryz.lays137_ren:={
 mixed:=by kernel_rfl
 f137:=Tryz.func93.trans (congrArg some (by kernel_rfl))
 f217:=Tryz.func139.trans (congrArg some (by kernel_rfl))
 f266:=Tryz.func169.trans (congrArg some (by kernel_rfl))
 t3:=Tryz.underlying3
 a3:=Tryz.isAgg3
 z3:=Tryz.sizeOf3
 v3:=Tryz.zeroValue3
 t5:=Tryz.underlying5
 a5:=Tryz.isAgg5
 z5:=Tryz.sizeOf5
 v5:=Tryz.zeroValue5
 t9:=Tryz.underlying9
 a9:=Tryz.isAgg9
 z9:=Tryz.sizeOf9
 v9:=Tryz.zeroValue9 }
open Go.RowKit in
theorem Tryz.strings_IndexByte (s:ByteArray) (c:Int) (w:World) :
  Calls Tryz.prog 93 #[.string s,.int .u8 c] w fun e w'=>e=.returned (.int .i64 (Lib.indexByte s.data.toList c.toNat.toUInt8))∧w'=w:=Any.strings_IndexByte Tryz.lays137 s c w
open Go.RowKit in
def Tryz.lays103_ren:Go.Shelf.Ren:=⟨fun | 103=>105 | 210=>147 | 206=>43 | n=>n,fun | 9=>9 | 4=>4 | 24=>38 | 3=>3 | n=>n,fun | n=>n⟩
theorem Tryz.lays103:Go.Proofs.Lays.n103 Tryz.prog Tryz.lays103_ren:={
 mixed:=by kernel_rfl
 f103:=Tryz.func105.trans (congrArg some (by kernel_rfl))
 f206:=Tryz.func43.trans (congrArg some (by kernel_rfl))
 f210:=Tryz.func147.trans (congrArg some (by kernel_rfl))
 t3:=Tryz.underlying3
 a3:=Tryz.isAgg3
 z3:=Tryz.sizeOf3
 v3:=Tryz.zeroValue3
 t4:=Tryz.underlying4
 a4:=Tryz.isAgg4
 z4:=Tryz.sizeOf4
 v4:=Tryz.zeroValue4
 t9:=Tryz.underlying9
 a9:=Tryz.isAgg9
 z9:=Tryz.sizeOf9
 v9:=Tryz.zeroValue9
 t24:=Tryz.underlying38
 a24:=Tryz.isAgg38
 z24:=Tryz.sizeOf38
 v24:=Tryz.zeroValue38 }
open Go.RowKit in
theorem Tryz.strings_CutPrefix (s p:ByteArray) (w:World) :
  Calls Tryz.prog 105 #[.string s,.string p] w fun e w'=>e=.returned (.tuple #[.string ⟨(Lib.trimPrefix s.data.toList p.data.toList).toArray⟩,.bool (Lib.hasPrefix s.data.toList p.data.toList)])∧w'=w:=Any.strings_CutPrefix Tryz.lays103 s p w
open Go.RowKit in
def Tryz.lays104_ren:Go.Shelf.Ren:=⟨fun | 104=>156 | 211=>178 | 207=>193 | n=>n,fun | 9=>9 | 4=>4 | 24=>38 | 3=>3 | n=>n,fun | n=>n⟩
theorem Tryz.lays104:Go.Proofs.Lays.n104 Tryz.prog Tryz.lays104_ren:={
 mixed:=by kernel_rfl
 f104:=Tryz.func156.trans (congrArg some (by kernel_rfl))
 f207:=Tryz.func193.trans (congrArg some (by kernel_rfl))
 f211:=Tryz.func178.trans (congrArg some (by kernel_rfl))
 t3:=Tryz.underlying3
 a3:=Tryz.isAgg3
 z3:=Tryz.sizeOf3
 v3:=Tryz.zeroValue3
 t4:=Tryz.underlying4
 a4:=Tryz.isAgg4
 z4:=Tryz.sizeOf4
 v4:=Tryz.zeroValue4
 t9:=Tryz.underlying9
 a9:=Tryz.isAgg9
 z9:=Tryz.sizeOf9
 v9:=Tryz.zeroValue9
 t24:=Tryz.underlying38
 a24:=Tryz.isAgg38
 z24:=Tryz.sizeOf38
 v24:=Tryz.zeroValue38 }
open Go.RowKit in
theorem Tryz.strings_CutSuffix (s p:ByteArray) (w:World) (hs:s.size≤9223372036854775807) :
  Calls Tryz.prog 156 #[.string s,.string p] w fun e w'=>e=.returned (.tuple #[.string ⟨(Lib.trimSuffix s.data.toList p.data.toList).toArray⟩,.bool (Lib.hasSuffix s.data.toList p.data.toList)])∧w'=w:=Any.strings_CutSuffix Tryz.lays104 s p w hs
open Go.RowKit Go.Lib in
open Go.RowKit Go.Lib in
open Go.RowKit Go.Lib in
open Go.RowKit Go.Lib in
open Go.RowKit Go.Lib in
open Go.RowKit Go.Lib in
open Go.RowKit Go.Lib in
open Go.RowKit Go.Lib in
open Go.RowKit Go.Lib in
open Go.RowKit Go.Lib in
open Go.RowKit Go.Lib in
open Go.RowKit Go.Lib in
open Go.RowKit Go.Lib in
open Go.RowKit Go.Lib in
def Tryz.lays99_ren:Go.Shelf.Ren:=⟨fun | 99=>19 | 206=>43 | n=>n,fun | 9=>9 | 4=>4 | 3=>3 | n=>n,fun | n=>n⟩
theorem Tryz.lays99:Go.Proofs.Lays.n99 Tryz.prog Tryz.lays99_ren:={
 mixed:=by kernel_rfl
 f99:=Tryz.func19.trans (congrArg some (by kernel_rfl))
 f206:=Tryz.func43.trans (congrArg some (by kernel_rfl))
 t3:=Tryz.underlying3
 a3:=Tryz.isAgg3
 z3:=Tryz.sizeOf3
 v3:=Tryz.zeroValue3
 t4:=Tryz.underlying4
 a4:=Tryz.isAgg4
 z4:=Tryz.sizeOf4
 v4:=Tryz.zeroValue4
 t9:=Tryz.underlying9
 a9:=Tryz.isAgg9
 z9:=Tryz.sizeOf9
 v9:=Tryz.zeroValue9 }
open Go.RowKit Go.Lib in
theorem Tryz.strings_HasPrefix (s p:ByteArray) (w:World) :
  Calls Tryz.prog 19 #[.string s,.string p] w fun e w'=>e=.returned (.bool (Lib.hasPrefix s.data.toList p.data.toList))∧w'=w:=Any.strings_HasPrefix Tryz.lays99 s p w
open Go.RowKit Go.Lib in
def Tryz.lays100_ren:Go.Shelf.Ren:=⟨fun | 100=>170 | 207=>193 | n=>n,fun | 9=>9 | 4=>4 | 3=>3 | n=>n,fun | n=>n⟩
theorem Tryz.lays100:Go.Proofs.Lays.n100 Tryz.prog Tryz.lays100_ren:={
 mixed:=by kernel_rfl
 f100:=Tryz.func170.trans (congrArg some (by kernel_rfl))
 f207:=Tryz.func193.trans (congrArg some (by kernel_rfl))
 t3:=Tryz.underlying3
 a3:=Tryz.isAgg3
 z3:=Tryz.sizeOf3
 v3:=Tryz.zeroValue3
 t4:=Tryz.underlying4
 a4:=Tryz.isAgg4
 z4:=Tryz.sizeOf4
 v4:=Tryz.zeroValue4
 t9:=Tryz.underlying9
 a9:=Tryz.isAgg9
 z9:=Tryz.sizeOf9
 v9:=Tryz.zeroValue9 }
open Go.RowKit Go.Lib in
theorem Tryz.strings_HasSuffix (s p:ByteArray) (w:World) (hs:s.size≤9223372036854775807) :
  Calls Tryz.prog 170 #[.string s,.string p] w fun e w'=>e=.returned (.bool (Lib.hasSuffix s.data.toList p.data.toList))∧w'=w:=Any.strings_HasSuffix Tryz.lays100 s p w hs
open Go.RowKit Go.Lib in
open Go.RowKit Go.Lib in
open Go.RowKit Go.Lib in
def Tryz.lays102_ren:Go.Shelf.Ren:=⟨fun | 102=>161 | 209=>181 | 207=>193 | n=>n,fun | 9=>9 | 4=>4 | 3=>3 | n=>n,fun | n=>n⟩
theorem Tryz.lays102:Go.Proofs.Lays.n102 Tryz.prog Tryz.lays102_ren:={
 mixed:=by kernel_rfl
 f102:=Tryz.func161.trans (congrArg some (by kernel_rfl))
 f207:=Tryz.func193.trans (congrArg some (by kernel_rfl))
 f209:=Tryz.func181.trans (congrArg some (by kernel_rfl))
 t3:=Tryz.underlying3
 a3:=Tryz.isAgg3
 z3:=Tryz.sizeOf3
 v3:=Tryz.zeroValue3
 t4:=Tryz.underlying4
 a4:=Tryz.isAgg4
 z4:=Tryz.sizeOf4
 v4:=Tryz.zeroValue4
 t9:=Tryz.underlying9
 a9:=Tryz.isAgg9
 z9:=Tryz.sizeOf9
 v9:=Tryz.zeroValue9 }
open Go.RowKit Go.Lib in
theorem Tryz.strings_TrimSuffix (s p:ByteArray) (w:World) (hs:s.size≤9223372036854775807) :
  Calls Tryz.prog 161 #[.string s,.string p] w fun e w'=>e=.returned (.string ⟨(Lib.trimSuffix s.data.toList p.data.toList).toArray⟩)∧w'=w:=Any.strings_TrimSuffix Tryz.lays102 s p w hs
open Go.RowKit Go.Lib in
open Go.RowKit Go.Lib in
def Tryz.lays146_ren:Go.Shelf.Ren:=⟨fun | 146=>106 | 221=>148 | 268=>174 | 138=>175 | 143=>176 | 195=>194 | 197=>195 | 218=>196 | 219=>197 | 260=>205 | 217=>139 | 225=>206 | 224=>207 | 267=>208 | 266=>169 | 314=>210 | n=>n,fun | 9=>9 | 31=>41 | 3=>3 | 4=>4 | 0=>0 | 105=>238 | 21=>21 | 5=>5 | 46=>222 | 119=>252 | 139=>255 | 138=>254 | 146=>256 | 51=>235 | n=>n,fun | 1=>0 | 3=>1 | 4=>2 | n=>n⟩
theorem Tryz.lays146:Go.Proofs.Lays.n146 Tryz.prog Tryz.lays146_ren:={
 mixed:=by kernel_rfl
 f138:=Tryz.func175.trans (congrArg some (by kernel_rfl))
 f143:=Tryz.func176.trans (congrArg some (by kernel_rfl))
 f146:=Tryz.func106.trans (congrArg some (by kernel_rfl))
 f195:=Tryz.func194.trans (congrArg some (by kernel_rfl))
 f197:=Tryz.func195.trans (congrArg some (by kernel_rfl))
 f217:=Tryz.func139.trans (congrArg some (by kernel_rfl))
 f218:=Tryz.func196.trans (congrArg some (by kernel_rfl))
 f219:=Tryz.func197.trans (congrArg some (by kernel_rfl))
 f221:=Tryz.func148.trans (congrArg some (by kernel_rfl))
 f224:=Tryz.func207.trans (congrArg some (by kernel_rfl))
 f225:=Tryz.func206.trans (congrArg some (by kernel_rfl))
 f260:=Tryz.func205.trans (congrArg some (by kernel_rfl))
 f266:=Tryz.func169.trans (congrArg some (by kernel_rfl))
 f267:=Tryz.func208.trans (congrArg some (by kernel_rfl))
 f268:=Tryz.func174.trans (congrArg some (by kernel_rfl))
 f314:=Tryz.func210.trans (congrArg some (by kernel_rfl))
 t0:=Tryz.underlying0
 a0:=Tryz.isAgg0
 z0:=Tryz.sizeOf0
 v0:=Tryz.zeroValue0
 t3:=Tryz.underlying3
 a3:=Tryz.isAgg3
 z3:=Tryz.sizeOf3
 v3:=Tryz.zeroValue3
 t4:=Tryz.underlying4
 a4:=Tryz.isAgg4
 z4:=Tryz.sizeOf4
 v4:=Tryz.zeroValue4
 t5:=Tryz.underlying5
 a5:=Tryz.isAgg5
 z5:=Tryz.sizeOf5
 v5:=Tryz.zeroValue5
 t9:=Tryz.underlying9
 a9:=Tryz.isAgg9
 z9:=Tryz.sizeOf9
 v9:=Tryz.zeroValue9
 t21:=Tryz.underlying21
 a21:=Tryz.isAgg21
 z21:=Tryz.sizeOf21
 v21:=Tryz.zeroValue21
 t31:=Tryz.underlying41
 a31:=Tryz.isAgg41
 z31:=Tryz.sizeOf41
 v31:=Tryz.zeroValue41
 t46:=Tryz.underlying222
 a46:=Tryz.isAgg222
 z46:=Tryz.sizeOf222
 v46:=Tryz.zeroValue222
 t51:=Tryz.underlying235
 a51:=Tryz.isAgg235
 z51:=Tryz.sizeOf235
 v51:=Tryz.zeroValue235
 t105:=Tryz.underlying238
 a105:=Tryz.isAgg238
 z105:=Tryz.sizeOf238
 v105:=Tryz.zeroValue238
 t119:=Tryz.underlying252
 a119:=Tryz.isAgg252
 z119:=Tryz.sizeOf252
 t138:=Tryz.underlying254
 a138:=Tryz.isAgg254
 z138:=Tryz.sizeOf254
 v138:=Tryz.zeroValue254
 t139:=Tryz.underlying255
 a139:=Tryz.isAgg255
 z139:=Tryz.sizeOf255
 v139:=Tryz.zeroValue255
 t146:=Tryz.underlying256
 a146:=Tryz.isAgg256
 z146:=Tryz.sizeOf256
 v146:=Tryz.zeroValue256
 g1:=by kernel_rfl
 g3:=by kernel_rfl
 g4:=by kernel_rfl }
open Go.RowKit Go.Lib in
theorem Tryz.strings_Split (s sep:ByteArray) (m:Int) (w:World) (hs:s.size < 4294967281) (hm:w.cell? ⟨0,0,none⟩=some (.int .i64 m)) (h1:1≤sep.size) :
  Calls Tryz.prog 106 #[.string s,.string sep] w fun e w'=>
   e=.returned (.slice (some ⟨w.heap.size,0,none⟩) (Lib.countB s sep+1) (Lib.countB s sep+1))∧w'=w.alloc (.cells ((Lib.splitB sep 0 (Lib.countB s sep) s).map Value.string).toArray 9):=Any.strings_Split Tryz.lays146 (by kernel_rfl) s sep m w hs hm h1
def Tryz.laysM146_ren:Go.Shelf.Ren:=⟨fun | 146=>106 | 221=>148 | 268=>174 | 138=>175 | 143=>176 | 195=>194 | 197=>195 | 218=>196 | 219=>197 | 260=>205 | 217=>139 | 225=>206 | 224=>207 | 267=>208 | 266=>169 | 314=>210 | n=>n,fun | 9=>9 | 31=>41 | 3=>3 | 4=>4 | 0=>0 | 105=>238 | 21=>21 | 5=>5 | 46=>222 | 119=>252 | 139=>255 | 138=>254 | 146=>256 | 51=>235 | n=>n,fun | 1=>0 | 3=>1 | 4=>2 | n=>n⟩
theorem Tryz.laysM146:Go.Proofs.LaysM.n146 Tryz.prog Tryz.laysM146_ren:={
 mixed:=by kernel_rfl
 f138:=Tryz.func175.trans (congrArg some (by kernel_rfl))
 f143:=Tryz.func176.trans (congrArg some (by kernel_rfl))
 f146:=Tryz.func106.trans (congrArg some (by kernel_rfl))
 f195:=Tryz.func194.trans (congrArg some (by kernel_rfl))
 f197:=Tryz.func195.trans (congrArg some (by kernel_rfl))
 f217:=Tryz.func139.trans (congrArg some (by kernel_rfl))
 f218:=Tryz.func196.trans (congrArg some (by kernel_rfl))
 f219:=Tryz.func197.trans (congrArg some (by kernel_rfl))
 f221:=Tryz.func148.trans (congrArg some (by kernel_rfl))
 f224:=Tryz.func207.trans (congrArg some (by kernel_rfl))
 f225:=Tryz.func206.trans (congrArg some (by kernel_rfl))
 f260:=Tryz.func205.trans (congrArg some (by kernel_rfl))
 f266:=Tryz.func169.trans (congrArg some (by kernel_rfl))
 f267:=Tryz.func208.trans (congrArg some (by kernel_rfl))
 f268:=Tryz.func174.trans (congrArg some (by kernel_rfl))
 f314:=Tryz.func210.trans (congrArg some (by kernel_rfl))
 t0:=Tryz.underlying0
 a0:=Tryz.isAgg0
 z0:=Tryz.sizeOf0
 v0:=Tryz.zeroValue0
 t3:=Tryz.underlying3
 a3:=Tryz.isAgg3
 z3:=Tryz.sizeOf3
 v3:=Tryz.zeroValue3
 t4:=Tryz.underlying4
 a4:=Tryz.isAgg4
 z4:=Tryz.sizeOf4
 v4:=Tryz.zeroValue4
 t5:=Tryz.underlying5
 a5:=Tryz.isAgg5
 z5:=Tryz.sizeOf5
 v5:=Tryz.zeroValue5
 t9:=Tryz.underlying9
 a9:=Tryz.isAgg9
 z9:=Tryz.sizeOf9
 v9:=Tryz.zeroValue9
 t21:=Tryz.underlying21
 a21:=Tryz.isAgg21
 z21:=Tryz.sizeOf21
 v21:=Tryz.zeroValue21
 t31:=Tryz.underlying41
 a31:=Tryz.isAgg41
 z31:=Tryz.sizeOf41
 v31:=Tryz.zeroValue41
 t46:=Tryz.underlying222
 a46:=Tryz.isAgg222
 z46:=Tryz.sizeOf222
 v46:=Tryz.zeroValue222
 t51:=Tryz.underlying235
 a51:=Tryz.isAgg235
 z51:=Tryz.sizeOf235
 v51:=Tryz.zeroValue235
 t105:=Tryz.underlying238
 a105:=Tryz.isAgg238
 z105:=Tryz.sizeOf238
 v105:=Tryz.zeroValue238
 t119:=Tryz.underlying252
 a119:=Tryz.isAgg252
 z119:=Tryz.sizeOf252
 t138:=Tryz.underlying254
 a138:=Tryz.isAgg254
 z138:=Tryz.sizeOf254
 v138:=Tryz.zeroValue254
 t139:=Tryz.underlying255
 a139:=Tryz.isAgg255
 z139:=Tryz.sizeOf255
 v139:=Tryz.zeroValue255
 t146:=Tryz.underlying256
 a146:=Tryz.isAgg256
 z146:=Tryz.sizeOf256
 v146:=Tryz.zeroValue256
 g1:=by kernel_rfl
 g3:=by kernel_rfl
 g4:=by kernel_rfl
 i0:=by kernel_rfl
 i3:=by kernel_rfl
 i4:=by kernel_rfl
 i5:=by kernel_rfl
 i9:=by kernel_rfl
 i21:=by kernel_rfl
 i31:=by kernel_rfl
 i46:=by kernel_rfl
 i51:=by kernel_rfl
 i105:=by kernel_rfl
 i138:=by kernel_rfl
 i139:=by kernel_rfl
 i146:=by kernel_rfl
 m1:=by kernel_rfl
 s1_3:=fun w h=>Go.Proofs.cell_of_shapedOpen_int (zero:=#[.int .i64 0]) (t:=3) h (of_decide_eq_true (by kernel_rfl)) (by kernel_rfl) rfl (by kernel_rfl) (by kernel_rfl) Tryz.underlying3
 m3:=by kernel_rfl
 m4:=by kernel_rfl }
open Go.RowKit Go.Lib in
open Go.RowKit Go.Lib in
def Tryz.lays193_ren:Go.Shelf.Ren:=⟨fun | 193=>67 | n=>n,fun | 31=>41 | 9=>9 | 4=>4 | 3=>3 | 0=>0 | n=>n,fun | n=>n⟩
theorem Tryz.lays193:Go.Proofs.Lays.n193 Tryz.prog Tryz.lays193_ren:={
 mixed:=by kernel_rfl
 f193:=Tryz.func67.trans (congrArg some (by kernel_rfl))
 t0:=Tryz.underlying0
 a0:=Tryz.isAgg0
 z0:=Tryz.sizeOf0
 v0:=Tryz.zeroValue0
 t3:=Tryz.underlying3
 a3:=Tryz.isAgg3
 z3:=Tryz.sizeOf3
 v3:=Tryz.zeroValue3
 t4:=Tryz.underlying4
 a4:=Tryz.isAgg4
 z4:=Tryz.sizeOf4
 v4:=Tryz.zeroValue4
 t9:=Tryz.underlying9
 a9:=Tryz.isAgg9
 z9:=Tryz.sizeOf9
 v9:=Tryz.zeroValue9
 t31:=Tryz.underlying41
 a31:=Tryz.isAgg41
 z31:=Tryz.sizeOf41
 v31:=Tryz.zeroValue41 }
open Go.RowKit Go.Lib in
theorem Tryz.slices_Equal_string (b1 o1 n c b2 o2 m d:Nat) (xs ys:List ByteArray) (w:World) (hx:n≤xs.length) (hy:m≤ys.length) (hbig:n≤9223372036854775807) (hbig2:m≤9223372036854775807) (hc1:∀j,j < xs.length→w.cell? ⟨b1,o1+j,none⟩=some (.string (xs.getD j ByteArray.empty))) (hc2:∀j,j < ys.length→w.cell? ⟨b2,o2+j,none⟩=some (.string (ys.getD j ByteArray.empty))) :
  Calls Tryz.prog 67 #[.slice (some ⟨b1,o1,none⟩) n c,.slice (some ⟨b2,o2,none⟩) m d] w fun e w'=>e=.returned (.bool (decide (xs.take n=ys.take m)))∧∃q,w'=w.drewN q:=Any.slices_Equal_string Tryz.lays193 b1 o1 n c b2 o2 m d xs ys w hx hy hbig hbig2 hc1 hc2
open Go.RowKit Go.Lib in
def Tryz.laysNm216_ren:Go.Shelf.Ren:=⟨fun | 16=>112 | n=>n,fun | 24=>41 | 9=>9 | 4=>4 | n=>n,fun | n=>n⟩
theorem Tryz.laysNm216:Go.Proofs.Lays2.n16 Tryz.prog Tryz.laysNm216_ren:={
 mixed:=by kernel_rfl
 f16:=Tryz.func112.trans (congrArg some (by kernel_rfl))
 t4:=Tryz.underlying4
 a4:=Tryz.isAgg4
 z4:=Tryz.sizeOf4
 v4:=Tryz.zeroValue4
 t9:=Tryz.underlying9
 a9:=Tryz.isAgg9
 z9:=Tryz.sizeOf9
 v9:=Tryz.zeroValue9
 t24:=Tryz.underlying41
 a24:=Tryz.isAgg41
 z24:=Tryz.sizeOf41
 v24:=Tryz.zeroValue41
 i9:=by kernel_rfl }
open Go.RowKit Go.Lib in
theorem Tryz.slices_Clone_string (b off n c:Nat) (zs:List ByteArray) (w:World) (hz:n≤zs.length) (hbig:n * 16≤140737488355328) (hc:∀j,j < zs.length→w.cell? ⟨b,off+j,none⟩=some (.string (zs.getD j ByteArray.empty))) :
  Calls Tryz.prog 112 #[.slice (some ⟨b,off,none⟩) n c] w fun e w'=>∃v',e=.returned v'∧w'.ownsRow w.heap.size 9 1 v' n ((zs.take n).map (Value.string))∧v'≠.slice none 0 0∧Below w.heap.size w w':=Any.slices_Clone_string Tryz.laysNm216 b off n c zs w hz hbig hc
open Go.RowKit Go.Lib in
theorem Tryz.slices_Clone_string_nil (n c:Nat) (w:World) :
  Calls Tryz.prog 112 #[.slice none n c] w fun e w'=>e=.returned (.slice none 0 0)∧w'=w:=Any.slices_Clone_string_nil Tryz.laysNm216 n c w
open Go.RowKit Go.Lib in
theorem Tryz.slices_Clone_string_zero (a:Addr) (c:Nat) (w:World) :
  Calls Tryz.prog 112 #[.slice (some a) 0 c] w fun e w'=>∃v',e=.returned v'∧w'.ownsRow w.heap.size 9 1 v' 0 []∧v'≠.slice none 0 0∧Below w.heap.size w w':=Any.slices_Clone_string_zero Tryz.laysNm216 a c w
end Go.Proofs
