/- What is proved: what the claims of this seat share, part 3: a program of ours merged it out of our own texts, the print's words and the laid shelf. Conditions: those of each. -/
import Derived.Test.YtbaokjfhigjpdaaGreatDoorMB2
import Derived.Shelf.LaysM
import Derived.Shelf.Slices.In.SortNone
import Derived.Shelf.Small.Bits
import Derived.Shelf.Small.Strs
import Derived.Shelf.Small.Utf8
import Derived.Shelf.Small.Wraps
import Derived.Shelf.Sort.Plain
import Derived.Shelf.Strconv.Itoa0
import Derived.Shelf.Strings.Builder1
import Derived.Shelf.Strings.Builder2
import Derived.Shelf.Strings.Builder2Cap
import Derived.Shelf.Strings.BuilderCap
import Derived.Shelf.Strings.BuilderF
import Derived.Shelf.Strings.BuilderK
import Derived.Shelf.Strings.BuilderRune
import Derived.Shelf.Strings.CaseAny
import Derived.Shelf.Strings.Cut
import Derived.Shelf.Strings.Fold
import Derived.Shelf.Strings.MapAny
import Derived.Shelf.Strings.MapGrows
import Derived.Shelf.Strings.OnBuilder
import Derived.Shelf.Strings.Prefix
import Derived.Shelf.Strings.Search1
import Derived.Shelf.Strings.Search2
import Derived.Shelf.Strings.Shaped
import Derived.Shelf.Unicode.CaseConvert
import Derived.Shelf.Unicode.CaseLaid
import Derived.Shelf.Unicode.CaseLookup
import Derived.Shelf.Unicode.CaseTo
import Derived.Shelf.Unicode.Decode
import Derived.Shelf.Unicode.DecodeAny
import Derived.Shelf.Unicode.DecodeSlow
import Derived.Shelf.Unicode.Latin
import Derived.Shelf.Utf8.AppendRune
import Derived.Shelf.Utf8.AppendRunePlain
import Derived.Test.YtbaokjfhigjpdaaGreatDoorProg
set_option linter.unusedVariables false
set_option linter.unusedSimpArgs false
section
namespace Go.Proofs
open Go.Shelf
def Tryz.lays169_ren:Go.Shelf.Ren:=⟨fun | 169=>46 | n=>n,fun | 70=>105 | 9=>9 | 0=>0 | 72=>107 | 37=>33 | 127=>172 | 3=>3 | 5=>5 | n=>n,fun | n=>n⟩
theorem Tryz.lays169:Go.Proofs.Lays.n169 Tryz.prog Tryz.lays169_ren:={
  mixed:=by kernel_rfl
  f169:=Tryz.func46.trans (congrArg some (by kernel_rfl))
  t0:=Tryz.underlying0
  a0:=Tryz.isAgg0
  z0:=Tryz.sizeOf0
  v0:=Tryz.zeroValue0
  t3:=Tryz.underlying3
  a3:=Tryz.isAgg3
  z3:=Tryz.sizeOf3
  v3:=Tryz.zeroValue3
  t9:=Tryz.underlying9
  a9:=Tryz.isAgg9
  z9:=Tryz.sizeOf9
  v9:=Tryz.zeroValue9
  t37:=Tryz.underlying33
  a37:=Tryz.isAgg33
  z37:=Tryz.sizeOf33
  v37:=Tryz.zeroValue33
  t70:=Tryz.underlying105
  a70:=Tryz.isAgg105
  z70:=Tryz.sizeOf105
  v70:=Tryz.zeroValue105
  t72:=Tryz.underlying107
  a72:=Tryz.isAgg107
  z72:=Tryz.sizeOf107
  v72:=Tryz.zeroValue107
  t127:=Tryz.underlying172
  a127:=Tryz.isAgg172
  z127:=Tryz.sizeOf172
  v127:=Tryz.zeroValue172 }
theorem Tryz.Builder_Extra_169:Builder.Extra Tryz.prog Tryz.lays169_ren:={
  sizeBuilder:=by kernel_rfl
  liesBuilder:=by kernel_rfl
  t5:=Tryz.underlying5
  a5:=Tryz.isAgg5
  z5:=Tryz.sizeOf5
  v5:=Tryz.zeroValue5
  infoByte:=by kernel_rfl
  cellsByte:=by kernel_rfl
  sizeByte:=by kernel_rfl
  neB5:=by decide }
open Go.RowKit in
theorem Tryz.Builder_String_any (B b:Nat) (l:List UInt8) (w:World) (h:Lib.IsBuilder 107 5 B b (Lib.byteCells l) w) (hBw:B ≤ w.heap.size) :
    Calls Tryz.prog 46 #[.pointer (some ⟨b,0,none⟩)] w fun e w'=>e = .returned (.string ⟨l.toArray⟩) ∧ Below B w w':=Any.Builder_String_any Tryz.lays169 Tryz.Builder_Extra_169 B b l w h hBw
def Tryz.lays159_ren:Go.Shelf.Ren:=⟨fun | 159=>196 | 165=>226 | 166=>45 | 167=>227 | 169=>46 | 230=>228 | 204=>229 | 240=>69 | 241=>237 | 197=>204 | 118=>238 | 168=>239 | 270=>240 | 262=>241 | 276=>91 | 277=>245 | 260=>231 | 242=>246 | 313=>247 | 278=>249 | 274=>232 | 275=>233 | n=>n,fun | 9=>9 | 4=>4 | 3=>3 | 5=>5 | 72=>107 | 0=>0 | 76=>110 | 75=>109 | 107=>268 | 70=>105 | 20=>20 | 37=>33 | 127=>172 | 21=>21 | 105=>225 | 164=>194 | 162=>291 | 203=>308 | 119=>299 | 46=>219 | 139=>302 | 138=>301 | 51=>249 | 160=>289 | 208=>306 | 206=>304 | 80=>66 | n=>n,fun | 13=>2 | 3=>4 | 4=>5 | n=>n⟩
theorem Tryz.lays159:Go.Proofs.Lays.n159 Tryz.prog Tryz.lays159_ren:={
  mixed:=by kernel_rfl
  f118:=Tryz.func238.trans (congrArg some (by kernel_rfl))
  f159:=Tryz.func196.trans (congrArg some (by kernel_rfl))
  f165:=Tryz.func226.trans (congrArg some (by kernel_rfl))
  f166:=Tryz.func45.trans (congrArg some (by kernel_rfl))
  f167:=Tryz.func227.trans (congrArg some (by kernel_rfl))
  f168:=Tryz.func239.trans (congrArg some (by kernel_rfl))
  f169:=Tryz.func46.trans (congrArg some (by kernel_rfl))
  f197:=Tryz.func204.trans (congrArg some (by kernel_rfl))
  f204:=Tryz.func229.trans (congrArg some (by kernel_rfl))
  f230:=Tryz.func228.trans (congrArg some (by kernel_rfl))
  f240:=Tryz.func69.trans (congrArg some (by kernel_rfl))
  f241:=Tryz.func237.trans (congrArg some (by kernel_rfl))
  f242:=Tryz.func246.trans (congrArg some (by kernel_rfl))
  f260:=Tryz.func231.trans (congrArg some (by kernel_rfl))
  f262:=Tryz.func241.trans (congrArg some (by kernel_rfl))
  f270:=Tryz.func240.trans (congrArg some (by kernel_rfl))
  f274:=Tryz.func232.trans (congrArg some (by kernel_rfl))
  f275:=Tryz.func233.trans (congrArg some (by kernel_rfl))
  f276:=Tryz.func91.trans (congrArg some (by kernel_rfl))
  f277:=Tryz.func245.trans (congrArg some (by kernel_rfl))
  f278:=Tryz.func249.trans (congrArg some (by kernel_rfl))
  f313:=Tryz.func247.trans (congrArg some (by kernel_rfl))
  t0:=Tryz.underlying0
  a0:=Tryz.isAgg0
  z0:=Tryz.sizeOf0
  v0:=Tryz.zeroValue0
  t3:=Tryz.underlying3
  a3:=Tryz.isAgg3
  z3:=Tryz.sizeOf3
  v3:=Tryz.zeroValue3
  t4:=Tryz.underlying4
  a4:=Tryz.isAgg4
  z4:=Tryz.sizeOf4
  v4:=Tryz.zeroValue4
  t5:=Tryz.underlying5
  a5:=Tryz.isAgg5
  z5:=Tryz.sizeOf5
  v5:=Tryz.zeroValue5
  t9:=Tryz.underlying9
  a9:=Tryz.isAgg9
  z9:=Tryz.sizeOf9
  v9:=Tryz.zeroValue9
  t20:=Tryz.underlying20
  a20:=Tryz.isAgg20
  z20:=Tryz.sizeOf20
  v20:=Tryz.zeroValue20
  t21:=Tryz.underlying21
  a21:=Tryz.isAgg21
  z21:=Tryz.sizeOf21
  v21:=Tryz.zeroValue21
  t37:=Tryz.underlying33
  a37:=Tryz.isAgg33
  z37:=Tryz.sizeOf33
  v37:=Tryz.zeroValue33
  t46:=Tryz.underlying219
  a46:=Tryz.isAgg219
  z46:=Tryz.sizeOf219
  v46:=Tryz.zeroValue219
  t51:=Tryz.underlying249
  a51:=Tryz.isAgg249
  z51:=Tryz.sizeOf249
  v51:=Tryz.zeroValue249
  t70:=Tryz.underlying105
  a70:=Tryz.isAgg105
  z70:=Tryz.sizeOf105
  v70:=Tryz.zeroValue105
  t72:=Tryz.underlying107
  a72:=Tryz.isAgg107
  z72:=Tryz.sizeOf107
  v72:=Tryz.zeroValue107
  t75:=Tryz.underlying109
  a75:=Tryz.isAgg109
  z75:=Tryz.sizeOf109
  v75:=Tryz.zeroValue109
  t76:=Tryz.underlying110
  a76:=Tryz.isAgg110
  z76:=Tryz.sizeOf110
  v76:=Tryz.zeroValue110
  t105:=Tryz.underlying225
  a105:=Tryz.isAgg225
  z105:=Tryz.sizeOf225
  v105:=Tryz.zeroValue225
  t107:=Tryz.underlying268
  a107:=Tryz.isAgg268
  z107:=Tryz.sizeOf268
  v107:=Tryz.zeroValue268
  t119:=Tryz.underlying299
  a119:=Tryz.isAgg299
  z119:=Tryz.sizeOf299
  t127:=Tryz.underlying172
  a127:=Tryz.isAgg172
  z127:=Tryz.sizeOf172
  v127:=Tryz.zeroValue172
  t138:=Tryz.underlying301
  a138:=Tryz.isAgg301
  z138:=Tryz.sizeOf301
  v138:=Tryz.zeroValue301
  t139:=Tryz.underlying302
  a139:=Tryz.isAgg302
  z139:=Tryz.sizeOf302
  v139:=Tryz.zeroValue302
  t160:=Tryz.underlying289
  a160:=Tryz.isAgg289
  z160:=Tryz.sizeOf289
  v160:=Tryz.zeroValue289
  t162:=Tryz.underlying291
  a162:=Tryz.isAgg291
  z162:=Tryz.sizeOf291
  v162:=Tryz.zeroValue291
  t164:=Tryz.underlying194
  a164:=Tryz.isAgg194
  z164:=Tryz.sizeOf194
  v164:=Tryz.zeroValue194
  t203:=Tryz.underlying308
  a203:=Tryz.isAgg308
  z203:=Tryz.sizeOf308
  v203:=Tryz.zeroValue308
  t206:=Tryz.underlying304
  a206:=Tryz.isAgg304
  z206:=Tryz.sizeOf304
  v206:=Tryz.zeroValue304
  t208:=Tryz.underlying306
  a208:=Tryz.isAgg306
  z208:=Tryz.sizeOf306
  v208:=Tryz.zeroValue306
  g3:=by kernel_rfl
  g4:=by kernel_rfl
  g13:=by kernel_rfl }
theorem Tryz.Builder_Extra_159:Builder.Extra Tryz.prog Tryz.lays159_ren:={
  sizeBuilder:=by kernel_rfl
  liesBuilder:=by kernel_rfl
  t5:=Tryz.underlying5
  a5:=Tryz.isAgg5
  z5:=Tryz.sizeOf5
  v5:=Tryz.zeroValue5
  infoByte:=by kernel_rfl
  cellsByte:=by kernel_rfl
  sizeByte:=by kernel_rfl
  neB5:=by decide }
def Tryz.lays137_ren:Go.Shelf.Ren:=⟨fun | 137=>121 | 217=>162 | 266=>206 | n=>n,fun | 9=>9 | 5=>5 | 3=>3 | n=>n,fun | n=>n⟩
theorem Tryz.lays137:Go.Proofs.Lays.n137 Tryz.prog Tryz.lays137_ren:={
  mixed:=by kernel_rfl
  f137:=Tryz.func121.trans (congrArg some (by kernel_rfl))
  f217:=Tryz.func162.trans (congrArg some (by kernel_rfl))
  f266:=Tryz.func206.trans (congrArg some (by kernel_rfl))
  t3:=Tryz.underlying3
  a3:=Tryz.isAgg3
  z3:=Tryz.sizeOf3
  v3:=Tryz.zeroValue3
  t5:=Tryz.underlying5
  a5:=Tryz.isAgg5
  z5:=Tryz.sizeOf5
  v5:=Tryz.zeroValue5
  t9:=Tryz.underlying9
  a9:=Tryz.isAgg9
  z9:=Tryz.sizeOf9
  v9:=Tryz.zeroValue9 }
open Go.RowKit in
theorem Tryz.strings_IndexByte (s:ByteArray) (c:Int) (w:World) :
    Calls Tryz.prog 121 #[.string s,.int .u8 c] w fun e w'=>e = .returned (.int .i64 (Lib.indexByte s.data.toList c.toNat.toUInt8)) ∧ w' = w:=Any.strings_IndexByte Tryz.lays137 s c w
def Tryz.lays103_ren:Go.Shelf.Ren:=⟨fun | 103=>83 | 210=>119 | 206=>122 | n=>n,fun | 9=>9 | 4=>4 | 24=>64 | 3=>3 | n=>n,fun | n=>n⟩
theorem Tryz.lays103:Go.Proofs.Lays.n103 Tryz.prog Tryz.lays103_ren:={
  mixed:=by kernel_rfl
  f103:=Tryz.func83.trans (congrArg some (by kernel_rfl))
  f206:=Tryz.func122.trans (congrArg some (by kernel_rfl))
  f210:=Tryz.func119.trans (congrArg some (by kernel_rfl))
  t3:=Tryz.underlying3
  a3:=Tryz.isAgg3
  z3:=Tryz.sizeOf3
  v3:=Tryz.zeroValue3
  t4:=Tryz.underlying4
  a4:=Tryz.isAgg4
  z4:=Tryz.sizeOf4
  v4:=Tryz.zeroValue4
  t9:=Tryz.underlying9
  a9:=Tryz.isAgg9
  z9:=Tryz.sizeOf9
  v9:=Tryz.zeroValue9
  t24:=Tryz.underlying64
  a24:=Tryz.isAgg64
  z24:=Tryz.sizeOf64
  v24:=Tryz.zeroValue64 }
open Go.RowKit in
theorem Tryz.strings_CutPrefix (s p:ByteArray) (w:World) :
    Calls Tryz.prog 83 #[.string s,.string p] w fun e w'=>e = .returned (.tuple #[.string ⟨(Lib.trimPrefix s.data.toList p.data.toList).toArray⟩,.bool (Lib.hasPrefix s.data.toList p.data.toList)]) ∧ w' = w:=Any.strings_CutPrefix Tryz.lays103 s p w
def Tryz.lays219_ren:Go.Shelf.Ren:=⟨fun | 219=>234 | 217=>162 | 225=>242 | 224=>243 | 267=>244 | 266=>206 | 314=>248 | n=>n,fun | 9=>9 | 3=>3 | 4=>4 | 5=>5 | 46=>219 | 146=>310 | 51=>249 | n=>n,fun | 1=>3 | n=>n⟩
theorem Tryz.lays219:Go.Proofs.Lays.n219 Tryz.prog Tryz.lays219_ren:={
  mixed:=by kernel_rfl
  f217:=Tryz.func162.trans (congrArg some (by kernel_rfl))
  f219:=Tryz.func234.trans (congrArg some (by kernel_rfl))
  f224:=Tryz.func243.trans (congrArg some (by kernel_rfl))
  f225:=Tryz.func242.trans (congrArg some (by kernel_rfl))
  f266:=Tryz.func206.trans (congrArg some (by kernel_rfl))
  f267:=Tryz.func244.trans (congrArg some (by kernel_rfl))
  f314:=Tryz.func248.trans (congrArg some (by kernel_rfl))
  t3:=Tryz.underlying3
  a3:=Tryz.isAgg3
  z3:=Tryz.sizeOf3
  v3:=Tryz.zeroValue3
  t4:=Tryz.underlying4
  a4:=Tryz.isAgg4
  z4:=Tryz.sizeOf4
  v4:=Tryz.zeroValue4
  t5:=Tryz.underlying5
  a5:=Tryz.isAgg5
  z5:=Tryz.sizeOf5
  v5:=Tryz.zeroValue5
  t9:=Tryz.underlying9
  a9:=Tryz.isAgg9
  z9:=Tryz.sizeOf9
  v9:=Tryz.zeroValue9
  t46:=Tryz.underlying219
  a46:=Tryz.isAgg219
  z46:=Tryz.sizeOf219
  v46:=Tryz.zeroValue219
  t51:=Tryz.underlying249
  a51:=Tryz.isAgg249
  z51:=Tryz.sizeOf249
  v51:=Tryz.zeroValue249
  t146:=Tryz.underlying310
  a146:=Tryz.isAgg310
  z146:=Tryz.sizeOf310
  v146:=Tryz.zeroValue310
  g1:=by kernel_rfl }
open Go.RowKit Go.Lib in
theorem Tryz.stringslite_Index_one (s:ByteArray) (c:UInt8) (w:World) :
    Calls Tryz.prog 234 #[.string s,.string ⟨#[c]⟩] w fun e w'=>e = .returned (.int .i64 (Lib.indexByte s.data.toList c)) ∧ w' = w:=Any.stringslite_Index_one Tryz.lays219 s c w
def Tryz.lays145_ren:Go.Shelf.Ren:=⟨fun | 145=>163 | 220=>207 | 219=>234 | 217=>162 | 225=>242 | 224=>243 | 267=>244 | 266=>206 | 314=>248 | n=>n,fun | 9=>9 | 4=>4 | 59=>214 | 3=>3 | 5=>5 | 46=>219 | 146=>310 | 51=>249 | n=>n,fun | 1=>3 | n=>n⟩
theorem Tryz.lays145:Go.Proofs.Lays.n145 Tryz.prog Tryz.lays145_ren:={
  mixed:=by kernel_rfl
  f145:=Tryz.func163.trans (congrArg some (by kernel_rfl))
  f217:=Tryz.func162.trans (congrArg some (by kernel_rfl))
  f219:=Tryz.func234.trans (congrArg some (by kernel_rfl))
  f220:=Tryz.func207.trans (congrArg some (by kernel_rfl))
  f224:=Tryz.func243.trans (congrArg some (by kernel_rfl))
  f225:=Tryz.func242.trans (congrArg some (by kernel_rfl))
  f266:=Tryz.func206.trans (congrArg some (by kernel_rfl))
  f267:=Tryz.func244.trans (congrArg some (by kernel_rfl))
  f314:=Tryz.func248.trans (congrArg some (by kernel_rfl))
  t3:=Tryz.underlying3
  a3:=Tryz.isAgg3
  z3:=Tryz.sizeOf3
  v3:=Tryz.zeroValue3
  t4:=Tryz.underlying4
  a4:=Tryz.isAgg4
  z4:=Tryz.sizeOf4
  v4:=Tryz.zeroValue4
  t5:=Tryz.underlying5
  a5:=Tryz.isAgg5
  z5:=Tryz.sizeOf5
  v5:=Tryz.zeroValue5
  t9:=Tryz.underlying9
  a9:=Tryz.isAgg9
  z9:=Tryz.sizeOf9
  v9:=Tryz.zeroValue9
  t46:=Tryz.underlying219
  a46:=Tryz.isAgg219
  z46:=Tryz.sizeOf219
  v46:=Tryz.zeroValue219
  t51:=Tryz.underlying249
  a51:=Tryz.isAgg249
  z51:=Tryz.sizeOf249
  v51:=Tryz.zeroValue249
  t59:=Tryz.underlying214
  a59:=Tryz.isAgg214
  z59:=Tryz.sizeOf214
  v59:=Tryz.zeroValue214
  t146:=Tryz.underlying310
  a146:=Tryz.isAgg310
  z146:=Tryz.sizeOf310
  v146:=Tryz.zeroValue310
  g1:=by kernel_rfl }
open Go.RowKit Go.Lib in
theorem Tryz.strings_Cut (s sep:ByteArray) (m:Int) (w:World) (hs:s.size < 4294967281) (hm:w.cell? ⟨3,0,none⟩ = some (.int .i64 m)) :
    Calls Tryz.prog 163 #[.string s,.string sep] w fun e w'=>e = .returned (.tuple #[.string ⟨(Lib.cut s.data.toList sep.data.toList).1.toArray⟩,.string ⟨(Lib.cut s.data.toList sep.data.toList).2.1.toArray⟩,.bool (Lib.cut s.data.toList sep.data.toList).2.2]) ∧ ∃ n,w' = w.drewN n:=Any.strings_Cut Tryz.lays145 s sep m w hs hm
def Tryz.lays190_ren:Go.Shelf.Ren:=⟨fun | 190=>89 | 125=>127 | 258=>126 | 128=>174 | 129=>175 | 302=>165 | 303=>166 | 304=>167 | 305=>168 | 306=>169 | 307=>170 | 308=>171 | 309=>172 | 310=>173 | 333=>209 | 329=>210 | 330=>211 | 334=>212 | 335=>213 | 336=>214 | 344=>235 | n=>n,fun | 31=>151 | 9=>9 | 3=>3 | 46=>219 | 0=>0 | 51=>249 | 53=>251 | 4=>4 | 183=>242 | 182=>241 | 131=>246 | 5=>5 | 218=>270 | 222=>274 | 228=>294 | 229=>254 | n=>n,fun | n=>n⟩
theorem Tryz.lays190:Go.Proofs.Lays.n190 Tryz.prog Tryz.lays190_ren:={
  mixed:=by kernel_rfl
  f125:=Tryz.func127.trans (congrArg some (by kernel_rfl))
  f128:=Tryz.func174.trans (congrArg some (by kernel_rfl))
  f129:=Tryz.func175.trans (congrArg some (by kernel_rfl))
  f190:=Tryz.func89.trans (congrArg some (by kernel_rfl))
  f258:=Tryz.func126.trans (congrArg some (by kernel_rfl))
  f302:=Tryz.func165.trans (congrArg some (by kernel_rfl))
  f303:=Tryz.func166.trans (congrArg some (by kernel_rfl))
  f304:=Tryz.func167.trans (congrArg some (by kernel_rfl))
  f305:=Tryz.func168.trans (congrArg some (by kernel_rfl))
  f306:=Tryz.func169.trans (congrArg some (by kernel_rfl))
  f307:=Tryz.func170.trans (congrArg some (by kernel_rfl))
  f308:=Tryz.func171.trans (congrArg some (by kernel_rfl))
  f309:=Tryz.func172.trans (congrArg some (by kernel_rfl))
  f310:=Tryz.func173.trans (congrArg some (by kernel_rfl))
  f329:=Tryz.func210.trans (congrArg some (by kernel_rfl))
  f330:=Tryz.func211.trans (congrArg some (by kernel_rfl))
  f333:=Tryz.func209.trans (congrArg some (by kernel_rfl))
  f334:=Tryz.func212.trans (congrArg some (by kernel_rfl))
  f335:=Tryz.func213.trans (congrArg some (by kernel_rfl))
  f336:=Tryz.func214.trans (congrArg some (by kernel_rfl))
  f344:=Tryz.func235.trans (congrArg some (by kernel_rfl))
  t0:=Tryz.underlying0
  a0:=Tryz.isAgg0
  z0:=Tryz.sizeOf0
  v0:=Tryz.zeroValue0
  t3:=Tryz.underlying3
  a3:=Tryz.isAgg3
  z3:=Tryz.sizeOf3
  v3:=Tryz.zeroValue3
  t4:=Tryz.underlying4
  a4:=Tryz.isAgg4
  z4:=Tryz.sizeOf4
  v4:=Tryz.zeroValue4
  t5:=Tryz.underlying5
  a5:=Tryz.isAgg5
  z5:=Tryz.sizeOf5
  v5:=Tryz.zeroValue5
  t9:=Tryz.underlying9
  a9:=Tryz.isAgg9
  z9:=Tryz.sizeOf9
  v9:=Tryz.zeroValue9
  t31:=Tryz.underlying151
  a31:=Tryz.isAgg151
  z31:=Tryz.sizeOf151
  v31:=Tryz.zeroValue151
  t46:=Tryz.underlying219
  a46:=Tryz.isAgg219
  z46:=Tryz.sizeOf219
  v46:=Tryz.zeroValue219
  t51:=Tryz.underlying249
  a51:=Tryz.isAgg249
  z51:=Tryz.sizeOf249
  v51:=Tryz.zeroValue249
  t53:=Tryz.underlying251
  a53:=Tryz.isAgg251
  z53:=Tryz.sizeOf251
  v53:=Tryz.zeroValue251
  t131:=Tryz.underlying246
  a131:=Tryz.isAgg246
  z131:=Tryz.sizeOf246
  v131:=Tryz.zeroValue246
  t182:=Tryz.underlying241
  a182:=Tryz.isAgg241
  z182:=Tryz.sizeOf241
  v182:=Tryz.zeroValue241
  t183:=Tryz.underlying242
  a183:=Tryz.isAgg242
  z183:=Tryz.sizeOf242
  v183:=Tryz.zeroValue242
  t218:=Tryz.underlying270
  a218:=Tryz.isAgg270
  z218:=Tryz.sizeOf270
  v218:=Tryz.zeroValue270
  t222:=Tryz.underlying274
  a222:=Tryz.isAgg274
  z222:=Tryz.sizeOf274
  v222:=Tryz.zeroValue274
  t228:=Tryz.underlying294
  a228:=Tryz.isAgg294
  z228:=Tryz.sizeOf294
  v228:=Tryz.zeroValue294
  t229:=Tryz.underlying254
  a229:=Tryz.isAgg254
  z229:=Tryz.sizeOf254
  v229:=Tryz.zeroValue254 }
open Go.Sort Go.RowKit in
theorem Tryz.slices_Sort_string (blk off cap:Nat) (ss:List (List UInt8)) (w:World) (hH:Holds encStr w blk off ss.toArray) (hblk:blk < w.heap.size) (hsz:ss.length < 4611686018427387904) :
    Calls Tryz.prog 89 #[.slice (some ⟨blk,off,none⟩) ss.length cap] w fun e w'=>
     e = .returned (.tuple #[]) ∧ ∃ n os,w' = grow (putRow encStr (Sort.ahead w n) blk off (ss.mergeSort fun x y=>decide (x ≤ y)).toArray) os:=Any.slices_Sort_string Tryz.lays190 blk off cap ss w hH hblk hsz
def Tryz.lays99_ren:Go.Shelf.Ren:=⟨fun | 99=>86 | 206=>122 | n=>n,fun | 9=>9 | 4=>4 | 3=>3 | n=>n,fun | n=>n⟩
theorem Tryz.lays99:Go.Proofs.Lays.n99 Tryz.prog Tryz.lays99_ren:={
  mixed:=by kernel_rfl
  f99:=Tryz.func86.trans (congrArg some (by kernel_rfl))
  f206:=Tryz.func122.trans (congrArg some (by kernel_rfl))
  t3:=Tryz.underlying3
  a3:=Tryz.isAgg3
  z3:=Tryz.sizeOf3
  v3:=Tryz.zeroValue3
  t4:=Tryz.underlying4
  a4:=Tryz.isAgg4
  z4:=Tryz.sizeOf4
  v4:=Tryz.zeroValue4
  t9:=Tryz.underlying9
  a9:=Tryz.isAgg9
  z9:=Tryz.sizeOf9
  v9:=Tryz.zeroValue9 }
open Go.RowKit Go.Lib in
theorem Tryz.strings_HasPrefix (s p:ByteArray) (w:World) :
    Calls Tryz.prog 86 #[.string s,.string p] w fun e w'=>e = .returned (.bool (Lib.hasPrefix s.data.toList p.data.toList)) ∧ w' = w:=Any.strings_HasPrefix Tryz.lays99 s p w
def Tryz.lays164_ren:Go.Shelf.Ren:=⟨fun | 164=>160 | 197=>204 | 239=>205 | 260=>231 | 274=>232 | 275=>233 | n=>n,fun | 9=>9 | 4=>4 | 3=>3 | 5=>5 | 0=>0 | 21=>21 | 105=>225 | 156=>285 | 49=>284 | 157=>286 | 46=>219 | 159=>288 | 162=>291 | 160=>289 | 119=>299 | 139=>302 | 138=>301 | 208=>306 | 51=>249 | 206=>304 | n=>n,fun | 11=>0 | 12=>1 | 13=>2 | 3=>4 | 4=>5 | n=>n⟩
theorem Tryz.lays164:Go.Proofs.Lays.n164 Tryz.prog Tryz.lays164_ren:={
  mixed:=by kernel_rfl
  f164:=Tryz.func160.trans (congrArg some (by kernel_rfl))
  f197:=Tryz.func204.trans (congrArg some (by kernel_rfl))
  f239:=Tryz.func205.trans (congrArg some (by kernel_rfl))
  f260:=Tryz.func231.trans (congrArg some (by kernel_rfl))
  f274:=Tryz.func232.trans (congrArg some (by kernel_rfl))
  f275:=Tryz.func233.trans (congrArg some (by kernel_rfl))
  t0:=Tryz.underlying0
  a0:=Tryz.isAgg0
  z0:=Tryz.sizeOf0
  v0:=Tryz.zeroValue0
  t3:=Tryz.underlying3
  a3:=Tryz.isAgg3
  z3:=Tryz.sizeOf3
  v3:=Tryz.zeroValue3
  t4:=Tryz.underlying4
  a4:=Tryz.isAgg4
  z4:=Tryz.sizeOf4
  v4:=Tryz.zeroValue4
  t5:=Tryz.underlying5
  a5:=Tryz.isAgg5
  z5:=Tryz.sizeOf5
  v5:=Tryz.zeroValue5
  t9:=Tryz.underlying9
  a9:=Tryz.isAgg9
  z9:=Tryz.sizeOf9
  v9:=Tryz.zeroValue9
  t21:=Tryz.underlying21
  a21:=Tryz.isAgg21
  z21:=Tryz.sizeOf21
  v21:=Tryz.zeroValue21
  t46:=Tryz.underlying219
  a46:=Tryz.isAgg219
  z46:=Tryz.sizeOf219
  v46:=Tryz.zeroValue219
  t49:=Tryz.underlying284
  a49:=Tryz.isAgg284
  z49:=Tryz.sizeOf284
  v49:=Tryz.zeroValue284
  t51:=Tryz.underlying249
  a51:=Tryz.isAgg249
  z51:=Tryz.sizeOf249
  v51:=Tryz.zeroValue249
  t105:=Tryz.underlying225
  a105:=Tryz.isAgg225
  z105:=Tryz.sizeOf225
  v105:=Tryz.zeroValue225
  t119:=Tryz.underlying299
  a119:=Tryz.isAgg299
  z119:=Tryz.sizeOf299
  t138:=Tryz.underlying301
  a138:=Tryz.isAgg301
  z138:=Tryz.sizeOf301
  v138:=Tryz.zeroValue301
  t139:=Tryz.underlying302
  a139:=Tryz.isAgg302
  z139:=Tryz.sizeOf302
  v139:=Tryz.zeroValue302
  t156:=Tryz.underlying285
  a156:=Tryz.isAgg285
  z156:=Tryz.sizeOf285
  t157:=Tryz.underlying286
  a157:=Tryz.isAgg286
  z157:=Tryz.sizeOf286
  v157:=Tryz.zeroValue286
  t159:=Tryz.underlying288
  a159:=Tryz.isAgg288
  z159:=Tryz.sizeOf288
  v159:=Tryz.zeroValue288
  t160:=Tryz.underlying289
  a160:=Tryz.isAgg289
  z160:=Tryz.sizeOf289
  v160:=Tryz.zeroValue289
  t162:=Tryz.underlying291
  a162:=Tryz.isAgg291
  z162:=Tryz.sizeOf291
  v162:=Tryz.zeroValue291
  t206:=Tryz.underlying304
  a206:=Tryz.isAgg304
  z206:=Tryz.sizeOf304
  v206:=Tryz.zeroValue304
  t208:=Tryz.underlying306
  a208:=Tryz.isAgg306
  z208:=Tryz.sizeOf306
  v208:=Tryz.zeroValue306
  g3:=by kernel_rfl
  g4:=by kernel_rfl
  g11:=by kernel_rfl
  g12:=by kernel_rfl
  g13:=by kernel_rfl }
open Go.RowKit Go.Lib in
theorem Tryz.strings_EqualFold (s t:ByteArray) (w:World) (hs:s.size < 4294967281) (has:∀ (j:Nat) b,s.data.toList[j]? = some b → b.toNat < 128) (hat:∀ (j:Nat) b,t.data.toList[j]? = some b → b.toNat < 128) :
    Calls Tryz.prog 160 #[.string s,.string t] w fun e w'=>e = .returned (.bool (Lib.equalFold s.data.toList t.data.toList)) ∧ w' = w:=Any.strings_EqualFold Tryz.lays164 s t w hs has hat
def Tryz.lays204_ren:Go.Shelf.Ren:=⟨fun | 204=>229 | 262=>241 | 313=>247 | 274=>232 | 275=>233 | n=>n,fun | 21=>21 | 4=>4 | 3=>3 | 162=>291 | 203=>308 | 160=>289 | 46=>219 | 0=>0 | 208=>306 | 51=>249 | 206=>304 | n=>n,fun | 13=>2 | n=>n⟩
theorem Tryz.lays204:Go.Proofs.Lays.n204 Tryz.prog Tryz.lays204_ren:={
  mixed:=by kernel_rfl
  f204:=Tryz.func229.trans (congrArg some (by kernel_rfl))
  f262:=Tryz.func241.trans (congrArg some (by kernel_rfl))
  f274:=Tryz.func232.trans (congrArg some (by kernel_rfl))
  f275:=Tryz.func233.trans (congrArg some (by kernel_rfl))
  f313:=Tryz.func247.trans (congrArg some (by kernel_rfl))
  t0:=Tryz.underlying0
  a0:=Tryz.isAgg0
  z0:=Tryz.sizeOf0
  v0:=Tryz.zeroValue0
  t3:=Tryz.underlying3
  a3:=Tryz.isAgg3
  z3:=Tryz.sizeOf3
  v3:=Tryz.zeroValue3
  t4:=Tryz.underlying4
  a4:=Tryz.isAgg4
  z4:=Tryz.sizeOf4
  v4:=Tryz.zeroValue4
  t21:=Tryz.underlying21
  a21:=Tryz.isAgg21
  z21:=Tryz.sizeOf21
  v21:=Tryz.zeroValue21
  t46:=Tryz.underlying219
  a46:=Tryz.isAgg219
  z46:=Tryz.sizeOf219
  v46:=Tryz.zeroValue219
  t51:=Tryz.underlying249
  a51:=Tryz.isAgg249
  z51:=Tryz.sizeOf249
  v51:=Tryz.zeroValue249
  t160:=Tryz.underlying289
  a160:=Tryz.isAgg289
  z160:=Tryz.sizeOf289
  v160:=Tryz.zeroValue289
  t162:=Tryz.underlying291
  a162:=Tryz.isAgg291
  z162:=Tryz.sizeOf291
  v162:=Tryz.zeroValue291
  t203:=Tryz.underlying308
  a203:=Tryz.isAgg308
  z203:=Tryz.sizeOf308
  v203:=Tryz.zeroValue308
  t206:=Tryz.underlying304
  a206:=Tryz.isAgg304
  z206:=Tryz.sizeOf304
  v206:=Tryz.zeroValue304
  t208:=Tryz.underlying306
  a208:=Tryz.isAgg306
  z208:=Tryz.sizeOf306
  v208:=Tryz.zeroValue306
  g13:=by kernel_rfl }
def Tryz.lays197_ren:Go.Shelf.Ren:=⟨fun | 197=>204 | 260=>231 | n=>n,fun | 9=>9 | 21=>21 | 3=>3 | 4=>4 | 5=>5 | 105=>225 | 119=>299 | 0=>0 | 46=>219 | 139=>302 | 138=>301 | n=>n,fun | 3=>4 | 4=>5 | n=>n⟩
theorem Tryz.lays197:Go.Proofs.Lays.n197 Tryz.prog Tryz.lays197_ren:={
  mixed:=by kernel_rfl
  f197:=Tryz.func204.trans (congrArg some (by kernel_rfl))
  f260:=Tryz.func231.trans (congrArg some (by kernel_rfl))
  t0:=Tryz.underlying0
  a0:=Tryz.isAgg0
  z0:=Tryz.sizeOf0
  v0:=Tryz.zeroValue0
  t3:=Tryz.underlying3
  a3:=Tryz.isAgg3
  z3:=Tryz.sizeOf3
  v3:=Tryz.zeroValue3
  t4:=Tryz.underlying4
  a4:=Tryz.isAgg4
  z4:=Tryz.sizeOf4
  v4:=Tryz.zeroValue4
  t5:=Tryz.underlying5
  a5:=Tryz.isAgg5
  z5:=Tryz.sizeOf5
  v5:=Tryz.zeroValue5
  t9:=Tryz.underlying9
  a9:=Tryz.isAgg9
  z9:=Tryz.sizeOf9
  v9:=Tryz.zeroValue9
  t21:=Tryz.underlying21
  a21:=Tryz.isAgg21
  z21:=Tryz.sizeOf21
  v21:=Tryz.zeroValue21
  t46:=Tryz.underlying219
  a46:=Tryz.isAgg219
  z46:=Tryz.sizeOf219
  v46:=Tryz.zeroValue219
  t105:=Tryz.underlying225
  a105:=Tryz.isAgg225
  z105:=Tryz.sizeOf225
  v105:=Tryz.zeroValue225
  t119:=Tryz.underlying299
  a119:=Tryz.isAgg299
  z119:=Tryz.sizeOf299
  t138:=Tryz.underlying301
  a138:=Tryz.isAgg301
  z138:=Tryz.sizeOf301
  v138:=Tryz.zeroValue301
  t139:=Tryz.underlying302
  a139:=Tryz.isAgg302
  z139:=Tryz.sizeOf302
  v139:=Tryz.zeroValue302
  g3:=by kernel_rfl
  g4:=by kernel_rfl }
def Tryz.lays260_ren:Go.Shelf.Ren:=⟨fun | 260=>231 | n=>n,fun | 9=>9 | 21=>21 | 3=>3 | 4=>4 | 5=>5 | 119=>299 | 0=>0 | 46=>219 | 139=>302 | 138=>301 | n=>n,fun | 3=>4 | 4=>5 | n=>n⟩
theorem Tryz.lays260:Go.Proofs.Lays.n260 Tryz.prog Tryz.lays260_ren:={
  mixed:=by kernel_rfl
  f260:=Tryz.func231.trans (congrArg some (by kernel_rfl))
  t0:=Tryz.underlying0
  a0:=Tryz.isAgg0
  z0:=Tryz.sizeOf0
  v0:=Tryz.zeroValue0
  t3:=Tryz.underlying3
  a3:=Tryz.isAgg3
  z3:=Tryz.sizeOf3
  v3:=Tryz.zeroValue3
  t4:=Tryz.underlying4
  a4:=Tryz.isAgg4
  z4:=Tryz.sizeOf4
  v4:=Tryz.zeroValue4
  t5:=Tryz.underlying5
  a5:=Tryz.isAgg5
  z5:=Tryz.sizeOf5
  v5:=Tryz.zeroValue5
  t9:=Tryz.underlying9
  a9:=Tryz.isAgg9
  z9:=Tryz.sizeOf9
  v9:=Tryz.zeroValue9
  t21:=Tryz.underlying21
  a21:=Tryz.isAgg21
  z21:=Tryz.sizeOf21
  v21:=Tryz.zeroValue21
  t46:=Tryz.underlying219
  a46:=Tryz.isAgg219
  z46:=Tryz.sizeOf219
  v46:=Tryz.zeroValue219
  t119:=Tryz.underlying299
  a119:=Tryz.isAgg299
  z119:=Tryz.sizeOf299
  t138:=Tryz.underlying301
  a138:=Tryz.isAgg301
  z138:=Tryz.sizeOf301
  v138:=Tryz.zeroValue301
  t139:=Tryz.underlying302
  a139:=Tryz.isAgg302
  z139:=Tryz.sizeOf302
  v139:=Tryz.zeroValue302
  g3:=by kernel_rfl
  g4:=by kernel_rfl }
open Go.RowKit Go.Lib in
theorem Tryz.utf8_DecodeRuneInString (s:ByteArray) (w:World) (hT:Lib.Utf8Tabs 4 5 w) :
    Calls Tryz.prog 204 #[.string s] w fun e w'=>e = .returned (.tuple #[.int .i32 (Lib.decodeGo s).1,.int .i64 (Lib.decodeGo s).2]) ∧ Below w.heap.size w w':=Any.utf8_DecodeRuneInString Tryz.lays197 s w hT
open Go.RowKit Go.Lib in
theorem Tryz.strings_ToLower_any (s:ByteArray) (w:World) (hs:s.size < 35184372088832) (hV:CaseVar 2 caseA w) (hT:Lib.Utf8Tabs 4 5 w) :
    Calls Tryz.prog 196 #[.string s] w fun e w'=>e = .returned (.string ⟨(Lib.toLowerD s.data.toList).toArray⟩) ∧ Below w.heap.size w w':=Any.strings_ToLower_any Tryz.lays159 Tryz.Builder_Extra_159 s w hs hV hT
open Go.RowKit Go.Sort in
theorem Tryz.slices_Sort_string_none (p:Option Addr) (cap:Nat) (w:World) :
    Calls Tryz.prog 89 #[.slice p 0 cap] w fun e w'=>e = .returned (.tuple #[]) ∧ w' = w:=Any.slices_Sort_string_none Tryz.lays190 p cap w
end Go.Proofs
end
