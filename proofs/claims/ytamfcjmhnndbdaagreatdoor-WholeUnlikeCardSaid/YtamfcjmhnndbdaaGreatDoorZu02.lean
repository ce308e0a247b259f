/- Part 2 of the proof. -/
import Derived.Test.YtamfcjmhnndbdaaGreatDoorZu00
import Derived.Shelf.Strings.Builder1
import Derived.Shelf.Strings.Builder2
import Derived.Shelf.Strings.Trim
import Derived.Shelf.Small.Utf8
import Derived.Shelf.Small.Strs
import Derived.Shelf.Strings.BuilderF
import Derived.Shelf.Strings.BuilderK
import Derived.Shelf.Strconv.Itoa0
import Derived.Shelf.Strings.Search1
import Derived.Shelf.Strings.Prefix
import Derived.Shelf.Strings.Runes
import Derived.Shelf.Strings.AsciiSet
import Derived.Shelf.Bits.Mul64
import Derived.Shelf.Strings.Repeat
import Derived.Shelf.Unicode.DecodeSlow
import Derived.Test.YtamfcjmhnndbdaaGreatDoorProg
open Go.IntKind renaming i64→nH,u64→nI
open Go.Value renaming int→ng,pointer→nz,string→ny
open Go.Ending renaming returned→nE
open Go.Proofs.Tryz renaming prog→jI,underlying86→l8,underlying3→mh,underlying9→mR
open Go renaming World→jJ,Calls→jV
open Go.RowKit renaming Below→jS
open Go.Lib renaming trimRightB→lG
namespace Go.Proofs
open Go.Proofs.YtamfcjmhnndbdaaGreatDoor
set_option linter.unusedVariables false
set_option linter.unusedSimpArgs false
set_option maxRecDepth 100000
set_option maxHeartbeats 8000000
section
open Go.Shelf
open Go.RowKit in
def Tryz.Ev:Go.Shelf.Ren:=⟨λ|169=>169|n=>n,λ|70=>202|9=>9|0=>0|72=>204|37=>86|127=>255|3=>3|5=>5|n=>n,λ|n=>n⟩
theorem Tryz.a0p:Go.Proofs.Lays.n169 jI Tryz.Ev:={
 mixed:=nM
 f169:=Tryz.func169.trans (congrArg some nM)
 t0:=Tryz.underlying0
 a0:=Tryz.isAgg0
 z0:=Tryz.sizeOf0
 v0:=Tryz.zeroValue0
 t3:=mh
 a3:=Tryz.isAgg3
 z3:=Tryz.sizeOf3
 v3:=Tryz.zeroValue3
 t9:=mR
 a9:=Tryz.isAgg9
 z9:=Tryz.sizeOf9
 v9:=Tryz.zeroValue9
 t37:=l8
 a37:=Tryz.isAgg86
 z37:=Tryz.sizeOf86
 v37:=Tryz.zeroValue86
 t70:=Tryz.underlying202
 a70:=Tryz.isAgg202
 z70:=Tryz.sizeOf202
 v70:=Tryz.zeroValue202
 t72:=Tryz.underlying204
 a72:=Tryz.isAgg204
 z72:=Tryz.sizeOf204
 v72:=Tryz.zeroValue204
 t127:=Tryz.underlying255
 a127:=Tryz.isAgg255
 z127:=Tryz.sizeOf255
 v127:=Tryz.zeroValue255}
theorem Tryz.Cn:Builder.Extra jI Tryz.Ev:={
 sizeBuilder:=nM
 liesBuilder:=nM
 t5:=Tryz.underlying5
 a5:=Tryz.isAgg5
 z5:=Tryz.sizeOf5
 v5:=Tryz.zeroValue5
 infoByte:=nM
 cellsByte:=nM
 sizeByte:=nM
 neB5:=by decide}
open Go.RowKit in
open Go.RowKit in
open Go.RowKit in
theorem Tryz.Builder_String_any(B b:Nat)(l:List UInt8)(w:jJ)(h:Lib.IsBuilder 204 5 B b (Lib.byteCells l) w)(A:B<=w.heap.size):
  jV jI 169 #[nz (some ⟨b,0,none⟩)] w λe w'=>e=nE (ny ⟨l.toArray⟩)/\jS B w w':=Any.Builder_String_any Tryz.a0p Tryz.Cn B b l w h A
open Go.RowKit in
open Go.RowKit in
open Go.RowKit in
def Tryz.Mr:Go.Shelf.Ren:=⟨λ|162=>181|232=>219|227=>220|234=>221|236=>222|228=>256|271=>257|151=>258|120=>276|197=>277|152=>278|260=>286|137=>287|119=>288|224=>289|225=>290|217=>293|266=>294|n=>n,λ|9=>9|4=>4|3=>3|5=>5|117=>265|116=>264|0=>0|124=>268|21=>21|105=>289|46=>218|119=>320|139=>323|138=>322|n=>n,λ|3=>2|4=>3|n=>n⟩
theorem Tryz.a0q:Go.Proofs.Lays.n162 jI Tryz.Mr:={
 mixed:=nM
 f119:=Tryz.func288.trans (congrArg some nM)
 f120:=Tryz.func276.trans (congrArg some nM)
 f137:=Tryz.func287.trans (congrArg some nM)
 f151:=Tryz.func258.trans (congrArg some nM)
 f152:=Tryz.func278.trans (congrArg some nM)
 f162:=Tryz.func181.trans (congrArg some nM)
 f197:=Tryz.func277.trans (congrArg some nM)
 f217:=Tryz.func293.trans (congrArg some nM)
 f224:=Tryz.func289.trans (congrArg some nM)
 f225:=Tryz.func290.trans (congrArg some nM)
 f227:=Tryz.func220.trans (congrArg some nM)
 f228:=Tryz.func256.trans (congrArg some nM)
 f232:=Tryz.func219.trans (congrArg some nM)
 f234:=Tryz.func221.trans (congrArg some nM)
 f236:=Tryz.func222.trans (congrArg some nM)
 f260:=Tryz.func286.trans (congrArg some nM)
 f266:=Tryz.func294.trans (congrArg some nM)
 f271:=Tryz.func257.trans (congrArg some nM)
 t0:=Tryz.underlying0
 a0:=Tryz.isAgg0
 z0:=Tryz.sizeOf0
 v0:=Tryz.zeroValue0
 t3:=mh
 a3:=Tryz.isAgg3
 z3:=Tryz.sizeOf3
 v3:=Tryz.zeroValue3
 t4:=Tryz.underlying4
 a4:=Tryz.isAgg4
 z4:=Tryz.sizeOf4
 v4:=Tryz.zeroValue4
 t5:=Tryz.underlying5
 a5:=Tryz.isAgg5
 z5:=Tryz.sizeOf5
 v5:=Tryz.zeroValue5
 t9:=mR
 a9:=Tryz.isAgg9
 z9:=Tryz.sizeOf9
 v9:=Tryz.zeroValue9
 t21:=Tryz.underlying21
 a21:=Tryz.isAgg21
 z21:=Tryz.sizeOf21
 v21:=Tryz.zeroValue21
 t46:=Tryz.underlying218
 a46:=Tryz.isAgg218
 z46:=Tryz.sizeOf218
 v46:=Tryz.zeroValue218
 t105:=Tryz.underlying289
 a105:=Tryz.isAgg289
 z105:=Tryz.sizeOf289
 v105:=Tryz.zeroValue289
 t116:=Tryz.underlying264
 a116:=Tryz.isAgg264
 z116:=Tryz.sizeOf264
 t117:=Tryz.underlying265
 a117:=Tryz.isAgg265
 z117:=Tryz.sizeOf265
 v117:=Tryz.zeroValue265
 t119:=Tryz.underlying320
 a119:=Tryz.isAgg320
 z119:=Tryz.sizeOf320
 t124:=Tryz.underlying268
 a124:=Tryz.isAgg268
 z124:=Tryz.sizeOf268
 v124:=Tryz.zeroValue268
 t138:=Tryz.underlying322
 a138:=Tryz.isAgg322
 z138:=Tryz.sizeOf322
 v138:=Tryz.zeroValue322
 t139:=Tryz.underlying323
 a139:=Tryz.isAgg323
 z139:=Tryz.sizeOf323
 v139:=Tryz.zeroValue323
 g3:=nM
 g4:=by kernel_rfl}
open Go.RowKit in
theorem Tryz.strings_TrimRight_one(s:ByteArray)(c:UInt8)(hc:c.toNat<128)(w:jJ)(hs:s.size<=9223372036854775807):
  jV jI 181 #[ny s,ny ⟨#[c]⟩] w λe w'=>e=nE (ny ⟨(lG s.data.toList c).toArray⟩)/\w'=w:=Any.strings_TrimRight_one Tryz.a0q s c hc w hs
open Go.RowKit in
open Go.RowKit in
open Go.RowKit in
open Go.RowKit in
open Go.RowKit in
open Go.RowKit in
open Go.RowKit in
open Go.RowKit in
def Tryz.Ms:Go.Shelf.Ren:=⟨λ|129=>182|n=>n,λ|53=>50|3=>3|4=>4|46=>218|5=>5|9=>9|n=>n,λ|n=>n⟩
theorem Tryz.a0r:Go.Proofs.Lays.n129 jI Tryz.Ms:={
 mixed:=nM
 f129:=Tryz.func182.trans (congrArg some nM)
 t3:=mh
 a3:=Tryz.isAgg3
 z3:=Tryz.sizeOf3
 v3:=Tryz.zeroValue3
 t4:=Tryz.underlying4
 a4:=Tryz.isAgg4
 z4:=Tryz.sizeOf4
 v4:=Tryz.zeroValue4
 t5:=Tryz.underlying5
 a5:=Tryz.isAgg5
 z5:=Tryz.sizeOf5
 v5:=Tryz.zeroValue5
 t9:=mR
 a9:=Tryz.isAgg9
 z9:=Tryz.sizeOf9
 v9:=Tryz.zeroValue9
 t46:=Tryz.underlying218
 a46:=Tryz.isAgg218
 z46:=Tryz.sizeOf218
 v46:=Tryz.zeroValue218
 t53:=Tryz.underlying50
 a53:=Tryz.isAgg50
 z53:=Tryz.sizeOf50
 v53:=Tryz.zeroValue50}
theorem Tryz.bits_Len64(x:Int)(w:jJ)(h0:0<=x)(A:x<=18446744073709551615):
  jV jI 182 #[ng nI x] w λe w'=>e=nE (ng nH (Lib.bitLen x.toNat))/\w'=w:=Any.bits_Len64 Tryz.a0r x w h0 A
open Go.RowKit Go.Lib in
open Go.RowKit Go.Lib in
open Go.RowKit Go.Lib in
open Go.RowKit Go.Lib in
open Go.RowKit Go.Lib in
open Go.RowKit Go.Lib in
open Go.RowKit Go.Lib in
open Go.RowKit Go.Lib in
open Go.RowKit Go.Lib in
open Go.RowKit Go.Lib in
open Go.RowKit Go.Lib in
open Go.RowKit Go.Lib in
open Go.RowKit Go.Lib in
open Go.RowKit Go.Lib in
open Go.RowKit Go.Lib in
open Go.RowKit Go.Lib in
open Go.RowKit Go.Lib in
open Go.RowKit Go.Lib in
end
end Go.Proofs

