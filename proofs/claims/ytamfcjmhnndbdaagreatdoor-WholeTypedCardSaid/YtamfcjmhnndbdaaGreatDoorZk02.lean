/- Part 2 of the proof. -/
import Derived.Test.YtamfcjmhnndbdaaGreatDoorZk00
import Derived.Shelf.Strings.Builder1
import Derived.Shelf.Strings.Builder2
import Derived.Shelf.Strings.Trim
import Derived.Shelf.Small.Utf8
import Derived.Shelf.Small.Strs
import Derived.Shelf.Strings.BuilderF
import Derived.Shelf.Strings.BuilderK
import Derived.Shelf.Strconv.Itoa0
import Derived.Shelf.Strings.Search1
import Derived.Shelf.Strings.Prefix
import Derived.Shelf.Strings.Runes
import Derived.Shelf.Strings.AsciiSet
import Derived.Shelf.Bits.Mul64
import Derived.Shelf.Strings.Repeat
import Derived.Shelf.Unicode.DecodeSlow
import Derived.Test.YtamfcjmhnndbdaaGreatDoorProg
open Go.IntKind renaming i64→lH,u64→lI
open Go.Value renaming int→lg,string→ll
open Go.Ending renaming returned→lF
open Go.Proofs.Tryz renaming prog→iG,underlying3→kQ
open Go renaming World→iH,Calls→iU
open Go.Lib renaming trimRightB→jL
namespace Go.Proofs
open Go.Proofs.YtamfcjmhnndbdaaGreatDoor
set_option linter.unusedVariables false
set_option linter.unusedSimpArgs false
set_option maxRecDepth 100000
set_option maxHeartbeats 8000000
section
open Go.Shelf
open Go.RowKit in
open Go.RowKit in
open Go.RowKit in
open Go.RowKit in
open Go.RowKit in
open Go.RowKit in
open Go.RowKit in
def Tryz.Ju:Go.Shelf.Ren:=⟨λ|162=>181|232=>219|227=>220|234=>221|236=>222|228=>256|271=>257|151=>258|120=>276|197=>277|152=>278|260=>286|137=>287|119=>288|224=>289|225=>290|217=>293|266=>294|n=>n,λ|9=>9|4=>4|3=>3|5=>5|117=>265|116=>264|0=>0|124=>268|21=>21|105=>289|46=>218|119=>320|139=>323|138=>322|n=>n,λ|3=>2|4=>3|n=>n⟩
theorem Tryz.Wm:Go.Proofs.Lays.n162 iG Tryz.Ju:={
 mixed:=lQ
 f119:=Tryz.func288.trans (congrArg some lQ)
 f120:=Tryz.func276.trans (congrArg some lQ)
 f137:=Tryz.func287.trans (congrArg some lQ)
 f151:=Tryz.func258.trans (congrArg some lQ)
 f152:=Tryz.func278.trans (congrArg some lQ)
 f162:=Tryz.func181.trans (congrArg some lQ)
 f197:=Tryz.func277.trans (congrArg some lQ)
 f217:=Tryz.func293.trans (congrArg some lQ)
 f224:=Tryz.func289.trans (congrArg some lQ)
 f225:=Tryz.func290.trans (congrArg some lQ)
 f227:=Tryz.func220.trans (congrArg some lQ)
 f228:=Tryz.func256.trans (congrArg some lQ)
 f232:=Tryz.func219.trans (congrArg some lQ)
 f234:=Tryz.func221.trans (congrArg some lQ)
 f236:=Tryz.func222.trans (congrArg some lQ)
 f260:=Tryz.func286.trans (congrArg some lQ)
 f266:=Tryz.func294.trans (congrArg some lQ)
 f271:=Tryz.func257.trans (congrArg some lQ)
 t0:=Tryz.underlying0
 a0:=Tryz.isAgg0
 z0:=Tryz.sizeOf0
 v0:=Tryz.zeroValue0
 t3:=kQ
 a3:=Tryz.isAgg3
 z3:=Tryz.sizeOf3
 v3:=Tryz.zeroValue3
 t4:=Tryz.underlying4
 a4:=Tryz.isAgg4
 z4:=Tryz.sizeOf4
 v4:=Tryz.zeroValue4
 t5:=Tryz.underlying5
 a5:=Tryz.isAgg5
 z5:=Tryz.sizeOf5
 v5:=Tryz.zeroValue5
 t9:=Tryz.underlying9
 a9:=Tryz.isAgg9
 z9:=Tryz.sizeOf9
 v9:=Tryz.zeroValue9
 t21:=Tryz.underlying21
 a21:=Tryz.isAgg21
 z21:=Tryz.sizeOf21
 v21:=Tryz.zeroValue21
 t46:=Tryz.underlying218
 a46:=Tryz.isAgg218
 z46:=Tryz.sizeOf218
 v46:=Tryz.zeroValue218
 t105:=Tryz.underlying289
 a105:=Tryz.isAgg289
 z105:=Tryz.sizeOf289
 v105:=Tryz.zeroValue289
 t116:=Tryz.underlying264
 a116:=Tryz.isAgg264
 z116:=Tryz.sizeOf264
 t117:=Tryz.underlying265
 a117:=Tryz.isAgg265
 z117:=Tryz.sizeOf265
 v117:=Tryz.zeroValue265
 t119:=Tryz.underlying320
 a119:=Tryz.isAgg320
 z119:=Tryz.sizeOf320
 t124:=Tryz.underlying268
 a124:=Tryz.isAgg268
 z124:=Tryz.sizeOf268
 v124:=Tryz.zeroValue268
 t138:=Tryz.underlying322
 a138:=Tryz.isAgg322
 z138:=Tryz.sizeOf322
 v138:=Tryz.zeroValue322
 t139:=Tryz.underlying323
 a139:=Tryz.isAgg323
 z139:=Tryz.sizeOf323
 v139:=Tryz.zeroValue323
 g3:=lQ
 g4:=by kernel_rfl}
open Go.RowKit in
theorem Tryz.strings_TrimRight_one(s:ByteArray)(c:UInt8)(hc:c.toNat<128)(w:iH)(hs:s.size<=9223372036854775807):
  iU iG 181 #[ll s,ll ⟨#[c]⟩] w λe w'=>e=lF (ll ⟨(jL s.data.toList c).toArray⟩)/\w'=w:=Any.strings_TrimRight_one Tryz.Wm s c hc w hs
open Go.RowKit in
open Go.RowKit in
open Go.RowKit in
open Go.RowKit in
open Go.RowKit in
open Go.RowKit in
open Go.RowKit in
open Go.RowKit in
def Tryz.Jv:Go.Shelf.Ren:=⟨λ|129=>182|n=>n,λ|53=>50|3=>3|4=>4|46=>218|5=>5|9=>9|n=>n,λ|n=>n⟩
theorem Tryz.Wn:Go.Proofs.Lays.n129 iG Tryz.Jv:={
 mixed:=lQ
 f129:=Tryz.func182.trans (congrArg some lQ)
 t3:=kQ
 a3:=Tryz.isAgg3
 z3:=Tryz.sizeOf3
 v3:=Tryz.zeroValue3
 t4:=Tryz.underlying4
 a4:=Tryz.isAgg4
 z4:=Tryz.sizeOf4
 v4:=Tryz.zeroValue4
 t5:=Tryz.underlying5
 a5:=Tryz.isAgg5
 z5:=Tryz.sizeOf5
 v5:=Tryz.zeroValue5
 t9:=Tryz.underlying9
 a9:=Tryz.isAgg9
 z9:=Tryz.sizeOf9
 v9:=Tryz.zeroValue9
 t46:=Tryz.underlying218
 a46:=Tryz.isAgg218
 z46:=Tryz.sizeOf218
 v46:=Tryz.zeroValue218
 t53:=Tryz.underlying50
 a53:=Tryz.isAgg50
 z53:=Tryz.sizeOf50
 v53:=Tryz.zeroValue50}
theorem Tryz.bits_Len64(x:Int)(w:iH)(h0:0<=x)(A:x<=18446744073709551615):
  iU iG 182 #[lg lI x] w λe w'=>e=lF (lg lH (Lib.bitLen x.toNat))/\w'=w:=Any.bits_Len64 Tryz.Wn x w h0 A
open Go.RowKit Go.Lib in
open Go.RowKit Go.Lib in
open Go.RowKit Go.Lib in
open Go.RowKit Go.Lib in
open Go.RowKit Go.Lib in
open Go.RowKit Go.Lib in
open Go.RowKit Go.Lib in
open Go.RowKit Go.Lib in
open Go.RowKit Go.Lib in
open Go.RowKit Go.Lib in
open Go.RowKit Go.Lib in
open Go.RowKit Go.Lib in
open Go.RowKit Go.Lib in
open Go.RowKit Go.Lib in
open Go.RowKit Go.Lib in
open Go.RowKit Go.Lib in
open Go.RowKit Go.Lib in
open Go.RowKit Go.Lib in
end
end Go.Proofs

