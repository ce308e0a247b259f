/- Part 1 of the proof. -/
import Derived.Test.YtamfcjmhnndbdaaGreatDoorZb00
import Derived.Shelf.Strings.Trim
import Derived.Shelf.Small.Utf8
import Derived.Shelf.Strings.BuilderK
import Derived.Shelf.Strconv.Itoa0
import Derived.Shelf.Strings.Runes
import Derived.Shelf.Strings.AsciiSet
import Derived.Shelf.Strings.Repeat
import Derived.Shelf.Unicode.DecodeSlow
open Go.IntKind renaming i64→X,u64→mP
open Go.Value renaming int→V,string→H
open Go.Ending renaming returned→mK
open Go.Proofs.Tryz renaming prog→iN
open Go renaming World→K,Calls→iW
open Go.Lib renaming trimRightB→jW
open Option renaming some→O
open Decidable renaming decide→As
namespace Go.Proofs
open Go.Proofs.YtamfcjmhnndbdaaGreatDoor
set_option linter.unusedVariables false
set_option linter.defProp false
set_option linter.unusedSimpArgs false
set_option maxRecDepth 100000
set_option maxHeartbeats 8000000
section
open Go.Shelf
open Go.RowKit in
open Go.RowKit in
open Go.RowKit in
open Go.RowKit in
open Go.RowKit in
open Go.RowKit in
open Go.RowKit in
def Tryz.Ow:Go.Shelf.Ren:=⟨λ|162=>181|232=>219|227=>220|234=>221|236=>222|228=>256|271=>257|151=>258|120=>276|197=>277|152=>278|260=>286|137=>287|119=>288|224=>289|225=>290|217=>293|266=>294|n=>n,λ|9=>9|4=>4|3=>3|5=>5|117=>265|116=>264|0=>0|124=>268|21=>21|105=>289|46=>218|119=>320|139=>323|138=>322|n=>n,λ|3=>2|4=>3|n=>n⟩
def Tryz.a2C:Go.Proofs.Lays.n162 iN Tryz.Ow:={
 mixed:=mZ
 f119:=Tryz.func288.trans (congrArg O mZ)
 f120:=Tryz.func276.trans (congrArg O mZ)
 f137:=Tryz.func287.trans (congrArg O mZ)
 f151:=Tryz.func258.trans (congrArg O mZ)
 f152:=Tryz.func278.trans (congrArg O mZ)
 f162:=Tryz.func181.trans (congrArg O mZ)
 f197:=Tryz.func277.trans (congrArg O mZ)
 f217:=Tryz.func293.trans (congrArg O mZ)
 f224:=Tryz.func289.trans (congrArg O mZ)
 f225:=Tryz.func290.trans (congrArg O mZ)
 f227:=Tryz.func220.trans (congrArg O mZ)
 f228:=Tryz.func256.trans (congrArg O mZ)
 f232:=Tryz.func219.trans (congrArg O mZ)
 f234:=Tryz.func221.trans (congrArg O mZ)
 f236:=Tryz.func222.trans (congrArg O mZ)
 f260:=Tryz.func286.trans (congrArg O mZ)
 f266:=Tryz.func294.trans (congrArg O mZ)
 f271:=Tryz.func257.trans (congrArg O mZ)
 t0:=Tryz.underlying0
 a0:=Tryz.isAgg0
 z0:=Tryz.sizeOf0
 v0:=Tryz.zeroValue0
 t3:=l6
 a3:=Tryz.isAgg3
 z3:=Tryz.sizeOf3
 v3:=Tryz.zeroValue3
 t4:=Tryz.underlying4
 a4:=Tryz.isAgg4
 z4:=Tryz.sizeOf4
 v4:=Tryz.zeroValue4
 t5:=Tryz.underlying5
 a5:=Tryz.isAgg5
 z5:=Tryz.sizeOf5
 v5:=Tryz.zeroValue5
 t9:=l8
 a9:=Tryz.isAgg9
 z9:=Tryz.sizeOf9
 v9:=Tryz.zeroValue9
 t21:=Tryz.underlying21
 a21:=Tryz.isAgg21
 z21:=Tryz.sizeOf21
 v21:=Tryz.zeroValue21
 t46:=Tryz.underlying218
 a46:=Tryz.isAgg218
 z46:=Tryz.sizeOf218
 v46:=Tryz.zeroValue218
 t105:=Tryz.underlying289
 a105:=Tryz.isAgg289
 z105:=Tryz.sizeOf289
 v105:=Tryz.zeroValue289
 t116:=Tryz.underlying264
 a116:=Tryz.isAgg264
 z116:=Tryz.sizeOf264
 t117:=Tryz.underlying265
 a117:=Tryz.isAgg265
 z117:=Tryz.sizeOf265
 v117:=Tryz.zeroValue265
 t119:=Tryz.underlying320
 a119:=Tryz.isAgg320
 z119:=Tryz.sizeOf320
 t124:=Tryz.underlying268
 a124:=Tryz.isAgg268
 z124:=Tryz.sizeOf268
 v124:=Tryz.zeroValue268
 t138:=Tryz.underlying322
 a138:=Tryz.isAgg322
 z138:=Tryz.sizeOf322
 v138:=Tryz.zeroValue322
 t139:=Tryz.underlying323
 a139:=Tryz.isAgg323
 z139:=Tryz.sizeOf323
 v139:=Tryz.zeroValue323
 g3:=mZ
 g4:=by kernel_rfl}
open Go.RowKit in
def Tryz.strings_TrimRight_one(s:An)(c:AC)(hc:c.toNat<128)(w:K)(hs:s.size<=9223372036854775807):
  iW iN 181 #[H s,H ⟨#[c]⟩] w λe w'=>e=mK (H ⟨(jW s.data.toList c).toArray⟩)/\w'=w:=Any.strings_TrimRight_one Tryz.a2C s c hc w hs
open Go.RowKit in
open Go.RowKit in
open Go.RowKit in
open Go.RowKit in
open Go.RowKit in
open Go.RowKit in
open Go.RowKit in
open Go.RowKit in
def Tryz.Ox:Go.Shelf.Ren:=⟨λ|129=>182|n=>n,λ|53=>50|3=>3|4=>4|46=>218|5=>5|9=>9|n=>n,λ|n=>n⟩
def Tryz.a2D:Go.Proofs.Lays.n129 iN Tryz.Ox:={
 mixed:=mZ
 f129:=Tryz.func182.trans (congrArg O mZ)
 t3:=l6
 a3:=Tryz.isAgg3
 z3:=Tryz.sizeOf3
 v3:=Tryz.zeroValue3
 t4:=Tryz.underlying4
 a4:=Tryz.isAgg4
 z4:=Tryz.sizeOf4
 v4:=Tryz.zeroValue4
 t5:=Tryz.underlying5
 a5:=Tryz.isAgg5
 z5:=Tryz.sizeOf5
 v5:=Tryz.zeroValue5
 t9:=l8
 a9:=Tryz.isAgg9
 z9:=Tryz.sizeOf9
 v9:=Tryz.zeroValue9
 t46:=Tryz.underlying218
 a46:=Tryz.isAgg218
 z46:=Tryz.sizeOf218
 v46:=Tryz.zeroValue218
 t53:=Tryz.underlying50
 a53:=Tryz.isAgg50
 z53:=Tryz.sizeOf50
 v53:=Tryz.zeroValue50}
def Tryz.bits_Len64(x:Int)(w:K)(h0:0<=x)(A:x<=18446744073709551615):
  iW iN 182 #[V mP x] w λe w'=>e=mK (V X (Lib.bitLen x.toNat))/\w'=w:=Any.bits_Len64 Tryz.a2D x w h0 A
open Go.RowKit Go.Lib in
open Go.RowKit Go.Lib in
open Go.RowKit Go.Lib in
open Go.RowKit Go.Lib in
open Go.RowKit Go.Lib in
open Go.RowKit Go.Lib in
open Go.RowKit Go.Lib in
open Go.RowKit Go.Lib in
open Go.RowKit Go.Lib in
open Go.RowKit Go.Lib in
open Go.RowKit Go.Lib in
open Go.RowKit Go.Lib in
open Go.RowKit Go.Lib in
open Go.RowKit Go.Lib in
open Go.RowKit Go.Lib in
open Go.RowKit Go.Lib in
open Go.RowKit Go.Lib in
open Go.RowKit Go.Lib in
end
end Go.Proofs

