/- Some texts of the library, one behind the other. -/
import Derived.Test.YtcfllgdfhfcicaaGreatDoorQ3
import Derived.Test.YtcfllgdfhfcicaaGreatDoorQ2
import Derived.Lib.ItoaNum
import Derived.Lib.ItoaLen
import Derived.Test.YtcfllgdfhfcicaaGreatDoorChecked
import Derived.Shelf.Strings.Builder1
import Derived.Shelf.Strings.Builder2
import Derived.Shelf.Strings.OnBuilder
import Derived.Shelf.Strings.BuilderF
import Derived.Shelf.Utf8.RuneCount
import Derived.Shelf.Strconv.Itoa0
import Derived.Shelf.Strconv.Itoa1
import Derived.Shelf.LaysM
import Derived.Shelf.Strconv.Itoa2
import Derived.Shelf.Strconv.Itoa3
import Derived.Shelf.Strings.Search1
import Derived.Shelf.Strings.Search2
import Derived.Shelf.Strings.Search3
import Derived.Shelf.Strings.Cut
import Derived.Shelf.Strings.Count
import Derived.Shelf.Strings.Shaped
import Derived.Shelf.Strings.Prefix
import Derived.Shelf.Strings.Split
import Derived.Shelf.Strings.SplitShaped
import Derived.Shelf.Unicode.Decode
import Derived.Shelf.Strings.RuneCount
import Derived.Shelf.Strings.Explode
import Derived.Shelf.Unicode.DecodeSlow
import Derived.Shelf.Unicode.DecodeAny
import Derived.Lib.AppendIntMem
import Derived.Test.YtcfllgdfhfcicaaGreatDoorQ33
set_option linter.unusedSimpArgs false
set_option linter.unusedVariables false
section
namespace Go.Proofs.YtcfllgdfhfcicaaGreatDoor
open Go Go.Sx Go.RowKit
set_option maxRecDepth 100000
set_option maxHeartbeats 4000000
theorem jvj {n:Int} (h0:0≤n) (h1:n<10):Lib.itoa n=[UInt8.ofNat (48+n.toNat)]:=by
 unfold Lib.itoa
 rw [za (by omega),Lib.decDigits,dif_pos (by omega)]
theorem jvk {n:Int} (h:10≤n):Lib.itoa n=Lib.itoa (n / 10)++Lib.itoa (n % 10):=by
 unfold Lib.itoa
 rw [za (by omega),za (by omega),za (by omega),Lib.decDigits,dif_neg (by omega),show n.toNat / 10=(n / 10).toNat by omega]
 congr 1
 rw [Lib.decDigits,dif_pos (by omega)]
 congr 2
 omega
theorem jvl {n:Int} (h:n<0):Lib.itoa n=45::Lib.itoa (-n):=by
 unfold Lib.itoa
 rw [zb h,za (by omega)]
 congr 2
 omega
theorem jgy:∀ (k:Nat) (n:Int),0≤n→n≤9223372036854775807→n.toNat≤k→Con Tryz.prog 53 [iv n] (.str (Lib.itoa n)):=by
 intro k
 induction k using Nat.strongRecOn with
 | _ k ih=>
  intro n h0 h1 hk
  refine zK {} 300 Tryz.func53 (fun c0 rdb=>?_)
  have hd:n.tdiv 10=n / 10:=Int.tdiv_eq_ediv_of_nonneg h0
  have hm:n.tmod 10=n % 10:=Int.tmod_eq_emod_of_nonneg h0
  (repeat' ((conv=>whnf);first|refine Ob.auto ?_|(apply zB <;> intro hb <;> (try simp [-List.getD_eq_getElem?_getD] at hb) <;> try (exfalso;omega))|refine Ob.intro ?_ ?_|fail))
  ·exact ⟨show (0:Int)≤48+n by omega,show 48+n≤(255:Int) by omega⟩
  ·refine fun i hi=>⟨UInt8.ofNat (48+n.toNat),?_⟩
   obtain rfl:i=0:=by omega
   show [AV.int IntKind.u8 (48+n)]=[AV.int IntKind.u8 _]
   rw [UInt8.toNat_ofNat']
   congr 2
   omega
  ·rw [jvj h0 hb]
   refine Le.of_eq (congrArg AV.str ?_)
   show [(48+n).toNat.toUInt8]=[UInt8.ofNat (48+n.toNat)]
   rw [show (48+n).toNat=48+n.toNat by omega]
  ·exact ⟨by decide,by rw [hd];exact ⟨show (-9223372036854775808:Int)≤_ by omega,show _≤(9223372036854775807:Int) by omega⟩⟩
  ·have c1:=ih (k - 1) (by omega) (n / 10) (by omega) (by omega) (by omega)
   have c2:=ih (k - 1) (by omega) (n % 10) (by omega) (by omega) (by omega)
   have l1:=Lib.itoa_length_le (n / 10) (by omega) (by omega)
   have l2:=Lib.itoa_length_le (n % 10) (by omega) (by omega)
   rw [← hd] at c1 l1
   rw [← hm] at c2 l2
   (repeat' ((conv=>whnf);first|refine Ob.auto ?_|refine zC 300 (c1) ?_|refine zC 300 (c2) ?_|fail))
   rw [hd,hm,← jvk hb]
   exact Le.refl _
theorem jvm (n:Int) (h0:-9223372036854775807≤n) (h1:n≤9223372036854775807):Con Tryz.prog 53 [iv n] (.str (Lib.itoa n)):=by
 by_cases h:0≤n
 ·exact jgy n.toNat n h h1 (zk _)
 ·have c:=jgy (-n).toNat (-n) (by omega) (by omega) (zk _)
  have l1:=Lib.itoa_length_le (-n) (by omega) (by omega)
  rw [← Int.zero_sub] at c l1
  refine zK {} 300 Tryz.func53 (fun c0 rdb=>?_)
  (repeat' ((conv=>whnf);first|refine Ob.auto ?_|refine zC 300 (c) ?_|(apply zB <;> intro hb <;> (try simp [-List.getD_eq_getElem?_getD] at hb) <;> try (exfalso;omega))|refine Ob.intro ?_ ?_|fail))
  ·show 1 + _≤_
   omega
  ·have e:Lib.itoa n=[45]++Lib.itoa (0 - n):=by rw [jvl (by omega),Int.zero_sub];rfl
   rw [e]
   exact Le.refl _
end Go.Proofs.YtcfllgdfhfcicaaGreatDoor
end
section
namespace Go.Proofs
open Go.Shelf
def Tryz.lays169_ren:Go.Shelf.Ren:=⟨fun|169=>28|n=>n,fun|70=>56|9=>9|0=>0|72=>59|37=>57|127=>117|3=>3|5=>5|n=>n,fun|n=>n⟩
theorem Tryz.lays169:Go.Proofs.Lays.n169 Tryz.prog Tryz.lays169_ren:={
 mixed:=by kernel_rfl
 f169:=Tryz.func28.trans (congrArg some (by kernel_rfl))
 t0:=Tryz.underlying0
 a0:=Tryz.isAgg0
 z0:=Tryz.sizeOf0
 v0:=Tryz.zeroValue0
 t3:=Tryz.underlying3
 a3:=Tryz.isAgg3
 z3:=Tryz.sizeOf3
 v3:=Tryz.zeroValue3
 t9:=Tryz.underlying9
 a9:=Tryz.isAgg9
 z9:=Tryz.sizeOf9
 v9:=Tryz.zeroValue9
 t37:=Tryz.underlying57
 a37:=Tryz.isAgg57
 z37:=Tryz.sizeOf57
 v37:=Tryz.zeroValue57
 t70:=Tryz.underlying56
 a70:=Tryz.isAgg56
 z70:=Tryz.sizeOf56
 v70:=Tryz.zeroValue56
 t72:=Tryz.underlying59
 a72:=Tryz.isAgg59
 z72:=Tryz.sizeOf59
 v72:=Tryz.zeroValue59
 t127:=Tryz.underlying117
 a127:=Tryz.isAgg117
 z127:=Tryz.sizeOf117
 v127:=Tryz.zeroValue117 }
theorem Tryz.Builder_Extra_169:Builder.Extra Tryz.prog Tryz.lays169_ren:={
 sizeBuilder:=by kernel_rfl
 liesBuilder:=by kernel_rfl
 t5:=Tryz.underlying5
 a5:=Tryz.isAgg5
 z5:=Tryz.sizeOf5
 v5:=Tryz.zeroValue5
 infoByte:=by kernel_rfl
 cellsByte:=by kernel_rfl
 sizeByte:=by kernel_rfl
 neB5:=by decide }
def Tryz.lays156_ren:Go.Shelf.Ren:=⟨fun|156=>27|165=>52|166=>26|169=>28|240=>51|241=>93|276=>92|277=>125|n=>n,fun|31=>63|9=>9|3=>3|4=>4|0=>0|20=>20|72=>59|76=>66|70=>56|37=>57|75=>65|127=>117|164=>150|5=>5|80=>69|n=>n,fun|n=>n⟩
theorem Tryz.lays156:Go.Proofs.Lays.n156 Tryz.prog Tryz.lays156_ren:={
 mixed:=by kernel_rfl
 f156:=Tryz.func27.trans (congrArg some (by kernel_rfl))
 f165:=Tryz.func52.trans (congrArg some (by kernel_rfl))
 f166:=Tryz.func26.trans (congrArg some (by kernel_rfl))
 f169:=Tryz.func28.trans (congrArg some (by kernel_rfl))
 f240:=Tryz.func51.trans (congrArg some (by kernel_rfl))
 f241:=Tryz.func93.trans (congrArg some (by kernel_rfl))
 f276:=Tryz.func92.trans (congrArg some (by kernel_rfl))
 f277:=Tryz.func125.trans (congrArg some (by kernel_rfl))
 t0:=Tryz.underlying0
 a0:=Tryz.isAgg0
 z0:=Tryz.sizeOf0
 v0:=Tryz.zeroValue0
 t3:=Tryz.underlying3
 a3:=Tryz.isAgg3
 z3:=Tryz.sizeOf3
 v3:=Tryz.zeroValue3
 t4:=Tryz.underlying4
 a4:=Tryz.isAgg4
 z4:=Tryz.sizeOf4
 v4:=Tryz.zeroValue4
 t9:=Tryz.underlying9
 a9:=Tryz.isAgg9
 z9:=Tryz.sizeOf9
 v9:=Tryz.zeroValue9
 t20:=Tryz.underlying20
 a20:=Tryz.isAgg20
 z20:=Tryz.sizeOf20
 v20:=Tryz.zeroValue20
 t31:=Tryz.underlying63
 a31:=Tryz.isAgg63
 z31:=Tryz.sizeOf63
 v31:=Tryz.zeroValue63
 t37:=Tryz.underlying57
 a37:=Tryz.isAgg57
 z37:=Tryz.sizeOf57
 v37:=Tryz.zeroValue57
 t70:=Tryz.underlying56
 a70:=Tryz.isAgg56
 z70:=Tryz.sizeOf56
 v70:=Tryz.zeroValue56
 t72:=Tryz.underlying59
 a72:=Tryz.isAgg59
 z72:=Tryz.sizeOf59
 v72:=Tryz.zeroValue59
 t75:=Tryz.underlying65
 a75:=Tryz.isAgg65
 z75:=Tryz.sizeOf65
 v75:=Tryz.zeroValue65
 t76:=Tryz.underlying66
 a76:=Tryz.isAgg66
 z76:=Tryz.sizeOf66
 v76:=Tryz.zeroValue66
 t127:=Tryz.underlying117
 a127:=Tryz.isAgg117
 z127:=Tryz.sizeOf117
 v127:=Tryz.zeroValue117
 t164:=Tryz.underlying150
 a164:=Tryz.isAgg150
 z164:=Tryz.sizeOf150
 v164:=Tryz.zeroValue150 }
theorem Tryz.Builder_Extra_156:Builder.Extra Tryz.prog Tryz.lays156_ren:={
 sizeBuilder:=by kernel_rfl
 liesBuilder:=by kernel_rfl
 t5:=Tryz.underlying5
 a5:=Tryz.isAgg5
 z5:=Tryz.sizeOf5
 v5:=Tryz.zeroValue5
 infoByte:=by kernel_rfl
 cellsByte:=by kernel_rfl
 sizeByte:=by kernel_rfl
 neB5:=by decide }
def Tryz.laysM171_ren:Go.Shelf.Ren:=⟨fun|171=>24|243=>50|246=>91|283=>121|284=>122|285=>123|286=>124|129=>154|317=>153|318=>155|319=>156|320=>157|337=>172|338=>173|n=>n,fun|3=>3|9=>9|2=>2|4=>4|171=>172|0=>0|53=>173|37=>57|5=>5|173=>176|212=>195|51=>196|20=>20|213=>197|46=>181|232=>215|233=>216|n=>n,fun|17=>1|18=>2|19=>3|n=>n⟩
theorem Tryz.laysM171:Go.Proofs.LaysM.n171 Tryz.prog Tryz.laysM171_ren:={
 mixed:=by kernel_rfl
 f129:=Tryz.func154.trans (congrArg some (by kernel_rfl))
 f171:=Tryz.func24.trans (congrArg some (by kernel_rfl))
 f243:=Tryz.func50.trans (congrArg some (by kernel_rfl))
 f246:=Tryz.func91.trans (congrArg some (by kernel_rfl))
 f283:=Tryz.func121.trans (congrArg some (by kernel_rfl))
 f284:=Tryz.func122.trans (congrArg some (by kernel_rfl))
 f285:=Tryz.func123.trans (congrArg some (by kernel_rfl))
 f286:=Tryz.func124.trans (congrArg some (by kernel_rfl))
 f317:=Tryz.func153.trans (congrArg some (by kernel_rfl))
 f318:=Tryz.func155.trans (congrArg some (by kernel_rfl))
 f319:=Tryz.func156.trans (congrArg some (by kernel_rfl))
 f320:=Tryz.func157.trans (congrArg some (by kernel_rfl))
 f337:=Tryz.func172.trans (congrArg some (by kernel_rfl))
 f338:=Tryz.func173.trans (congrArg some (by kernel_rfl))
 t0:=Tryz.underlying0
 a0:=Tryz.isAgg0
 z0:=Tryz.sizeOf0
 v0:=Tryz.zeroValue0
 t2:=Tryz.underlying2
 a2:=Tryz.isAgg2
 z2:=Tryz.sizeOf2
 v2:=Tryz.zeroValue2
 t3:=Tryz.underlying3
 a3:=Tryz.isAgg3
 z3:=Tryz.sizeOf3
 v3:=Tryz.zeroValue3
 t4:=Tryz.underlying4
 a4:=Tryz.isAgg4
 z4:=Tryz.sizeOf4
 v4:=Tryz.zeroValue4
 t5:=Tryz.underlying5
 a5:=Tryz.isAgg5
 z5:=Tryz.sizeOf5
 v5:=Tryz.zeroValue5
 t9:=Tryz.underlying9
 a9:=Tryz.isAgg9
 z9:=Tryz.sizeOf9
 v9:=Tryz.zeroValue9
 t20:=Tryz.underlying20
 a20:=Tryz.isAgg20
 z20:=Tryz.sizeOf20
 v20:=Tryz.zeroValue20
 t37:=Tryz.underlying57
 a37:=Tryz.isAgg57
 z37:=Tryz.sizeOf57
 v37:=Tryz.zeroValue57
 t46:=Tryz.underlying181
 a46:=Tryz.isAgg181
 z46:=Tryz.sizeOf181
 v46:=Tryz.zeroValue181
 t51:=Tryz.underlying196
 a51:=Tryz.isAgg196
 z51:=Tryz.sizeOf196
 v51:=Tryz.zeroValue196
 t53:=Tryz.underlying173
 a53:=Tryz.isAgg173
 z53:=Tryz.sizeOf173
 v53:=Tryz.zeroValue173
 t171:=Tryz.underlying172
 a171:=Tryz.isAgg172
 z171:=Tryz.sizeOf172
 v171:=Tryz.zeroValue172
 t173:=Tryz.underlying176
 a173:=Tryz.isAgg176
 z173:=Tryz.sizeOf176
 v173:=Tryz.zeroValue176
 t212:=Tryz.underlying195
 a212:=Tryz.isAgg195
 z212:=Tryz.sizeOf195
 v212:=Tryz.zeroValue195
 t213:=Tryz.underlying197
 a213:=Tryz.isAgg197
 z213:=Tryz.sizeOf197
 t232:=Tryz.underlying215
 a232:=Tryz.isAgg215
 z232:=Tryz.sizeOf215
 v232:=Tryz.zeroValue215
 t233:=Tryz.underlying216
 a233:=Tryz.isAgg216
 z233:=Tryz.sizeOf216
 v233:=Tryz.zeroValue216
 g17:=by kernel_rfl
 g18:=by kernel_rfl
 g19:=by kernel_rfl
 i0:=by kernel_rfl
 i2:=by kernel_rfl
 i3:=by kernel_rfl
 i4:=by kernel_rfl
 i5:=by kernel_rfl
 i9:=by kernel_rfl
 i20:=by kernel_rfl
 i37:=by kernel_rfl
 i46:=by kernel_rfl
 i51:=by kernel_rfl
 i53:=by kernel_rfl
 i171:=by kernel_rfl
 i173:=by kernel_rfl
 i212:=by kernel_rfl
 i232:=by kernel_rfl
 i233:=by kernel_rfl
 m17:=by kernel_rfl
 m18:=by kernel_rfl
 m19:=by kernel_rfl }
def Tryz.lays143_ren:Go.Shelf.Ren:=⟨fun|143=>132|219=>97|217=>126|225=>127|224=>128|267=>129|266=>158|314=>159|n=>n,fun|9=>9|3=>3|4=>4|5=>5|46=>181|146=>199|51=>196|n=>n,fun|1=>0|n=>n⟩
def Tryz.lays145_ren:Go.Shelf.Ren:=⟨fun|145=>35|220=>60|219=>97|217=>126|225=>127|224=>128|267=>129|266=>158|314=>159|n=>n,fun|9=>9|4=>4|59=>85|3=>3|5=>5|46=>181|146=>199|51=>196|n=>n,fun|1=>0|n=>n⟩
theorem Tryz.lays145:Go.Proofs.Lays.n145 Tryz.prog Tryz.lays145_ren:={
 mixed:=by kernel_rfl
 f145:=Tryz.func35.trans (congrArg some (by kernel_rfl))
 f217:=Tryz.func126.trans (congrArg some (by kernel_rfl))
 f219:=Tryz.func97.trans (congrArg some (by kernel_rfl))
 f220:=Tryz.func60.trans (congrArg some (by kernel_rfl))
 f224:=Tryz.func128.trans (congrArg some (by kernel_rfl))
 f225:=Tryz.func127.trans (congrArg some (by kernel_rfl))
 f266:=Tryz.func158.trans (congrArg some (by kernel_rfl))
 f267:=Tryz.func129.trans (congrArg some (by kernel_rfl))
 f314:=Tryz.func159.trans (congrArg some (by kernel_rfl))
 t3:=Tryz.underlying3
 a3:=Tryz.isAgg3
 z3:=Tryz.sizeOf3
 v3:=Tryz.zeroValue3
 t4:=Tryz.underlying4
 a4:=Tryz.isAgg4
 z4:=Tryz.sizeOf4
 v4:=Tryz.zeroValue4
 t5:=Tryz.underlying5
 a5:=Tryz.isAgg5
 z5:=Tryz.sizeOf5
 v5:=Tryz.zeroValue5
 t9:=Tryz.underlying9
 a9:=Tryz.isAgg9
 z9:=Tryz.sizeOf9
 v9:=Tryz.zeroValue9
 t46:=Tryz.underlying181
 a46:=Tryz.isAgg181
 z46:=Tryz.sizeOf181
 v46:=Tryz.zeroValue181
 t51:=Tryz.underlying196
 a51:=Tryz.isAgg196
 z51:=Tryz.sizeOf196
 v51:=Tryz.zeroValue196
 t59:=Tryz.underlying85
 a59:=Tryz.isAgg85
 z59:=Tryz.sizeOf85
 v59:=Tryz.zeroValue85
 t146:=Tryz.underlying199
 a146:=Tryz.isAgg199
 z146:=Tryz.sizeOf199
 v146:=Tryz.zeroValue199
 g1:=by kernel_rfl }
def Tryz.lays101_ren:Go.Shelf.Ren:=⟨fun|101=>99|208=>133|206=>163|n=>n,fun|9=>9|4=>4|3=>3|n=>n,fun|n=>n⟩
theorem Tryz.lays101:Go.Proofs.Lays.n101 Tryz.prog Tryz.lays101_ren:={
 mixed:=by kernel_rfl
 f101:=Tryz.func99.trans (congrArg some (by kernel_rfl))
 f206:=Tryz.func163.trans (congrArg some (by kernel_rfl))
 f208:=Tryz.func133.trans (congrArg some (by kernel_rfl))
 t3:=Tryz.underlying3
 a3:=Tryz.isAgg3
 z3:=Tryz.sizeOf3
 v3:=Tryz.zeroValue3
 t4:=Tryz.underlying4
 a4:=Tryz.isAgg4
 z4:=Tryz.sizeOf4
 v4:=Tryz.zeroValue4
 t9:=Tryz.underlying9
 a9:=Tryz.isAgg9
 z9:=Tryz.sizeOf9
 v9:=Tryz.zeroValue9 }
def Tryz.lays146_ren:Go.Shelf.Ren:=⟨fun|146=>61|221=>98|268=>130|138=>131|143=>132|195=>160|197=>161|218=>162|219=>97|260=>174|217=>126|225=>127|224=>128|267=>129|266=>158|314=>159|n=>n,fun|9=>9|31=>63|3=>3|4=>4|0=>0|105=>201|21=>21|5=>5|46=>181|119=>217|139=>220|138=>219|146=>199|51=>196|n=>n,fun|1=>0|3=>4|4=>5|n=>n⟩
theorem Tryz.lays146:Go.Proofs.Lays.n146 Tryz.prog Tryz.lays146_ren:={
 mixed:=by kernel_rfl
 f138:=Tryz.func131.trans (congrArg some (by kernel_rfl))
 f143:=Tryz.func132.trans (congrArg some (by kernel_rfl))
 f146:=Tryz.func61.trans (congrArg some (by kernel_rfl))
 f195:=Tryz.func160.trans (congrArg some (by kernel_rfl))
 f197:=Tryz.func161.trans (congrArg some (by kernel_rfl))
 f217:=Tryz.func126.trans (congrArg some (by kernel_rfl))
 f218:=Tryz.func162.trans (congrArg some (by kernel_rfl))
 f219:=Tryz.func97.trans (congrArg some (by kernel_rfl))
 f221:=Tryz.func98.trans (congrArg some (by kernel_rfl))
 f224:=Tryz.func128.trans (congrArg some (by kernel_rfl))
 f225:=Tryz.func127.trans (congrArg some (by kernel_rfl))
 f260:=Tryz.func174.trans (congrArg some (by kernel_rfl))
 f266:=Tryz.func158.trans (congrArg some (by kernel_rfl))
 f267:=Tryz.func129.trans (congrArg some (by kernel_rfl))
 f268:=Tryz.func130.trans (congrArg some (by kernel_rfl))
 f314:=Tryz.func159.trans (congrArg some (by kernel_rfl))
 t0:=Tryz.underlying0
 a0:=Tryz.isAgg0
 z0:=Tryz.sizeOf0
 v0:=Tryz.zeroValue0
 t3:=Tryz.underlying3
 a3:=Tryz.isAgg3
 z3:=Tryz.sizeOf3
 v3:=Tryz.zeroValue3
 t4:=Tryz.underlying4
 a4:=Tryz.isAgg4
 z4:=Tryz.sizeOf4
 v4:=Tryz.zeroValue4
 t5:=Tryz.underlying5
 a5:=Tryz.isAgg5
 z5:=Tryz.sizeOf5
 v5:=Tryz.zeroValue5
 t9:=Tryz.underlying9
 a9:=Tryz.isAgg9
 z9:=Tryz.sizeOf9
 v9:=Tryz.zeroValue9
 t21:=Tryz.underlying21
 a21:=Tryz.isAgg21
 z21:=Tryz.sizeOf21
 v21:=Tryz.zeroValue21
 t31:=Tryz.underlying63
 a31:=Tryz.isAgg63
 z31:=Tryz.sizeOf63
 v31:=Tryz.zeroValue63
 t46:=Tryz.underlying181
 a46:=Tryz.isAgg181
 z46:=Tryz.sizeOf181
 v46:=Tryz.zeroValue181
 t51:=Tryz.underlying196
 a51:=Tryz.isAgg196
 z51:=Tryz.sizeOf196
 v51:=Tryz.zeroValue196
 t105:=Tryz.underlying201
 a105:=Tryz.isAgg201
 z105:=Tryz.sizeOf201
 v105:=Tryz.zeroValue201
 t119:=Tryz.underlying217
 a119:=Tryz.isAgg217
 z119:=Tryz.sizeOf217
 t138:=Tryz.underlying219
 a138:=Tryz.isAgg219
 z138:=Tryz.sizeOf219
 v138:=Tryz.zeroValue219
 t139:=Tryz.underlying220
 a139:=Tryz.isAgg220
 z139:=Tryz.sizeOf220
 v139:=Tryz.zeroValue220
 t146:=Tryz.underlying199
 a146:=Tryz.isAgg199
 z146:=Tryz.sizeOf199
 v146:=Tryz.zeroValue199
 g1:=by kernel_rfl
 g3:=by kernel_rfl
 g4:=by kernel_rfl }
end Go.Proofs
end
section
namespace Go.Proofs.YtcfllgdfhfcicaaGreatDoor
open Go Go.Sx Go.RowKit Go.Sort
set_option maxRecDepth 100000
theorem qil (n:Int) (h0:-9223372036854775808≤n) (h1:n≤9223372036854775807):Con Tryz.prog 24 [iv n] (.str (Lib.itoa n)):=by
 refine qsq Tryz.func24 rfl (by kernel_rfl) [iv n] _ fun rd w vs hm ha=>?_
 obtain ⟨a,rfl,h⟩:=jgz ha
 obtain rfl:=jha h
 refine (Any.strconv_Itoa Tryz.laysM171 n h0 h1 w (jvo (g:=1) (by kernel_rfl) (hm.tabs (_,_) (by unfold tbs;exact List.mem_singleton.2 rfl)))).mono fun x w' ⟨he,k,os,hw⟩=>⟨_,he,.str _ _,?_⟩
 subst hw
 exact Lib.below_grow w.heap.size w (zk _) k os
end Go.Proofs.YtcfllgdfhfcicaaGreatDoor
end
section
namespace Go.Proofs.YtcfllgdfhfcicaaGreatDoor
open List renaming getD_eq_getElem?_getD → zd
open Go Go.Sx Go.RowKit Go.St
set_option maxRecDepth 100000
set_option maxHeartbeats 4000000
theorem qsr (n:Int) (h0:-9223372036854775807≤n) (h1:n≤9223372036854775807):Con Tryz.prog 29 [iv n] (.str (Lib.itoa n)):=by
 have h:=jvm n h0 h1
 refine zK {} 300 Tryz.func29 (fun c0 rdb=>?_)
 (repeat' ((conv=>whnf);first|refine Ob.auto ?_|refine zC 300 (h) ?_|fail))
 exact Le.refl _
theorem qpi (m:Md) (hM:ModOk m) (hn:NmOk m) (p:Int):Con Tryz.prog 11 [m.av,iv p] (.str (whoT m p)):=by
 refine zK {} 300 Tryz.func11 (fun c0 rdb=>?_)
 by_cases hp:0≤p∧p<m.procs.length
 ·have hq:=hn.proc _ (qe m.procs p.toNat pr0 (by omega))
  have hl:=Lib.itoa_length_le (m.procs.getD p.toNat pr0).copy (by omega) (by omega)
  have hc:=qil (m.procs.getD p.toNat pr0).copy (by omega) (by omega)
  (repeat' ((conv=>whnf);first|refine zO ?_|refine Ob.auto ?_|(refine Ob.intro (by (first|exact ⟨by omega,by omega⟩|(show _≤(9223372036854775807:Nat);simp [-zd];omega))) ?_)|refine zX (hc) ?_|(refine zR 300 ?_)|(apply zB <;> intro hb <;> (try simp [-zd] at hb) <;> try (exfalso;omega))))
  unfold whoT
  rw [zb hp]
  exact Le.refl _
 ·(repeat' ((conv=>whnf);first|refine Ob.auto ?_|(apply zB <;> intro hb <;> (try simp [-zd] at hb) <;> try (exfalso;omega))))
  unfold whoT
  rw [za hp]
  exact Le.refl _
theorem qxx (k:Int):Con Tryz.prog 25 [iv k] (.str (jp k)):=by
 refine zK {} 300 Tryz.func25 (fun c0 rdb=>?_)
 (repeat' ((conv=>whnf);first|refine Ob.auto ?_|(apply zB <;> intro hb <;> (try simp [-zd] at hb) <;> try (exfalso;omega))))
 ·subst hb;exact Le.refl _
 ·subst hb;exact Le.refl _
 ·subst hb;exact Le.refl _
 ·subst hb;exact Le.refl _
 ·unfold jp
  rw [za (by omega),za (by omega),za (by omega),za (by omega)]
  exact Le.refl _
theorem jvp (m:Md) (hM:ModOk m) (hn:NmOk m) (p:Int):Con Tryz.prog 12 [m.av,iv p] (.str (whoT m p)):=by
 refine zK {} 300 Tryz.func12 (fun c0 rdb=>?_)
 by_cases hp:0≤p∧p<m.procs.length
 ·have hq:=hn.proc _ (qe m.procs p.toNat pr0 (by omega))
  have hl:=Lib.itoa_length_le (m.procs.getD p.toNat pr0).copy (by omega) (by omega)
  have hc:=qsr (m.procs.getD p.toNat pr0).copy (by omega) (by omega)
  (repeat' ((conv=>whnf);first|refine zO ?_|refine Ob.auto ?_|(refine Ob.intro (by (first|exact ⟨by omega,by omega⟩|(show _≤(9223372036854775807:Nat);simp [-zd];omega))) ?_)|refine zX (hc) ?_|(refine zR 300 ?_)|(apply zB <;> intro hb <;> (try simp [-zd] at hb) <;> try (exfalso;omega))))
  unfold whoT
  rw [zb hp]
  exact Le.refl _
 ·(repeat' ((conv=>whnf);first|refine Ob.auto ?_|(apply zB <;> intro hb <;> (try simp [-zd] at hb) <;> try (exfalso;omega))))
  unfold whoT
  rw [za hp]
  exact Le.refl _
theorem jvq (k:Int) (h:0≤k∧k≤3):Con Tryz.prog 38 [iv k] (.str (jp k)):=by
 rcases (show k=0∨k=1∨k=2∨k=3 by omega) with rfl|rfl|rfl|rfl
 ·refine zK {lit:=true} 300 Tryz.func38 (fun c0 rdb=>?_)
  (repeat' ((conv=>whnf);first|refine Ob.auto ?_|fail))
  exact Le.refl _
 ·refine zK {lit:=true} 300 Tryz.func38 (fun c0 rdb=>?_)
  (repeat' ((conv=>whnf);first|refine Ob.auto ?_|fail))
  exact Le.refl _
 ·refine zK {lit:=true} 300 Tryz.func38 (fun c0 rdb=>?_)
  (repeat' ((conv=>whnf);first|refine Ob.auto ?_|fail))
  exact Le.refl _
 ·refine zK {lit:=true} 300 Tryz.func38 (fun c0 rdb=>?_)
  (repeat' ((conv=>whnf);first|refine Ob.auto ?_|fail))
  exact Le.refl _
end Go.Proofs.YtcfllgdfhfcicaaGreatDoor
end
section
namespace Go.Proofs.YtcfllgdfhfcicaaGreatDoor
open Go Go.Sx Go.RowKit Go.St
set_option maxRecDepth 100000
set_option maxHeartbeats 4000000
theorem jvr (m:Md) (hM:ModOk m) (hn:NmOk m) (i:Nat) (hi:i≤1000000) (e:Ev) (he:EvOk m e):Con Tryz.prog 18 [m.av,iv i,e.av] (.str (qas m i e)):=by
 have h1:=Lib.itoa_length_le (i:Int) (by omega) (by omega)
 have h2:=jgw hn e.prc
 have h3:=jgx e.kind
 have h4:=hn.chan _ (qe m.chans e.ch.toNat ch0 (by have:=he.chn;omega))
 have h5:=Lib.itoa_length_le e.msg (by have:=he.msg;omega) (by have:=he.msg;omega)
 have h6:=Lib.itoa_length_le e.frm (by have:=he.frm;omega) (by have:=he.frm;omega)
 have c1:=qsr (i:Int) (by omega) (by omega)
 have c2:=jvp m hM hn e.prc
 have c3:=jvq e.kind he.kind
 have c4:=qsr e.msg (by have:=he.msg;omega) (by have:=he.msg;omega)
 have c5:=qsr e.frm (by have:=he.frm;omega) (by have:=he.frm;omega)
 have k1:=he.chn
 have k2:=he.kind
 refine zK {} 300 Tryz.func18 (fun c0 rdb=>?_)
 have hb:e.kind=0∨¬ e.kind=0:=by omega
 rcases hb with hb|hb
 all_goals
  (repeat' ((conv=>whnf);first|refine zO ?_|refine Ob.auto ?_|(refine Ob.intro (by (first|exact ⟨by omega,by omega⟩|(show _≤(9223372036854775807:Nat);simp [-List.getD_eq_getElem?_getD];omega))) ?_)|refine zX (c1) ?_|refine zX (c2) ?_|refine zX (c3) ?_|refine zX (c4) ?_|refine zC 300 (c5) ?_|(refine zR 300 ?_)|(apply zB <;> intro hb <;> (try simp [-List.getD_eq_getElem?_getD] at hb) <;> try (exfalso;omega))))
  unfold qas
  first|rw [zb (by omega:e.kind=0)]|rw [za (by omega:¬ e.kind=0)]
  exact Le.of_eq (congrArg AV.str (by first|(simp only [zy,zbx];done)|(simp only [zy,zbx];rfl)))
end Go.Proofs.YtcfllgdfhfcicaaGreatDoor
end
