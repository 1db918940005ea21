/- Some texts of the library, one behind the other. -/
import Derived.Shelf.Strconv.Itoa0
import Derived.Shelf.Strconv.Itoa1
import Derived.Shelf.LaysM
import Derived.Shelf.Strconv.Itoa2
import Derived.Shelf.Strconv.AppendUint10
import Derived.Test.YtikahnkkfkoglaaGreatDoorChecked
import Derived.Test.YtikahnkkfkoglaaGreatDoorQ7
import Derived.Test.YtikahnkkfkoglaaGreatDoorQ2
import Derived.Test.YtikahnkkfkoglaaGreatDoorQ3
import Derived.Test.YtikahnkkfkoglaaGreatDoorQ1
import Derived.Test.YtikahnkkfkoglaaGreatDoorProg
import Derived.KernelRfl
import Derived.Test.YtikahnkkfkoglaaGreatDoorQ4
set_option linter.unusedSimpArgs false
set_option linter.unusedVariables false
section
namespace Go.Proofs
open Go.Shelf
def Tryz.laysM284_ren:Go.Shelf.Ren:=⟨fun|284=>139|129=>146|317=>145|318=>147|n=>n,fun|53=>177|3=>3|212=>185|0=>0|4=>4|46=>188|5=>5|9=>9|n=>n,fun|17=>0|n=>n⟩
theorem Tryz.laysM284:Go.Proofs.LaysM.n284 Tryz.prog Tryz.laysM284_ren:={
 mixed:=by kernel_rfl
 f129:=Tryz.func146.trans (congrArg some (by kernel_rfl))
 f284:=Tryz.func139.trans (congrArg some (by kernel_rfl))
 f317:=Tryz.func145.trans (congrArg some (by kernel_rfl))
 f318:=Tryz.func147.trans (congrArg some (by kernel_rfl))
 t0:=Tryz.underlying0
 a0:=Tryz.isAgg0
 z0:=Tryz.sizeOf0
 v0:=Tryz.zeroValue0
 t3:=Tryz.underlying3
 a3:=Tryz.isAgg3
 z3:=Tryz.sizeOf3
 v3:=Tryz.zeroValue3
 t4:=Tryz.underlying4
 a4:=Tryz.isAgg4
 z4:=Tryz.sizeOf4
 v4:=Tryz.zeroValue4
 t5:=Tryz.underlying5
 a5:=Tryz.isAgg5
 z5:=Tryz.sizeOf5
 v5:=Tryz.zeroValue5
 t9:=Tryz.underlying9
 a9:=Tryz.isAgg9
 z9:=Tryz.sizeOf9
 v9:=Tryz.zeroValue9
 t46:=Tryz.underlying188
 a46:=Tryz.isAgg188
 z46:=Tryz.sizeOf188
 v46:=Tryz.zeroValue188
 t53:=Tryz.underlying177
 a53:=Tryz.isAgg177
 z53:=Tryz.sizeOf177
 v53:=Tryz.zeroValue177
 t212:=Tryz.underlying185
 a212:=Tryz.isAgg185
 z212:=Tryz.sizeOf185
 v212:=Tryz.zeroValue185
 g17:=by kernel_rfl
 i0:=by kernel_rfl
 i3:=by kernel_rfl
 i4:=by kernel_rfl
 i5:=by kernel_rfl
 i9:=by kernel_rfl
 i46:=by kernel_rfl
 i53:=by kernel_rfl
 i212:=by kernel_rfl
 m17:=by kernel_rfl }
def Tryz.laysM288_ren:Go.Shelf.Ren:=⟨fun|288=>134|283=>138|284=>139|285=>140|286=>141|129=>146|317=>145|318=>147|319=>148|320=>149|337=>151|338=>152|n=>n,fun|37=>54|53=>177|3=>3|4=>4|9=>9|171=>180|0=>0|173=>183|212=>185|51=>186|5=>5|20=>20|213=>187|46=>188|232=>191|233=>192|n=>n,fun|17=>0|18=>1|19=>2|n=>n⟩
theorem Tryz.laysM288:Go.Proofs.LaysM.n288 Tryz.prog Tryz.laysM288_ren:={
 mixed:=by kernel_rfl
 f129:=Tryz.func146.trans (congrArg some (by kernel_rfl))
 f283:=Tryz.func138.trans (congrArg some (by kernel_rfl))
 f284:=Tryz.func139.trans (congrArg some (by kernel_rfl))
 f285:=Tryz.func140.trans (congrArg some (by kernel_rfl))
 f286:=Tryz.func141.trans (congrArg some (by kernel_rfl))
 f288:=Tryz.func134.trans (congrArg some (by kernel_rfl))
 f317:=Tryz.func145.trans (congrArg some (by kernel_rfl))
 f318:=Tryz.func147.trans (congrArg some (by kernel_rfl))
 f319:=Tryz.func148.trans (congrArg some (by kernel_rfl))
 f320:=Tryz.func149.trans (congrArg some (by kernel_rfl))
 f337:=Tryz.func151.trans (congrArg some (by kernel_rfl))
 f338:=Tryz.func152.trans (congrArg some (by kernel_rfl))
 t0:=Tryz.underlying0
 a0:=Tryz.isAgg0
 z0:=Tryz.sizeOf0
 v0:=Tryz.zeroValue0
 t3:=Tryz.underlying3
 a3:=Tryz.isAgg3
 z3:=Tryz.sizeOf3
 v3:=Tryz.zeroValue3
 t4:=Tryz.underlying4
 a4:=Tryz.isAgg4
 z4:=Tryz.sizeOf4
 v4:=Tryz.zeroValue4
 t5:=Tryz.underlying5
 a5:=Tryz.isAgg5
 z5:=Tryz.sizeOf5
 v5:=Tryz.zeroValue5
 t9:=Tryz.underlying9
 a9:=Tryz.isAgg9
 z9:=Tryz.sizeOf9
 v9:=Tryz.zeroValue9
 t20:=Tryz.underlying20
 a20:=Tryz.isAgg20
 z20:=Tryz.sizeOf20
 v20:=Tryz.zeroValue20
 t37:=Tryz.underlying54
 a37:=Tryz.isAgg54
 z37:=Tryz.sizeOf54
 v37:=Tryz.zeroValue54
 t46:=Tryz.underlying188
 a46:=Tryz.isAgg188
 z46:=Tryz.sizeOf188
 v46:=Tryz.zeroValue188
 t51:=Tryz.underlying186
 a51:=Tryz.isAgg186
 z51:=Tryz.sizeOf186
 v51:=Tryz.zeroValue186
 t53:=Tryz.underlying177
 a53:=Tryz.isAgg177
 z53:=Tryz.sizeOf177
 v53:=Tryz.zeroValue177
 t171:=Tryz.underlying180
 a171:=Tryz.isAgg180
 z171:=Tryz.sizeOf180
 v171:=Tryz.zeroValue180
 t173:=Tryz.underlying183
 a173:=Tryz.isAgg183
 z173:=Tryz.sizeOf183
 v173:=Tryz.zeroValue183
 t212:=Tryz.underlying185
 a212:=Tryz.isAgg185
 z212:=Tryz.sizeOf185
 v212:=Tryz.zeroValue185
 t213:=Tryz.underlying187
 a213:=Tryz.isAgg187
 z213:=Tryz.sizeOf187
 t232:=Tryz.underlying191
 a232:=Tryz.isAgg191
 z232:=Tryz.sizeOf191
 v232:=Tryz.zeroValue191
 t233:=Tryz.underlying192
 a233:=Tryz.isAgg192
 z233:=Tryz.sizeOf192
 v233:=Tryz.zeroValue192
 g17:=by kernel_rfl
 g18:=by kernel_rfl
 g19:=by kernel_rfl
 i0:=by kernel_rfl
 i3:=by kernel_rfl
 i4:=by kernel_rfl
 i5:=by kernel_rfl
 i9:=by kernel_rfl
 i20:=by kernel_rfl
 i37:=by kernel_rfl
 i46:=by kernel_rfl
 i51:=by kernel_rfl
 i53:=by kernel_rfl
 i171:=by kernel_rfl
 i173:=by kernel_rfl
 i212:=by kernel_rfl
 i232:=by kernel_rfl
 i233:=by kernel_rfl
 m17:=by kernel_rfl
 m18:=by kernel_rfl
 m19:=by kernel_rfl }
end Go.Proofs
end
section
namespace Go.Proofs.YtikahnkkfkoglaaGreatDoor
open List renaming getD_eq_getElem?_getD → zd
open Go Go.Sx Go.RowKit
set_option maxRecDepth 100000
set_option maxHeartbeats 4000000
def digF (l:List UInt8):Nat→List AV:=fun i=>[.int .u8 (((l.getD i 0).toNat:Nat):Int)]
theorem jch (ep n:Nat) (F:Nat→List AV) (u:Nat) (hu:u<18446744073709551616) (hn:n+20≤140737488355328) :
  Trip Tryz.prog 134 [.own 0 0 ep n,.int .u64 u,.int .i64 10] [.row [] 5 1 ep n F] (.own 0 0 ep (n+(Lib.decDigits u).length)) [(0,.row [] 5 1 ep (n+(Lib.decDigits u).length) (appF n F (Lib.decDigits u).length (digF (Lib.decDigits u))))] 1:=by
 have hlen:0<(Lib.decDigits u).length:=by
  rw [Lib.decDigits_length]
  by_cases h10:u<10
  ·rw [Lib.nDigits_small h10];omega
  ·rw [Lib.nDigits_big h10];omega
 refine jpy Tryz.func134 rfl (by kernel_rfl) [.int .u64 u,.int .i64 10] [.int .u64 u,.int .i64 10] (fun rd mp vs h=>?_) hlen (digF (Lib.decDigits u)) (Lib.byteCells (Lib.decDigits u)) (by rw [Lib.byteCells_length]) (fun k _=>rfl) (fun k j x hk hx=>?_) (fun w sv xs hown ht=>?_)
 ·obtain ⟨h1,h2⟩:=h
  have h3:vs.toList.length=2:=by rw [Array.length_toList,h1];rfl
  obtain ⟨x,y,hv⟩:∃ x y,vs=#[x,y]:=by
   rcases hv:vs.toList with _|⟨x,_|⟨y,_|⟨z,l⟩⟩⟩ <;> rw [hv] at h3 <;> simp at h3
   exact ⟨x,y,by apply Array.ext';simpa using hv⟩
  subst hv
  have a1:=h2 0 _ x rfl rfl
  have a2:=h2 1 _ y rfl rfl
  cases a1
  cases a2
  rfl
 ·have hj:j=0:=by
   have:=(List.getElem?_eq_some_iff.1 hx).1
   simp [digF] at this;exact this
  subst hj
  simp only [digF,zaz,Option.some.injEq] at hx
  subst hx
  refine ⟨_,?_,rfl,.int _ _ _⟩
  simp [Lib.byteCells,zh,ze hk,zd]
 ·by_cases h100:u<100
  ·exact AnySb.appendUint_small Tryz.laysM288 n u h100 sv xs w hown hn
  ·exact AnySb.appendUint_big Tryz.laysM288 n u (by omega) hu sv xs w hown hn (fun w' h' hb=>Any.internal_strconv_numDigits Tryz.laysM284 u (by omega) hu w' (TabIs.on h' hb)) (jpz (g:=0) (by kernel_rfl) (ht (_,_) (by unfold tbs;exact List.mem_singleton.2 rfl)))
theorem jqa (ep n:Nat) (F:Nat→List AV) (i:Int) (h0:-9223372036854775808≤i) (h1:i≤9223372036854775807) (hn:n+21≤140737488355328) :
  Trip Tryz.prog 122 [.own 0 0 ep n,.int .i64 i,.int .i64 10] [.row [] 5 1 ep n F] (.own 0 0 ep (n+(Lib.itoa i).length)) [(0,.row [] 5 1 ep (n+(Lib.itoa i).length) (appF n F (Lib.itoa i).length (digF (Lib.itoa i))))] 1:=by
 refine zL {wraps:=[3,4,5,6,7,8,9,10,11,12,13,14,15,16]} 300 Tryz.func122 (fun c0 rdb mpb=>?_)
 (repeat' ((conv=>whnf);first|refine zA ?_|refine zO ?_|refine Ob.auto ?_|refine zD 300 ?_|(apply zB <;> intro hb <;> (try simp [-zd] at hb) <;> try (exfalso;omega))|refine Ob.intro ?_ ?_))
 ·exact ⟨⟨rfl,rfl⟩,by omega,show (n+1) * 1≤140737488355328 by omega⟩
 ·have hw:IntKind.u64.wrap (0 - IntKind.u64.wrap i)=((i.natAbs:Nat):Int):=by rw [IntKind.wrap_u64,IntKind.wrap_u64];omega
  ((conv=>whnf);refine qij (fun _=>rfl) 300 [0] (jch ep (n+1) (appF n F 1 (chop 1 [.int .u8 45])) i.natAbs (by omega) (by omega)) (by kernel_rfl) ⟨Le.refl _,Le.of_eq (congrArg (AV.int _) hw),Le.refl _,trivial⟩ qa (by exact qb rfl) (by exact qb rfl) (by kernel_rfl) ?_)
  (repeat' ((conv=>whnf);first|refine zA ?_|refine zO ?_|refine Ob.auto ?_|refine zD 300 ?_|(apply zB <;> intro hb <;> (try simp [-zd] at hb) <;> try (exfalso;omega))|refine Ob.intro ?_ ?_))
  have hi:Lib.itoa i=45::Lib.decDigits i.natAbs:=by unfold Lib.itoa;rw [zb (by omega)]
  have hl:n+1+(Lib.decDigits i.natAbs).length=n+(Lib.itoa i).length:=by rw [hi,xh];omega
  refine ⟨Le.of_eq (congrArg (AV.own 0 0 ep) hl),⟨⟨rfl,rfl,rfl⟩,rfl,hl,fun k hk=>LeL.of_eq ?_⟩,trivial⟩
  have hk:k<n+1+(Lib.decDigits i.natAbs).length:=hk
  rw [hi]
  show appF (n+1) (appF n F 1 (chop 1 [.int .u8 45])) (Lib.decDigits i.natAbs).length (digF (Lib.decDigits i.natAbs)) k=appF n F (45::Lib.decDigits i.natAbs).length (digF (45::Lib.decDigits i.natAbs)) k
  unfold appF
  by_cases h1:k<n
  ·rw [zb (by omega),zb h1,zb h1]
  ·by_cases h2:k<n+1
   ·rw [zb h2,za h1,zb h2,za h1,zb (by simp;omega),show k - n=0 by omega]
    rfl
   ·rw [za h2,zb hk,za h1,zb (by simp;omega),show k - n=(k - (n+1))+1 by omega]
    rfl
 ·have hw:IntKind.u64.wrap i=((i.toNat:Nat):Int):=by rw [IntKind.wrap_u64];omega
  have hi:Lib.itoa i=Lib.decDigits i.toNat:=by unfold Lib.itoa;rw [za (by omega)]
  rw [hi]
  ((conv=>whnf);refine qij (fun _=>rfl) 300 [0] (jch ep n F i.toNat (by omega) (by omega)) (by kernel_rfl) ⟨Le.refl _,Le.of_eq (congrArg (AV.int _) hw),Le.refl _,trivial⟩ qa (by exact qb rfl) (by exact qb rfl) (by kernel_rfl) ?_)
  (repeat' ((conv=>whnf);first|refine zA ?_|refine zO ?_|refine Ob.auto ?_|refine zD 300 ?_|(apply zB <;> intro hb <;> (try simp [-zd] at hb) <;> try (exfalso;omega))|refine Ob.intro ?_ ?_))
  exact ⟨Le.refl _,SoLe.refl _,trivial⟩
theorem quq (ep n:Nat) (F:Nat→List AV) (i:Int) (h0:-9223372036854775808≤i) (h1:i≤9223372036854775807) (hn:n+21≤140737488355328) :
  Trip Tryz.prog 88 [.own 0 0 ep n,.int .i64 i,.int .i64 10] [.row [] 5 1 ep n F] (.own 0 0 ep (n+(Lib.itoa i).length)) [(0,.row [] 5 1 ep (n+(Lib.itoa i).length) (appF n F (Lib.itoa i).length (digF (Lib.itoa i))))] 1:=by
 refine zL {} 300 Tryz.func88 (fun c0 rdb mpb=>?_)
 (repeat' ((conv=>whnf);first|refine zA ?_|refine zO ?_|refine Ob.auto ?_|refine zD 300 ?_|(apply zB <;> intro hb <;> (try simp [-zd] at hb) <;> try (exfalso;omega))|refine Ob.intro ?_ ?_))
 ((conv=>whnf);refine zT 300 [0] (jqa ep n F i h0 h1 hn) qa ?_)
 (repeat' ((conv=>whnf);first|refine zA ?_|refine zO ?_|refine Ob.auto ?_|refine zD 300 ?_|(apply zB <;> intro hb <;> (try simp [-zd] at hb) <;> try (exfalso;omega))|refine Ob.intro ?_ ?_))
 exact ⟨Le.refl _,SoLe.refl _,trivial⟩
end Go.Proofs.YtikahnkkfkoglaaGreatDoor
end
section
namespace Go.Proofs.YtikahnkkfkoglaaGreatDoor
open List renaming getD_eq_getElem?_getD → zd
open Go Go.Sx Go.RowKit Go.St
set_option maxRecDepth 100000
theorem qur (n w:Int):Con Tryz.prog 30 [iv n,iv w] (iv (trim n w)):=by
 have hw:(wid w:Int)=min (max w 1) 16:=by unfold wid;omega
 have hwp:=qgl w
 have hp:=qgm (wid w) hwp.2
 refine zK {} 300 Tryz.func30 (fun c0 rdb=>?_)
 repeat' ((conv=>whnf);first|(apply zB <;> intro hb <;> (try simp at hb) <;> try (exfalso;omega)))
 all_goals
  (conv=>whnf);refine qjv (fun _=>rfl) 300 1 (fun i:Nat=>⟨[(0,iv n),(1,iv (wid w)),(5,iv (2 ^ i)),(6,iv i)],[],0⟩)
   (fun i=>i≤wid w) (fun i=>wid w - i) 0 (by omega) ⟨⟨Le.refl _,Le.of_eq (congrArg iv (by omega)),Le.refl _,Le.refl _,trivial⟩,trivial⟩ (fun _=>rfl) (by kernel_rfl) ?_
  intro i hi
  have hpi:=qgm i (by omega)
  have hm1:=Int.tmod_lt_of_pos n (show 0<(2:Int) ^ i by omega)
  have hm2:=Int.lt_tmod_of_pos n (show 0<(2:Int) ^ i by omega)
  have hd:((2:Int) ^ i).tdiv 2=2 ^ i / 2:=Int.tdiv_eq_ediv_of_nonneg (by omega)
  have ht:=joy n w
  (repeat' ((conv=>whnf);first|refine Ob.auto ?_|(refine Ob.intro (by (exact ⟨by omega,qeg (by omega) (by omega)⟩)) ?_)|(apply zB <;> intro hb <;> (try simp at hb) <;> try (exfalso;omega))))
  ·(conv=>whnf);refine Exists.intro (i+1) ⟨by omega,⟨⟨Le.refl _,Le.refl _,Le.of_eq (congrArg iv (Int.pow_succ 2 i).symm),Le.refl _,trivial⟩,trivial⟩,by omega⟩
  all_goals
   obtain rfl:i=wid w:=by omega
   refine Le.of_eq (congrArg (AV.int _) ?_)
   rw [ht]
   (repeat' split) <;> omega
theorem jqb (w:Int):Con Tryz.prog 133 [iv w] (iv (wid w)):=by
 refine zK {} 300 Tryz.func133 (fun c0 rdb=>?_)
 repeat' ((conv=>whnf);first|refine Ob.auto ?_|fail)
 refine Le.of_eq (congrArg iv ?_)
 unfold wid
 show min (max w 1) 16=_
 omega
theorem qmb (n w:Int):Con Tryz.prog 107 [iv n,iv w] (iv (trim n w)):=by
 refine zK {} 300 Tryz.func107 (fun c0 rdb=>?_)
 have hw:=qgl w
 have hp:=qgm (wid w) hw.2
 have hq:=qgm (wid w - 1) (by omega)
 have hh:=qrh (wid w) hw.1
 have hs1:shlI .i64 1 (wid w)=2 ^ wid w:=by
  unfold shlI;rw [zz,Nat.min_eq_left (by show _≤64;omega),Int.one_mul]
 have hs2:shlI .i64 1 ((wid w:Int) - 1)=2 ^ (wid w - 1):=by
  unfold shlI;rw [show ((wid w:Int) - 1).toNat=wid w - 1 by omega,Nat.min_eq_left (by show _≤64;omega),Int.one_mul]
 have hbt:bitI .and .i64 n (shlI .i64 1 (wid w) - 1)=n % 2 ^ wid w:=by rw [hs1];exact mask _ hw.2 n
 have h1:=Int.emod_nonneg n (b:=2 ^ wid w) (by omega)
 have h2:=Int.emod_lt_of_pos n (b:=2 ^ wid w) (by omega)
 (repeat' ((conv=>whnf);first|refine Ob.auto ?_|(refine Ob.intro (by (first|exact ⟨by omega,qeg (by omega) (by omega)⟩|exact qeg (by omega) (by omega))) ?_)|refine zC 300 (jqb _) ?_|(apply zB <;> intro hb <;> (try simp [-zd] at hb) <;> try (exfalso;omega))))
 all_goals
  refine Le.of_eq (congrArg (AV.int _) ?_)
  unfold trim
  split <;> omega
theorem jci (b:Bool):Con Tryz.prog 116 [.bool b] (iv (if b then 1 else 0)):=by
 refine zK {} 300 Tryz.func116 (fun c0 rdb=>?_)
 repeat' ((conv=>whnf);first|refine Ob.auto ?_|(refine Br.intro (fun hb=>?_) (fun hb=>?_)))
 all_goals subst hb;exact Le.refl _
theorem jcj (n w:Int):Con Tryz.prog 76 [iv n,iv w] (.bool (trim n w == n)):=by
 refine zK {} 300 Tryz.func76 (fun c0 rdb=>?_)
 (repeat' ((conv=>whnf);first|refine Ob.auto ?_|refine zC 300 (qmb _ _) ?_|fail))
 exact Le.refl _
theorem do_con (op a b:Int) (h:-32768≤a∧a≤32768) (h':-32768≤b∧b≤32768):Con Tryz.prog 54 [iv op,iv a,iv b,iv 8] (iv (doF op a b)):=by
 have hm:=jbv h h'
 refine zK {} 300 Tryz.func54 (fun c0 rdb=>?_)
 (repeat' ((conv=>whnf);first|refine Ob.auto ?_|refine zC 300 (qur _ _) ?_|(apply zB <;> intro hb <;> (try simp [-zd] at hb) <;> try (exfalso;omega))))
 ·refine Le.of_eq (congrArg (AV.int _) ?_)
  simp only [doF];rw [zb (by assumption)]
 ·refine Le.of_eq (congrArg (AV.int _) ?_)
  simp only [doF];rw [za (by assumption),zb (by assumption)]
 ·refine Le.of_eq (congrArg (AV.int _) ?_)
  simp only [doF];rw [za (by assumption),za (by assumption),zb (by assumption)]
 ·refine Le.of_eq (congrArg (AV.int _) ?_)
  simp only [doF];rw [za (by assumption),za (by assumption),za (by assumption),zb (by assumption)]
 all_goals
  (conv=>whnf);refine qjv (fun _=>rfl) 300 1 (fun q:Nat=>⟨[(0,iv op),(1,iv a),(2,iv b),(3,iv 8),(10,iv b.natAbs),(11,iv q),(12,iv (a.natAbs - q * b.natAbs))],[],0⟩)
   (fun q=>q * b.natAbs≤a.natAbs∧q≤32768) (fun q=>a.natAbs - q * b.natAbs) 0 (by omega) ⟨⟨Le.refl _,Le.refl _,Le.refl _,Le.refl _,Le.of_eq (congrArg iv (by omega)),Le.refl _,Le.of_eq (congrArg iv (by omega)),trivial⟩,trivial⟩ (fun _=>rfl) (by kernel_rfl) ?_
  intro q hq
  have hbp:1≤b.natAbs:=by omega
  have hqb:((q * b.natAbs:Nat):Int)=(q:Int) * (b.natAbs:Int):=by push_cast;rfl
  (repeat' ((conv=>whnf);first|refine Ob.auto ?_|refine zC 300 (qur _ _) ?_|(apply zB <;> intro hb <;> (try simp [-zd] at hb) <;> try (exfalso;omega))))
  ·have hs:(q+1) * b.natAbs=q * b.natAbs+b.natAbs:=zar ..
   have hs':((q+1:Nat):Int) * (b.natAbs:Int)=(q:Int) * b.natAbs+b.natAbs:=by push_cast;rw [Int.add_mul,Int.one_mul]
   have hqn:q+1≤(q+1) * b.natAbs:=Nat.le_mul_of_pos_right _ hbp
   (conv=>whnf);refine Exists.intro (q+1) ⟨⟨by omega,by omega⟩,⟨⟨Le.refl _,Le.refl _,Le.refl _,Le.refl _,Le.refl _,Le.refl _,Le.of_eq (congrArg iv (by omega)),trivial⟩,trivial⟩,by omega⟩
  all_goals
   have hdv:=jpb a b q (by omega) (by omega) (by omega)
   refine Le.of_eq (congrArg (AV.int _) ?_)
   simp only [doF];rw [za (by assumption),za (by assumption),za (by assumption),za (by assumption)]
   first
    | (rw [zb (by assumption),hdv.1];congr 1;(repeat' split) <;> omega)
    | (rw [za (by assumption),hdv.2];congr 1;(repeat' split) <;> omega)
theorem jqc (op a b:Int) (h:-32768≤a∧a≤32768) (h':-32768≤b∧b≤32768):Con Tryz.prog 117 [iv op,iv a,iv b] (jbu op a b):=by
 have hm:=jbv h h'
 have hd:=joz a b h
 refine zK {} 300 Tryz.func117 (fun c0 rdb=>?_)
 (repeat' ((conv=>whnf);first|refine Ob.auto ?_|(refine Ob.intro (by (first|exact qeg (by omega) (by omega)|exact ⟨by assumption,qeg (by omega) (by omega)⟩)) ?_)|refine zC 300 (qmb _ _) ?_|refine zC 300 (jci _) ?_|(apply zB <;> intro hb <;> (try simp [-zd] at hb) <;> try (exfalso;omega))))
 all_goals
  refine Le.of_eq ?_
  simp [jbu,qkg,qlr, *]
end Go.Proofs.YtikahnkkfkoglaaGreatDoor
end
section
namespace Go.Proofs.YtikahnkkfkoglaaGreatDoor
open Go Go.Sx Go.RowKit Go.St
set_option maxRecDepth 100000
set_option maxHeartbeats 2000000



end Go.Proofs.YtikahnkkfkoglaaGreatDoor
end
