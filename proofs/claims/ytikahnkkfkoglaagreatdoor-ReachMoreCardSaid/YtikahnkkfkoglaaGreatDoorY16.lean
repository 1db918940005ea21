/- Some texts of the library, one behind the other. -/
import Derived.Test.YtikahnkkfkoglaaGreatDoorY15
import Derived.Test.YtikahnkkfkoglaaGreatDoorY12
import Derived.Test.YtikahnkkfkoglaaGreatDoorY13
import Derived.Test.YtikahnkkfkoglaaGreatDoorY11
import Derived.Test.YtikahnkkfkoglaaGreatDoorProg
import Derived.KernelRfl
import Derived.Test.YtikahnkkfkoglaaGreatDoorY14
set_option linter.unusedSimpArgs false
set_option linter.unusedVariables false
section
namespace Go.Proofs.YtikahnkkfkoglaaGreatDoor
open List renaming getD_eq_getElem?_getD → zd
open Go Go.Sx Go.RowKit
set_option maxRecDepth 100000
set_option maxHeartbeats 4000000
def digF (l:List UInt8):Nat→List AV:=fun i=>[.int .u8 (((l.getD i 0).toNat:Nat):Int)]
theorem jbf (ep n:Nat) (F:Nat→List AV) (u:Nat) (hu:u<18446744073709551616) (hn:n+20≤140737488355328) :
  Trip Tryz.prog 134 [.own 0 0 ep n,.int .u64 u,.int .i64 10] [.row [] 5 1 ep n F] (.own 0 0 ep (n+(Lib.decDigits u).length)) [(0,.row [] 5 1 ep (n+(Lib.decDigits u).length) (appF n F (Lib.decDigits u).length (digF (Lib.decDigits u))))] 1:=by
 have hlen:0<(Lib.decDigits u).length:=by
  rw [Lib.decDigits_length]
  by_cases h10:u<10
  ·rw [Lib.nDigits_small h10];omega
  ·rw [Lib.nDigits_big h10];omega
 refine jnf Tryz.func134 rfl (by kernel_rfl) [.int .u64 u,.int .i64 10] [.int .u64 u,.int .i64 10] (fun rd mp vs h=>?_) hlen (digF (Lib.decDigits u)) (Lib.byteCells (Lib.decDigits u)) (by rw [Lib.byteCells_length]) (fun k _=>rfl) (fun k j x hk hx=>?_) (fun w sv xs hown ht=>?_)
 ·obtain ⟨h1,h2⟩:=h
  have h3:vs.toList.length=2:=by rw [Array.length_toList,h1];rfl
  obtain ⟨x,y,hv⟩:∃ x y,vs=#[x,y]:=by
   rcases hv:vs.toList with _|⟨x,_|⟨y,_|⟨z,l⟩⟩⟩ <;> rw [hv] at h3 <;> simp at h3
   exact ⟨x,y,by apply Array.ext';simpa using hv⟩
  subst hv
  have a1:=h2 0 _ x rfl rfl
  have a2:=h2 1 _ y rfl rfl
  cases a1
  cases a2
  rfl
 ·have hj:j=0:=by
   have:=(List.getElem?_eq_some_iff.1 hx).1
   simp [digF] at this;exact this
  subst hj
  simp only [digF,zbb,Option.some.injEq] at hx
  subst hx
  refine ⟨_,?_,rfl,.int _ _ _⟩
  simp [Lib.byteCells,zh,ze hk,zd]
 ·by_cases h100:u<100
  ·exact AnySb.appendUint_small Tryz.laysM288 n u h100 sv xs w hown hn
  ·exact AnySb.appendUint_big Tryz.laysM288 n u (by omega) hu sv xs w hown hn (fun w' h' hb=>Any.internal_strconv_numDigits Tryz.laysM284 u (by omega) hu w' (TabIs.on h' hb)) (jnh (g:=0) (by kernel_rfl) (ht (_,_) (by unfold tbs;exact List.mem_singleton.2 rfl)))
theorem jni (ep n:Nat) (F:Nat→List AV) (i:Int) (h0:-9223372036854775808≤i) (h1:i≤9223372036854775807) (hn:n+21≤140737488355328) :
  Trip Tryz.prog 122 [.own 0 0 ep n,.int .i64 i,.int .i64 10] [.row [] 5 1 ep n F] (.own 0 0 ep (n+(Lib.itoa i).length)) [(0,.row [] 5 1 ep (n+(Lib.itoa i).length) (appF n F (Lib.itoa i).length (digF (Lib.itoa i))))] 1:=by
 refine zL {wraps:=[3,4,5,6,7,8,9,10,11,12,13,14,15,16]} 300 Tryz.func122 (fun c0 rdb mpb=>?_)
 (repeat' ((conv=>whnf);first|refine zA ?_|refine zO ?_|refine Ob.auto ?_|refine zD 300 ?_|(apply zB <;> intro hb <;> (try simp [-zd] at hb) <;> try (exfalso;omega))|refine Ob.intro ?_ ?_))
 ·exact ⟨⟨rfl,rfl⟩,by omega,show (n+1) * 1≤140737488355328 by omega⟩
 ·have hw:IntKind.u64.wrap (0 - IntKind.u64.wrap i)=((i.natAbs:Nat):Int):=by rw [IntKind.wrap_u64,IntKind.wrap_u64];omega
  ((conv=>whnf);refine qig (fun _=>rfl) 300 [0] (jbf ep (n+1) (appF n F 1 (chop 1 [.int .u8 45])) i.natAbs (by omega) (by omega)) (by kernel_rfl) ⟨Le.refl _,Le.of_eq (congrArg (AV.int _) hw),Le.refl _,trivial⟩ qa (by exact qb rfl) (by exact qb rfl) (by kernel_rfl) ?_)
  (repeat' ((conv=>whnf);first|refine zA ?_|refine zO ?_|refine Ob.auto ?_|refine zD 300 ?_|(apply zB <;> intro hb <;> (try simp [-zd] at hb) <;> try (exfalso;omega))|refine Ob.intro ?_ ?_))
  have hi:Lib.itoa i=45::Lib.decDigits i.natAbs:=by unfold Lib.itoa;rw [zb (by omega)]
  have hl:n+1+(Lib.decDigits i.natAbs).length=n+(Lib.itoa i).length:=by rw [hi,xk];omega
  refine ⟨Le.of_eq (congrArg (AV.own 0 0 ep) hl),⟨⟨rfl,rfl,rfl⟩,rfl,hl,fun k hk=>LeL.of_eq ?_⟩,trivial⟩
  have hk:k<n+1+(Lib.decDigits i.natAbs).length:=hk
  rw [hi]
  show appF (n+1) (appF n F 1 (chop 1 [.int .u8 45])) (Lib.decDigits i.natAbs).length (digF (Lib.decDigits i.natAbs)) k=appF n F (45::Lib.decDigits i.natAbs).length (digF (45::Lib.decDigits i.natAbs)) k
  unfold appF
  by_cases h1:k<n
  ·rw [zb (by omega),zb h1,zb h1]
  ·by_cases h2:k<n+1
   ·rw [zb h2,za h1,zb h2,za h1,zb (by simp;omega),show k - n=0 by omega]
    rfl
   ·rw [za h2,zb hk,za h1,zb (by simp;omega),show k - n=(k - (n+1))+1 by omega]
    rfl
 ·have hw:IntKind.u64.wrap i=((i.toNat:Nat):Int):=by rw [IntKind.wrap_u64];omega
  have hi:Lib.itoa i=Lib.decDigits i.toNat:=by unfold Lib.itoa;rw [za (by omega)]
  rw [hi]
  ((conv=>whnf);refine qig (fun _=>rfl) 300 [0] (jbf ep n F i.toNat (by omega) (by omega)) (by kernel_rfl) ⟨Le.refl _,Le.of_eq (congrArg (AV.int _) hw),Le.refl _,trivial⟩ qa (by exact qb rfl) (by exact qb rfl) (by kernel_rfl) ?_)
  (repeat' ((conv=>whnf);first|refine zA ?_|refine zO ?_|refine Ob.auto ?_|refine zD 300 ?_|(apply zB <;> intro hb <;> (try simp [-zd] at hb) <;> try (exfalso;omega))|refine Ob.intro ?_ ?_))
  exact ⟨Le.refl _,SoLe.refl _,trivial⟩
theorem qum (ep n:Nat) (F:Nat→List AV) (i:Int) (h0:-9223372036854775808≤i) (h1:i≤9223372036854775807) (hn:n+21≤140737488355328) :
  Trip Tryz.prog 88 [.own 0 0 ep n,.int .i64 i,.int .i64 10] [.row [] 5 1 ep n F] (.own 0 0 ep (n+(Lib.itoa i).length)) [(0,.row [] 5 1 ep (n+(Lib.itoa i).length) (appF n F (Lib.itoa i).length (digF (Lib.itoa i))))] 1:=by
 refine zL {} 300 Tryz.func88 (fun c0 rdb mpb=>?_)
 (repeat' ((conv=>whnf);first|refine zA ?_|refine zO ?_|refine Ob.auto ?_|refine zD 300 ?_|(apply zB <;> intro hb <;> (try simp [-zd] at hb) <;> try (exfalso;omega))|refine Ob.intro ?_ ?_))
 ((conv=>whnf);refine zT 300 [0] (jni ep n F i h0 h1 hn) qa ?_)
 (repeat' ((conv=>whnf);first|refine zA ?_|refine zO ?_|refine Ob.auto ?_|refine zD 300 ?_|(apply zB <;> intro hb <;> (try simp [-zd] at hb) <;> try (exfalso;omega))|refine Ob.intro ?_ ?_))
 exact ⟨Le.refl _,SoLe.refl _,trivial⟩
end Go.Proofs.YtikahnkkfkoglaaGreatDoor
end
section
namespace Go.Proofs.YtikahnkkfkoglaaGreatDoor
open List renaming getD_eq_getElem?_getD → zd
open Go Go.Sx Go.RowKit Go.St
set_option maxRecDepth 100000
theorem qun (n w:Int):Con Tryz.prog 30 [iv n,iv w] (iv (trim n w)):=by
 have hw:(wid w:Int)=min (max w 1) 16:=by unfold wid;omega
 have hwp:=qgg w
 have hp:=qgh (wid w) hwp.2
 refine zK {} 300 Tryz.func30 (fun c0 rdb=>?_)
 repeat' ((conv=>whnf);first|(apply zB <;> intro hb <;> (try simp at hb) <;> try (exfalso;omega)))
 all_goals
  (conv=>whnf);refine qji (fun _=>rfl) 300 1 (fun i:Nat=>⟨[(0,iv n),(1,iv (wid w)),(5,iv (2 ^ i)),(6,iv i)],[],0⟩)
   (fun i=>i≤wid w) (fun i=>wid w - i) 0 (by omega) ⟨⟨Le.refl _,Le.of_eq (congrArg iv (by omega)),Le.refl _,Le.refl _,trivial⟩,trivial⟩ (fun _=>rfl) (by kernel_rfl) ?_
  intro i hi
  have hpi:=qgh i (by omega)
  have hm1:=Int.tmod_lt_of_pos n (show 0<(2:Int) ^ i by omega)
  have hm2:=Int.lt_tmod_of_pos n (show 0<(2:Int) ^ i by omega)
  have hd:((2:Int) ^ i).tdiv 2=2 ^ i / 2:=Int.tdiv_eq_ediv_of_nonneg (by omega)
  have ht:=jmp n w
  (repeat' ((conv=>whnf);first|refine Ob.auto ?_|(refine Ob.intro (by (exact ⟨by omega,qeh (by omega) (by omega)⟩)) ?_)|(apply zB <;> intro hb <;> (try simp at hb) <;> try (exfalso;omega))))
  ·(conv=>whnf);refine Exists.intro (i+1) ⟨by omega,⟨⟨Le.refl _,Le.refl _,Le.of_eq (congrArg iv (Int.pow_succ 2 i).symm),Le.refl _,trivial⟩,trivial⟩,by omega⟩
  all_goals
   obtain rfl:i=wid w:=by omega
   refine Le.of_eq (congrArg (AV.int _) ?_)
   rw [ht]
   (repeat' split) <;> omega
theorem jnj (w:Int):Con Tryz.prog 133 [iv w] (iv (wid w)):=by
 refine zK {} 300 Tryz.func133 (fun c0 rdb=>?_)
 repeat' ((conv=>whnf);first|refine Ob.auto ?_|fail)
 refine Le.of_eq (congrArg iv ?_)
 unfold wid
 show min (max w 1) 16=_
 omega
theorem qlj (n w:Int):Con Tryz.prog 107 [iv n,iv w] (iv (trim n w)):=by
 refine zK {} 300 Tryz.func107 (fun c0 rdb=>?_)
 have hw:=qgg w
 have hp:=qgh (wid w) hw.2
 have hq:=qgh (wid w - 1) (by omega)
 have hh:=qrc (wid w) hw.1
 have hs1:shlI .i64 1 (wid w)=2 ^ wid w:=by
  unfold shlI;rw [zy,Nat.min_eq_left (by show _≤64;omega),Int.one_mul]
 have hs2:shlI .i64 1 ((wid w:Int) - 1)=2 ^ (wid w - 1):=by
  unfold shlI;rw [show ((wid w:Int) - 1).toNat=wid w - 1 by omega,Nat.min_eq_left (by show _≤64;omega),Int.one_mul]
 have hbt:bitI .and .i64 n (shlI .i64 1 (wid w) - 1)=n % 2 ^ wid w:=by rw [hs1];exact mask _ hw.2 n
 have h1:=Int.emod_nonneg n (b:=2 ^ wid w) (by omega)
 have h2:=Int.emod_lt_of_pos n (b:=2 ^ wid w) (by omega)
 (repeat' ((conv=>whnf);first|refine Ob.auto ?_|(refine Ob.intro (by (first|exact ⟨by omega,qeh (by omega) (by omega)⟩|exact qeh (by omega) (by omega))) ?_)|refine zC 300 (jnj _) ?_|(apply zB <;> intro hb <;> (try simp [-zd] at hb) <;> try (exfalso;omega))))
 all_goals
  refine Le.of_eq (congrArg (AV.int _) ?_)
  unfold trim
  split <;> omega
theorem jbg (b:Bool):Con Tryz.prog 116 [.bool b] (iv (if b then 1 else 0)):=by
 refine zK {} 300 Tryz.func116 (fun c0 rdb=>?_)
 repeat' ((conv=>whnf);first|refine Ob.auto ?_|(refine Br.intro (fun hb=>?_) (fun hb=>?_)))
 all_goals subst hb;exact Le.refl _
theorem jbh (n w:Int):Con Tryz.prog 76 [iv n,iv w] (.bool (trim n w == n)):=by
 refine zK {} 300 Tryz.func76 (fun c0 rdb=>?_)
 (repeat' ((conv=>whnf);first|refine Ob.auto ?_|refine zC 300 (qlj _ _) ?_|fail))
 exact Le.refl _
theorem do_con (op a b:Int) (h:-32768≤a∧a≤32768) (h':-32768≤b∧b≤32768):Con Tryz.prog 54 [iv op,iv a,iv b,iv 8] (iv (doF op a b)):=by
 have hm:=jax h h'
 refine zK {} 300 Tryz.func54 (fun c0 rdb=>?_)
 (repeat' ((conv=>whnf);first|refine Ob.auto ?_|refine zC 300 (qun _ _) ?_|(apply zB <;> intro hb <;> (try simp [-zd] at hb) <;> try (exfalso;omega))))
 ·refine Le.of_eq (congrArg (AV.int _) ?_)
  simp only [doF];rw [zb (by assumption)]
 ·refine Le.of_eq (congrArg (AV.int _) ?_)
  simp only [doF];rw [za (by assumption),zb (by assumption)]
 ·refine Le.of_eq (congrArg (AV.int _) ?_)
  simp only [doF];rw [za (by assumption),za (by assumption),zb (by assumption)]
 ·refine Le.of_eq (congrArg (AV.int _) ?_)
  simp only [doF];rw [za (by assumption),za (by assumption),za (by assumption),zb (by assumption)]
 all_goals
  (conv=>whnf);refine qji (fun _=>rfl) 300 1 (fun q:Nat=>⟨[(0,iv op),(1,iv a),(2,iv b),(3,iv 8),(10,iv b.natAbs),(11,iv q),(12,iv (a.natAbs - q * b.natAbs))],[],0⟩)
   (fun q=>q * b.natAbs≤a.natAbs∧q≤32768) (fun q=>a.natAbs - q * b.natAbs) 0 (by omega) ⟨⟨Le.refl _,Le.refl _,Le.refl _,Le.refl _,Le.of_eq (congrArg iv (by omega)),Le.refl _,Le.of_eq (congrArg iv (by omega)),trivial⟩,trivial⟩ (fun _=>rfl) (by kernel_rfl) ?_
  intro q hq
  have hbp:1≤b.natAbs:=by omega
  have hqb:((q * b.natAbs:Nat):Int)=(q:Int) * (b.natAbs:Int):=by push_cast;rfl
  (repeat' ((conv=>whnf);first|refine Ob.auto ?_|refine zC 300 (qun _ _) ?_|(apply zB <;> intro hb <;> (try simp [-zd] at hb) <;> try (exfalso;omega))))
  ·have hs:(q+1) * b.natAbs=q * b.natAbs+b.natAbs:=zat ..
   have hs':((q+1:Nat):Int) * (b.natAbs:Int)=(q:Int) * b.natAbs+b.natAbs:=by push_cast;rw [Int.add_mul,Int.one_mul]
   have hqn:q+1≤(q+1) * b.natAbs:=Nat.le_mul_of_pos_right _ hbp
   (conv=>whnf);refine Exists.intro (q+1) ⟨⟨by omega,by omega⟩,⟨⟨Le.refl _,Le.refl _,Le.refl _,Le.refl _,Le.refl _,Le.refl _,Le.of_eq (congrArg iv (by omega)),trivial⟩,trivial⟩,by omega⟩
  all_goals
   have hdv:=jms a b q (by omega) (by omega) (by omega)
   refine Le.of_eq (congrArg (AV.int _) ?_)
   simp only [doF];rw [za (by assumption),za (by assumption),za (by assumption),za (by assumption)]
   first
    | (rw [zb (by assumption),hdv.1];congr 1;(repeat' split) <;> omega)
    | (rw [za (by assumption),hdv.2];congr 1;(repeat' split) <;> omega)
theorem jnk (op a b:Int) (h:-32768≤a∧a≤32768) (h':-32768≤b∧b≤32768):Con Tryz.prog 117 [iv op,iv a,iv b] (jaw op a b):=by
 have hm:=jax h h'
 have hd:=jmq a b h
 refine zK {} 300 Tryz.func117 (fun c0 rdb=>?_)
 (repeat' ((conv=>whnf);first|refine Ob.auto ?_|(refine Ob.intro (by (first|exact qeh (by omega) (by omega)|exact ⟨by assumption,qeh (by omega) (by omega)⟩)) ?_)|refine zC 300 (qlj _ _) ?_|refine zC 300 (jbg _) ?_|(apply zB <;> intro hb <;> (try simp [-zd] at hb) <;> try (exfalso;omega))))
 all_goals
  refine Le.of_eq ?_
  simp [jaw,qjt,qlh, *]
end Go.Proofs.YtikahnkkfkoglaaGreatDoor
end
section
namespace Go.Proofs.YtikahnkkfkoglaaGreatDoor
open Go Go.Sx Go.RowKit Go.St
set_option maxRecDepth 100000
set_option maxHeartbeats 2000000



end Go.Proofs.YtikahnkkfkoglaaGreatDoor
end
section
namespace Go.Proofs.YtikahnkkfkoglaaGreatDoor
open List renaming getD_eq_getElem?_getD → zd
open Go Go.Sx Go.RowKit Go.St
set_option maxRecDepth 100000
set_option maxHeartbeats 2000000
theorem jnl (x:Int) (c:Ch):Con Tryz.prog 77 [iv x,.rptr c.cells] (.bool (!(trim x c.width == x))):=by
 refine zK {} 300 Tryz.func77 (fun c0 rdb=>?_)
 (repeat' ((conv=>whnf);first|refine Ob.auto ?_|refine zC 300 (jbh _ _) ?_|fail))
 exact Le.refl _
theorem jnm (l:List Int) (c:Ch) (hl:l.length≤1000000):Con Tryz.prog 108 [ints l,.fn 77 [.rptr c.cells]] (iv (idx (fun x=>!(trim x c.width == x)) l)):=by
 refine zK {} 300 Tryz.func108 (fun c0 rdb=>?_)
 ((conv=>whnf);refine qo (fun _=>rfl) 300 1 (fun i:Nat=>[(8,iv i)]) (fun _=>[]) (fun i=>i≤l.length∧∀ j,j<i→(!(trim (l.getD j 0) c.width == l.getD j 0))=false) (fun i=>l.length - i) (0) (⟨by omega,fun j hj=>absurd hj (zj j)⟩) qa qa (fun _=>rfl) (by kernel_rfl) ?_;(conv=>whnf))
 intro i hi
 (repeat' ((conv=>whnf);first|refine Ob.auto ?_|refine zC 300 (jnl _ c) ?_|(apply zB <;> intro hb <;> (try simp [-zd] at hb) <;> try (exfalso;omega))))
 ·refine Le.of_eq (congrArg (AV.int _) ?_)
  exact (qhg _ l 0 i (by omega) (by simp [-zd,hb]) hi.2).symm
 ·((conv=>whnf);refine ⟨i+1,⟨by omega,qbe hi.2 (by simp [-zd,hb])⟩,⟨qa,qa⟩,⟨qa,qa⟩,?_⟩;(first|omega|(dsimp only;omega)|skip))
 ·refine Le.of_eq (congrArg (AV.int _) ?_)
  exact (qhh _ l 0 (fun j hj=>hi.2 j (by omega))).symm
theorem jnn {α:Type} (q:α→Bool) (l:List α):decide (0≤Go.St.idx q l)=l.any q:=by
 unfold Go.St.idx
 cases h:l.findIdx? q with
 | none=>
  rw [List.findIdx?_eq_none_iff] at h
  have:l.any q=false:=by rw [xj];intro h';rw [List.any_eq_true] at h';obtain ⟨x,hx,hq⟩:=h';rw [h x hx] at hq;cases hq
  rw [this];rfl
 | some i=>
  rw [zao] at h
  obtain ⟨h1,h2,_⟩:=h
  have:l.any q=true:=by rw [List.any_eq_true];exact ⟨_,xt h1,h2⟩
  rw [this];exact xl (by simp)
theorem jno (l:List Int) (c:Ch) (hl:l.length≤1000000):Con Tryz.prog 78 [ints l,.fn 77 [.rptr c.cells]] (.bool (l.any fun x=>!(trim x c.width == x))):=by
 refine zK {} 300 Tryz.func78 (fun c0 rdb=>?_)
 (repeat' ((conv=>whnf);first|refine Ob.auto ?_|refine zC 300 (jnm l c hl) ?_|fail))
 refine Le.of_eq (congrArg AV.bool ?_)
 exact jnn _ l
theorem qab (m:Md) (s:Stt) (hs:SSz s):Con Tryz.prog 45 [m.av,s.av] (.bool (fitsB m s)):=by
 have ha:=hs.a
 have hv:=hs.v
 have hc:=hs.c
 refine zK {} 600 Tryz.func45 (fun c0 rdb=>?_)
 (repeat' ((conv=>whnf);first|refine Ob.auto ?_|(apply zB <;> intro hb <;> (try simp [-zd] at hb) <;> try (exfalso;omega))))
 ·refine Le.of_eq (congrArg AV.bool ?_)
  exact (jbb (by unfold qnn;omega)).symm
 have h0:s.at_.length=m.procs.length∧s.vars.length=m.vars.length∧s.chans.length=m.chans.length:=by omega
 clear hb
 ((conv=>whnf);refine qo (fun _=>rfl) 600 1 (fun i:Nat=>[(41,iv i)]) (fun _=>[]) (fun i=>i≤s.at_.length∧∀ j,j<i→qjv m s j) (fun i=>s.at_.length - i) (0) (⟨by omega,fun j hj=>absurd hj (zj j)⟩) qa qa (fun _=>rfl) (by kernel_rfl) ?_;(conv=>whnf))
 intro i hi
 (repeat' ((conv=>whnf);first|refine Ob.auto ?_|(apply zB <;> intro hb <;> (try simp [-zd] at hb) <;> try (exfalso;omega))))
 ·refine Le.of_eq (congrArg AV.bool ?_)
  exact (jmv i (by omega) (by omega)).symm
 ·((conv=>whnf);refine ⟨i+1,⟨by omega,qbe hi.2 hb⟩,⟨qa,qa⟩,⟨qa,qa⟩,?_⟩;(first|omega|(dsimp only;omega)|skip))
 obtain rfl:i=s.at_.length:=by omega
 have hA:=hi.2
 clear hi hb
 ((conv=>whnf);refine qo (fun _=>rfl) 600 2 (fun i:Nat=>[(62,iv i)]) (fun _=>[]) (fun i=>i≤s.vars.length∧∀ j,j<i→qjw m s j) (fun i=>s.vars.length - i) (0) (⟨by omega,fun j hj=>absurd hj (zj j)⟩) qa qa (fun _=>rfl) (by kernel_rfl) ?_;(conv=>whnf))
 intro i hi
 (repeat' ((conv=>whnf);first|refine Ob.auto ?_|refine zC 600 (jbh _ _) ?_|(apply zB <;> intro hb <;> (try simp [-zd] at hb) <;> try (exfalso;omega))))
 ·refine Le.of_eq (congrArg AV.bool ?_)
  exact (jmw i (by omega) hb).symm
 ·((conv=>whnf);refine ⟨i+1,⟨by omega,qbe hi.2 hb⟩,⟨qa,qa⟩,⟨qa,qa⟩,?_⟩;(first|omega|(dsimp only;omega)|skip))
 obtain rfl:i=s.vars.length:=by omega
 have hV:=hi.2
 clear hi hb
 ((conv=>whnf);refine qo (fun _=>rfl) 600 3 (fun i:Nat=>[(80,iv i)]) (fun _=>[]) (fun i=>i≤s.chans.length∧∀ j,j<i→qim m s j∧∀ k,k<(s.chans.getD j []).length→qjx m s j k) (fun i=>s.chans.length - i) (0) (⟨by omega,fun j hj=>absurd hj (zj j)⟩) qa qa (fun _=>rfl) (by kernel_rfl) ?_;(conv=>whnf))
 intro i hi
 have hlc:i<s.chans.length→_:=fun h=>hs.l _ (qm s.chans i [] h)
 (repeat' ((conv=>whnf);first|refine Ob.auto ?_|(refine qw (fun _=>rfl) 600 (fun hg=>jno (s.chans.getD i []) (m.chans.getD i ch0) (hlc (by omega))) (fun hg=>qc) (fun hg=>(by (repeat' (first|exact trivial|exact Le.refl _|exact Le.cnd hg|(refine And.intro ?_ ?_))) <;> fail)) (by rfl) (by kernel_rfl) ?_)|(apply zB <;> intro hb <;> (try simp [-zd] at hb) <;> try (exfalso;omega))))
 ·refine Le.of_eq (congrArg AV.bool ?_)
  rcases hb with hb|⟨x,hx,hb⟩
  ·exact (jmx i (by omega) (by unfold qim;omega)).symm
  ·obtain ⟨k,hk,hx⟩:=List.mem_iff_getElem.1 hx
   refine (jmy i k (by omega) hk ?_).symm
   have:(s.chans.getD i []).getD k 0=x:=by rw [zd,ze hk];exact hx
   unfold qjx
   rw [this];exact hb
 ·((conv=>whnf);refine ⟨i+1,⟨by omega,qbe hi.2 ⟨by unfold qim;omega,fun k hk=>hb.2 _ (qm _ k 0 hk)⟩⟩,⟨qa,qa⟩,⟨qa,qa⟩,?_⟩;(first|omega|(dsimp only;omega)|skip))
 ·refine Le.of_eq (congrArg AV.bool ?_)
  by_cases hh:-1≤s.holder∧s.holder<m.procs.length
  ·rw [(qao m s).2 ⟨⟨h0.1,h0.2.1,h0.2.2,hh⟩,hA,hV,fun j hj=>hi.2 j (by omega)⟩]
   simp [hh]
  ·rw [jbb (m:=m) (s:=s) (by unfold qnn;omega)]
   simp;omega
end Go.Proofs.YtikahnkkfkoglaaGreatDoor
end
