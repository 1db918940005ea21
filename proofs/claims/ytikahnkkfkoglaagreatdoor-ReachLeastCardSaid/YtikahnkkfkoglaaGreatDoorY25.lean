/- Some texts of the library, one behind the other. -/
import Derived.Test.YtikahnkkfkoglaaGreatDoorY24
import Derived.Test.YtikahnkkfkoglaaGreatDoorY22
import Derived.Test.YtikahnkkfkoglaaGreatDoorY23
import Derived.Test.YtikahnkkfkoglaaGreatDoorY21
import Derived.Test.YtikahnkkfkoglaaGreatDoorProg
import Derived.KernelRfl
set_option linter.unusedSimpArgs false
set_option linter.unusedVariables false
section
namespace Go.Proofs.YtikahnkkfkoglaaGreatDoor
open List renaming getD_eq_getElem?_getD → zd
open Go Go.Sx Go.RowKit
set_option maxRecDepth 100000
set_option maxHeartbeats 4000000
def digF (l:List UInt8):Nat→List AV:=fun i=>[.int .u8 (((l.getD i 0).toNat:Nat):Int)]
theorem jcj (ep n:Nat) (F:Nat→List AV) (u:Nat) (hu:u<18446744073709551616) (hn:n+20≤140737488355328) :
  Trip Tryz.prog 134 [.own 0 0 ep n,.int .u64 u,.int .i64 10] [.row [] 5 1 ep n F] (.own 0 0 ep (n+(Lib.decDigits u).length)) [(0,.row [] 5 1 ep (n+(Lib.decDigits u).length) (appF n F (Lib.decDigits u).length (digF (Lib.decDigits u))))] 1:=by
 have hlen:0<(Lib.decDigits u).length:=by
  rw [Lib.decDigits_length]
  by_cases h10:u<10
  ·rw [Lib.nDigits_small h10];omega
  ·rw [Lib.nDigits_big h10];omega
 refine jpg Tryz.func134 rfl (by kernel_rfl) [.int .u64 u,.int .i64 10] [.int .u64 u,.int .i64 10] (fun rd mp vs h=>?_) hlen (digF (Lib.decDigits u)) (Lib.byteCells (Lib.decDigits u)) (by rw [Lib.byteCells_length]) (fun k _=>rfl) (fun k j x hk hx=>?_) (fun w sv xs hown ht=>?_)
 ·obtain ⟨h1,h2⟩:=h
  have h3:vs.toList.length=2:=by rw [Array.length_toList,h1];rfl
  obtain ⟨x,y,hv⟩:∃ x y,vs=#[x,y]:=by
   rcases hv:vs.toList with _|⟨x,_|⟨y,_|⟨z,l⟩⟩⟩ <;> rw [hv] at h3 <;> simp at h3
   exact ⟨x,y,by apply Array.ext';simpa using hv⟩
  subst hv
  have a1:=h2 0 _ x rfl rfl
  have a2:=h2 1 _ y rfl rfl
  cases a1
  cases a2
  rfl
 ·have hj:j=0:=by
   have:=(List.getElem?_eq_some_iff.1 hx).1
   simp [digF] at this;exact this
  subst hj
  simp only [digF,zbf,Option.some.injEq] at hx
  subst hx
  refine ⟨_,?_,rfl,.int _ _ _⟩
  simp [Lib.byteCells,zi,ze hk,zd]
 ·by_cases h100:u<100
  ·exact AnySb.appendUint_small Tryz.laysM288 n u h100 sv xs w hown hn
  ·exact AnySb.appendUint_big Tryz.laysM288 n u (by omega) hu sv xs w hown hn (fun w' h' hb=>Any.internal_strconv_numDigits Tryz.laysM284 u (by omega) hu w' (TabIs.on h' hb)) (jpi (g:=0) (by kernel_rfl) (ht (_,_) (by unfold tbs;exact List.mem_singleton.2 rfl)))
theorem jpj (ep n:Nat) (F:Nat→List AV) (i:Int) (h0:-9223372036854775808≤i) (h1:i≤9223372036854775807) (hn:n+21≤140737488355328) :
  Trip Tryz.prog 122 [.own 0 0 ep n,.int .i64 i,.int .i64 10] [.row [] 5 1 ep n F] (.own 0 0 ep (n+(Lib.itoa i).length)) [(0,.row [] 5 1 ep (n+(Lib.itoa i).length) (appF n F (Lib.itoa i).length (digF (Lib.itoa i))))] 1:=by
 refine zL {wraps:=[3,4,5,6,7,8,9,10,11,12,13,14,15,16]} 300 Tryz.func122 (fun c0 rdb mpb=>?_)
 (repeat' ((conv=>whnf);first|refine zA ?_|refine zO ?_|refine Ob.auto ?_|refine zD 300 ?_|(apply zB <;> intro hb <;> (try simp [-zd] at hb) <;> try (exfalso;omega))|refine Ob.intro ?_ ?_))
 ·exact ⟨⟨rfl,rfl⟩,by omega,show (n+1) * 1≤140737488355328 by omega⟩
 ·have hw:IntKind.u64.wrap (0 - IntKind.u64.wrap i)=((i.natAbs:Nat):Int):=by rw [IntKind.wrap_u64,IntKind.wrap_u64];omega
  ((conv=>whnf);refine qgq (fun _=>rfl) 300 [0] (jcj ep (n+1) (appF n F 1 (chop 1 [.int .u8 45])) i.natAbs (by omega) (by omega)) (by kernel_rfl) ⟨Le.refl _,Le.of_eq (congrArg (AV.int _) hw),Le.refl _,trivial⟩ qa (by exact qb rfl) (by exact qb rfl) (by kernel_rfl) ?_)
  (repeat' ((conv=>whnf);first|refine zA ?_|refine zO ?_|refine Ob.auto ?_|refine zD 300 ?_|(apply zB <;> intro hb <;> (try simp [-zd] at hb) <;> try (exfalso;omega))|refine Ob.intro ?_ ?_))
  have hi:Lib.itoa i=45::Lib.decDigits i.natAbs:=by unfold Lib.itoa;rw [zb (by omega)]
  have hl:n+1+(Lib.decDigits i.natAbs).length=n+(Lib.itoa i).length:=by rw [hi,xg];omega
  refine ⟨Le.of_eq (congrArg (AV.own 0 0 ep) hl),⟨⟨rfl,rfl,rfl⟩,rfl,hl,fun k hk=>LeL.of_eq ?_⟩,trivial⟩
  have hk:k<n+1+(Lib.decDigits i.natAbs).length:=hk
  rw [hi]
  show appF (n+1) (appF n F 1 (chop 1 [.int .u8 45])) (Lib.decDigits i.natAbs).length (digF (Lib.decDigits i.natAbs)) k=appF n F (45::Lib.decDigits i.natAbs).length (digF (45::Lib.decDigits i.natAbs)) k
  unfold appF
  by_cases h1:k<n
  ·rw [zb (by omega),zb h1,zb h1]
  ·by_cases h2:k<n+1
   ·rw [zb h2,za h1,zb h2,za h1,zb (by simp;omega),show k - n=0 by omega]
    rfl
   ·rw [za h2,zb hk,za h1,zb (by simp;omega),show k - n=(k - (n+1))+1 by omega]
    rfl
 ·have hw:IntKind.u64.wrap i=((i.toNat:Nat):Int):=by rw [IntKind.wrap_u64];omega
  have hi:Lib.itoa i=Lib.decDigits i.toNat:=by unfold Lib.itoa;rw [za (by omega)]
  rw [hi]
  ((conv=>whnf);refine qgq (fun _=>rfl) 300 [0] (jcj ep n F i.toNat (by omega) (by omega)) (by kernel_rfl) ⟨Le.refl _,Le.of_eq (congrArg (AV.int _) hw),Le.refl _,trivial⟩ qa (by exact qb rfl) (by exact qb rfl) (by kernel_rfl) ?_)
  (repeat' ((conv=>whnf);first|refine zA ?_|refine zO ?_|refine Ob.auto ?_|refine zD 300 ?_|(apply zB <;> intro hb <;> (try simp [-zd] at hb) <;> try (exfalso;omega))|refine Ob.intro ?_ ?_))
  exact ⟨Le.refl _,SoLe.refl _,trivial⟩
theorem qvz (ep n:Nat) (F:Nat→List AV) (i:Int) (h0:-9223372036854775808≤i) (h1:i≤9223372036854775807) (hn:n+21≤140737488355328) :
  Trip Tryz.prog 88 [.own 0 0 ep n,.int .i64 i,.int .i64 10] [.row [] 5 1 ep n F] (.own 0 0 ep (n+(Lib.itoa i).length)) [(0,.row [] 5 1 ep (n+(Lib.itoa i).length) (appF n F (Lib.itoa i).length (digF (Lib.itoa i))))] 1:=by
 refine zL {} 300 Tryz.func88 (fun c0 rdb mpb=>?_)
 (repeat' ((conv=>whnf);first|refine zA ?_|refine zO ?_|refine Ob.auto ?_|refine zD 300 ?_|(apply zB <;> intro hb <;> (try simp [-zd] at hb) <;> try (exfalso;omega))|refine Ob.intro ?_ ?_))
 ((conv=>whnf);refine zT 300 [0] (jpj ep n F i h0 h1 hn) qa ?_)
 (repeat' ((conv=>whnf);first|refine zA ?_|refine zO ?_|refine Ob.auto ?_|refine zD 300 ?_|(apply zB <;> intro hb <;> (try simp [-zd] at hb) <;> try (exfalso;omega))|refine Ob.intro ?_ ?_))
 exact ⟨Le.refl _,SoLe.refl _,trivial⟩
end Go.Proofs.YtikahnkkfkoglaaGreatDoor
end
section
namespace Go.Proofs.YtikahnkkfkoglaaGreatDoor
open List renaming getD_eq_getElem?_getD → zd
open Go Go.Sx Go.RowKit Go.St
set_option maxRecDepth 100000
theorem qje (n w:Int):Con Tryz.prog 30 [iv n,iv w] (iv (trim n w)):=by
 have hw:(wid w:Int)=min (max w 1) 16:=by unfold wid;omega
 have hwp:=qgx w
 have hp:=qgy (wid w) hwp.2
 refine zK {} 300 Tryz.func30 (fun c0 rdb=>?_)
 repeat' ((conv=>whnf);first|(apply zB <;> intro hb <;> (try simp at hb) <;> try (exfalso;omega)))
 all_goals
  (conv=>whnf);refine qke (fun _=>rfl) 300 1 (fun i:Nat=>⟨[(0,iv n),(1,iv (wid w)),(5,iv (2 ^ i)),(6,iv i)],[],0⟩)
   (fun i=>i≤wid w) (fun i=>wid w - i) 0 (by omega) ⟨⟨Le.refl _,Le.of_eq (congrArg iv (by omega)),Le.refl _,Le.refl _,trivial⟩,trivial⟩ (fun _=>rfl) (by kernel_rfl) ?_
  intro i hi
  have hpi:=qgy i (by omega)
  have hm1:=Int.tmod_lt_of_pos n (show 0<(2:Int) ^ i by omega)
  have hm2:=Int.lt_tmod_of_pos n (show 0<(2:Int) ^ i by omega)
  have hd:((2:Int) ^ i).tdiv 2=2 ^ i / 2:=Int.tdiv_eq_ediv_of_nonneg (by omega)
  have ht:=joo n w
  (repeat' ((conv=>whnf);first|refine Ob.auto ?_|(refine Ob.intro (by (exact ⟨by omega,qeb (by omega) (by omega)⟩)) ?_)|(apply zB <;> intro hb <;> (try simp at hb) <;> try (exfalso;omega))))
  ·(conv=>whnf);refine Exists.intro (i+1) ⟨by omega,⟨⟨Le.refl _,Le.refl _,Le.of_eq (congrArg iv (Int.pow_succ 2 i).symm),Le.refl _,trivial⟩,trivial⟩,by omega⟩
  all_goals
   obtain rfl:i=wid w:=by omega
   refine Le.of_eq (congrArg (AV.int _) ?_)
   rw [ht]
   (repeat' split) <;> omega
theorem jpk (w:Int):Con Tryz.prog 133 [iv w] (iv (wid w)):=by
 refine zK {} 300 Tryz.func133 (fun c0 rdb=>?_)
 repeat' ((conv=>whnf);first|refine Ob.auto ?_|fail)
 refine Le.of_eq (congrArg iv ?_)
 unfold wid
 show min (max w 1) 16=_
 omega
theorem qmf (n w:Int):Con Tryz.prog 107 [iv n,iv w] (iv (trim n w)):=by
 refine zK {} 300 Tryz.func107 (fun c0 rdb=>?_)
 have hw:=qgx w
 have hp:=qgy (wid w) hw.2
 have hq:=qgy (wid w - 1) (by omega)
 have hh:=qsl (wid w) hw.1
 have hs1:shlI .i64 1 (wid w)=2 ^ wid w:=by
  unfold shlI;rw [zr,Nat.min_eq_left (by show _≤64;omega),Int.one_mul]
 have hs2:shlI .i64 1 ((wid w:Int) - 1)=2 ^ (wid w - 1):=by
  unfold shlI;rw [show ((wid w:Int) - 1).toNat=wid w - 1 by omega,Nat.min_eq_left (by show _≤64;omega),Int.one_mul]
 have hbt:bitI .and .i64 n (shlI .i64 1 (wid w) - 1)=n % 2 ^ wid w:=by rw [hs1];exact mask _ hw.2 n
 have h1:=Int.emod_nonneg n (b:=2 ^ wid w) (by omega)
 have h2:=Int.emod_lt_of_pos n (b:=2 ^ wid w) (by omega)
 (repeat' ((conv=>whnf);first|refine Ob.auto ?_|(refine Ob.intro (by (first|exact ⟨by omega,qeb (by omega) (by omega)⟩|exact qeb (by omega) (by omega))) ?_)|refine zC 300 (jpk _) ?_|(apply zB <;> intro hb <;> (try simp [-zd] at hb) <;> try (exfalso;omega))))
 all_goals
  refine Le.of_eq (congrArg (AV.int _) ?_)
  unfold trim
  split <;> omega
theorem jck (b:Bool):Con Tryz.prog 53 [.bool b] (iv (if b then 1 else 0)):=by
 refine zK {} 300 Tryz.func53 (fun c0 rdb=>?_)
 repeat' ((conv=>whnf);first|refine Ob.auto ?_|(refine Br.intro (fun hb=>?_) (fun hb=>?_)))
 all_goals subst hb;exact Le.refl _
theorem jcl (b:Bool):Con Tryz.prog 116 [.bool b] (iv (if b then 1 else 0)):=by
 refine zK {} 300 Tryz.func116 (fun c0 rdb=>?_)
 repeat' ((conv=>whnf);first|refine Ob.auto ?_|(refine Br.intro (fun hb=>?_) (fun hb=>?_)))
 all_goals subst hb;exact Le.refl _
theorem jcm (n w:Int):Con Tryz.prog 76 [iv n,iv w] (.bool (trim n w == n)):=by
 refine zK {} 300 Tryz.func76 (fun c0 rdb=>?_)
 (repeat' ((conv=>whnf);first|refine Ob.auto ?_|refine zC 300 (qmf _ _) ?_|fail))
 exact Le.refl _
theorem jpl (op a b:Int) (h:-32768≤a∧a≤32768) (h':-32768≤b∧b≤32768):Con Tryz.prog 54 [iv op,iv a,iv b,iv 8] (iv (doF op a b)):=by
 have hm:=jcd h h'
 refine zK {} 300 Tryz.func54 (fun c0 rdb=>?_)
 (repeat' ((conv=>whnf);first|refine Ob.auto ?_|refine zC 300 (qje _ _) ?_|(apply zB <;> intro hb <;> (try simp [-zd] at hb) <;> try (exfalso;omega))))
 ·refine Le.of_eq (congrArg (AV.int _) ?_)
  simp only [doF];rw [zb (by assumption)]
 ·refine Le.of_eq (congrArg (AV.int _) ?_)
  simp only [doF];rw [za (by assumption),zb (by assumption)]
 ·refine Le.of_eq (congrArg (AV.int _) ?_)
  simp only [doF];rw [za (by assumption),za (by assumption),zb (by assumption)]
 ·refine Le.of_eq (congrArg (AV.int _) ?_)
  simp only [doF];rw [za (by assumption),za (by assumption),za (by assumption),zb (by assumption)]
 all_goals
  (conv=>whnf);refine qke (fun _=>rfl) 300 1 (fun q:Nat=>⟨[(0,iv op),(1,iv a),(2,iv b),(3,iv 8),(10,iv b.natAbs),(11,iv q),(12,iv (a.natAbs - q * b.natAbs))],[],0⟩)
   (fun q=>q * b.natAbs≤a.natAbs∧q≤32768) (fun q=>a.natAbs - q * b.natAbs) 0 (by omega) ⟨⟨Le.refl _,Le.refl _,Le.refl _,Le.refl _,Le.of_eq (congrArg iv (by omega)),Le.refl _,Le.of_eq (congrArg iv (by omega)),trivial⟩,trivial⟩ (fun _=>rfl) (by kernel_rfl) ?_
  intro q hq
  have hbp:1≤b.natAbs:=by omega
  have hqb:((q * b.natAbs:Nat):Int)=(q:Int) * (b.natAbs:Int):=by push_cast;rfl
  (repeat' ((conv=>whnf);first|refine Ob.auto ?_|refine zC 300 (qje _ _) ?_|(apply zB <;> intro hb <;> (try simp [-zd] at hb) <;> try (exfalso;omega))))
  ·have hs:(q+1) * b.natAbs=q * b.natAbs+b.natAbs:=zav ..
   have hs':((q+1:Nat):Int) * (b.natAbs:Int)=(q:Int) * b.natAbs+b.natAbs:=by push_cast;rw [Int.add_mul,Int.one_mul]
   have hqn:q+1≤(q+1) * b.natAbs:=Nat.le_mul_of_pos_right _ hbp
   (conv=>whnf);refine Exists.intro (q+1) ⟨⟨by omega,by omega⟩,⟨⟨Le.refl _,Le.refl _,Le.refl _,Le.refl _,Le.refl _,Le.refl _,Le.of_eq (congrArg iv (by omega)),trivial⟩,trivial⟩,by omega⟩
  all_goals
   have hdv:=jor a b q (by omega) (by omega) (by omega)
   refine Le.of_eq (congrArg (AV.int _) ?_)
   simp only [doF];rw [za (by assumption),za (by assumption),za (by assumption),za (by assumption)]
   first
    | (rw [zb (by assumption),hdv.1];congr 1;(repeat' split) <;> omega)
    | (rw [za (by assumption),hdv.2];congr 1;(repeat' split) <;> omega)
theorem jpm (op a b:Int) (h:-32768≤a∧a≤32768) (h':-32768≤b∧b≤32768):Con Tryz.prog 117 [iv op,iv a,iv b] (jcc op a b):=by
 have hm:=jcd h h'
 have hd:=jop a b h
 refine zK {} 300 Tryz.func117 (fun c0 rdb=>?_)
 (repeat' ((conv=>whnf);first|refine Ob.auto ?_|(refine Ob.intro (by (first|exact qeb (by omega) (by omega)|exact ⟨by assumption,qeb (by omega) (by omega)⟩)) ?_)|refine zC 300 (qmf _ _) ?_|refine zC 300 (jcl _) ?_|(apply zB <;> intro hb <;> (try simp [-zd] at hb) <;> try (exfalso;omega))))
 all_goals
  refine Le.of_eq ?_
  simp [jcc,qfa,qkq, *]
set_option maxHeartbeats 2000000
theorem jpn (m:Md) (hm:MOk m) (p:Int) (s:List UInt8):Con Tryz.prog 52 [m.av,iv p,.str s] (iv (varN m p s)):=by
 have hg:=hm.glob
 have hsz:=hm.sz
 refine zK {} 300 Tryz.func52 (fun c0 rdb=>?_)
 (repeat' ((conv=>whnf);first|refine Ob.auto ?_|(apply zB <;> intro hb <;> (try simp [-zd] at hb) <;> try (exfalso;omega))))
 ·have hp:0≤p∧p<m.procs.length:=by assumption
  have hq:=hm.procs _ (qk m.procs p.toNat pr0 (by omega))
  have hq2:=hm.psz _ (qk m.procs p.toNat pr0 (by omega))
  have hv:varN m p s=_:=zb hp
  ((conv=>whnf);refine qiy (fun _=>rfl) 300 1 [2,3,7] [0,1] (fun i:Nat=>[(8,iv i)]) (fun _=>[]) (fun i=>i≤(m.procs.getD p.toNat pr0).names.length∧∀ j,j<i→((m.procs.getD p.toNat pr0).names.getD j [] == s)=false) (fun i=>(m.procs.getD p.toNat pr0).names.length - i) (0) (⟨by omega,fun j hj=>absurd hj (zh j)⟩) qa qa (fun _=>rfl) (by kernel_rfl) ?_;(conv=>whnf))
  intro i hi
  (repeat' ((conv=>whnf);first|refine Ob.auto ?_|(apply zB <;> intro hb <;> (try simp [-zd] at hb) <;> try (exfalso;omega))))
  ·refine Le.of_eq (congrArg (AV.int _) ?_)
   have:=qfb (· == s) (m.procs.getD p.toNat pr0).names [] i (by assumption) (beq_iff_eq.2 (by assumption)) hi.2
   rw [hv,this,za (by omega)]
  ·((conv=>whnf);refine ⟨i+1,⟨by omega,qaf hi.2 (beq_eq_false_iff_ne.2 (by assumption))⟩,⟨qa,qa⟩,⟨qa,qa⟩,?_⟩;(first|omega|(dsimp only;omega)|skip))
  ·refine Le.of_eq (congrArg (AV.int _) ?_)
   have:=qfc (· == s) (m.procs.getD p.toNat pr0).names [] (fun j hj=>hi.2 j (by omega))
   rw [hv,this,zb (by omega)]
 ·have hp:¬ (0≤p∧p<m.procs.length):=by omega
  have hv:varN m p s=_:=za hp
  have htk:∀ j:Nat,(j:Int)<m.globals→(m.vars.take m.globals.toNat).getD j vr0=m.vars.getD j vr0:=fun j hj=>by
   rw [zd,xz,zb (by omega),← zd]
  have hl:(m.vars.take m.globals.toNat).length=m.globals.toNat:=by rw [xc];omega
  ((conv=>whnf);refine qiy (fun _=>rfl) 300 1 [2,3] [0] (fun i:Nat=>[(9,iv i)]) (fun _=>[]) (fun i=>(i:Int)≤m.globals∧∀ j,j<i→((m.vars.getD j vr0).name == s)=false) (fun i=>m.globals.toNat - i) (0) (⟨by omega,fun j hj=>absurd hj (zh j)⟩) qa qa (fun _=>rfl) (by kernel_rfl) ?_;(conv=>whnf))
  intro i hi
  (repeat' ((conv=>whnf);first|refine Ob.auto ?_|(apply zB <;> intro hb <;> (try simp [-zd] at hb) <;> try (exfalso;omega))))
  ·refine Le.of_eq (congrArg (AV.int _) ?_)
   have:=qfb (fun v:Vr=>v.name == s) (m.vars.take m.globals.toNat) vr0 i (by omega) (by rw [htk i (by omega)];exact beq_iff_eq.2 (by assumption)) (fun j hj=>by rw [htk j (by omega)];exact hi.2 j hj)
   rw [hv,this]
  ·((conv=>whnf);refine ⟨i+1,⟨by omega,qaf hi.2 (beq_eq_false_iff_ne.2 (by assumption))⟩,⟨qa,qa⟩,⟨qa,qa⟩,?_⟩;(first|omega|(dsimp only;omega)|skip))
  ·refine Le.of_eq (congrArg (AV.int _) ?_)
   have:=qfc (fun v:Vr=>v.name == s) (m.vars.take m.globals.toNat) vr0 (fun j hj=>by rw [htk j (by omega)];exact hi.2 j (by omega))
   rw [hv,this]
theorem qhx (m:Md) (hm:MOk m) (p:Int) (s:Stt) (hs:SOk m s):∀ (n:Nat) (k:Int),0≤k→k<m.tree.length→m.tree.length - k.toNat≤n→Con Tryz.prog 29 [m.av,iv p,s.av,iv k] (qkq (valN m p s n k)):=by
  intro n
  induction n with
  | zero=>intro k h0 h1 h2;omega
  | succ n ih=>
    intro k h0 h1 h2
    have hnd:=hm.tree k.toNat (by omega)
    have h17:=hnd.num
    have h18:=hnd.word
    have h20:=hnd.un
    have h22:=hnd.bin
    have hsz:=hm.sz
    have hvb:=jce hm hs p n
    have hvl:=hs.vl
    have hcl:=hs.cl
    refine zK {} 600 Tryz.func29 (fun c0 rdb=>?_)
    (repeat' ((conv=>whnf);first|refine Ob.auto ?_|refine zC 600 (qje _ _) ?_|(apply zB <;> intro hb <;> (try simp [-zd] at hb) <;> try (exfalso;omega))))
    · refine Le.of_eq ?_
      rw [valN,zb (by assumption)];rfl
    · have hvn:=qvv hm p ((m.tree.getD k.toNat nd0).words.getD 0 [])
      ((conv=>whnf);refine qkg (fun _=>rfl) (by kernel_rfl) 600 [iv (varN m p ((m.tree.getD k.toNat nd0).words.getD 0 []))] (by kernel_rfl) ?_)
      (repeat' ((conv=>whnf);first|refine Ob.auto ?_|(refine Ob.intro (by (first|exact ⟨by omega,by omega⟩|exact ⟨_,jpn m hm p _,by rfl,LeL.refl _⟩)) ?_)|(apply zB <;> intro hb <;> (try simp [-zd] at hb) <;> try (exfalso;omega))))
      · refine Le.of_eq ?_
        rw [valN,za (by assumption),zb (by assumption),zb (by assumption)];rfl
      · refine Le.of_eq ?_
        rw [valN,za (by assumption),zb (by assumption),za (by omega)];rfl
    · ((conv=>whnf);refine qiy (fun _=>rfl) 600 1 [4,6,10] [0,1,2] (fun i:Nat=>[(12,iv i)]) (fun _=>[]) (fun i=>i≤m.chans.length∧∀ j,j<i→((m.chans.getD j ch0).name == (m.tree.getD k.toNat nd0).words.getD 0 [])=false) (fun i=>m.chans.length - i) (0) (⟨by omega,fun j hj=>absurd hj (zh j)⟩) qa qa (fun _=>rfl) (by kernel_rfl) ?_;(conv=>whnf))
      intro i hi
      (repeat' ((conv=>whnf);first|refine Ob.auto ?_|(refine zN 600 ?_)|(apply zB <;> intro hb <;> (try simp [-zd] at hb) <;> try (exfalso;omega))))
      · refine Le.of_eq ?_
        have:=qfb (fun c:Ch=>c.name == (m.tree.getD k.toNat nd0).words.getD 0 []) m.chans ch0 i (by omega) (beq_iff_eq.2 (by assumption)) hi.2
        rw [valN,za (by assumption),za (by assumption),zb (by assumption),this,za (by omega)];rfl
      · ((conv=>whnf);refine ⟨i+1,⟨by omega,qaf hi.2 (beq_eq_false_iff_ne.2 (by assumption))⟩,⟨qa,qa⟩,⟨qa,qa⟩,?_⟩;(first|omega|(dsimp only;omega)|skip))
      · refine Le.of_eq ?_
        have:=qfc (fun c:Ch=>c.name == (m.tree.getD k.toNat nd0).words.getD 0 []) m.chans ch0 (fun j hj=>hi.2 j (by omega))
        rw [valN,za (by assumption),za (by assumption),zb (by assumption),this,zb (by omega)];rfl
    · have hk:=h20 (.inl (by assumption))
      have hb0:=hvb ((m.tree.getD k.toNat nd0).kids.getD 0 0)
      ((conv=>whnf);refine qkg (fun _=>rfl) (by kernel_rfl) 600 [.tup [iv (valN m p s n ((m.tree.getD k.toNat nd0).kids.getD 0 0)).1,.bool (valN m p s n ((m.tree.getD k.toNat nd0).kids.getD 0 0)).2]] (by kernel_rfl) ?_)
      (repeat' ((conv=>whnf);first|refine Ob.auto ?_|(refine Ob.intro (by (first|exact ⟨by omega,by omega⟩|exact ⟨_,ih _ (by omega) (by omega) (by omega),by rfl,LeL.refl _⟩)) ?_)|refine zC 600 (qje _ _) ?_|fail))
      refine Le.of_eq ?_
      rw [valN,za (by assumption),za (by assumption),za (by assumption),zb (by assumption)];rfl
    · have hk:=h20 (.inr (by assumption))
      have hb0:=hvb ((m.tree.getD k.toNat nd0).kids.getD 0 0)
      have hv:=qvw m p s n k (by assumption)
      ((conv=>whnf);refine qkg (fun _=>rfl) (by kernel_rfl) 600 [.tup [iv (valN m p s n ((m.tree.getD k.toNat nd0).kids.getD 0 0)).1,.bool (valN m p s n ((m.tree.getD k.toNat nd0).kids.getD 0 0)).2]] (by kernel_rfl) ?_)
      (repeat' ((conv=>whnf);first|refine Ob.auto ?_|(refine Ob.intro (by (first|exact ⟨by omega,by omega⟩|exact ⟨_,ih _ (by omega) (by omega) (by omega),by rfl,LeL.refl _⟩)) ?_)|refine zC 600 (jck _) ?_|fail))
      refine Le.of_eq ?_
      rw [hv];rfl
    · have hk:=h22 (by assumption)
      have hb0:=hvb ((m.tree.getD k.toNat nd0).kids.getD 0 0)
      have hb1:=hvb ((m.tree.getD k.toNat nd0).kids.getD 1 0)
      have hv:=qvx m p s n k (by assumption)
      have hnt:(m.tree.getD k.toNat nd0).nums.getD (Int.toNat 0) 0=(m.tree.getD k.toNat nd0).nums.getD 0 0:=rfl
      rw [hv]
      generalize hA:valN m p s n ((m.tree.getD k.toNat nd0).kids.getD 0 0)=A at hb0 hv ⊢
      generalize hB:valN m p s n ((m.tree.getD k.toNat nd0).kids.getD 1 0)=B at hb1 hv ⊢
      have ihA:=ih ((m.tree.getD k.toNat nd0).kids.getD 0 0) (by omega) (by omega) (by omega)
      have ihB:=ih ((m.tree.getD k.toNat nd0).kids.getD 1 0) (by omega) (by omega) (by omega)
      rw [hA] at ihA
      rw [hB] at ihB
      obtain ⟨a,x⟩:=A
      obtain ⟨b,y⟩:=B
      simp only at hb0 hb1
      ((conv=>whnf);refine qkg (fun _=>rfl) (by kernel_rfl) 600 [.tup [iv a,.bool x]] (by kernel_rfl) ?_)
      (repeat' ((conv=>whnf);first|refine Ob.auto ?_|(refine Ob.intro (by (first|exact ⟨by omega,by omega⟩|exact ⟨_,ihA,by rfl,LeL.refl _⟩)) ?_)|fail))
      ((conv=>whnf);refine qkg (fun _=>rfl) (by kernel_rfl) 600 [.tup [iv b,.bool y]] (by kernel_rfl) ?_)
      (repeat' ((conv=>whnf);first|refine Ob.auto ?_|(refine Ob.intro (by (first|exact ⟨by omega,by omega⟩|exact ⟨_,ihB,by rfl,LeL.refl _⟩|exact qeb (by omega) (by omega))) ?_)|refine zC 600 (jck _) ?_|refine zC 600 (jpl _ _ _ (by omega) (by omega)) ?_|(apply zB <;> intro hb <;> (try simp [-zd] at hb) <;> try (exfalso;omega))))
      all_goals
        refine Le.of_eq ?_
        clear ih ihA ihB hm hs hnd h17 h18 h20 h22 hvb hA hB hv
        have hs8:=hk.2.2.2
        first
          | (rw [jou _ hs8 (by assumption)];rfl)
          | (rw [jov _ (And.left (by assumption))]
             first
               | (rw [jot _ _ _ hs8 (by omega) (by omega)];rfl)
               | (rw [‹(m.tree.getD k.toNat nd0).nums.getD 0 0=_›];rfl))
    · refine Le.of_eq ?_
      rw [valN,za (by assumption),za (by assumption),za (by assumption),za (by assumption),za (by assumption),za (by assumption)];rfl
end Go.Proofs.YtikahnkkfkoglaaGreatDoor
end
section
namespace Go.Proofs.YtikahnkkfkoglaaGreatDoor
open Go Go.Sx Go.RowKit Go.St
set_option maxRecDepth 100000
set_option maxHeartbeats 2000000

end Go.Proofs.YtikahnkkfkoglaaGreatDoor
end
section
namespace Go.Proofs.YtikahnkkfkoglaaGreatDoor
open List renaming getD_eq_getElem?_getD → zd
open Go Go.Sx Go.RowKit Go.St
set_option maxRecDepth 100000
set_option maxHeartbeats 2000000
theorem jpo (m:Md) (hm:MOk m) (s:Stt) (hs:SOk m s):Con Tryz.prog 32 [m.av,s.av] (.bool (qmd m s)):=by
 have hsz:=hm.sz
 have hsf:=hm.safe
 refine zK {} 300 Tryz.func32 (fun c0 rdb=>?_)
 (repeat' ((conv=>whnf);first|refine zO ?_|refine Ob.auto ?_|(refine zP 300 ?_)|(apply zB <;> intro hb <;> (try simp [-zd] at hb) <;> try (exfalso;omega))|refine Ob.intro ?_ ?_))
 ((conv=>whnf);refine qm (fun _=>rfl) 300 1 (fun i:Nat=>[(5,iv i)]) (fun _=>[]) (fun i=>i≤m.safe.length∧∀ j,j<i→qkr m s (m.safe.getD j 0)=true) (fun i=>m.safe.length - i) (0) (⟨by omega,fun j hj=>absurd hj (zh j)⟩) qa qa (fun _=>rfl) (by kernel_rfl) ?_;(conv=>whnf))
 intro i hi
 have hki:i<m.safe.length→_:=fun h=>hsf _ (qk m.safe i 0 h)
 (repeat' ((conv=>whnf);first|refine zO ?_|refine Ob.auto ?_|refine zC 300 (qhx m hm (-1) s hs m.tree.length (m.safe.getD i 0) (hki (by omega)).1 (hki (by omega)).2 (by omega)) ?_|refine zG 300 (fun hg=>qhx m hm (-1) s hs m.tree.length (m.safe.getD i 0) (hki (by omega)).1 (hki (by omega)).2 (by omega)) ?_|refine zX (qhx m hm (-1) s hs m.tree.length (m.safe.getD i 0) (hki (by omega)).1 (hki (by omega)).2 (by omega)) ?_|refine zY (fun hg=>qhx m hm (-1) s hs m.tree.length (m.safe.getD i 0) (hki (by omega)).1 (hki (by omega)).2 (by omega)) ?_|(refine qi (fun _=>rfl) 300 (qhx m hm (-1) s hs m.tree.length (m.safe.getD i 0) (hki (by omega)).1 (hki (by omega)).2 (by omega)) qc (by (repeat' (first|exact trivial|exact Le.refl _|(refine And.intro ?_ ?_))) <;> fail) (by rfl) (by kernel_rfl) ?_)|(refine qq (fun _=>rfl) 300 (fun hg=>qhx m hm (-1) s hs m.tree.length (m.safe.getD i 0) (hki (by omega)).1 (hki (by omega)).2 (by omega)) (fun hg=>qc) (fun hg=>(by (repeat' (first|exact trivial|exact Le.refl _|exact Le.cnd hg|(refine And.intro ?_ ?_))) <;> fail)) (by rfl) (by kernel_rfl) ?_)|(refine zP 300 ?_)|(apply zB <;> intro hb <;> (try simp [-zd] at hb) <;> try (exfalso;omega))|refine Ob.intro ?_ ?_))
 ·refine Le.of_eq (congrArg AV.bool ?_)
  refine (qop 0 (j:=i) (by omega) ?_).symm
  simp only [qkr,val]
  rcases hb with hb|hb <;> simp [-zd,hb]
 ·((conv=>whnf);refine ⟨i+1,⟨by omega,qaf hi.2 (by simp only [qkr,val];simp [-zd,hb])⟩,⟨qa,qa⟩,⟨qa,qa⟩,?_⟩;(first|omega|(dsimp only;omega)|skip))
 ·refine Le.of_eq (congrArg AV.bool ?_)
  exact (qoo 0 (fun j hj=>hi.2 j (by omega))).symm
end Go.Proofs.YtikahnkkfkoglaaGreatDoor
end
