/- Some texts of the library, one behind the other. -/
import Derived.Test.YtcfllgdfhfcicaaGreatDoorQ15
import Derived.Test.YtcfllgdfhfcicaaGreatDoorQ2
import Derived.Test.YtcfllgdfhfcicaaGreatDoorQMkP
import Derived.Test.YtcfllgdfhfcicaaGreatDoorQ3
import Derived.Test.YtcfllgdfhfcicaaGreatDoorQ1
import Derived.Test.YtcfllgdfhfcicaaGreatDoorProg
import Derived.KernelRfl
set_option linter.unusedSimpArgs false
set_option linter.unusedVariables false
section
namespace Go.Proofs.YtcfllgdfhfcicaaGreatDoor
open List renaming getD_eq_getElem?_getD → zd
open Go Go.Sx Go.RowKit Go.St
set_option maxRecDepth 100000
set_option maxHeartbeats 4000000
theorem qom (L:List (List UInt8)) (hL:L.length≤1000000) (s:List UInt8):Con Tryz.prog 141 [strs L,.str s] (.bool (inF L s)):=by
 refine zK {} 300 Tryz.func141 (fun c0 rdb=>?_)
 ((conv=>whnf);refine qo (fun _=>rfl) 300 1 (fun i:Nat=>[(5,iv i)]) (fun _=>[]) (fun i=>i≤L.length∧∀ j,j<i→(L.getD j [] == s)=false) (fun i=>L.length - i) (0) (⟨by omega,fun j hj=>absurd hj (zh j)⟩) qa qa (fun _=>rfl) (by kernel_rfl) ?_;(conv=>whnf))
 intro i hi
 (repeat' ((conv=>whnf);first|refine Ob.auto ?_|(apply zB <;> intro hb <;> (try simp [-zd] at hb) <;> try (exfalso;omega))))
 ·refine Le.of_eq (congrArg AV.bool ?_)
  exact (List.any_eq_true.2 ⟨L.getD i [],qe L i [] (by omega),by simpa using hb⟩).symm
 ·((conv=>whnf);refine ⟨i+1,⟨by omega,qan hi.2 (beq_eq_false_iff_ne.2 hb)⟩,⟨qa,qa⟩,⟨qa,qa⟩,?_⟩;(first|omega|(dsimp only;omega)|skip))
 ·refine Le.of_eq (congrArg AV.bool ?_)
  unfold inF
  rw [eq_comm,xt]
  intro h
  obtain ⟨x,hx,he⟩:=List.any_eq_true.1 h
  obtain ⟨j,hj,rfl⟩:=List.mem_iff_getElem.1 hx
  have:=hi.2 j (by omega)
  rw [zd,ze hj] at this
  simp only [zae] at this
  rw [this] at he;cases he
theorem qry (l:List Nd) (h0:1≤l.length) (hk:(l.getD 0 nd0).kids.length≤1000000) (a:Int):Con Tryz.prog 166 [js l,iv a] (iv (itemF l a)):=by
 refine zK {} 300 Tryz.func166 (fun c0 rdb=>?_)
 ((conv=>whnf);refine qo (fun _=>rfl) 300 1 (fun g:Nat × Int=>[(6,iv g.1),(5,iv g.2)]) (fun _=>[]) (fun g=>g.1≤(l.getD 0 nd0).kids.length∧itemF l a=qbb a ((l.getD 0 nd0).kids.drop g.1) g.2) (fun g=>(l.getD 0 nd0).kids.length - g.1) ((0,0)) (⟨by simp,rfl⟩) qa qa (fun _=>rfl) (by kernel_rfl) ?_;(conv=>whnf))
 rintro ⟨i,o⟩ ⟨hi,hs⟩
 simp only at hi hs
 (repeat' ((conv=>whnf);first|refine Ob.auto ?_|(apply zB <;> intro hb <;> (try simp [-zd] at hb) <;> try (exfalso;omega))))
 ·rw [qks _ i 0 (by omega),qbb,zb (by omega)] at hs
  ((conv=>whnf);refine ⟨(i+1,(l.getD 0 nd0).kids.getD i 0),⟨by simp only;omega,hs⟩,⟨qa,qa⟩,⟨qa,qa⟩,?_⟩;(first|omega|(dsimp only;omega)|skip))
 ·rw [qks _ i 0 (by omega),qbb,za (by omega)] at hs
  ((conv=>whnf);refine ⟨(i+1,o),⟨by simp only;omega,hs⟩,⟨qa,qa⟩,⟨qa,qa⟩,?_⟩;(first|omega|(dsimp only;omega)|skip))
 ·refine Le.of_eq (congrArg (AV.int _) ?_)
  obtain rfl:i=(l.getD 0 nd0).kids.length:=by omega
  rw [hs,List.drop_length,qbb]
theorem qwo (l:List Nd) (ht:Tree l) (a:Int) (h0:0≤a) (h1:a<l.length) (kind:Int) (hk:kind=1∨kind=2∨kind=3):Con Tryz.prog 140 [js l,iv a,iv kind] (strs (qdb l a kind)):=by
 have hlen:=ht.len
 have hk0:=(ht.kidsLen (j:=0) (by omega)).1
 refine zK {owns:=[(7,(9,1))]} 300 Tryz.func140 (fun c0 rdb=>?_)
 (repeat' ((conv=>whnf);first|refine zC 300 (qry l (by omega) (by omega) _) ?_|fail))
 ((conv=>whnf);refine qo (fun _=>rfl) 300 1 (fun g:Nat × List (List UInt8)=>[(9,iv g.1),(7,.own 0 0 0 g.2.length)]) (fun g=>[(0,.row [] 9 1 0 g.2.length (encL (fun s=>[.str s]) [] g.2))]) (fun g=>(g.1:Int)≤a∧g.2=qfi l (itemF l a) kind g.1) (fun g=>a.toNat - g.1) ((0,[])) (⟨by simp;omega,rfl⟩) qa ⟨qaz (fun k hk=>absurd hk (zh k)),trivial⟩ (fun _=>rfl) (by kernel_rfl) ?_;(conv=>whnf))
 rintro ⟨i,L⟩ ⟨hi,hL⟩
 simp only at hi hL
 have hle:=qol l (itemF l a) kind i
 have hln:i<l.length→LenOk (l.getD i nd0):=fun h=>ht.lens i h
 have hw:i<l.length→(l.getD i nd0).kind=kind→0<((l.getD i nd0).words.length:Int):=fun h e=>by have:=(hln h).w1;omega
 have hsu:=qrx l (itemF l a) kind i
 unfold qjg at hsu
 rw [← hL] at hle hsu
 have hin:=qom L (by omega) ((l.getD i nd0).words.getD 0 [])
 (repeat' ((conv=>whnf);first|refine Ob.auto ?_|(refine Ob.intro (by (exact ⟨by omega,by first|omega|exact hw (by omega) (by assumption)⟩)) ?_)|refine zC 300 (qry l (by omega) (by omega) _) ?_|refine zG 300 (fun hg=>qry l (by omega) (by omega) _) ?_|refine zE 300 (hin) ?_|(apply zB <;> intro hb <;> (try simp [-zd] at hb) <;> try (exfalso;omega))))
 ·((conv=>whnf);refine ⟨(i+1,L),⟨by simp only;omega,by rw [hsu,za hb]⟩,⟨qa,qa⟩,⟨qa,qa⟩,?_⟩;(first|omega|(dsimp only;omega)|skip))
 ·rename_i hkd hor
  ((conv=>whnf);refine ⟨(i+1,L++[qbx (l.getD i nd0)]),⟨by simp only;omega,by rw [hsu,zb hkd,zb (by simpa using hor),za (by unfold qbx;rw [hb];decide)]⟩,⟨qa,qa⟩,⟨qa,qa⟩,?_⟩;(first|omega|(dsimp only;omega)|skip))
 ·rename_i hkd hor
  ((conv=>whnf);refine ⟨(i+1,L),⟨by simp only;omega,by rw [hsu,zb hkd,zb (by simpa using hor),zb (by unfold qbx;exact hb)]⟩,⟨qa,qa⟩,⟨qa,qa⟩,?_⟩;(first|omega|(dsimp only;omega)|skip))
 ·rename_i hkd
  ((conv=>whnf);refine ⟨(i+1,L),⟨by simp only;omega,by rw [hsu,zb hkd,za (by simpa using hb)]⟩,⟨qa,qa⟩,⟨qa,qa⟩,?_⟩;(first|omega|(dsimp only;omega)|skip))
 ·refine Le.of_eq ?_
  rw [qdb,show a.toNat=i by omega,← hL];rfl
theorem jsj (l:List Nd) (ht:Tree l) (i:Nat) (h1:i<l.length):Con Tryz.prog 109 [js l,iv i] (.bool (badF l i)):=by
 have hlen:=ht.len
 have hln:=ht.lens i h1
 have hw1:=hln.w1
 have hw2:=hln.w2
 have n1:=qol l (itemF l i) 1 i
 have n2:=qol l (itemF l i) 2 i
 have n3:=qol l (itemF l i) 3 i
 have e:∀ k,qdb l i k=qfi l (itemF l i) k i:=fun k=>rfl
 rw [← e] at n1 n2 n3
 refine zK {} 600 Tryz.func109 (fun c0 rdb=>?_)
 (repeat' ((conv=>whnf);first|refine Ob.auto ?_|refine zC 600 (qwo l ht i (by omega) (by omega) 1 (by decide)) ?_|refine zC 600 (qwo l ht i (by omega) (by omega) 2 (by decide)) ?_|refine zC 600 (qwo l ht i (by omega) (by omega) 3 (by decide)) ?_|refine zC 600 (qom (qdb l i 1) (by omega) _) ?_|refine zC 600 (qom (qdb l i 2) (by omega) _) ?_|refine zG 600 (fun hg=>qom (qdb l i 2) (by omega) _) ?_|refine zG 600 (fun hg=>qom (qdb l i 3) (by omega) _) ?_|(apply zB <;> intro hb <;> (try simp [-zd] at hb) <;> try (exfalso;omega))))
 all_goals
  refine Le.of_eq (congrArg AV.bool ?_)
  rw [badF]
  ((repeat (first|rw [zb (by omega)]|rw [za (by omega)])) <;> rfl)
theorem jsk (l:List Nd) (ht:Tree l):Con Tryz.prog 76 [js l] (flt (qic l).1 (qic l).2):=by
 have hlen:=ht.len
 refine zK {} 300 Tryz.func76 (fun c0 rdb=>?_)
 ((conv=>whnf);refine qo (fun _=>rfl) 300 1 (fun i:Nat=>[(3,iv i)]) (fun _=>[]) (fun i=>i≤l.length∧∀ j,j<i→badF l j=false) (fun i=>l.length - i) (0) (⟨by omega,fun j hj=>absurd hj (zh j)⟩) qa qa (fun _=>rfl) (by kernel_rfl) ?_;(conv=>whnf))
 intro i hi
 have hr:∀ j,j<(List.range l.length).length→j<l.length:=fun j hj=>by simpa using hj
 (repeat' ((conv=>whnf);first|refine Ob.auto ?_|refine zC 300 (jsj l ht i (by omega)) ?_|(apply zB <;> intro hb <;> (try simp [-zd] at hb) <;> try (exfalso;omega))))
 ·have h1:i<l.length:=by omega
  have:=qdt (badF l) (List.range l.length) 0 i (by simpa using h1) (by rw [qhv _ _ _ (by omega)];exact hb) (fun j hj=>by rw [qhv _ _ _ (by omega)];exact hi.2 j hj)
  refine Le.of_eq ?_
  rw [qic,this,za (by omega)];rfl
 ·((conv=>whnf);refine ⟨i+1,⟨by omega,qan hi.2 hb⟩,⟨qa,qa⟩,⟨qa,qa⟩,?_⟩;(first|omega|(dsimp only;omega)|skip))
 ·have:=qev (badF l) (List.range l.length) 0 (fun j hj=>by have hj':=hr j hj;rw [qhv _ _ _ hj'];exact hi.2 j (by omega))
  refine Le.of_eq ?_
  rw [qic,this,zb (by omega)];rfl
theorem qji (n w:Int):Con Tryz.prog 57 [iv n,iv w] (iv (trim n w)):=by
 have hw:(wid w:Int)=min (max w 1) 16:=by unfold wid;omega
 have hwp:=qgu w
 have hp:=qgv (wid w) hwp.2
 refine zK {} 300 Tryz.func57 (fun c0 rdb=>?_)
 repeat' ((conv=>whnf);first|(apply zB <;> intro hb <;> (try simp at hb) <;> try (exfalso;omega)))
 all_goals
  (conv=>whnf);refine qjy (fun _=>rfl) 300 1 (fun i:Nat=>⟨[(0,iv n),(1,iv (wid w)),(5,iv (2 ^ i)),(6,iv i)],[],0⟩)
   (fun i=>i≤wid w) (fun i=>wid w - i) 0 (by omega) ⟨⟨Le.refl _,Le.of_eq (congrArg iv (by omega)),Le.refl _,Le.refl _,trivial⟩,trivial⟩ (fun _=>rfl) (by kernel_rfl) ?_
  intro i hi
  have hpi:=qgv i (by omega)
  have hm1:=Int.tmod_lt_of_pos n (show 0<(2:Int) ^ i by omega)
  have hm2:=Int.lt_tmod_of_pos n (show 0<(2:Int) ^ i by omega)
  have hd:((2:Int) ^ i).tdiv 2=2 ^ i / 2:=Int.tdiv_eq_ediv_of_nonneg (by omega)
  have ht:=jpa n w
  (repeat' ((conv=>whnf);first|refine Ob.auto ?_|(refine Ob.intro (by (exact ⟨by omega,qec (by omega) (by omega)⟩)) ?_)|(apply zB <;> intro hb <;> (try simp at hb) <;> try (exfalso;omega))))
  ·(conv=>whnf);refine Exists.intro (i+1) ⟨by omega,⟨⟨Le.refl _,Le.refl _,Le.of_eq (congrArg iv (Int.pow_succ 2 i).symm),Le.refl _,trivial⟩,trivial⟩,by omega⟩
  all_goals
   obtain rfl:i=wid w:=by omega
   refine Le.of_eq (congrArg (AV.int _) ?_)
   rw [ht]
   (repeat' split) <;> omega
theorem jsl (w:Int):Con Tryz.prog 171 [iv w] (iv (wid w)):=by
 refine zK {} 300 Tryz.func171 (fun c0 rdb=>?_)
 repeat' ((conv=>whnf);first|refine Ob.auto ?_|fail)
 refine Le.of_eq (congrArg iv ?_)
 unfold wid
 show min (max w 1) 16=_
 omega
theorem qmf (n w:Int):Con Tryz.prog 151 [iv n,iv w] (iv (trim n w)):=by
 refine zK {} 300 Tryz.func151 (fun c0 rdb=>?_)
 have hw:=qgu w
 have hp:=qgv (wid w) hw.2
 have hq:=qgv (wid w - 1) (by omega)
 have hh:=qrg (wid w) hw.1
 have hs1:shlI .i64 1 (wid w)=2 ^ wid w:=by
  unfold shlI;rw [zu,zbw (by show _≤64;omega),Int.one_mul]
 have hs2:shlI .i64 1 ((wid w:Int) - 1)=2 ^ (wid w - 1):=by
  unfold shlI;rw [show ((wid w:Int) - 1).toNat=wid w - 1 by omega,zbw (by show _≤64;omega),Int.one_mul]
 have hbt:bitI .and .i64 n (shlI .i64 1 (wid w) - 1)=n % 2 ^ wid w:=by rw [hs1];exact mask _ hw.2 n
 have h1:=Int.emod_nonneg n (b:=2 ^ wid w) (by omega)
 have h2:=Int.emod_lt_of_pos n (b:=2 ^ wid w) (by omega)
 (repeat' ((conv=>whnf);first|refine Ob.auto ?_|(refine Ob.intro (by (first|exact ⟨by omega,qec (by omega) (by omega)⟩|exact qec (by omega) (by omega))) ?_)|refine zC 300 (jsl _) ?_|(apply zB <;> intro hb <;> (try simp [-zd] at hb) <;> try (exfalso;omega))))
 all_goals
  refine Le.of_eq (congrArg (AV.int _) ?_)
  unfold trim
  split <;> omega
theorem jec (b:Bool):Con Tryz.prog 95 [.bool b] (iv (if b then 1 else 0)):=by
 refine zK {} 300 Tryz.func95 (fun c0 rdb=>?_)
 repeat' ((conv=>whnf);first|refine Ob.auto ?_|(refine Br.intro (fun hb=>?_) (fun hb=>?_)))
 all_goals subst hb;exact Le.refl _
theorem jed (b:Bool):Con Tryz.prog 185 [.bool b] (iv (if b then 1 else 0)):=by
 refine zK {} 300 Tryz.func185 (fun c0 rdb=>?_)
 repeat' ((conv=>whnf);first|refine Ob.auto ?_|(refine Br.intro (fun hb=>?_) (fun hb=>?_)))
 all_goals subst hb;exact Le.refl _
theorem jee (n w:Int):Con Tryz.prog 143 [iv n,iv w] (.bool (trim n w == n)):=by
 refine zK {} 300 Tryz.func143 (fun c0 rdb=>?_)
 (repeat' ((conv=>whnf);first|refine Ob.auto ?_|refine zC 300 (qmf _ _) ?_|fail))
 exact Le.refl _
theorem jsm (op a b:Int) (h:-32768≤a∧a≤32768) (h':-32768≤b∧b≤32768):Con Tryz.prog 96 [iv op,iv a,iv b,iv 8] (iv (doF op a b)):=by
 have hm:=jbr h h'
 refine zK {} 300 Tryz.func96 (fun c0 rdb=>?_)
 (repeat' ((conv=>whnf);first|refine Ob.auto ?_|refine zC 300 (qji _ _) ?_|(apply zB <;> intro hb <;> (try simp [-zd] at hb) <;> try (exfalso;omega))))
 ·refine Le.of_eq (congrArg (AV.int _) ?_)
  simp only [doF];rw [zb (by assumption)]
 ·refine Le.of_eq (congrArg (AV.int _) ?_)
  simp only [doF];rw [za (by assumption),zb (by assumption)]
 ·refine Le.of_eq (congrArg (AV.int _) ?_)
  simp only [doF];rw [za (by assumption),za (by assumption),zb (by assumption)]
 ·refine Le.of_eq (congrArg (AV.int _) ?_)
  simp only [doF];rw [za (by assumption),za (by assumption),za (by assumption),zb (by assumption)]
 all_goals
  (conv=>whnf);refine qjy (fun _=>rfl) 300 1 (fun q:Nat=>⟨[(0,iv op),(1,iv a),(2,iv b),(3,iv 8),(10,iv b.natAbs),(11,iv q),(12,iv (a.natAbs - q * b.natAbs))],[],0⟩)
   (fun q=>q * b.natAbs≤a.natAbs∧q≤32768) (fun q=>a.natAbs - q * b.natAbs) 0 (by omega) ⟨⟨Le.refl _,Le.refl _,Le.refl _,Le.refl _,Le.of_eq (congrArg iv (by omega)),Le.refl _,Le.of_eq (congrArg iv (by omega)),trivial⟩,trivial⟩ (fun _=>rfl) (by kernel_rfl) ?_
  intro q hq
  have hbp:1≤b.natAbs:=by omega
  have hqb:((q * b.natAbs:Nat):Int)=(q:Int) * (b.natAbs:Int):=by push_cast;rfl
  (repeat' ((conv=>whnf);first|refine Ob.auto ?_|refine zC 300 (qji _ _) ?_|(apply zB <;> intro hb <;> (try simp [-zd] at hb) <;> try (exfalso;omega))))
  ·have hs:(q+1) * b.natAbs=q * b.natAbs+b.natAbs:=zaz ..
   have hs':((q+1:Nat):Int) * (b.natAbs:Int)=(q:Int) * b.natAbs+b.natAbs:=by push_cast;rw [Int.add_mul,Int.one_mul]
   have hqn:q+1≤(q+1) * b.natAbs:=Nat.le_mul_of_pos_right _ hbp
   (conv=>whnf);refine Exists.intro (q+1) ⟨⟨by omega,by omega⟩,⟨⟨Le.refl _,Le.refl _,Le.refl _,Le.refl _,Le.refl _,Le.refl _,Le.of_eq (congrArg iv (by omega)),trivial⟩,trivial⟩,by omega⟩
  all_goals
   have hdv:=jpd a b q (by omega) (by omega) (by omega)
   refine Le.of_eq (congrArg (AV.int _) ?_)
   simp only [doF];rw [za (by assumption),za (by assumption),za (by assumption),za (by assumption)]
   first
    | (rw [zb (by assumption),hdv.1];congr 1;(repeat' split) <;> omega)
    | (rw [za (by assumption),hdv.2];congr 1;(repeat' split) <;> omega)
theorem jsn (op a b:Int) (h:-32768≤a∧a≤32768) (h':-32768≤b∧b≤32768):Con Tryz.prog 186 [iv op,iv a,iv b] (jbq op a b):=by
 have hm:=jbr h h'
 have hd:=jpb a b h
 refine zK {} 300 Tryz.func186 (fun c0 rdb=>?_)
 (repeat' ((conv=>whnf);first|refine Ob.auto ?_|(refine Ob.intro (by (first|exact qec (by omega) (by omega)|exact ⟨by assumption,qec (by omega) (by omega)⟩)) ?_)|refine zC 300 (qmf _ _) ?_|refine zC 300 (jed _) ?_|(apply zB <;> intro hb <;> (try simp [-zd] at hb) <;> try (exfalso;omega))))
 all_goals
  refine Le.of_eq ?_
  simp [jbq,qfd,qkj, *]
theorem jso {α:Type} {q:α→Bool} {L:List α} (d:α) {i:Nat} (hi:i<L.length) (h:q (L.getD i d)=true):L.any q=true:=List.any_eq_true.2 ⟨_,qe L i d hi,h⟩
theorem jsp {α:Type} {q:α→Bool} {L:List α} (d:α) (h:∀ j,j<L.length→q (L.getD j d)=false):L.any q=false:=by
 rw [xt]
 intro h'
 obtain ⟨x,hx,he⟩:=List.any_eq_true.1 h'
 obtain ⟨j,hj,rfl⟩:=List.mem_iff_getElem.1 hx
 have:=h j hj
 rw [zd,ze hj] at this
 simp only [zae] at this
 rw [this] at he;cases he
theorem jsq {q:Nat→Bool} {n i:Nat} (hi:i<n) (h:q i=true):(List.range n).any q=true:=List.any_eq_true.2 ⟨i,List.mem_range.2 hi,h⟩
theorem jsr {q:Nat→Bool} {n:Nat} (h:∀ j,j<n→q j=false):(List.range n).any q=false:=by
 rw [xt]
 intro h'
 obtain ⟨x,hx,he⟩:=List.any_eq_true.1 h'
 rw [h x (List.mem_range.1 hx)] at he;cases he
theorem jef {l:List Nd} (ht:Tree l) (a:Int) (h0:0≤a) (h1:a<l.length):0≤itemF l a∧itemF l a<l.length:=by
 have hlen:=ht.len
 by_cases h:a=0
 ·subst h
  have:itemF l 0=0:=by
   unfold itemF
   exact qrt 0 _ 0 fun k hk=>(ht.kids 0 (by omega) k hk).1
  omega
 ·have h2:=ht.item (j:=a.toNat) (by omega) (by omega)
  rw [show ((a.toNat:Nat):Int)=a by omega] at h2
  have:=ht.kids 0 (by omega) _ h2.1.1
  omega
theorem jss (l:List Nd) (ht:Tree l) (i:Nat) (h1:i<l.length):Con Tryz.prog 142 [js l,iv i] (iv (qfy l i)):=by
 have hlen:=ht.len
 have hk0:=(ht.kidsLen (j:=0) (by omega)).1
 have hit:=jef ht i (by omega) (by omega)
 have hln:=(ht.lens (itemF l i).toNat (by omega)).n1
 refine zK {} 300 Tryz.func142 (fun c0 rdb=>?_)
 (repeat' ((conv=>whnf);first|refine Ob.auto ?_|refine zC 300 (qry l (by omega) (by omega) _) ?_|(apply zB <;> intro hb <;> (try simp [-zd] at hb) <;> try (exfalso;omega))))
 ·refine Le.of_eq (congrArg (AV.int _) ?_)
  rw [qfy,zb (by unfold qi;exact hb)];rfl
 ·refine Le.of_eq (congrArg (AV.int _) ?_)
  rw [qfy,za (by unfold qi;exact hb)]
theorem qwp (l:List Nd) (kind:Int) (i:Nat):sumF l kind (i+1)=qid l kind (sumF l kind i) i:=by
 unfold sumF
 rw [zat,xu];rfl
theorem jeg {l:List Nd} (ht:Tree l) (i:Nat) (h1:i<l.length):0≤qfy l i:=by
 have hit:=jef ht i (by omega) (by omega)
 have hln:=(ht.lens (itemF l i).toNat (by omega)).num
 unfold qfy qi
 split
 ·exact (hln (by omega)).1
 ·omega
theorem jeh {l:List Nd} (ht:Tree l) (kind:Int):∀ i,i≤l.length→0≤sumF l kind i∧sumF l kind i≤200
 | 0,_=>by simp [sumF]
 | i+1,h=>by
  have h1:=jeh ht kind i (by omega)
  have h2:=jeg ht i (by omega)
  rw [qwp]
  unfold qid
  (repeat' split) <;> omega
theorem jei (l:List Nd) (kind:Int) (i:Nat) (h:100≤sumF l kind i):∀ k,sumF l kind (i+k)=sumF l kind i
 | 0=>rfl
 | k+1=>by
  have ih:=jei l kind i h k
  rw [show i+(k+1)=i+k+1 by omega,qwp,ih]
  unfold qid
  rw [za (by omega)]
theorem qwq (l:List Nd) (ht:Tree l) (a:Nat) (h1:a<l.length) (kind:Int):Con Tryz.prog 110 [js l,iv a,iv kind] (iv (sumF l kind (a+1))):=by
 have hlen:=ht.len
 refine zK {} 300 Tryz.func110 (fun c0 rdb=>?_)
 ((conv=>whnf);refine qo (fun _=>rfl) 300 1 (fun g:Nat × Int=>[(8,iv g.1),(7,iv g.2)]) (fun _=>[]) (fun g=>g.1≤a+1∧g.2=sumF l kind g.1) (fun g=>a+1 - g.1) ((0,0)) (⟨by simp,rfl⟩) qa qa (fun _=>rfl) (by kernel_rfl) ?_;(conv=>whnf))
 rintro ⟨i,n⟩ ⟨hi,hn⟩
 simp only at hi hn
 have hsb:=jeh ht kind i (by omega)
 have hsu:=qwp l kind i
 have hcg:i<l.length→_:=fun h=>jeg ht i h
 rw [← hn] at hsu hsb
 unfold qid at hsu
 (repeat' ((conv=>whnf);first|refine Ob.auto ?_|(refine Ob.intro (by (first|exact ⟨by omega,by omega⟩|exact qec (by have:=hcg (by omega);simp only [cond_true,cond_false,Bool.cond_decide];omega) (by have:=hcg (by omega);simp only [cond_true,cond_false,Bool.cond_decide];omega))) ?_)|refine zC 300 (jss l ht i (by omega)) ?_|(apply zB <;> intro hb <;> (try simp [-zd] at hb) <;> try (exfalso;omega))))
 ·((conv=>whnf);refine ⟨(i+1,n),⟨by simp only;omega,by rw [hsu,zb (by omega),za (by assumption)]⟩,⟨qa,qa⟩,⟨qa,qa⟩,?_⟩;(first|omega|(dsimp only;omega)|skip))
 ·((conv=>whnf);refine ⟨(i+1,n+1),⟨by simp only;omega,by rw [hsu,zb (by omega),zb (by assumption),zb (by assumption)]⟩,⟨qa,qa⟩,⟨qa,qa⟩,?_⟩;(first|omega|(dsimp only;omega)|skip))
 ·((conv=>whnf);refine ⟨(i+1,n+min (qfy l i) 100),⟨by simp only;omega,by rw [hsu,zb (by omega),zb (by assumption),za (by assumption)]⟩,⟨qa,qa⟩,⟨qa,qa⟩,?_⟩;(first|omega|(dsimp only;omega)|skip))
 ·refine Le.of_eq (congrArg (AV.int _) ?_)
  by_cases hia:i≤a
  ·have:=jei l kind i (by omega) (a+1 - i)
   rw [show i+(a+1 - i)=a+1 by omega] at this
   rw [this,hn]
  ·rw [show a+1=i by omega,hn]
theorem jst (l:List Nd) (ht:Tree l) (a:Int):∀ (f:Nat) (b:Int),0≤b→b<l.length→l.length - b.toNat≤f→Con Tryz.prog 111 [js l,iv a,iv b] (.bool (qok l a f b)):=by
 intro f
 induction f with
 | zero=>intro b h0 h1 h2;omega
 | succ f ih=>
  intro b h0 h1 h2
  have hkl:=(ht.kidsLen (j:=b.toNat) (by omega)).1
  have hk:=ht.kids b.toNat (by omega)
  have hkg:∀ i,i<(l.getD b.toNat nd0).kids.length→b<(l.getD b.toNat nd0).kids.getD i 0∧(l.getD b.toNat nd0).kids.getD i 0<l.length:=fun i hi=>by have:=hk _ (qe _ i 0 hi);omega
  refine zK {} 300 Tryz.func111 (fun c0 rdb=>?_)
  ((conv=>whnf);refine qo (fun _=>rfl) 300 1 (fun i:Nat=>[(7,iv i)]) (fun _=>[]) (fun i=>i≤(l.getD b.toNat nd0).kids.length∧∀ j,j<i→((l.getD b.toNat nd0).kids.getD j 0 == a || qok l a f ((l.getD b.toNat nd0).kids.getD j 0))=false) (fun i=>(l.getD b.toNat nd0).kids.length - i) (0) (⟨by omega,fun j hj=>absurd hj (zh j)⟩) qa qa (fun _=>rfl) (by kernel_rfl) ?_;(conv=>whnf))
  intro i hi
  have hki:i<(l.getD b.toNat nd0).kids.length→_:=hkg i
  (repeat' ((conv=>whnf);first|refine Ob.auto ?_|refine zG 300 (fun hg=>ih ((l.getD b.toNat nd0).kids.getD i 0) (by omega) (by omega) (by omega)) ?_|(apply zB <;> intro hb <;> (try simp [-zd] at hb) <;> try (exfalso;omega))))
  ·refine Le.of_eq (congrArg AV.bool ?_)
   exact (jso 0 (i:=i) (by omega) (by rw [zad,xz];exact hb)).symm
  ·((conv=>whnf);refine ⟨i+1,⟨by omega,qan hi.2 (by rw [xw,beq_eq_false_iff_ne];exact hb)⟩,⟨qa,qa⟩,⟨qa,qa⟩,?_⟩;(first|omega|(dsimp only;omega)|skip))
  ·refine Le.of_eq (congrArg AV.bool ?_)
   exact (jsp 0 (fun j hj=>hi.2 j (by omega))).symm
theorem jsu (l:List Nd) (ht:Tree l) (i:Nat) (h1:i<l.length):Con Tryz.prog 77 [js l,iv i] (iv (qbj l i)):=by
  have hlen:=ht.len
  have hln:=ht.lens i h1
  have hn4:=hln.n4
  have hn2:=hln.n2
  have hn1:=hln.n1
  refine zK {} 600 Tryz.func77 (fun c0 rdb=>?_)
  (repeat' ((conv=>whnf);first|refine zO ?_|refine Ob.auto ?_|refine zG 600 (fun hg=>qwq l ht i h1 1) ?_|refine zY (fun hg=>qwq l ht i h1 2) ?_|refine zG 600 (fun hg=>qwq l ht i h1 3) ?_|refine zY (fun hg=>qji _ _) ?_|(refine zP 600 ?_)|(apply zB <;> intro hb <;> (try simp [-zd] at hb) <;> try (exfalso;omega))))
  all_goals first
    | (refine Le.of_eq (congrArg iv ?_)
       rw [qbj]
       ((repeat (first|rw [zb (by omega)]|rw [za (by omega)])) <;> rfl))
    | skip
  ((conv=>whnf);refine qo (fun _=>rfl) 600 1 (fun j:Nat=>[(7,iv j)]) (fun _=>[]) (fun j=>j≤i∧∀ k,k<j→((l.getD k nd0).kind == 13 && qok l i l.length k)=false) (fun j=>i - j) (0) (⟨by omega,fun j hj=>absurd hj (zh j)⟩) qa qa (fun _=>rfl) (by kernel_rfl) ?_;(conv=>whnf))
  intro j hj
  (repeat' ((conv=>whnf);first|refine Ob.auto ?_|refine zG 600 (fun hg=>jst l ht i l.length j (by omega) (by omega) (by omega)) ?_|(apply zB <;> intro hb <;> (try simp [-zd] at hb) <;> try (exfalso;omega))))
  · refine Le.of_eq (congrArg iv ?_)
    rw [qbj,za (by omega),za (by omega),za (by omega),zb (by assumption),zb (jsq (i:=j) (by omega) (by rw [zf,xz];exact hb))]
  · ((conv=>whnf);refine ⟨j+1,⟨by omega,qan hj.2 (by rw [Bool.and_eq_false_imp,xz];exact hb)⟩,⟨qa,qa⟩,⟨qa,qa⟩,?_⟩;(first|omega|(dsimp only;omega)|skip))
  all_goals
    refine Le.of_eq (congrArg iv ?_)
    rw [qbj,za (by omega),za (by omega),za (by omega),zb (by assumption),za (by rw [jsr (fun k hk=>hj.2 k (by omega))];decide)]
    done
theorem jej (l:List Nd) (ht:Tree l):Con Tryz.prog 43 [js l] (flt (qbp l).1 (qbp l).2):=by
 have hlen:=ht.len
 refine zK {} 300 Tryz.func43 (fun c0 rdb=>?_)
 (repeat' ((conv=>whnf);first|refine Ob.auto ?_|refine zC 300 (jsk l ht) ?_|(apply zB <;> intro hb <;> (try simp [-zd] at hb) <;> try (exfalso;omega))))
 ·refine Le.of_eq ?_
  rw [qbp,zb (by omega)];rfl
 ·((conv=>whnf);refine qo (fun _=>rfl) 300 1 (fun i:Nat=>[(4,iv i)]) (fun _=>[]) (fun i=>i≤l.length∧∀ j,j<i→(qbj l j != 0)=false) (fun i=>l.length - i) (0) (⟨by omega,fun j hj=>absurd hj (zh j)⟩) qa qa (fun _=>rfl) (by kernel_rfl) ?_;(conv=>whnf))
  intro i hi
  have hr:∀ j,j<(List.range l.length).length→j<l.length:=fun j hj=>by simpa using hj
  (repeat' ((conv=>whnf);first|refine Ob.auto ?_|refine zC 300 (jsu l ht i (by omega)) ?_|(apply zB <;> intro hb <;> (try simp [-zd] at hb) <;> try (exfalso;omega))))
  ·rename_i h0 h1
   have h1':i<l.length:=by omega
   have:=qdt (fun i=>qbj l i != 0) (List.range l.length) 0 i (by simpa using h1') (by rw [qhv _ _ _ (by omega)];simpa using hb) (fun j hj=>by rw [qhv _ _ _ (by omega)];exact hi.2 j hj)
   refine Le.of_eq ?_
   rw [qbp,za (by omega),this,za (by omega)];rfl
  ·((conv=>whnf);refine ⟨i+1,⟨by omega,qan hi.2 (by simpa using hb)⟩,⟨qa,qa⟩,⟨qa,qa⟩,?_⟩;(first|omega|(dsimp only;omega)|skip))
  ·have:=qev (fun i=>qbj l i != 0) (List.range l.length) 0 (fun j hj=>by have hj':=hr j hj;rw [qhv _ _ _ hj'];exact hi.2 j (by omega))
   refine Le.of_eq ?_
   rw [qbp,za (by omega),this,zb (by omega)];rfl
end Go.Proofs.YtcfllgdfhfcicaaGreatDoor
end
