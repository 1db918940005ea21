/- Some texts of the library, one behind the other. -/
import Derived.Test.YtikahnkkfkoglaaGreatDoorY28
import Derived.Test.YtikahnkkfkoglaaGreatDoorY223
import Derived.Test.YtikahnkkfkoglaaGreatDoorY232
import Derived.Test.YtikahnkkfkoglaaGreatDoorY22
import Derived.Test.YtikahnkkfkoglaaGreatDoorY2MkP
import Derived.Test.YtikahnkkfkoglaaGreatDoorY25
set_option linter.unusedSimpArgs false
set_option linter.unusedVariables false
section
namespace Go.Proofs.YtikahnkkfkoglaaGreatDoor
open List renaming getD_eq_getElem?_getD → zd
open Go Go.Sx Go.RowKit Go.St
set_option maxRecDepth 100000
set_option maxHeartbeats 4000000
theorem jvo (l:List Nd) (hl:l.length≤9223372036854775807) (hz:∀ n∈l,NdSz n):∀ (f:Nat) (a deep:Int),0≤a→a<l.length→deep+f=21→f≤21→Con Tryz.prog 41 [jx l,iv a,iv deep] (.tup [iv (walkF l f a).1,.bool (walkF l f a).2]):=by
 intro f
 induction f with
 | zero=>
  intro a deep h0 h1 hd hf
  refine zK {} 300 Tryz.func41 (fun c0 rdb=>?_)
  (repeat' ((conv=>whnf);first|refine Ob.auto ?_|(apply zB <;> intro hb <;> (try simp [-zd] at hb) <;> try (exfalso;omega))))
  exact Le.refl _
 | succ f ih=>
  intro a deep h0 h1 hd hf
  have hza:=hz _ (qk l a.toNat nd0 (by omega))
  have hkl:=hza.lk
  refine zK {} 300 Tryz.func41 (fun c0 rdb=>?_)
  (repeat' ((conv=>whnf);first|refine Ob.auto ?_|(apply zB <;> intro hb <;> (try simp [-zd] at hb) <;> try (exfalso;omega))))
  ((conv=>whnf);refine qm (fun _=>rfl) 300 1 (fun g:Nat × Int=>[(9,iv g.1),(8,iv g.2)]) (fun _=>[]) (fun g=>(g.1≤(l.getD a.toNat nd0).kids.length∧0≤g.2)∧walkF l (f+1) a=walkL (walkF l f) l.length ((l.getD a.toNat nd0).kids.drop g.1) g.2) (fun g=>(l.getD a.toNat nd0).kids.length - g.1) ((0,a+1)) (⟨by simp;omega,rfl⟩) qa qa (fun _=>rfl) (by kernel_rfl) ?_;(conv=>whnf))
  rintro ⟨i,next⟩ ⟨⟨hi,hn0⟩,hw⟩
  simp only at hi hw hn0
  have hdr:=fun h=>qgz (l.getD a.toNat nd0).kids i 0 h
  have hge:=jdd l f next hn0
  (repeat' ((conv=>whnf);first|refine Ob.auto ?_|refine zC 300 (ih next (deep+1) (by omega) (by omega) (by omega) (by omega)) ?_|(apply zB <;> intro hb <;> (try simp [-zd] at hb) <;> try (exfalso;omega))))
  ·rw [hdr (by omega),walkL,zb (by omega)] at hw
   rw [hw];exact Le.refl _
  ·rename_i hb1
   rw [hdr (by omega),walkL,za (by omega),zb hb] at hw
   rw [hw,hb];exact Le.refl _
  ·rename_i hb1
   ((conv=>whnf);refine ⟨(i+1,(walkF l f next).1),⟨⟨by simp only;omega,by simp only;omega⟩,by rw [hdr (by omega),walkL,za (by omega),za (by rw [hb];decide)] at hw;exact hw⟩,⟨qa,qa⟩,⟨qa,qa⟩,?_⟩;(first|omega|(dsimp only;omega)|skip))
  ·have:i=(l.getD a.toNat nd0).kids.length:=by omega
   rw [this,List.drop_length,walkL] at hw
   rw [hw];exact Le.refl _
theorem qnb (l:List Nd) (hl:l.length≤9223372036854775807) (hz:∀ n∈l,NdSz n):Con Tryz.prog 18 [jx l] (.bool (qfx l)):=by
 by_cases h0:(decide (l.length=0) || decide (800<l.length) || (l.getD 0 nd0).kind != 0)=true
 ·have hr:qfx l=false:=by unfold qfx;rw [h0];rfl
  rw [hr]
  simp only [xr,xd,bne_iff_ne,ne_eq] at h0
  refine zK {} 300 Tryz.func18 (fun c0 rdb=>?_)
  (repeat' ((conv=>whnf);first|refine Ob.auto ?_|(refine Ob.intro (by ((intro h;simp at h;have:=List.length_pos_iff.2 h.1;exact ⟨by simp [h],by omega,by omega⟩))) ?_)|(apply zB <;> intro hb <;> (try simp [-zd] at hb) <;> try (exfalso;omega))))
  ·exact Le.refl _
  ·exfalso
   have:=List.length_pos_iff.2 hb.1.1
   omega
 ·have h0':(decide (l.length=0) || decide (800<l.length) || (l.getD 0 nd0).kind != 0)=false:=by simpa using h0
  simp only [xr,xd,bne_iff_ne,ne_eq,not_or,Decidable.not_not] at h0
  have hr:qfx l=(((walkF l 20 0).2 && (walkF l 20 0).1 == l.length) && l.all (nodeB l)):=by unfold qfx;rw [h0'];rfl
  rw [hr]
  refine zK {} 300 Tryz.func18 (fun c0 rdb=>?_)
  (repeat' ((conv=>whnf);first|refine Ob.auto ?_|refine zC 300 (jvo l hl hz 20 0 1 (by omega) (by omega) (by omega) (by omega)) ?_|(apply zB <;> intro hb <;> (try simp [-zd] at hb) <;> try (exfalso;omega))))
  ·exfalso;rcases hb with (hb|hb)|hb
   ·rw [hb] at h0;simp at h0
   ·omega
   ·omega
  ·refine Le.of_eq (congrArg AV.bool ?_)
   rcases hb with hb|hb
   ·rw [hb];rfl
   ·rw [show ((walkF l 20 0).1 == (l.length:Int))=false from beq_eq_false_iff_ne.2 hb,Bool.and_false];rfl
  ·have hw:((walkF l 20 0).2 && (walkF l 20 0).1 == (l.length:Int))=true:=by rw [hb.1,hb.2];simp
   have hk:∀ j:Nat,j<l.length→∀ k∈(l.getD j nd0).kids,0≤k∧k<l.length:=fun j hj k hk=>by
    have:=(qaj l 20 0 l.length (xb _) (Prod.ext hb.2 hb.1)).2 j (by omega) (by omega) k hk
    omega
   ((conv=>whnf);refine qm (fun _=>rfl) 300 1 (fun i:Nat=>[(5,iv i)]) (fun _=>[]) (fun i=>i≤l.length∧∀ j,j<i→nodeB l (l.getD j nd0)=true) (fun i=>l.length - i) (0) (⟨by omega,fun j hj=>absurd hj (zh j)⟩) qa qa (fun _=>rfl) (by kernel_rfl) ?_;(conv=>whnf))
   intro i hi
   (repeat' ((conv=>whnf);first|refine Ob.auto ?_|refine zC 300 (jvn l (l.getD i nd0) (hz _ (qk l i nd0 (by omega))) (hk i (by omega))) ?_|(apply zB <;> intro hb <;> (try simp [-zd] at hb) <;> try (exfalso;omega))))
   ·refine Le.of_eq (congrArg AV.bool ?_)
    rw [hw,qop (q:=nodeB l) nd0 (j:=i) (by omega) hb];rfl
   ·((conv=>whnf);refine ⟨i+1,⟨by omega,qaf hi.2 hb⟩,⟨qa,qa⟩,⟨qa,qa⟩,?_⟩;(first|omega|(dsimp only;omega)|skip))
   ·refine Le.of_eq (congrArg AV.bool ?_)
    rw [hw,qoo (q:=nodeB l) nd0 (fun j hj=>hi.2 j (by omega))];rfl
def qjr:List Nd→Int→Int
 | [],n=>n
 | x::r,n=>if n≤1500 then qjr r (IntKind.i64.wrap (IntKind.i64.wrap (IntKind.i64.wrap (n+x.words.length)+x.nums.length)+x.kids.length)) else n
theorem qnc (l:List Nd) (hl:l.length≤9223372036854775807):Con Tryz.prog 17 [jx l] (.bool (decide (qjr l l.length≤1500))):=by
 refine zK {wraps:=[18,19,20,21,22,23,24,25,26,27,28,29,30,31,32,33,34,35,36,37,38]} 300 Tryz.func17 (fun c0 rdb=>?_)
 ((conv=>whnf);refine qm (fun _=>rfl) 300 1 (fun g:Nat × Int=>[(4,iv g.1),(3,iv g.2)]) (fun _=>[]) (fun g=>g.1≤l.length∧qjr l l.length=qjr (l.drop g.1) g.2) (fun g=>l.length - g.1) ((0,(l.length:Int))) (⟨by simp,rfl⟩) qa qa (fun _=>rfl) (by kernel_rfl) ?_;(conv=>whnf))
 rintro ⟨i,n⟩ ⟨hi,hs⟩
 simp only at hi hs
 (repeat' ((conv=>whnf);first|refine zO ?_|refine Ob.auto ?_|(refine zP 300 ?_)|(apply zB <;> intro hb <;> (try simp [-zd] at hb) <;> try (exfalso;omega))))
 ·rw [qgz l i nd0 (by omega),qjr,zb (by omega)] at hs
  ((conv=>whnf);refine ⟨(i+1,IntKind.i64.wrap (IntKind.i64.wrap (IntKind.i64.wrap (n+(l.getD i nd0).words.length)+(l.getD i nd0).nums.length)+(l.getD i nd0).kids.length)),⟨by simp only;omega,hs⟩,⟨qa,qa⟩,⟨qa,qa⟩,?_⟩;(first|omega|(dsimp only;omega)|skip))
 ·refine Le.of_eq (congrArg AV.bool ?_)
  by_cases hl:i<l.length
  ·rw [qgz l i nd0 (by omega),qjr,za (by omega)] at hs
   rw [hs]
  ·obtain rfl:i=l.length:=by omega
   rw [List.drop_length,qjr] at hs
   rw [hs]
theorem qqj (L:List (List UInt8)) (hL:L.length≤1000000) (s:List UInt8):Con Tryz.prog 130 [strs L,.str s] (.bool (inF L s)):=by
 refine zK {} 300 Tryz.func130 (fun c0 rdb=>?_)
 ((conv=>whnf);refine qm (fun _=>rfl) 300 1 (fun i:Nat=>[(5,iv i)]) (fun _=>[]) (fun i=>i≤L.length∧∀ j,j<i→(L.getD j [] == s)=false) (fun i=>L.length - i) (0) (⟨by omega,fun j hj=>absurd hj (zh j)⟩) qa qa (fun _=>rfl) (by kernel_rfl) ?_;(conv=>whnf))
 intro i hi
 (repeat' ((conv=>whnf);first|refine Ob.auto ?_|(apply zB <;> intro hb <;> (try simp [-zd] at hb) <;> try (exfalso;omega))))
 ·refine Le.of_eq (congrArg AV.bool ?_)
  exact (List.any_eq_true.2 ⟨L.getD i [],qk L i [] (by omega),by simpa using hb⟩).symm
 ·((conv=>whnf);refine ⟨i+1,⟨by omega,qaf hi.2 (beq_eq_false_iff_ne.2 hb)⟩,⟨qa,qa⟩,⟨qa,qa⟩,?_⟩;(first|omega|(dsimp only;omega)|skip))
 ·refine Le.of_eq (congrArg AV.bool ?_)
  unfold inF
  rw [eq_comm,xf]
  intro h
  obtain ⟨x,hx,he⟩:=List.any_eq_true.1 h
  obtain ⟨j,hj,rfl⟩:=List.mem_iff_getElem.1 hx
  have:=hi.2 j (by omega)
  rw [zd,ze hj] at this
  simp only [zag] at this
  rw [this] at he;cases he
theorem qtu (l:List Nd) (h0:1≤l.length) (hk:(l.getD 0 nd0).kids.length≤1000000) (a:Int):Con Tryz.prog 137 [jx l,iv a] (iv (itemF l a)):=by
 refine zK {} 300 Tryz.func137 (fun c0 rdb=>?_)
 ((conv=>whnf);refine qm (fun _=>rfl) 300 1 (fun g:Nat × Int=>[(6,iv g.1),(5,iv g.2)]) (fun _=>[]) (fun g=>g.1≤(l.getD 0 nd0).kids.length∧itemF l a=qbf a ((l.getD 0 nd0).kids.drop g.1) g.2) (fun g=>(l.getD 0 nd0).kids.length - g.1) ((0,0)) (⟨by simp,rfl⟩) qa qa (fun _=>rfl) (by kernel_rfl) ?_;(conv=>whnf))
 rintro ⟨i,o⟩ ⟨hi,hs⟩
 simp only at hi hs
 (repeat' ((conv=>whnf);first|refine Ob.auto ?_|(apply zB <;> intro hb <;> (try simp [-zd] at hb) <;> try (exfalso;omega))))
 ·rw [qgz _ i 0 (by omega),qbf,zb (by omega)] at hs
  ((conv=>whnf);refine ⟨(i+1,(l.getD 0 nd0).kids.getD i 0),⟨by simp only;omega,hs⟩,⟨qa,qa⟩,⟨qa,qa⟩,?_⟩;(first|omega|(dsimp only;omega)|skip))
 ·rw [qgz _ i 0 (by omega),qbf,za (by omega)] at hs
  ((conv=>whnf);refine ⟨(i+1,o),⟨by simp only;omega,hs⟩,⟨qa,qa⟩,⟨qa,qa⟩,?_⟩;(first|omega|(dsimp only;omega)|skip))
 ·refine Le.of_eq (congrArg (AV.int _) ?_)
  obtain rfl:i=(l.getD 0 nd0).kids.length:=by omega
  rw [hs,List.drop_length,qbf]
theorem qyn (l:List Nd) (ht:Tree l) (a:Int) (h0:0≤a) (h1:a<l.length) (kind:Int) (hk:kind=1∨kind=2∨kind=3):Con Tryz.prog 129 [jx l,iv a,iv kind] (strs (qdk l a kind)):=by
 have hlen:=ht.len
 have hk0:=(ht.kidsLen (j:=0) (by omega)).1
 refine zK {owns:=[(7,(9,1))]} 300 Tryz.func129 (fun c0 rdb=>?_)
 (repeat' ((conv=>whnf);first|refine zC 300 (qtu l (by omega) (by omega) _) ?_|fail))
 ((conv=>whnf);refine qm (fun _=>rfl) 300 1 (fun g:Nat × List (List UInt8)=>[(9,iv g.1),(7,.own 0 0 0 g.2.length)]) (fun g=>[(0,.row [] 9 1 0 g.2.length (encL (fun s=>[.str s]) [] g.2))]) (fun g=>(g.1:Int)≤a∧g.2=qfz l (itemF l a) kind g.1) (fun g=>a.toNat - g.1) ((0,[])) (⟨by simp;omega,rfl⟩) qa ⟨qcb (fun k hk=>absurd hk (zh k)),trivial⟩ (fun _=>rfl) (by kernel_rfl) ?_;(conv=>whnf))
 rintro ⟨i,L⟩ ⟨hi,hL⟩
 simp only at hi hL
 have hle:=qpd l (itemF l a) kind i
 have hln:i<l.length→LenOk (l.getD i nd0):=fun h=>ht.lens i h
 have hw:i<l.length→(l.getD i nd0).kind=kind→0<((l.getD i nd0).words.length:Int):=fun h e=>by have:=(hln h).w1;omega
 have hsu:=qwn l (itemF l a) kind i
 unfold qpa at hsu
 rw [← hL] at hle hsu
 have hin:=qqj L (by omega) ((l.getD i nd0).words.getD 0 [])
 (repeat' ((conv=>whnf);first|refine Ob.auto ?_|(refine Ob.intro (by (exact ⟨by omega,by first|omega|exact hw (by omega) (by assumption)⟩)) ?_)|refine zC 300 (qtu l (by omega) (by omega) _) ?_|refine zG 300 (fun hg=>qtu l (by omega) (by omega) _) ?_|(refine qi (fun _=>rfl) 300 (hin) qc (by (repeat' (first|exact trivial|exact Le.refl _|(refine And.intro ?_ ?_))) <;> fail) (by rfl) (by kernel_rfl) ?_)|(apply zB <;> intro hb <;> (try simp [-zd] at hb) <;> try (exfalso;omega))))
 ·((conv=>whnf);refine ⟨(i+1,L),⟨by simp only;omega,by rw [hsu,za hb]⟩,⟨qa,qa⟩,⟨qa,qa⟩,?_⟩;(first|omega|(dsimp only;omega)|skip))
 ·rename_i hkd hor
  ((conv=>whnf);refine ⟨(i+1,L++[qfy (l.getD i nd0)]),⟨by simp only;omega,by rw [hsu,zb hkd,zb (by simpa using hor),za (by unfold qfy;rw [hb];decide)]⟩,⟨qa,qa⟩,⟨qa,qa⟩,?_⟩;(first|omega|(dsimp only;omega)|skip))
 ·rename_i hkd hor
  ((conv=>whnf);refine ⟨(i+1,L),⟨by simp only;omega,by rw [hsu,zb hkd,zb (by simpa using hor),zb (by unfold qfy;exact hb)]⟩,⟨qa,qa⟩,⟨qa,qa⟩,?_⟩;(first|omega|(dsimp only;omega)|skip))
 ·rename_i hkd
  ((conv=>whnf);refine ⟨(i+1,L),⟨by simp only;omega,by rw [hsu,zb hkd,za (by simpa using hb)]⟩,⟨qa,qa⟩,⟨qa,qa⟩,?_⟩;(first|omega|(dsimp only;omega)|skip))
 ·refine Le.of_eq ?_
  rw [qdk,show a.toNat=i by omega,← hL];rfl
theorem jvp (l:List Nd) (ht:Tree l) (i:Nat) (h1:i<l.length):Con Tryz.prog 98 [jx l,iv i] (.bool (badF l i)):=by
 have hlen:=ht.len
 have hln:=ht.lens i h1
 have hw1:=hln.w1
 have hw2:=hln.w2
 have n1:=qpd l (itemF l i) 1 i
 have n2:=qpd l (itemF l i) 2 i
 have n3:=qpd l (itemF l i) 3 i
 have e:∀ k,qdk l i k=qfz l (itemF l i) k i:=fun k=>rfl
 rw [← e] at n1 n2 n3
 refine zK {} 600 Tryz.func98 (fun c0 rdb=>?_)
 (repeat' ((conv=>whnf);first|refine Ob.auto ?_|refine zC 600 (qyn l ht i (by omega) (by omega) 1 (by decide)) ?_|refine zC 600 (qyn l ht i (by omega) (by omega) 2 (by decide)) ?_|refine zC 600 (qyn l ht i (by omega) (by omega) 3 (by decide)) ?_|refine zC 600 (qqj (qdk l i 1) (by omega) _) ?_|refine zC 600 (qqj (qdk l i 2) (by omega) _) ?_|refine zG 600 (fun hg=>qqj (qdk l i 2) (by omega) _) ?_|refine zG 600 (fun hg=>qqj (qdk l i 3) (by omega) _) ?_|(apply zB <;> intro hb <;> (try simp [-zd] at hb) <;> try (exfalso;omega))))
 all_goals
  refine Le.of_eq (congrArg AV.bool ?_)
  rw [badF]
  ((repeat (first|rw [zb (by omega)]|rw [za (by omega)])) <;> rfl)
theorem jvq (l:List Nd) (ht:Tree l):Con Tryz.prog 64 [jx l] (flt (qhz l).1 (qhz l).2):=by
 have hlen:=ht.len
 refine zK {} 300 Tryz.func64 (fun c0 rdb=>?_)
 ((conv=>whnf);refine qm (fun _=>rfl) 300 1 (fun i:Nat=>[(3,iv i)]) (fun _=>[]) (fun i=>i≤l.length∧∀ j,j<i→badF l j=false) (fun i=>l.length - i) (0) (⟨by omega,fun j hj=>absurd hj (zh j)⟩) qa qa (fun _=>rfl) (by kernel_rfl) ?_;(conv=>whnf))
 intro i hi
 have hr:∀ j,j<(List.range l.length).length→j<l.length:=fun j hj=>by simpa using hj
 (repeat' ((conv=>whnf);first|refine Ob.auto ?_|refine zC 300 (jvp l ht i (by omega)) ?_|(apply zB <;> intro hb <;> (try simp [-zd] at hb) <;> try (exfalso;omega))))
 ·have h1:i<l.length:=by omega
  have:=qfb (badF l) (List.range l.length) 0 i (by simpa using h1) (by rw [qhw _ _ _ (by omega)];exact hb) (fun j hj=>by rw [qhw _ _ _ (by omega)];exact hi.2 j hj)
  refine Le.of_eq ?_
  rw [qhz,this,za (by omega)];rfl
 ·((conv=>whnf);refine ⟨i+1,⟨by omega,qaf hi.2 hb⟩,⟨qa,qa⟩,⟨qa,qa⟩,?_⟩;(first|omega|(dsimp only;omega)|skip))
 ·have:=qfc (badF l) (List.range l.length) 0 (fun j hj=>by have hj':=hr j hj;rw [qhw _ _ _ hj'];exact hi.2 j (by omega))
  refine Le.of_eq ?_
  rw [qhz,this,zb (by omega)];rfl
theorem jvr {α:Type} {q:α→Bool} {L:List α} (d:α) {i:Nat} (hi:i<L.length) (h:q (L.getD i d)=true):L.any q=true:=List.any_eq_true.2 ⟨_,qk L i d hi,h⟩
theorem jvs {α:Type} {q:α→Bool} {L:List α} (d:α) (h:∀ j,j<L.length→q (L.getD j d)=false):L.any q=false:=by
 rw [xf]
 intro h'
 obtain ⟨x,hx,he⟩:=List.any_eq_true.1 h'
 obtain ⟨j,hj,rfl⟩:=List.mem_iff_getElem.1 hx
 have:=h j hj
 rw [zd,ze hj] at this
 simp only [zag] at this
 rw [this] at he;cases he
theorem jvt {q:Nat→Bool} {n i:Nat} (hi:i<n) (h:q i=true):(List.range n).any q=true:=List.any_eq_true.2 ⟨i,List.mem_range.2 hi,h⟩
theorem jvu {q:Nat→Bool} {n:Nat} (h:∀ j,j<n→q j=false):(List.range n).any q=false:=by
 rw [xf]
 intro h'
 obtain ⟨x,hx,he⟩:=List.any_eq_true.1 h'
 rw [h x (List.mem_range.1 hx)] at he;cases he
theorem jhg {l:List Nd} (ht:Tree l) (a:Int) (h0:0≤a) (h1:a<l.length):0≤itemF l a∧itemF l a<l.length:=by
 have hlen:=ht.len
 by_cases h:a=0
 ·subst h
  have:itemF l 0=0:=by
   unfold itemF
   exact qsu 0 _ 0 fun k hk=>(ht.kids 0 (by omega) k hk).1
  omega
 ·have h2:=ht.item (j:=a.toNat) (by omega) (by omega)
  rw [show ((a.toNat:Nat):Int)=a by omega] at h2
  have:=ht.kids 0 (by omega) _ h2.1.1
  omega
theorem jvv (l:List Nd) (ht:Tree l) (i:Nat) (h1:i<l.length):Con Tryz.prog 131 [jx l,iv i] (iv (qga l i)):=by
 have hlen:=ht.len
 have hk0:=(ht.kidsLen (j:=0) (by omega)).1
 have hit:=jhg ht i (by omega) (by omega)
 have hln:=(ht.lens (itemF l i).toNat (by omega)).n1
 refine zK {} 300 Tryz.func131 (fun c0 rdb=>?_)
 (repeat' ((conv=>whnf);first|refine Ob.auto ?_|refine zC 300 (qtu l (by omega) (by omega) _) ?_|(apply zB <;> intro hb <;> (try simp [-zd] at hb) <;> try (exfalso;omega))))
 ·refine Le.of_eq (congrArg (AV.int _) ?_)
  rw [qga,zb (by unfold qv;exact hb)];rfl
 ·refine Le.of_eq (congrArg (AV.int _) ?_)
  rw [qga,za (by unfold qv;exact hb)]
theorem qyo (l:List Nd) (kind:Int) (i:Nat):sumF l kind (i+1)=qia l kind (sumF l kind i) i:=by
 unfold sumF
 rw [zbj,xx];rfl
theorem jhh {l:List Nd} (ht:Tree l) (i:Nat) (h1:i<l.length):0≤qga l i:=by
 have hit:=jhg ht i (by omega) (by omega)
 have hln:=(ht.lens (itemF l i).toNat (by omega)).num
 unfold qga qv
 split
 ·exact (hln (by omega)).1
 ·omega
theorem jhi {l:List Nd} (ht:Tree l) (kind:Int):∀ i,i≤l.length→0≤sumF l kind i∧sumF l kind i≤200
 | 0,_=>by simp [sumF]
 | i+1,h=>by
  have h1:=jhi ht kind i (by omega)
  have h2:=jhh ht i (by omega)
  rw [qyo]
  unfold qia
  (repeat' split) <;> omega
theorem jhj (l:List Nd) (kind:Int) (i:Nat) (h:100≤sumF l kind i):∀ k,sumF l kind (i+k)=sumF l kind i
 | 0=>rfl
 | k+1=>by
  have ih:=jhj l kind i h k
  rw [show i+(k+1)=i+k+1 by omega,qyo,ih]
  unfold qia
  rw [za (by omega)]
theorem qyp (l:List Nd) (ht:Tree l) (a:Nat) (h1:a<l.length) (kind:Int):Con Tryz.prog 99 [jx l,iv a,iv kind] (iv (sumF l kind (a+1))):=by
 have hlen:=ht.len
 refine zK {} 300 Tryz.func99 (fun c0 rdb=>?_)
 ((conv=>whnf);refine qm (fun _=>rfl) 300 1 (fun g:Nat × Int=>[(8,iv g.1),(7,iv g.2)]) (fun _=>[]) (fun g=>g.1≤a+1∧g.2=sumF l kind g.1) (fun g=>a+1 - g.1) ((0,0)) (⟨by simp,rfl⟩) qa qa (fun _=>rfl) (by kernel_rfl) ?_;(conv=>whnf))
 rintro ⟨i,n⟩ ⟨hi,hn⟩
 simp only at hi hn
 have hsb:=jhi ht kind i (by omega)
 have hsu:=qyo l kind i
 have hcg:i<l.length→_:=fun h=>jhh ht i h
 rw [← hn] at hsu hsb
 unfold qia at hsu
 (repeat' ((conv=>whnf);first|refine Ob.auto ?_|(refine Ob.intro (by (first|exact ⟨by omega,by omega⟩|exact qeb (by have:=hcg (by omega);simp only [cond_true,cond_false,Bool.cond_decide];omega) (by have:=hcg (by omega);simp only [cond_true,cond_false,Bool.cond_decide];omega))) ?_)|refine zC 300 (jvv l ht i (by omega)) ?_|(apply zB <;> intro hb <;> (try simp [-zd] at hb) <;> try (exfalso;omega))))
 ·((conv=>whnf);refine ⟨(i+1,n),⟨by simp only;omega,by rw [hsu,zb (by omega),za (by assumption)]⟩,⟨qa,qa⟩,⟨qa,qa⟩,?_⟩;(first|omega|(dsimp only;omega)|skip))
 ·((conv=>whnf);refine ⟨(i+1,n+1),⟨by simp only;omega,by rw [hsu,zb (by omega),zb (by assumption),zb (by assumption)]⟩,⟨qa,qa⟩,⟨qa,qa⟩,?_⟩;(first|omega|(dsimp only;omega)|skip))
 ·((conv=>whnf);refine ⟨(i+1,n+min (qga l i) 100),⟨by simp only;omega,by rw [hsu,zb (by omega),zb (by assumption),za (by assumption)]⟩,⟨qa,qa⟩,⟨qa,qa⟩,?_⟩;(first|omega|(dsimp only;omega)|skip))
 ·refine Le.of_eq (congrArg (AV.int _) ?_)
  by_cases hia:i≤a
  ·have:=jhj l kind i (by omega) (a+1 - i)
   rw [show i+(a+1 - i)=a+1 by omega] at this
   rw [this,hn]
  ·rw [show a+1=i by omega,hn]
theorem jvw (l:List Nd) (ht:Tree l) (a:Int):∀ (f:Nat) (b:Int),0≤b→b<l.length→l.length - b.toNat≤f→Con Tryz.prog 100 [jx l,iv a,iv b] (.bool (qpb l a f b)):=by
 intro f
 induction f with
 | zero=>intro b h0 h1 h2;omega
 | succ f ih=>
  intro b h0 h1 h2
  have hkl:=(ht.kidsLen (j:=b.toNat) (by omega)).1
  have hk:=ht.kids b.toNat (by omega)
  have hkg:∀ i,i<(l.getD b.toNat nd0).kids.length→b<(l.getD b.toNat nd0).kids.getD i 0∧(l.getD b.toNat nd0).kids.getD i 0<l.length:=fun i hi=>by have:=hk _ (qk _ i 0 hi);omega
  refine zK {} 300 Tryz.func100 (fun c0 rdb=>?_)
  ((conv=>whnf);refine qm (fun _=>rfl) 300 1 (fun i:Nat=>[(7,iv i)]) (fun _=>[]) (fun i=>i≤(l.getD b.toNat nd0).kids.length∧∀ j,j<i→((l.getD b.toNat nd0).kids.getD j 0 == a || qpb l a f ((l.getD b.toNat nd0).kids.getD j 0))=false) (fun i=>(l.getD b.toNat nd0).kids.length - i) (0) (⟨by omega,fun j hj=>absurd hj (zh j)⟩) qa qa (fun _=>rfl) (by kernel_rfl) ?_;(conv=>whnf))
  intro i hi
  have hki:i<(l.getD b.toNat nd0).kids.length→_:=hkg i
  (repeat' ((conv=>whnf);first|refine Ob.auto ?_|refine zG 300 (fun hg=>ih ((l.getD b.toNat nd0).kids.getD i 0) (by omega) (by omega) (by omega)) ?_|(apply zB <;> intro hb <;> (try simp [-zd] at hb) <;> try (exfalso;omega))))
  ·refine Le.of_eq (congrArg AV.bool ?_)
   exact (jvr 0 (i:=i) (by omega) (by rw [xr,xu];exact hb)).symm
  ·((conv=>whnf);refine ⟨i+1,⟨by omega,qaf hi.2 (by rw [xq,beq_eq_false_iff_ne];exact hb)⟩,⟨qa,qa⟩,⟨qa,qa⟩,?_⟩;(first|omega|(dsimp only;omega)|skip))
  ·refine Le.of_eq (congrArg AV.bool ?_)
   exact (jvs 0 (fun j hj=>hi.2 j (by omega))).symm
theorem jvx (l:List Nd) (ht:Tree l) (i:Nat) (h1:i<l.length):Con Tryz.prog 65 [jx l,iv i] (iv (qbn l i)):=by
  have hlen:=ht.len
  have hln:=ht.lens i h1
  have hn4:=hln.n4
  have hn2:=hln.n2
  have hn1:=hln.n1
  refine zK {} 600 Tryz.func65 (fun c0 rdb=>?_)
  (repeat' ((conv=>whnf);first|refine zO ?_|refine Ob.auto ?_|refine zG 600 (fun hg=>qyp l ht i h1 1) ?_|refine zY (fun hg=>qyp l ht i h1 2) ?_|refine zG 600 (fun hg=>qyp l ht i h1 3) ?_|refine zY (fun hg=>qje _ _) ?_|(refine zP 600 ?_)|(apply zB <;> intro hb <;> (try simp [-zd] at hb) <;> try (exfalso;omega))))
  all_goals first
    | (refine Le.of_eq (congrArg iv ?_)
       rw [qbn]
       ((repeat (first|rw [zb (by omega)]|rw [za (by omega)])) <;> rfl))
    | skip
  ((conv=>whnf);refine qm (fun _=>rfl) 600 1 (fun j:Nat=>[(7,iv j)]) (fun _=>[]) (fun j=>j≤i∧∀ k,k<j→((l.getD k nd0).kind == 13 && qpb l i l.length k)=false) (fun j=>i - j) (0) (⟨by omega,fun j hj=>absurd hj (zh j)⟩) qa qa (fun _=>rfl) (by kernel_rfl) ?_;(conv=>whnf))
  intro j hj
  (repeat' ((conv=>whnf);first|refine Ob.auto ?_|refine zG 600 (fun hg=>jvw l ht i l.length j (by omega) (by omega) (by omega)) ?_|(apply zB <;> intro hb <;> (try simp [-zd] at hb) <;> try (exfalso;omega))))
  · refine Le.of_eq (congrArg iv ?_)
    rw [qbn,za (by omega),za (by omega),za (by omega),zb (by assumption),zb (jvt (i:=j) (by omega) (by rw [zf,xu];exact hb))]
  · ((conv=>whnf);refine ⟨j+1,⟨by omega,qaf hj.2 (by rw [Bool.and_eq_false_imp,xu];exact hb)⟩,⟨qa,qa⟩,⟨qa,qa⟩,?_⟩;(first|omega|(dsimp only;omega)|skip))
  all_goals
    refine Le.of_eq (congrArg iv ?_)
    rw [qbn,za (by omega),za (by omega),za (by omega),zb (by assumption),za (by rw [jvu (fun k hk=>hj.2 k (by omega))];decide)]
    done
theorem jhk (l:List Nd) (ht:Tree l):Con Tryz.prog 39 [jx l] (flt (qcg l).1 (qcg l).2):=by
 have hlen:=ht.len
 refine zK {} 300 Tryz.func39 (fun c0 rdb=>?_)
 (repeat' ((conv=>whnf);first|refine Ob.auto ?_|refine zC 300 (jvq l ht) ?_|(apply zB <;> intro hb <;> (try simp [-zd] at hb) <;> try (exfalso;omega))))
 ·refine Le.of_eq ?_
  rw [qcg,zb (by omega)];rfl
 ·((conv=>whnf);refine qm (fun _=>rfl) 300 1 (fun i:Nat=>[(4,iv i)]) (fun _=>[]) (fun i=>i≤l.length∧∀ j,j<i→(qbn l j != 0)=false) (fun i=>l.length - i) (0) (⟨by omega,fun j hj=>absurd hj (zh j)⟩) qa qa (fun _=>rfl) (by kernel_rfl) ?_;(conv=>whnf))
  intro i hi
  have hr:∀ j,j<(List.range l.length).length→j<l.length:=fun j hj=>by simpa using hj
  (repeat' ((conv=>whnf);first|refine Ob.auto ?_|refine zC 300 (jvx l ht i (by omega)) ?_|(apply zB <;> intro hb <;> (try simp [-zd] at hb) <;> try (exfalso;omega))))
  ·rename_i h0 h1
   have h1':i<l.length:=by omega
   have:=qfb (fun i=>qbn l i != 0) (List.range l.length) 0 i (by simpa using h1') (by rw [qhw _ _ _ (by omega)];simpa using hb) (fun j hj=>by rw [qhw _ _ _ (by omega)];exact hi.2 j hj)
   refine Le.of_eq ?_
   rw [qcg,za (by omega),this,za (by omega)];rfl
  ·((conv=>whnf);refine ⟨i+1,⟨by omega,qaf hi.2 (by simpa using hb)⟩,⟨qa,qa⟩,⟨qa,qa⟩,?_⟩;(first|omega|(dsimp only;omega)|skip))
  ·have:=qfc (fun i=>qbn l i != 0) (List.range l.length) 0 (fun j hj=>by have hj':=hr j hj;rw [qhw _ _ _ hj'];exact hi.2 j (by omega))
   refine Le.of_eq ?_
   rw [qcg,za (by omega),this,zb (by omega)];rfl
end Go.Proofs.YtikahnkkfkoglaaGreatDoor
end
