/- Some texts of the library, one behind the other. -/
import Derived.Test.YtikahnkkfkoglaaGreatDoorQPaL
import Derived.Test.YtikahnkkfkoglaaGreatDoorQ28
import Derived.Test.YtikahnkkfkoglaaGreatDoorQLexQ2
import Derived.Test.YtikahnkkfkoglaaGreatDoorQ18
import Derived.Test.YtikahnkkfkoglaaGreatDoorQ6
import Derived.Test.YtikahnkkfkoglaaGreatDoorQ2
import Derived.Test.YtikahnkkfkoglaaGreatDoorQMkP
set_option linter.unusedSimpArgs false
set_option linter.unusedVariables false
section
namespace Go.Proofs.YtikahnkkfkoglaaGreatDoor
open List renaming getD_eq_getElem?_getD → zd
open Go Go.Sx Go.RowKit Go.St Pa
set_option maxRecDepth 100000
set_option maxHeartbeats 8000000
theorem qem (s:List UInt8) (hs:s.length≤1000000):Con Tryz.prog 15 [.str s] (jpt (qol s)):=by
 refine zK {} 300 Tryz.func15 (fun c0 rdb=>?_)
 (repeat' ((conv=>whnf);first|refine zO ?_|refine Ob.auto ?_|refine zC 300 (jse s hs) ?_|refine zD 300 ?_|(apply zB <;> intro hb <;> (try simp [-zd] at hb) <;> try (exfalso;omega))))
 ·have he:(Lx.lexAll s).2.1≠0:=by assumption
  have e:qol s=([],(Lx.lexAll s).2):=zb he
  rw [e]
  exact Le.tup ⟨Le.nils _ _,Le.refl _,trivial⟩
 have he:(Lx.lexAll s).2.1=0:=by assumption
 obtain ⟨ht,h0⟩:=jtv he
 have e:qol s=qok (Lx.lexAll s).1:=za (by rw [he];decide)
 rw [e]
 generalize hts:(Lx.lexAll s).1=ts at ht h0 ⊢
 have hP:Pre ts ts.length ⟨0,0,0,0⟩:=⟨⟨xa _,by simp only;omega⟩,by simp,by simp⟩
 ((conv=>whnf);refine zT 300 [2] (jsx ht hP) qa ?_)
 (repeat' ((conv=>whnf);first|refine zO ?_|refine Ob.auto ?_|refine zD 300 ?_|(apply zB <;> intro hb <;> (try simp [-zd] at hb) <;> try (exfalso;omega))))
 ·have hn:(qco ts ⟨0,0,0,0⟩).2.err≠0:=by assumption
  have e:qok ts=([],((qco ts ⟨0,0,0,0⟩).2.err,(qco ts ⟨0,0,0,0⟩).2.fat)):=zb hn
  rw [e]
  exact Le.tup ⟨Le.nils _ _,Le.refl _,trivial⟩
 have hn:(qco ts ⟨0,0,0,0⟩).2.err=0:=by assumption
 have hsz:(qco ts ⟨0,0,0,0⟩).1.size≤100000:=by
  have:=jtq ht hP.at_ hn
  have:=ht.len
  omega
 have e2:qok ts=if 800<(layT 0 (qco ts ⟨0,0,0,0⟩).1).length then ([],(12,0)) else if 0≤deepT (qco ts ⟨0,0,0,0⟩).1 1 then ([],(12,deepT (qco ts ⟨0,0,0,0⟩).1 1)) else (layT 0 (qco ts ⟨0,0,0,0⟩).1,(0,0)):=za (fun h=>h hn)
 rw [e2]
 generalize (qco ts ⟨0,0,0,0⟩).1=t at hsz ⊢
 (conv=>whnf)
 refine qij (fun _=>rfl) 300 [] (jtg t hsz) (by kernel_rfl) leA trivial (by exact qb rfl) (rowsM _) (by kernel_rfl) ?_
 (repeat' ((conv=>whnf);first|refine Ob.auto ?_|refine zC 300 (jsz _ t 1 (zl _) hsz (by decide) (by decide)) ?_|(apply zB <;> intro hb <;> (try simp [-zd] at hb) <;> try (exfalso;omega))|refine Ob.intro ?_ ?_|fail))
 ·have hb8:800<(layT 0 t).length:=by omega
  rw [zb hb8]
  exact Le.tup ⟨Le.nils _ _,Le.refl _,trivial⟩
 ·have hb8:¬ 800<(layT 0 t).length:=by omega
  rw [za hb8,zb (by assumption)]
  exact Le.tup ⟨Le.nils _ _,Le.refl _,trivial⟩
 ·exact ⟨⟨trivial,⟨rfl,rfl⟩,fun k hk=>⟨trivial,trivial,trivial,⟨hk,⟨rfl,rfl⟩,trivial⟩,trivial,trivial⟩⟩,⟨trivial,trivial,trivial⟩,trivial⟩
 ·have hb8:¬ 800<(layT 0 t).length:=by omega
  rw [za hb8,za (by omega)]
  refine Le.tup ⟨Le.slcL rfl (fun k hk=>?_),Le.refl _,trivial⟩
  exact ⟨Le.refl _,Le.refl _,Le.refl _,Le.refl _,Le.refl _,trivial⟩
end Go.Proofs.YtikahnkkfkoglaaGreatDoor
end
section
namespace Go.Proofs.YtikahnkkfkoglaaGreatDoor
open Go Go.Sx Go.RowKit Go.St
set_option maxRecDepth 100000
set_option maxHeartbeats 4000000



end Go.Proofs.YtikahnkkfkoglaaGreatDoor
end
section
namespace Go.Proofs.YtikahnkkfkoglaaGreatDoor
open List renaming getD_eq_getElem?_getD → zd
open Go Go.Sx Go.RowKit Go.St
set_option maxRecDepth 100000
set_option maxHeartbeats 4000000
theorem qpb (L:List (List UInt8)) (hL:L.length≤1000000) (s:List UInt8):Con Tryz.prog 130 [strs L,.str s] (.bool (inF L s)):=by
 refine zK {} 300 Tryz.func130 (fun c0 rdb=>?_)
 ((conv=>whnf);refine qt (fun _=>rfl) 300 1 (fun i:Nat=>[(5,iv i)]) (fun _=>[]) (fun i=>i≤L.length∧∀ j,j<i→(L.getD j [] == s)=false) (fun i=>L.length - i) (0) (⟨by omega,fun j hj=>absurd hj (zi j)⟩) qa qa (fun _=>rfl) (by kernel_rfl) ?_;(conv=>whnf))
 intro i hi
 (repeat' ((conv=>whnf);first|refine Ob.auto ?_|(apply zB <;> intro hb <;> (try simp [-zd] at hb) <;> try (exfalso;omega))))
 ·refine Le.of_eq (congrArg AV.bool ?_)
  exact (List.any_eq_true.2 ⟨L.getD i [],qr L i [] (by omega),by simpa using hb⟩).symm
 ·((conv=>whnf);refine ⟨i+1,⟨by omega,qcc hi.2 (beq_eq_false_iff_ne.2 hb)⟩,⟨qa,qa⟩,⟨qa,qa⟩,?_⟩;(first|omega|(dsimp only;omega)|skip))
 ·refine Le.of_eq (congrArg AV.bool ?_)
  unfold inF
  rw [eq_comm,xf]
  intro h
  obtain ⟨x,hx,he⟩:=List.any_eq_true.1 h
  obtain ⟨j,hj,rfl⟩:=List.mem_iff_getElem.1 hx
  have:=hi.2 j (by omega)
  rw [zd,ze hj] at this
  simp only [zaf] at this
  rw [this] at he;cases he
theorem qsh (l:List Nd) (h0:1≤l.length) (hk:(l.getD 0 nd0).kids.length≤1000000) (a:Int):Con Tryz.prog 137 [qz l,iv a] (iv (itemF l a)):=by
 refine zK {} 300 Tryz.func137 (fun c0 rdb=>?_)
 ((conv=>whnf);refine qt (fun _=>rfl) 300 1 (fun g:Nat × Int=>[(6,iv g.1),(5,iv g.2)]) (fun _=>[]) (fun g=>g.1≤(l.getD 0 nd0).kids.length∧itemF l a=qba a ((l.getD 0 nd0).kids.drop g.1) g.2) (fun g=>(l.getD 0 nd0).kids.length - g.1) ((0,0)) (⟨by simp,rfl⟩) qa qa (fun _=>rfl) (by kernel_rfl) ?_;(conv=>whnf))
 rintro ⟨i,o⟩ ⟨hi,hs⟩
 simp only at hi hs
 (repeat' ((conv=>whnf);first|refine Ob.auto ?_|(apply zB <;> intro hb <;> (try simp [-zd] at hb) <;> try (exfalso;omega))))
 ·rw [qma _ i 0 (by omega),qba,zb (by omega)] at hs
  ((conv=>whnf);refine ⟨(i+1,(l.getD 0 nd0).kids.getD i 0),⟨by simp only;omega,hs⟩,⟨qa,qa⟩,⟨qa,qa⟩,?_⟩;(first|omega|(dsimp only;omega)|skip))
 ·rw [qma _ i 0 (by omega),qba,za (by omega)] at hs
  ((conv=>whnf);refine ⟨(i+1,o),⟨by simp only;omega,hs⟩,⟨qa,qa⟩,⟨qa,qa⟩,?_⟩;(first|omega|(dsimp only;omega)|skip))
 ·refine Le.of_eq (congrArg (AV.int _) ?_)
  obtain rfl:i=(l.getD 0 nd0).kids.length:=by omega
  rw [hs,List.drop_length,qba]
theorem qxn (l:List Nd) (ht:Tree l) (a:Int) (h0:0≤a) (h1:a<l.length) (kind:Int) (hk:kind=1∨kind=2∨kind=3):Con Tryz.prog 129 [qz l,iv a,iv kind] (strs (qdd l a kind)):=by
 have hlen:=ht.len
 have hk0:=(ht.kidsLen (j:=0) (by omega)).1
 refine zK {owns:=[(7,(9,1))]} 300 Tryz.func129 (fun c0 rdb=>?_)
 (repeat' ((conv=>whnf);first|refine zC 300 (qsh l (by omega) (by omega) _) ?_|fail))
 ((conv=>whnf);refine qt (fun _=>rfl) 300 1 (fun g:Nat × List (List UInt8)=>[(9,iv g.1),(7,.own 0 0 0 g.2.length)]) (fun g=>[(0,.row [] 9 1 0 g.2.length (encL (fun s=>[.str s]) [] g.2))]) (fun g=>(g.1:Int)≤a∧g.2=qfv l (itemF l a) kind g.1) (fun g=>a.toNat - g.1) ((0,[])) (⟨by simp;omega,rfl⟩) qa ⟨qda (fun k hk=>absurd hk (zi k)),trivial⟩ (fun _=>rfl) (by kernel_rfl) ?_;(conv=>whnf))
 rintro ⟨i,L⟩ ⟨hi,hL⟩
 simp only at hi hL
 have hle:=qop l (itemF l a) kind i
 have hln:i<l.length→LenOk (l.getD i nd0):=fun h=>ht.lens i h
 have hw:i<l.length→(l.getD i nd0).kind=kind→0<((l.getD i nd0).words.length:Int):=fun h e=>by have:=(hln h).w1;omega
 have hsu:=qvc l (itemF l a) kind i
 unfold qom at hsu
 rw [← hL] at hle hsu
 have hin:=qpb L (by omega) ((l.getD i nd0).words.getD 0 [])
 (repeat' ((conv=>whnf);first|refine Ob.auto ?_|(refine Ob.intro (by (exact ⟨by omega,by first|omega|exact hw (by omega) (by assumption)⟩)) ?_)|refine zC 300 (qsh l (by omega) (by omega) _) ?_|refine zG 300 (fun hg=>qsh l (by omega) (by omega) _) ?_|(refine qm (fun _=>rfl) 300 (hin) qc (by (repeat' (first|exact trivial|exact Le.refl _|(refine And.intro ?_ ?_))) <;> fail) (by rfl) (by kernel_rfl) ?_)|(apply zB <;> intro hb <;> (try simp [-zd] at hb) <;> try (exfalso;omega))))
 ·((conv=>whnf);refine ⟨(i+1,L),⟨by simp only;omega,by rw [hsu,za hb]⟩,⟨qa,qa⟩,⟨qa,qa⟩,?_⟩;(first|omega|(dsimp only;omega)|skip))
 ·rename_i hkd hor
  ((conv=>whnf);refine ⟨(i+1,L++[qfu (l.getD i nd0)]),⟨by simp only;omega,by rw [hsu,zb hkd,zb (by simpa using hor),za (by unfold qfu;rw [hb];decide)]⟩,⟨qa,qa⟩,⟨qa,qa⟩,?_⟩;(first|omega|(dsimp only;omega)|skip))
 ·rename_i hkd hor
  ((conv=>whnf);refine ⟨(i+1,L),⟨by simp only;omega,by rw [hsu,zb hkd,zb (by simpa using hor),zb (by unfold qfu;exact hb)]⟩,⟨qa,qa⟩,⟨qa,qa⟩,?_⟩;(first|omega|(dsimp only;omega)|skip))
 ·rename_i hkd
  ((conv=>whnf);refine ⟨(i+1,L),⟨by simp only;omega,by rw [hsu,zb hkd,za (by simpa using hb)]⟩,⟨qa,qa⟩,⟨qa,qa⟩,?_⟩;(first|omega|(dsimp only;omega)|skip))
 ·refine Le.of_eq ?_
  rw [qdd,show a.toNat=i by omega,← hL];rfl
theorem jtw (l:List Nd) (ht:Tree l) (i:Nat) (h1:i<l.length):Con Tryz.prog 98 [qz l,iv i] (.bool (badF l i)):=by
 have hlen:=ht.len
 have hln:=ht.lens i h1
 have hw1:=hln.w1
 have hw2:=hln.w2
 have n1:=qop l (itemF l i) 1 i
 have n2:=qop l (itemF l i) 2 i
 have n3:=qop l (itemF l i) 3 i
 have e:∀ k,qdd l i k=qfv l (itemF l i) k i:=fun k=>rfl
 rw [← e] at n1 n2 n3
 refine zK {} 600 Tryz.func98 (fun c0 rdb=>?_)
 (repeat' ((conv=>whnf);first|refine Ob.auto ?_|refine zC 600 (qxn l ht i (by omega) (by omega) 1 (by decide)) ?_|refine zC 600 (qxn l ht i (by omega) (by omega) 2 (by decide)) ?_|refine zC 600 (qxn l ht i (by omega) (by omega) 3 (by decide)) ?_|refine zC 600 (qpb (qdd l i 1) (by omega) _) ?_|refine zC 600 (qpb (qdd l i 2) (by omega) _) ?_|refine zG 600 (fun hg=>qpb (qdd l i 2) (by omega) _) ?_|refine zG 600 (fun hg=>qpb (qdd l i 3) (by omega) _) ?_|(apply zB <;> intro hb <;> (try simp [-zd] at hb) <;> try (exfalso;omega))))
 all_goals
  refine Le.of_eq (congrArg AV.bool ?_)
  rw [badF]
  ((repeat (first|rw [zb (by omega)]|rw [za (by omega)])) <;> rfl)
theorem jtx (l:List Nd) (ht:Tree l):Con Tryz.prog 64 [qz l] (flt (qhp l).1 (qhp l).2):=by
 have hlen:=ht.len
 refine zK {} 300 Tryz.func64 (fun c0 rdb=>?_)
 ((conv=>whnf);refine qt (fun _=>rfl) 300 1 (fun i:Nat=>[(3,iv i)]) (fun _=>[]) (fun i=>i≤l.length∧∀ j,j<i→badF l j=false) (fun i=>l.length - i) (0) (⟨by omega,fun j hj=>absurd hj (zi j)⟩) qa qa (fun _=>rfl) (by kernel_rfl) ?_;(conv=>whnf))
 intro i hi
 have hr:∀ j,j<(List.range l.length).length→j<l.length:=fun j hj=>by simpa using hj
 (repeat' ((conv=>whnf);first|refine Ob.auto ?_|refine zC 300 (jtw l ht i (by omega)) ?_|(apply zB <;> intro hb <;> (try simp [-zd] at hb) <;> try (exfalso;omega))))
 ·have h1:i<l.length:=by omega
  have:=qhk (badF l) (List.range l.length) 0 i (by simpa using h1) (by rw [qhm _ _ _ (by omega)];exact hb) (fun j hj=>by rw [qhm _ _ _ (by omega)];exact hi.2 j hj)
  refine Le.of_eq ?_
  rw [qhp,this,za (by omega)];rfl
 ·((conv=>whnf);refine ⟨i+1,⟨by omega,qcc hi.2 hb⟩,⟨qa,qa⟩,⟨qa,qa⟩,?_⟩;(first|omega|(dsimp only;omega)|skip))
 ·have:=qhl (badF l) (List.range l.length) 0 (fun j hj=>by have hj':=hr j hj;rw [qhm _ _ _ hj'];exact hi.2 j (by omega))
  refine Le.of_eq ?_
  rw [qhp,this,zb (by omega)];rfl
end Go.Proofs.YtikahnkkfkoglaaGreatDoor
end
