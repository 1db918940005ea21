/- Some texts of the library, one behind the other. -/
import Derived.Test.YtikahnkkfkoglaaGreatDoorY1PaL
import Derived.Test.YtikahnkkfkoglaaGreatDoorY134
import Derived.Test.YtikahnkkfkoglaaGreatDoorY1LexQ2
import Derived.Test.YtikahnkkfkoglaaGreatDoorY124
import Derived.Test.YtikahnkkfkoglaaGreatDoorY18
import Derived.Test.YtikahnkkfkoglaaGreatDoorY12
import Derived.Test.YtikahnkkfkoglaaGreatDoorY1MkP
set_option linter.unusedSimpArgs false
set_option linter.unusedVariables false
section
namespace Go.Proofs.YtikahnkkfkoglaaGreatDoor
open List renaming getD_eq_getElem?_getD → zd
open Go Go.Sx Go.RowKit Go.St Pa
set_option maxRecDepth 100000
set_option maxHeartbeats 8000000
theorem jsz (s:List UInt8) (hs:s.length≤1000000):Con Tryz.prog 15 [.str s] (jqs (qor s)):=by
 refine zK {} 300 Tryz.func15 (fun c0 rdb=>?_)
 (repeat' ((conv=>whnf);first|refine zO ?_|refine Ob.auto ?_|refine zC 300 (jri s hs) ?_|refine zD 300 ?_|(apply zB <;> intro hb <;> (try simp [-zd] at hb) <;> try (exfalso;omega))))
 ·have he:(Lx.lexAll s).2.1≠0:=by assumption
  have e:qor s=([],(Lx.lexAll s).2):=zb he
  rw [e]
  exact Le.tup ⟨Le.nils _ _,Le.refl _,trivial⟩
 have he:(Lx.lexAll s).2.1=0:=by assumption
 obtain ⟨ht,h0⟩:=jsy he
 have e:qor s=qoq (Lx.lexAll s).1:=za (by rw [he];decide)
 rw [e]
 generalize hts:(Lx.lexAll s).1=ts at ht h0 ⊢
 have hP:Pre ts ts.length ⟨0,0,0,0⟩:=⟨⟨zw _,by simp only;omega⟩,by simp,by simp⟩
 ((conv=>whnf);refine zT 300 [2] (jsb ht hP) qa ?_)
 (repeat' ((conv=>whnf);first|refine zO ?_|refine Ob.auto ?_|refine zD 300 ?_|(apply zB <;> intro hb <;> (try simp [-zd] at hb) <;> try (exfalso;omega))))
 ·have hn:(qcs ts ⟨0,0,0,0⟩).2.err≠0:=by assumption
  have e:qoq ts=([],((qcs ts ⟨0,0,0,0⟩).2.err,(qcs ts ⟨0,0,0,0⟩).2.fat)):=zb hn
  rw [e]
  exact Le.tup ⟨Le.nils _ _,Le.refl _,trivial⟩
 have hn:(qcs ts ⟨0,0,0,0⟩).2.err=0:=by assumption
 have hsz:(qcs ts ⟨0,0,0,0⟩).1.size≤100000:=by
  have:=jst ht hP.at_ hn
  have:=ht.len
  omega
 have e2:qoq ts=if 800<(layT 0 (qcs ts ⟨0,0,0,0⟩).1).length then ([],(12,0)) else if 0≤deepT (qcs ts ⟨0,0,0,0⟩).1 1 then ([],(12,deepT (qcs ts ⟨0,0,0,0⟩).1 1)) else (layT 0 (qcs ts ⟨0,0,0,0⟩).1,(0,0)):=za (fun h=>h hn)
 rw [e2]
 generalize (qcs ts ⟨0,0,0,0⟩).1=t at hsz ⊢
 (conv=>whnf)
 refine qig (fun _=>rfl) 300 [] (jsj t hsz) (by kernel_rfl) leA trivial (by exact qb rfl) (rowsM _) (by kernel_rfl) ?_
 (repeat' ((conv=>whnf);first|refine Ob.auto ?_|refine zC 300 (jsc _ t 1 (zi _) hsz (by decide) (by decide)) ?_|(apply zB <;> intro hb <;> (try simp [-zd] at hb) <;> try (exfalso;omega))|refine Ob.intro ?_ ?_|fail))
 ·have hb8:800<(layT 0 t).length:=by omega
  rw [zb hb8]
  exact Le.tup ⟨Le.nils _ _,Le.refl _,trivial⟩
 ·have hb8:¬ 800<(layT 0 t).length:=by omega
  rw [za hb8,zb (by assumption)]
  exact Le.tup ⟨Le.nils _ _,Le.refl _,trivial⟩
 ·exact ⟨⟨trivial,⟨rfl,rfl⟩,fun k hk=>⟨trivial,trivial,trivial,⟨hk,⟨rfl,rfl⟩,trivial⟩,trivial,trivial⟩⟩,⟨trivial,trivial,trivial⟩,trivial⟩
 ·have hb8:¬ 800<(layT 0 t).length:=by omega
  rw [za hb8,za (by omega)]
  refine Le.tup ⟨Le.slcL rfl (fun k hk=>?_),Le.refl _,trivial⟩
  exact ⟨Le.refl _,Le.refl _,Le.refl _,Le.refl _,Le.refl _,trivial⟩
end Go.Proofs.YtikahnkkfkoglaaGreatDoor
end
section
namespace Go.Proofs.YtikahnkkfkoglaaGreatDoor
open Go Go.Sx Go.RowKit Go.St
set_option maxRecDepth 100000
set_option maxHeartbeats 4000000
theorem jta (l:List Nd) (n:Nd) (hn:NdSz n) (hk:∀ k∈n.kids,0≤k∧k<l.length):Con Tryz.prog 42 [jr l,.agg n.cells] (.bool (nodeB l n)):=by
 have hl:=hn.lk
 refine zK {} 600 Tryz.func42 (fun c0 rdb=>?_)
 (repeat' ((conv=>whnf);first|refine Ob.auto ?_|(refine Ob.intro (by ((intro h;refine ⟨h,?_⟩;simp only [zf,numsB,xx] at h;omega))) ?_)|refine zC 600 (jed n hn _) ?_|refine zG 600 (fun hg=>jec n hn _ _) ?_|refine zG 600 (fun hg=>jee l n hn hk 0 (by omega) _ _) ?_|refine zG 600 (fun hg=>jrf l n hn hk _ _ _ (by omega)) ?_|refine zG 600 (fun hg=>qwp _ _ _) ?_|(apply zB <;> intro hb <;> (try simp [-List.getD_eq_getElem?_getD] at hb) <;> try (exfalso;omega))))
 all_goals first
  | (refine Le.of_eq (congrArg AV.bool ?_);rw [nodeB];((repeat (first|rw [zb (by omega)]|rw [za (by omega)])) <;> rfl))
  | skip
 ((conv=>whnf);refine qo (fun _=>rfl) 600 1 (fun i:Nat=>[(6,iv i)]) (fun _=>[]) (fun i=>i≤n.kids.length∧∀ j,j<i→kidK l n j=2) (fun i=>n.kids.length - i) (0) (⟨by omega,fun j hj=>absurd hj (zj j)⟩) qa qa (fun _=>rfl) (by kernel_rfl) ?_;(conv=>whnf))
 intro i hi
 (repeat' ((conv=>whnf);first|refine Ob.auto ?_|(refine qza (fun _=>rfl) 600 (fun hg=>qwq l n i (by omega) (by first|omega|(have:=zm hg;omega)) hk) (by rfl) jn (by kernel_rfl) ?_)|refine zC 600 (jed n hn _) ?_|refine zG 600 (fun hg=>jec n hn _ _) ?_|refine zG 600 (fun hg=>jee l n hn hk i (by omega) _ _) ?_|(apply zB <;> intro hb <;> (try simp [-List.getD_eq_getElem?_getD] at hb) <;> try (exfalso;omega))))
 ·((conv=>whnf);refine ⟨i+1,⟨by omega,qbe hi.2 hb.2⟩,⟨qa,qa⟩,⟨qa,qa⟩,?_⟩;(first|omega|(dsimp only;omega)|skip))
 ·rename_i h3
  refine Le.of_eq (congrArg AV.bool ?_)
  rw [nodeB,za (by omega),za (by omega),za (by omega),zb (by omega),jbd l n i hi.1 hi.2 (by omega)]
end Go.Proofs.YtikahnkkfkoglaaGreatDoor
end
section
namespace Go.Proofs.YtikahnkkfkoglaaGreatDoor
open List renaming getD_eq_getElem?_getD → zd
open Go Go.Sx Go.RowKit Go.St
set_option maxRecDepth 100000
set_option maxHeartbeats 4000000
theorem jtb (l:List Nd) (hl:l.length≤9223372036854775807) (hz:∀ n∈l,NdSz n):∀ (f:Nat) (a deep:Int),0≤a→a<l.length→deep+f=21→f≤21→Con Tryz.prog 41 [jr l,iv a,iv deep] (.tup [iv (walkF l f a).1,.bool (walkF l f a).2]):=by
 intro f
 induction f with
 | zero=>
  intro a deep h0 h1 hd hf
  refine zK {} 300 Tryz.func41 (fun c0 rdb=>?_)
  (repeat' ((conv=>whnf);first|refine Ob.auto ?_|(apply zB <;> intro hb <;> (try simp [-zd] at hb) <;> try (exfalso;omega))))
  exact Le.refl _
 | succ f ih=>
  intro a deep h0 h1 hd hf
  have hza:=hz _ (qm l a.toNat nd0 (by omega))
  have hkl:=hza.lk
  refine zK {} 300 Tryz.func41 (fun c0 rdb=>?_)
  (repeat' ((conv=>whnf);first|refine Ob.auto ?_|(apply zB <;> intro hb <;> (try simp [-zd] at hb) <;> try (exfalso;omega))))
  ((conv=>whnf);refine qo (fun _=>rfl) 300 1 (fun g:Nat × Int=>[(9,iv g.1),(8,iv g.2)]) (fun _=>[]) (fun g=>(g.1≤(l.getD a.toNat nd0).kids.length∧0≤g.2)∧walkF l (f+1) a=walkL (walkF l f) l.length ((l.getD a.toNat nd0).kids.drop g.1) g.2) (fun g=>(l.getD a.toNat nd0).kids.length - g.1) ((0,a+1)) (⟨by simp;omega,rfl⟩) qa qa (fun _=>rfl) (by kernel_rfl) ?_;(conv=>whnf))
  rintro ⟨i,next⟩ ⟨⟨hi,hn0⟩,hw⟩
  simp only at hi hw hn0
  have hdr:=fun h=>qhj (l.getD a.toNat nd0).kids i 0 h
  have hge:=jbs l f next hn0
  (repeat' ((conv=>whnf);first|refine Ob.auto ?_|refine zC 300 (ih next (deep+1) (by omega) (by omega) (by omega) (by omega)) ?_|(apply zB <;> intro hb <;> (try simp [-zd] at hb) <;> try (exfalso;omega))))
  ·rw [hdr (by omega),walkL,zb (by omega)] at hw
   rw [hw];exact Le.refl _
  ·rename_i hb1
   rw [hdr (by omega),walkL,za (by omega),zb hb] at hw
   rw [hw,hb];exact Le.refl _
  ·rename_i hb1
   ((conv=>whnf);refine ⟨(i+1,(walkF l f next).1),⟨⟨by simp only;omega,by simp only;omega⟩,by rw [hdr (by omega),walkL,za (by omega),za (by rw [hb];decide)] at hw;exact hw⟩,⟨qa,qa⟩,⟨qa,qa⟩,?_⟩;(first|omega|(dsimp only;omega)|skip))
  ·have:i=(l.getD a.toNat nd0).kids.length:=by omega
   rw [this,List.drop_length,walkL] at hw
   rw [hw];exact Le.refl _
theorem qly (l:List Nd) (hl:l.length≤9223372036854775807) (hz:∀ n∈l,NdSz n):Con Tryz.prog 18 [jr l] (.bool (qfo l)):=by
 by_cases h0:(decide (l.length=0) || decide (800<l.length) || (l.getD 0 nd0).kind != 0)=true
 ·have hr:qfo l=false:=by unfold qfo;rw [h0];rfl
  rw [hr]
  simp only [zaa,xd,bne_iff_ne,ne_eq] at h0
  refine zK {} 300 Tryz.func18 (fun c0 rdb=>?_)
  (repeat' ((conv=>whnf);first|refine Ob.auto ?_|(refine Ob.intro (by ((intro h;simp at h;have:=List.length_pos_iff.2 h.1;exact ⟨by simp [h],by omega,by omega⟩))) ?_)|(apply zB <;> intro hb <;> (try simp [-zd] at hb) <;> try (exfalso;omega))))
  ·exact Le.refl _
  ·exfalso
   have:=List.length_pos_iff.2 hb.1.1
   omega
 ·have h0':(decide (l.length=0) || decide (800<l.length) || (l.getD 0 nd0).kind != 0)=false:=by simpa using h0
  simp only [zaa,xd,bne_iff_ne,ne_eq,not_or,Decidable.not_not] at h0
  have hr:qfo l=(((walkF l 20 0).2 && (walkF l 20 0).1 == l.length) && l.all (nodeB l)):=by unfold qfo;rw [h0'];rfl
  rw [hr]
  refine zK {} 300 Tryz.func18 (fun c0 rdb=>?_)
  (repeat' ((conv=>whnf);first|refine Ob.auto ?_|refine zC 300 (jtb l hl hz 20 0 1 (by omega) (by omega) (by omega) (by omega)) ?_|(apply zB <;> intro hb <;> (try simp [-zd] at hb) <;> try (exfalso;omega))))
  ·exfalso;rcases hb with (hb|hb)|hb
   ·rw [hb] at h0;simp at h0
   ·omega
   ·omega
  ·refine Le.of_eq (congrArg AV.bool ?_)
   rcases hb with hb|hb
   ·rw [hb];rfl
   ·rw [show ((walkF l 20 0).1 == (l.length:Int))=false from beq_eq_false_iff_ne.2 hb,Bool.and_false];rfl
  ·have hw:((walkF l 20 0).2 && (walkF l 20 0).1 == (l.length:Int))=true:=by rw [hb.1,hb.2];simp
   have hk:∀ j:Nat,j<l.length→∀ k∈(l.getD j nd0).kids,0≤k∧k<l.length:=fun j hj k hk=>by
    have:=(qae l 20 0 l.length (zw _) (Prod.ext hb.2 hb.1)).2 j (by omega) (by omega) k hk
    omega
   ((conv=>whnf);refine qo (fun _=>rfl) 300 1 (fun i:Nat=>[(5,iv i)]) (fun _=>[]) (fun i=>i≤l.length∧∀ j,j<i→nodeB l (l.getD j nd0)=true) (fun i=>l.length - i) (0) (⟨by omega,fun j hj=>absurd hj (zj j)⟩) qa qa (fun _=>rfl) (by kernel_rfl) ?_;(conv=>whnf))
   intro i hi
   (repeat' ((conv=>whnf);first|refine Ob.auto ?_|refine zC 300 (jta l (l.getD i nd0) (hz _ (qm l i nd0 (by omega))) (hk i (by omega))) ?_|(apply zB <;> intro hb <;> (try simp [-zd] at hb) <;> try (exfalso;omega))))
   ·refine Le.of_eq (congrArg AV.bool ?_)
    rw [hw,qrf (q:=nodeB l) nd0 (j:=i) (by omega) hb];rfl
   ·((conv=>whnf);refine ⟨i+1,⟨by omega,qbe hi.2 hb⟩,⟨qa,qa⟩,⟨qa,qa⟩,?_⟩;(first|omega|(dsimp only;omega)|skip))
   ·refine Le.of_eq (congrArg AV.bool ?_)
    rw [hw,qre (q:=nodeB l) nd0 (fun j hj=>hi.2 j (by omega))];rfl
def qiw:List Nd→Int→Int
 | [],n=>n
 | x::r,n=>if n≤1500 then qiw r (IntKind.i64.wrap (IntKind.i64.wrap (IntKind.i64.wrap (n+x.words.length)+x.nums.length)+x.kids.length)) else n
theorem qlz (l:List Nd) (hl:l.length≤9223372036854775807):Con Tryz.prog 17 [jr l] (.bool (decide (qiw l l.length≤1500))):=by
 refine zK {wraps:=[18,19,20,21,22,23,24,25,26,27,28,29,30,31,32,33,34,35,36,37,38]} 300 Tryz.func17 (fun c0 rdb=>?_)
 ((conv=>whnf);refine qo (fun _=>rfl) 300 1 (fun g:Nat × Int=>[(4,iv g.1),(3,iv g.2)]) (fun _=>[]) (fun g=>g.1≤l.length∧qiw l l.length=qiw (l.drop g.1) g.2) (fun g=>l.length - g.1) ((0,(l.length:Int))) (⟨by simp,rfl⟩) qa qa (fun _=>rfl) (by kernel_rfl) ?_;(conv=>whnf))
 rintro ⟨i,n⟩ ⟨hi,hs⟩
 simp only at hi hs
 (repeat' ((conv=>whnf);first|refine zO ?_|refine Ob.auto ?_|(refine zP 300 ?_)|(apply zB <;> intro hb <;> (try simp [-zd] at hb) <;> try (exfalso;omega))))
 ·rw [qhj l i nd0 (by omega),qiw,zb (by omega)] at hs
  ((conv=>whnf);refine ⟨(i+1,IntKind.i64.wrap (IntKind.i64.wrap (IntKind.i64.wrap (n+(l.getD i nd0).words.length)+(l.getD i nd0).nums.length)+(l.getD i nd0).kids.length)),⟨by simp only;omega,hs⟩,⟨qa,qa⟩,⟨qa,qa⟩,?_⟩;(first|omega|(dsimp only;omega)|skip))
 ·refine Le.of_eq (congrArg AV.bool ?_)
  by_cases hl:i<l.length
  ·rw [qhj l i nd0 (by omega),qiw,za (by omega)] at hs
   rw [hs]
  ·obtain rfl:i=l.length:=by omega
   rw [List.drop_length,qiw] at hs
   rw [hs]
theorem qoy (L:List (List UInt8)) (hL:L.length≤1000000) (s:List UInt8):Con Tryz.prog 130 [strs L,.str s] (.bool (inF L s)):=by
 refine zK {} 300 Tryz.func130 (fun c0 rdb=>?_)
 ((conv=>whnf);refine qo (fun _=>rfl) 300 1 (fun i:Nat=>[(5,iv i)]) (fun _=>[]) (fun i=>i≤L.length∧∀ j,j<i→(L.getD j [] == s)=false) (fun i=>L.length - i) (0) (⟨by omega,fun j hj=>absurd hj (zj j)⟩) qa qa (fun _=>rfl) (by kernel_rfl) ?_;(conv=>whnf))
 intro i hi
 (repeat' ((conv=>whnf);first|refine Ob.auto ?_|(apply zB <;> intro hb <;> (try simp [-zd] at hb) <;> try (exfalso;omega))))
 ·refine Le.of_eq (congrArg AV.bool ?_)
  exact (List.any_eq_true.2 ⟨L.getD i [],qm L i [] (by omega),by simpa using hb⟩).symm
 ·((conv=>whnf);refine ⟨i+1,⟨by omega,qbe hi.2 (beq_eq_false_iff_ne.2 hb)⟩,⟨qa,qa⟩,⟨qa,qa⟩,?_⟩;(first|omega|(dsimp only;omega)|skip))
 ·refine Le.of_eq (congrArg AV.bool ?_)
  unfold inF
  rw [eq_comm,xj]
  intro h
  obtain ⟨x,hx,he⟩:=List.any_eq_true.1 h
  obtain ⟨j,hj,rfl⟩:=List.mem_iff_getElem.1 hx
  have:=hi.2 j (by omega)
  rw [zd,ze hj] at this
  simp only [zaj] at this
  rw [this] at he;cases he
theorem qsk (l:List Nd) (h0:1≤l.length) (hk:(l.getD 0 nd0).kids.length≤1000000) (a:Int):Con Tryz.prog 137 [jr l,iv a] (iv (itemF l a)):=by
 refine zK {} 300 Tryz.func137 (fun c0 rdb=>?_)
 ((conv=>whnf);refine qo (fun _=>rfl) 300 1 (fun g:Nat × Int=>[(6,iv g.1),(5,iv g.2)]) (fun _=>[]) (fun g=>g.1≤(l.getD 0 nd0).kids.length∧itemF l a=qba a ((l.getD 0 nd0).kids.drop g.1) g.2) (fun g=>(l.getD 0 nd0).kids.length - g.1) ((0,0)) (⟨by simp,rfl⟩) qa qa (fun _=>rfl) (by kernel_rfl) ?_;(conv=>whnf))
 rintro ⟨i,o⟩ ⟨hi,hs⟩
 simp only at hi hs
 (repeat' ((conv=>whnf);first|refine Ob.auto ?_|(apply zB <;> intro hb <;> (try simp [-zd] at hb) <;> try (exfalso;omega))))
 ·rw [qhj _ i 0 (by omega),qba,zb (by omega)] at hs
  ((conv=>whnf);refine ⟨(i+1,(l.getD 0 nd0).kids.getD i 0),⟨by simp only;omega,hs⟩,⟨qa,qa⟩,⟨qa,qa⟩,?_⟩;(first|omega|(dsimp only;omega)|skip))
 ·rw [qhj _ i 0 (by omega),qba,za (by omega)] at hs
  ((conv=>whnf);refine ⟨(i+1,o),⟨by simp only;omega,hs⟩,⟨qa,qa⟩,⟨qa,qa⟩,?_⟩;(first|omega|(dsimp only;omega)|skip))
 ·refine Le.of_eq (congrArg (AV.int _) ?_)
  obtain rfl:i=(l.getD 0 nd0).kids.length:=by omega
  rw [hs,List.drop_length,qba]
theorem qxe (l:List Nd) (ht:Tree l) (a:Int) (h0:0≤a) (h1:a<l.length) (kind:Int) (hk:kind=1∨kind=2∨kind=3):Con Tryz.prog 129 [jr l,iv a,iv kind] (strs (qdd l a kind)):=by
 have hlen:=ht.len
 have hk0:=(ht.kidsLen (j:=0) (by omega)).1
 refine zK {owns:=[(7,(9,1))]} 300 Tryz.func129 (fun c0 rdb=>?_)
 (repeat' ((conv=>whnf);first|refine zC 300 (qsk l (by omega) (by omega) _) ?_|fail))
 ((conv=>whnf);refine qo (fun _=>rfl) 300 1 (fun g:Nat × List (List UInt8)=>[(9,iv g.1),(7,.own 0 0 0 g.2.length)]) (fun g=>[(0,.row [] 9 1 0 g.2.length (encL (fun s=>[.str s]) [] g.2))]) (fun g=>(g.1:Int)≤a∧g.2=qfq l (itemF l a) kind g.1) (fun g=>a.toNat - g.1) ((0,[])) (⟨by simp;omega,rfl⟩) qa ⟨qda (fun k hk=>absurd hk (zj k)),trivial⟩ (fun _=>rfl) (by kernel_rfl) ?_;(conv=>whnf))
 rintro ⟨i,L⟩ ⟨hi,hL⟩
 simp only at hi hL
 have hle:=qnu l (itemF l a) kind i
 have hln:i<l.length→LenOk (l.getD i nd0):=fun h=>ht.lens i h
 have hw:i<l.length→(l.getD i nd0).kind=kind→0<((l.getD i nd0).words.length:Int):=fun h e=>by have:=(hln h).w1;omega
 have hsu:=qva l (itemF l a) kind i
 unfold qnr at hsu
 rw [← hL] at hle hsu
 have hin:=qoy L (by omega) ((l.getD i nd0).words.getD 0 [])
 (repeat' ((conv=>whnf);first|refine Ob.auto ?_|(refine Ob.intro (by (exact ⟨by omega,by first|omega|exact hw (by omega) (by assumption)⟩)) ?_)|refine zC 300 (qsk l (by omega) (by omega) _) ?_|refine zG 300 (fun hg=>qsk l (by omega) (by omega) _) ?_|(refine ql (fun _=>rfl) 300 (hin) qc (by (repeat' (first|exact trivial|exact Le.refl _|(refine And.intro ?_ ?_))) <;> fail) (by rfl) (by kernel_rfl) ?_)|(apply zB <;> intro hb <;> (try simp [-zd] at hb) <;> try (exfalso;omega))))
 ·((conv=>whnf);refine ⟨(i+1,L),⟨by simp only;omega,by rw [hsu,za hb]⟩,⟨qa,qa⟩,⟨qa,qa⟩,?_⟩;(first|omega|(dsimp only;omega)|skip))
 ·rename_i hkd hor
  ((conv=>whnf);refine ⟨(i+1,L++[qfp (l.getD i nd0)]),⟨by simp only;omega,by rw [hsu,zb hkd,zb (by simpa using hor),za (by unfold qfp;rw [hb];decide)]⟩,⟨qa,qa⟩,⟨qa,qa⟩,?_⟩;(first|omega|(dsimp only;omega)|skip))
 ·rename_i hkd hor
  ((conv=>whnf);refine ⟨(i+1,L),⟨by simp only;omega,by rw [hsu,zb hkd,zb (by simpa using hor),zb (by unfold qfp;exact hb)]⟩,⟨qa,qa⟩,⟨qa,qa⟩,?_⟩;(first|omega|(dsimp only;omega)|skip))
 ·rename_i hkd
  ((conv=>whnf);refine ⟨(i+1,L),⟨by simp only;omega,by rw [hsu,zb hkd,za (by simpa using hb)]⟩,⟨qa,qa⟩,⟨qa,qa⟩,?_⟩;(first|omega|(dsimp only;omega)|skip))
 ·refine Le.of_eq ?_
  rw [qdd,show a.toNat=i by omega,← hL];rfl
theorem jtc (l:List Nd) (ht:Tree l) (i:Nat) (h1:i<l.length):Con Tryz.prog 98 [jr l,iv i] (.bool (badF l i)):=by
 have hlen:=ht.len
 have hln:=ht.lens i h1
 have hw1:=hln.w1
 have hw2:=hln.w2
 have n1:=qnu l (itemF l i) 1 i
 have n2:=qnu l (itemF l i) 2 i
 have n3:=qnu l (itemF l i) 3 i
 have e:∀ k,qdd l i k=qfq l (itemF l i) k i:=fun k=>rfl
 rw [← e] at n1 n2 n3
 refine zK {} 600 Tryz.func98 (fun c0 rdb=>?_)
 (repeat' ((conv=>whnf);first|refine Ob.auto ?_|refine zC 600 (qxe l ht i (by omega) (by omega) 1 (by decide)) ?_|refine zC 600 (qxe l ht i (by omega) (by omega) 2 (by decide)) ?_|refine zC 600 (qxe l ht i (by omega) (by omega) 3 (by decide)) ?_|refine zC 600 (qoy (qdd l i 1) (by omega) _) ?_|refine zC 600 (qoy (qdd l i 2) (by omega) _) ?_|refine zG 600 (fun hg=>qoy (qdd l i 2) (by omega) _) ?_|refine zG 600 (fun hg=>qoy (qdd l i 3) (by omega) _) ?_|(apply zB <;> intro hb <;> (try simp [-zd] at hb) <;> try (exfalso;omega))))
 all_goals
  refine Le.of_eq (congrArg AV.bool ?_)
  rw [badF]
  ((repeat (first|rw [zb (by omega)]|rw [za (by omega)])) <;> rfl)
theorem jtd (l:List Nd) (ht:Tree l):Con Tryz.prog 64 [jr l] (flt (qhk l).1 (qhk l).2):=by
 have hlen:=ht.len
 refine zK {} 300 Tryz.func64 (fun c0 rdb=>?_)
 ((conv=>whnf);refine qo (fun _=>rfl) 300 1 (fun i:Nat=>[(3,iv i)]) (fun _=>[]) (fun i=>i≤l.length∧∀ j,j<i→badF l j=false) (fun i=>l.length - i) (0) (⟨by omega,fun j hj=>absurd hj (zj j)⟩) qa qa (fun _=>rfl) (by kernel_rfl) ?_;(conv=>whnf))
 intro i hi
 have hr:∀ j,j<(List.range l.length).length→j<l.length:=fun j hj=>by simpa using hj
 (repeat' ((conv=>whnf);first|refine Ob.auto ?_|refine zC 300 (jtc l ht i (by omega)) ?_|(apply zB <;> intro hb <;> (try simp [-zd] at hb) <;> try (exfalso;omega))))
 ·have h1:i<l.length:=by omega
  have:=qhg (badF l) (List.range l.length) 0 i (by simpa using h1) (by rw [qhi _ _ _ (by omega)];exact hb) (fun j hj=>by rw [qhi _ _ _ (by omega)];exact hi.2 j hj)
  refine Le.of_eq ?_
  rw [qhk,this,za (by omega)];rfl
 ·((conv=>whnf);refine ⟨i+1,⟨by omega,qbe hi.2 hb⟩,⟨qa,qa⟩,⟨qa,qa⟩,?_⟩;(first|omega|(dsimp only;omega)|skip))
 ·have:=qhh (badF l) (List.range l.length) 0 (fun j hj=>by have hj':=hr j hj;rw [qhi _ _ _ hj'];exact hi.2 j (by omega))
  refine Le.of_eq ?_
  rw [qhk,this,zb (by omega)];rfl
end Go.Proofs.YtikahnkkfkoglaaGreatDoor
end
