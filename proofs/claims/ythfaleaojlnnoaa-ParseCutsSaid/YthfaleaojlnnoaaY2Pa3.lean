/- Contracts of the document's parser: expressions. -/
import Derived.Test.YthfaleaojlnnoaaY2Pa1
import Derived.Test.YthfaleaojlnnoaaY22
set_option linter.unusedSimpArgs false
set_option linter.unusedVariables false
namespace Go.Proofs.Ythfaleaojlnnoaa
open List renaming getD_eq_getElem?_getD → zd
open Go Go.Sx Go.RowKit Go.St Pa
set_option maxRecDepth 100000
set_option maxHeartbeats 4000000
structure Pre (ts:List Lx.Tok) (n:Nat) (p:Ps):Prop where
 at_:AtOk ts p
 deep:0≤p.deep∧p.deep≤p.at_+1
 left:(ts.length:Int) - p.at_≤n
section
variable {ts:List Lx.Tok} {p q:Ps} {n:Nat}
theorem Pre.step (h:Pre ts n p) (k:Step ts p q):Pre ts n q:=
 ⟨k.ok h.at_,by have:=h.deep;have:=k.deep;have:=k.le;omega,by have:=h.left;have:=k.le;omega⟩
abbrev RdT (ts:List Lx.Tok) (f:FuncId) (F:Ps→Tr × Ps) (p:Ps):Prop:=Trip Try.prog f [.ptr 0 0] [pso ts p] (F p).1.av [(0,pso ts (F p).2)] 1
theorem jjv (a b:Tr):Le (.slc 6 2 (chop 6 (a.cells++b.cells))) (qlc [a,b]):=Le.slc rfl (fun i hi=>by
 match i,hi with
 | 0,_=>exact (Tr.cellsL_get [a,b] 0 (zal _)).symm
 | 1,_=>exact (Tr.cellsL_get [a,b] 1 (zak _)).symm)
theorem qhh (sg:Int) (a b:Tr):Con Try.prog 94 [iv sg,a.av,b.av] (binT sg a b).av:=by
 refine zK {} 300 Try.func94 (fun c0 rdb=>?_)
 (repeat' ((conv=>whnf);first|refine Ob.auto ?_|fail))
 refine Le.agg ⟨Le.refl _,Le.nils _ _,Le.slc rfl (fun i hi=>?_),Le.refl _,Le.refl _,jjv a b,trivial⟩
 obtain rfl:i=0:=by omega
 rfl
theorem jjw (ht:ToksOk ts) {part:Ps→Tr × Ps} (hr:Runs ts part) (hp:∀ q,Pre ts n q→RdT ts 114 part q):∀ q,Pre ts n q→RdT ts 113 (qcu ts part) q:=by
 intro p h
 have h2:=ht.len
 have hps:=hp
 have hrs:=hr
 have hs:=hrs p h.at_
 have hq:=h.step hs
 refine zM {} 300 Try.func113 (fun c0 rdb mpb=>?_)
 ((conv=>whnf);refine zT 300 [0] (hps p h) qa ?_)
 ((conv=>whnf);refine qaz (fun _=>rfl) 300 1 (fun _:Nat × Tr × Ps=>[]) (fun g=>[(2,.box 62 g.2.1.cells),(0,pso ts g.2.2)]) (fun g=>Pre ts n g.2.2∧qae (part) (qdq ts) (qfq ts) g.1 g.2.1 g.2.2=qcu ts part p∧(ts.length:Int) - g.2.2.at_≤g.1) (fun g=>((ts.length:Int) - g.2.2.at_).toNat) ((ts.length,(part p).1,(part p).2)) (⟨hq,rfl,by have:=hq.at_.lo;simp only;omega⟩) qa qa (fun _=>rfl) (by kernel_rfl) ?_;(conv=>whnf))
 rintro ⟨k,a,r⟩ ⟨hP,hj,hk⟩
 simp only at hP hj hk
 have h0:=hP.at_.lo
 have h1:=hP.at_.hi
 obtain ⟨k,rfl⟩:∃ k',k=k'+1:=⟨k - 1,by omega⟩
 (repeat' ((conv=>whnf);first|refine Ob.auto ?_|(refine Ob.intro (by (exact qw (by dsimp only;omega) (by dsimp only;omega))) ?_)|(refine ql (fun _=>rfl) 300 (qfb hP.at_ _) qd (by (repeat' (first|exact trivial|exact Le.refl _|(refine And.intro ?_ ?_))) <;> fail) (by rfl) (by kernel_rfl) ?_)|(refine qz (fun _=>rfl) 300 (fun hg=>qfb hP.at_ _) (fun hg=>qd) (fun hg=>(by (repeat' (first|exact trivial|exact Le.refl _|exact Le.cnd hg|(refine And.intro ?_ ?_))) <;> fail)) (by rfl) (by kernel_rfl) ?_)|(apply zB <;> intro hb <;> (try simp [-zd] at hb) <;> try (exfalso;omega))))
 ·have hc:(qdq ts) r=true:=by simp [qdq,sumC, *]
  have hsg:(qfq ts) r=6:=by unfold qfq;rw [zb hb]
  have hst:=qg ht hP.at_ hb
  have hP':=hP.step hst
  rw [qae,zb hc,hsg] at hj
  have hle:=(hrs _ hP'.at_).le
  have hle':r.at_+1≤(part (adv r)).2.at_:=hle
  (repeat' ((conv=>whnf);first|(refine qi (fun _=>rfl) (by kernel_rfl) 300 ?_)|fail))
  ((conv=>whnf);refine CallY.trip [0] (hps (adv r) hP') (by kernel_rfl) leA qa (by exact qb rfl) (by exact qb rfl) ?_)
  (conv=>whnf)
  refine CallY.con (qhh 6 a (part (adv r)).1) (by rfl) leA ?_
  ((conv=>whnf);refine AltG.far 5 [2] (by kernel_rfl) farA (EndG.go ?_))
  ((conv=>whnf);refine ⟨(k,binT 6 a (part (adv r)).1,(part (adv r)).2),⟨hP'.step (hrs _ hP'.at_),hj,by dsimp only;omega⟩,⟨qa,qa⟩,⟨qa,qa⟩,?_⟩;(first|omega|(dsimp only;omega)|skip))
 ·have hc:(qdq ts) r=true:=by simp [qdq,sumC, *]
  have hsg:(qfq ts) r=7:=by unfold qfq;rw [za (by simp [*]),zb hb]
  have hst:=qg ht hP.at_ hb
  have hP':=hP.step hst
  rw [qae,zb hc,hsg] at hj
  have hle:=(hrs _ hP'.at_).le
  have hle':r.at_+1≤(part (adv r)).2.at_:=hle
  (repeat' ((conv=>whnf);first|(refine qi (fun _=>rfl) (by kernel_rfl) 300 ?_)|fail))
  ((conv=>whnf);refine CallY.trip [0] (hps (adv r) hP') (by kernel_rfl) leA qa (by exact qb rfl) (by exact qb rfl) ?_)
  (conv=>whnf)
  refine CallY.con (qhh 7 a (part (adv r)).1) (by rfl) leA ?_
  ((conv=>whnf);refine AltG.far 5 [2] (by kernel_rfl) farA (EndG.go ?_))
  ((conv=>whnf);refine ⟨(k,binT 7 a (part (adv r)).1,(part (adv r)).2),⟨hP'.step (hrs _ hP'.at_),hj,by dsimp only;omega⟩,⟨qa,qa⟩,⟨qa,qa⟩,?_⟩;(first|omega|(dsimp only;omega)|skip))
 ·have hpct:sees ts r sPct=true:=by simp_all
  have hc:qdq ts r=true:=by unfold qdq;rw [hpct];simp
  have hsg:(qfq ts) r=8:=by unfold qfq;rw [za (by simp [*]),za (by simp [*])]
  have hst:=qg ht hP.at_ hpct
  have hP':=hP.step hst
  rw [qae,zb hc,hsg] at hj
  have hle:=(hrs _ hP'.at_).le
  have hle':r.at_+1≤(part (adv r)).2.at_:=hle
  (repeat' ((conv=>whnf);first|(refine qi (fun _=>rfl) (by kernel_rfl) 300 ?_)|fail))
  ((conv=>whnf);refine CallY.trip [0] (hps (adv r) hP') (by kernel_rfl) leA qa (by exact qb rfl) (by exact qb rfl) ?_)
  (conv=>whnf)
  refine CallY.con (qhh 8 a (part (adv r)).1) (by rfl) leA ?_
  ((conv=>whnf);refine AltG.far 5 [2] (by kernel_rfl) farA (EndG.go ?_))
  ((conv=>whnf);refine ⟨(k,binT 8 a (part (adv r)).1,(part (adv r)).2),⟨hP'.step (hrs _ hP'.at_),hj,by dsimp only;omega⟩,⟨qa,qa⟩,⟨qa,qa⟩,?_⟩;(first|omega|(dsimp only;omega)|skip))
 ·have hc:¬ ((qdq ts) r=true):=by simp [qdq,sumC,hb]
  rw [qae,za hc] at hj
  rw [← hj]
  exact ⟨Le.refl _,qa⟩
theorem jjx (ht:ToksOk ts) {part:Ps→Tr × Ps} (hr:Runs ts part) (hp:∀ q,Pre ts n q→RdT ts 114 part q):∀ q,Pre ts n q→RdT ts 112 (sumF ts part) q:=by
 intro p h
 have h2:=ht.len
 have hps:=jjw ht hr hp
 have hrs:=qjk ht hr
 have hs:=hrs p h.at_
 have hq:=h.step hs
 refine zM {} 300 Try.func112 (fun c0 rdb mpb=>?_)
 ((conv=>whnf);refine zT 300 [0] (hps p h) qa ?_)
 ((conv=>whnf);refine qaz (fun _=>rfl) 300 1 (fun _:Nat × Tr × Ps=>[]) (fun g=>[(2,.box 62 g.2.1.cells),(0,pso ts g.2.2)]) (fun g=>Pre ts n g.2.2∧qae (qcu ts part) (sumC ts) (sumS ts) g.1 g.2.1 g.2.2=sumF ts part p∧(ts.length:Int) - g.2.2.at_≤g.1) (fun g=>((ts.length:Int) - g.2.2.at_).toNat) ((ts.length,(qcu ts part p).1,(qcu ts part p).2)) (⟨hq,rfl,by have:=hq.at_.lo;simp only;omega⟩) qa qa (fun _=>rfl) (by kernel_rfl) ?_;(conv=>whnf))
 rintro ⟨k,a,r⟩ ⟨hP,hj,hk⟩
 simp only at hP hj hk
 have h0:=hP.at_.lo
 have h1:=hP.at_.hi
 obtain ⟨k,rfl⟩:∃ k',k=k'+1:=⟨k - 1,by omega⟩
 (repeat' ((conv=>whnf);first|refine Ob.auto ?_|(refine Ob.intro (by (exact qw (by dsimp only;omega) (by dsimp only;omega))) ?_)|(refine ql (fun _=>rfl) 300 (qfb hP.at_ _) qd (by (repeat' (first|exact trivial|exact Le.refl _|(refine And.intro ?_ ?_))) <;> fail) (by rfl) (by kernel_rfl) ?_)|(refine qz (fun _=>rfl) 300 (fun hg=>qfb hP.at_ _) (fun hg=>qd) (fun hg=>(by (repeat' (first|exact trivial|exact Le.refl _|exact Le.cnd hg|(refine And.intro ?_ ?_))) <;> fail)) (by rfl) (by kernel_rfl) ?_)|(apply zB <;> intro hb <;> (try simp [-zd] at hb) <;> try (exfalso;omega))))
 ·have hc:(sumC ts) r=true:=by simp [qdq,sumC, *]
  have hsg:(sumS ts) r=4:=by unfold sumS;rw [zb hb]
  have hst:=qg ht hP.at_ hb
  have hP':=hP.step hst
  rw [qae,zb hc,hsg] at hj
  have hle:=(hrs _ hP'.at_).le
  have hle':r.at_+1≤(qcu ts part (adv r)).2.at_:=hle
  (repeat' ((conv=>whnf);first|(refine qi (fun _=>rfl) (by kernel_rfl) 300 ?_)|fail))
  ((conv=>whnf);refine CallY.trip [0] (hps (adv r) hP') (by kernel_rfl) leA qa (by exact qb rfl) (by exact qb rfl) ?_)
  (conv=>whnf)
  refine CallY.con (qhh 4 a (qcu ts part (adv r)).1) (by rfl) leA ?_
  ((conv=>whnf);refine AltG.far 5 [2] (by kernel_rfl) farA (EndG.go ?_))
  ((conv=>whnf);refine ⟨(k,binT 4 a (qcu ts part (adv r)).1,(qcu ts part (adv r)).2),⟨hP'.step (hrs _ hP'.at_),hj,by dsimp only;omega⟩,⟨qa,qa⟩,⟨qa,qa⟩,?_⟩;(first|omega|(dsimp only;omega)|skip))
 ·have hmin:sees ts r qal=true:=by simp_all
  have hc:sumC ts r=true:=by unfold sumC;rw [hmin];simp
  have hsg:(sumS ts) r=5:=by unfold sumS;rw [za (by simp [*])]
  have hst:=qg ht hP.at_ hmin
  have hP':=hP.step hst
  rw [qae,zb hc,hsg] at hj
  have hle:=(hrs _ hP'.at_).le
  have hle':r.at_+1≤(qcu ts part (adv r)).2.at_:=hle
  (repeat' ((conv=>whnf);first|(refine qi (fun _=>rfl) (by kernel_rfl) 300 ?_)|fail))
  ((conv=>whnf);refine CallY.trip [0] (hps (adv r) hP') (by kernel_rfl) leA qa (by exact qb rfl) (by exact qb rfl) ?_)
  (conv=>whnf)
  refine CallY.con (qhh 5 a (qcu ts part (adv r)).1) (by rfl) leA ?_
  ((conv=>whnf);refine AltG.far 5 [2] (by kernel_rfl) farA (EndG.go ?_))
  ((conv=>whnf);refine ⟨(k,binT 5 a (qcu ts part (adv r)).1,(qcu ts part (adv r)).2),⟨hP'.step (hrs _ hP'.at_),hj,by dsimp only;omega⟩,⟨qa,qa⟩,⟨qa,qa⟩,?_⟩;(first|omega|(dsimp only;omega)|skip))
 ·have hc:¬ ((sumC ts) r=true):=by simp [qdq,sumC,hb]
  rw [qae,za hc] at hj
  rw [← hj]
  exact ⟨Le.refl _,qa⟩
theorem jjy (ht:ToksOk ts) {part:Ps→Tr × Ps} (hr:Runs ts part) (hp:∀ q,Pre ts n q→RdT ts 114 part q):∀ q,Pre ts n q→RdT ts 110 (qcs ts part) q:=by
 intro p h
 have h2:=ht.len
 have hps:=jjx ht hr hp
 have hrs:=qnk ht hr
 have hs:=hrs p h.at_
 have hq:=h.step hs
 refine zM {} 300 Try.func110 (fun c0 rdb mpb=>?_)
 ((conv=>whnf);refine zT 300 [0] (hps p h) qa ?_)
 ((conv=>whnf);refine zT 300 [0] (qbl ht hq.at_ sLt) qa ?_)
 (repeat' ((conv=>whnf);first|refine Ob.auto ?_|(apply zB <;> intro hb <;> (try simp [-zd] at hb) <;> try (exfalso;omega))))
 ·have e1:took ts (sumF ts part p).2 sLt=adv (sumF ts part p).2:=zb hb
  have hP':=hq.step (qg ht hq.at_ hb)
  have e2:qcs ts part p=(binT 3 (sumF ts part p).1 (sumF ts part (adv (sumF ts part p).2)).1,(sumF ts part (adv (sumF ts part p).2)).2):=zb hb
  rw [e1,e2]
  (repeat' ((conv=>whnf);first|(refine qi (fun _=>rfl) (by kernel_rfl) 300 ?_)|fail))
  ((conv=>whnf);refine CallY.trip [0] (hps _ hP') (by kernel_rfl) leA qa (by exact qb rfl) (by exact qb rfl) ?_)
  (conv=>whnf)
  refine CallY.con (qhh 3 (sumF ts part p).1 (sumF ts part (adv (sumF ts part p).2)).1) (by rfl) leA ?_
  ((conv=>whnf);refine AltG.far 4 [2] (by kernel_rfl) farA (EndG.go ?_))
  (repeat' ((conv=>whnf);first|refine Ob.auto ?_|fail))
  exact ⟨Le.refl _,qa⟩
 ·have e1:took ts (sumF ts part p).2 sLt=(sumF ts part p).2:=za (by rw [hb];decide)
  have e2:qcs ts part p=sumF ts part p:=za (by rw [hb];decide)
  rw [e1,e2]
  exact ⟨Le.refl _,qa⟩
theorem jjz (ht:ToksOk ts) {part:Ps→Tr × Ps} (hr:Runs ts part) (hp:∀ q,Pre ts n q→RdT ts 114 part q):∀ q,Pre ts n q→RdT ts 104 (qdm ts part) q:=by
 intro p h
 have h2:=ht.len
 have hps:=jjy ht hr hp
 have hrs:=qnl ht hr
 have hs:=hrs p h.at_
 have hq:=h.step hs
 refine zM {} 300 Try.func104 (fun c0 rdb mpb=>?_)
 ((conv=>whnf);refine zT 300 [0] (hps p h) qa ?_)
 ((conv=>whnf);refine zT 300 [0] (qbl ht hq.at_ sEq2) qa ?_)
 (repeat' ((conv=>whnf);first|refine Ob.auto ?_|(apply zB <;> intro hb <;> (try simp [-zd] at hb) <;> try (exfalso;omega))))
 ·have e1:took ts (qcs ts part p).2 sEq2=adv (qcs ts part p).2:=zb hb
  have hP':=hq.step (qg ht hq.at_ hb)
  have e2:qdm ts part p=(binT 2 (qcs ts part p).1 (qcs ts part (adv (qcs ts part p).2)).1,(qcs ts part (adv (qcs ts part p).2)).2):=zb hb
  rw [e1,e2]
  (repeat' ((conv=>whnf);first|(refine qi (fun _=>rfl) (by kernel_rfl) 300 ?_)|fail))
  ((conv=>whnf);refine CallY.trip [0] (hps _ hP') (by kernel_rfl) leA qa (by exact qb rfl) (by exact qb rfl) ?_)
  (conv=>whnf)
  refine CallY.con (qhh 2 (qcs ts part p).1 (qcs ts part (adv (qcs ts part p).2)).1) (by rfl) leA ?_
  ((conv=>whnf);refine AltG.far 4 [2] (by kernel_rfl) farA (EndG.go ?_))
  (repeat' ((conv=>whnf);first|refine Ob.auto ?_|fail))
  exact ⟨Le.refl _,qa⟩
 ·have e1:took ts (qcs ts part p).2 sEq2=(qcs ts part p).2:=za (by rw [hb];decide)
  have e2:qdm ts part p=qcs ts part p:=za (by rw [hb];decide)
  rw [e1,e2]
  exact ⟨Le.refl _,qa⟩
theorem jka (ht:ToksOk ts) {part:Ps→Tr × Ps} (hr:Runs ts part) (hp:∀ q,Pre ts n q→RdT ts 114 part q):∀ q,Pre ts n q→RdT ts 93 (andF ts part) q:=by
 intro p h
 have h2:=ht.len
 have hps:=jjz ht hr hp
 have hrs:=qjl ht hr
 have hs:=hrs p h.at_
 have hq:=h.step hs
 refine zM {} 300 Try.func93 (fun c0 rdb mpb=>?_)
 ((conv=>whnf);refine zT 300 [0] (hps p h) qa ?_)
 ((conv=>whnf);refine qaz (fun _=>rfl) 300 1 (fun _:Nat × Tr × Ps=>[]) (fun g=>[(2,.box 62 g.2.1.cells),(0,pso ts g.2.2)]) (fun g=>Pre ts n g.2.2∧qae (qdm ts part) (fun p=>sees ts p qif) (fun _=>1) g.1 g.2.1 g.2.2=andF ts part p∧(ts.length:Int) - g.2.2.at_≤g.1) (fun g=>((ts.length:Int) - g.2.2.at_).toNat) ((ts.length,(qdm ts part p).1,(qdm ts part p).2)) (⟨hq,rfl,by have:=hq.at_.lo;simp only;omega⟩) qa qa (fun _=>rfl) (by kernel_rfl) ?_;(conv=>whnf))
 rintro ⟨k,a,r⟩ ⟨hP,hj,hk⟩
 simp only at hP hj hk
 have h0:=hP.at_.lo
 have h1:=hP.at_.hi
 obtain ⟨k,rfl⟩:∃ k',k=k'+1:=⟨k - 1,by omega⟩
 ((conv=>whnf);refine zT 300 [0] (qbl ht hP.at_ qif) qa ?_)
 (repeat' ((conv=>whnf);first|refine Ob.auto ?_|(apply zB <;> intro hb <;> (try simp [-zd] at hb) <;> try (exfalso;omega))))
 ·have e1:took ts r qif=adv r:=zb hb
  have hst:=qg ht hP.at_ hb
  have hP':=hP.step hst
  rw [qae,zb hb] at hj
  have hle:=(hrs _ hP'.at_).le
  have hle':r.at_+1≤(qdm ts part (adv r)).2.at_:=hle
  dsimp only
  rw [e1]
  (repeat' ((conv=>whnf);first|(refine qi (fun _=>rfl) (by kernel_rfl) 300 ?_)|fail))
  ((conv=>whnf);refine CallY.trip [0] (hps (adv r) hP') (by kernel_rfl) leA qa (by exact qb rfl) (by exact qb rfl) ?_)
  (conv=>whnf)
  refine CallY.con (qhh 1 a (qdm ts part (adv r)).1) (by rfl) leA ?_
  ((conv=>whnf);refine AltG.far 4 [2] (by kernel_rfl) farA (EndG.go ?_))
  ((conv=>whnf);refine ⟨(k,binT 1 a (qdm ts part (adv r)).1,(qdm ts part (adv r)).2),⟨hP'.step (hrs _ hP'.at_),hj,by dsimp only;omega⟩,⟨qa,qa⟩,⟨qa,qa⟩,?_⟩;(first|omega|(dsimp only;omega)|skip))
 ·have e1:took ts r qif=r:=za (by rw [hb];decide)
  rw [qae,za (by rw [hb];decide)] at hj
  rw [← hj]
  dsimp only
  rw [e1]
  exact ⟨Le.refl _,qa⟩
theorem qzn (ht:ToksOk ts) {part:Ps→Tr × Ps} (hr:Runs ts part) (hp:∀ q,Pre ts n q→RdT ts 114 part q):∀ q,Pre ts n q→RdT ts 71 (qbj ts part) q:=by
 intro p h
 have h2:=ht.len
 have hps:=jka ht hr hp
 have hrs:=qjm ht hr
 have hs:=hrs p h.at_
 have hq:=h.step hs
 refine zM {} 300 Try.func71 (fun c0 rdb mpb=>?_)
 ((conv=>whnf);refine zT 300 [0] (hps p h) qa ?_)
 ((conv=>whnf);refine qaz (fun _=>rfl) 300 1 (fun _:Nat × Tr × Ps=>[]) (fun g=>[(2,.box 62 g.2.1.cells),(0,pso ts g.2.2)]) (fun g=>Pre ts n g.2.2∧qae (andF ts part) (fun p=>sees ts p sOr2) (fun _=>0) g.1 g.2.1 g.2.2=qbj ts part p∧(ts.length:Int) - g.2.2.at_≤g.1) (fun g=>((ts.length:Int) - g.2.2.at_).toNat) ((ts.length,(andF ts part p).1,(andF ts part p).2)) (⟨hq,rfl,by have:=hq.at_.lo;simp only;omega⟩) qa qa (fun _=>rfl) (by kernel_rfl) ?_;(conv=>whnf))
 rintro ⟨k,a,r⟩ ⟨hP,hj,hk⟩
 simp only at hP hj hk
 have h0:=hP.at_.lo
 have h1:=hP.at_.hi
 obtain ⟨k,rfl⟩:∃ k',k=k'+1:=⟨k - 1,by omega⟩
 ((conv=>whnf);refine zT 300 [0] (qbl ht hP.at_ sOr2) qa ?_)
 (repeat' ((conv=>whnf);first|refine Ob.auto ?_|(apply zB <;> intro hb <;> (try simp [-zd] at hb) <;> try (exfalso;omega))))
 ·have e1:took ts r sOr2=adv r:=zb hb
  have hst:=qg ht hP.at_ hb
  have hP':=hP.step hst
  rw [qae,zb hb] at hj
  have hle:=(hrs _ hP'.at_).le
  have hle':r.at_+1≤(andF ts part (adv r)).2.at_:=hle
  dsimp only
  rw [e1]
  (repeat' ((conv=>whnf);first|(refine qi (fun _=>rfl) (by kernel_rfl) 300 ?_)|fail))
  ((conv=>whnf);refine CallY.trip [0] (hps (adv r) hP') (by kernel_rfl) leA qa (by exact qb rfl) (by exact qb rfl) ?_)
  (conv=>whnf)
  refine CallY.con (qhh 0 a (andF ts part (adv r)).1) (by rfl) leA ?_
  ((conv=>whnf);refine AltG.far 4 [2] (by kernel_rfl) farA (EndG.go ?_))
  ((conv=>whnf);refine ⟨(k,binT 0 a (andF ts part (adv r)).1,(andF ts part (adv r)).2),⟨hP'.step (hrs _ hP'.at_),hj,by dsimp only;omega⟩,⟨qa,qa⟩,⟨qa,qa⟩,?_⟩;(first|omega|(dsimp only;omega)|skip))
 ·have e1:took ts r sOr2=r:=za (by rw [hb];decide)
  rw [qae,za (by rw [hb];decide)] at hj
  rw [← hj]
  dsimp only
  rw [e1]
  exact ⟨Le.refl _,qa⟩
end
end Go.Proofs.Ythfaleaojlnnoaa
