/- Contracts of the document's parser: expressions. -/
import Derived.Test.YthfaleaojlnnoaaY6Pa1
import Derived.Test.YthfaleaojlnnoaaY62
set_option linter.unusedSimpArgs false
set_option linter.unusedVariables false
namespace Go.Proofs.Ythfaleaojlnnoaa
open List renaming getD_eq_getElem?_getD → zd
open Go Go.Sx Go.RowKit Go.St Pa
set_option maxRecDepth 100000
set_option maxHeartbeats 4000000
structure Pre (ts:List Lx.Tok) (n:Nat) (p:Ps):Prop where
 at_:AtOk ts p
 deep:0≤p.deep∧p.deep≤p.at_+1
 left:(ts.length:Int) - p.at_≤n
section
variable {ts:List Lx.Tok} {p q:Ps} {n:Nat}
theorem Pre.step (h:Pre ts n p) (k:Step ts p q):Pre ts n q:=
 ⟨k.ok h.at_,by have:=h.deep;have:=k.deep;have:=k.le;omega,by have:=h.left;have:=k.le;omega⟩
abbrev RdT (ts:List Lx.Tok) (f:FuncId) (F:Ps→Tr × Ps) (p:Ps):Prop:=Trip Try.prog f [.ptr 0 0] [pso ts p] (F p).1.av [(0,pso ts (F p).2)] 1
theorem jkp (a b:Tr):Le (.slc 6 2 (chop 6 (a.cells++b.cells))) (qll [a,b]):=Le.slc rfl (fun i hi=>by
 match i,hi with
 | 0,_=>exact (Tr.cellsL_get [a,b] 0 (zan _)).symm
 | 1,_=>exact (Tr.cellsL_get [a,b] 1 (zam _)).symm)
theorem qhk (sg:Int) (a b:Tr):Con Try.prog 94 [iv sg,a.av,b.av] (binT sg a b).av:=by
 refine zK {} 300 Try.func94 (fun c0 rdb=>?_)
 (repeat' ((conv=>whnf);first|refine Ob.auto ?_|fail))
 refine Le.agg ⟨Le.refl _,Le.nils _ _,Le.slc rfl (fun i hi=>?_),Le.refl _,Le.refl _,jkp a b,trivial⟩
 obtain rfl:i=0:=by omega
 rfl
theorem jkq (ht:ToksOk ts) {part:Ps→Tr × Ps} (hr:Runs ts part) (hp:∀ q,Pre ts n q→RdT ts 114 part q):∀ q,Pre ts n q→RdT ts 113 (qco ts part) q:=by
 intro p h
 have h2:=ht.len
 have hps:=hp
 have hrs:=hr
 have hs:=hrs p h.at_
 have hq:=h.step hs
 refine zM {} 300 Try.func113 (fun c0 rdb mpb=>?_)
 ((conv=>whnf);refine zT 300 [0] (hps p h) qa ?_)
 ((conv=>whnf);refine qag (fun _=>rfl) 300 1 (fun _:Nat × Tr × Ps=>[]) (fun g=>[(2,.box 62 g.2.1.cells),(0,pso ts g.2.2)]) (fun g=>Pre ts n g.2.2∧jv (part) (qdn ts) (qfp ts) g.1 g.2.1 g.2.2=qco ts part p∧(ts.length:Int) - g.2.2.at_≤g.1) (fun g=>((ts.length:Int) - g.2.2.at_).toNat) ((ts.length,(part p).1,(part p).2)) (⟨hq,rfl,by have:=hq.at_.lo;simp only;omega⟩) qa qa (fun _=>rfl) (by kernel_rfl) ?_;(conv=>whnf))
 rintro ⟨k,a,r⟩ ⟨hP,hj,hk⟩
 simp only at hP hj hk
 have h0:=hP.at_.lo
 have h1:=hP.at_.hi
 obtain ⟨k,rfl⟩:∃ k',k=k'+1:=⟨k - 1,by omega⟩
 (repeat' ((conv=>whnf);first|refine Ob.auto ?_|(refine Ob.intro (by (exact qx (by dsimp only;omega) (by dsimp only;omega))) ?_)|(refine qj (fun _=>rfl) 300 (qfa hP.at_ _) qc (by (repeat' (first|exact trivial|exact Le.refl _|(refine And.intro ?_ ?_))) <;> fail) (by rfl) (by kernel_rfl) ?_)|(refine qv (fun _=>rfl) 300 (fun hg=>qfa hP.at_ _) (fun hg=>qc) (fun hg=>(by (repeat' (first|exact trivial|exact Le.refl _|exact Le.cnd hg|(refine And.intro ?_ ?_))) <;> fail)) (by rfl) (by kernel_rfl) ?_)|(apply zB <;> intro hb <;> (try simp [-zd] at hb) <;> try (exfalso;omega))))
 ·have hc:(qdn ts) r=true:=by simp [qdn,sumC, *]
  have hsg:(qfp ts) r=6:=by unfold qfp;rw [zb hb]
  have hst:=qg ht hP.at_ hb
  have hP':=hP.step hst
  rw [jv,zb hc,hsg] at hj
  have hle:=(hrs _ hP'.at_).le
  have hle':r.at_+1≤(part (adv r)).2.at_:=hle
  (repeat' ((conv=>whnf);first|(refine qh (fun _=>rfl) (by kernel_rfl) 300 ?_)|fail))
  ((conv=>whnf);refine CallY.trip [0] (hps (adv r) hP') (by kernel_rfl) leA qa (by exact qb rfl) (by exact qb rfl) ?_)
  (conv=>whnf)
  refine CallY.con (qhk 6 a (part (adv r)).1) (by rfl) leA ?_
  ((conv=>whnf);refine AltG.far 5 [2] (by kernel_rfl) farA (EndG.go ?_))
  ((conv=>whnf);refine ⟨(k,binT 6 a (part (adv r)).1,(part (adv r)).2),⟨hP'.step (hrs _ hP'.at_),hj,by dsimp only;omega⟩,⟨qa,qa⟩,⟨qa,qa⟩,?_⟩;(first|omega|(dsimp only;omega)|skip))
 ·have hc:(qdn ts) r=true:=by simp [qdn,sumC, *]
  have hsg:(qfp ts) r=7:=by unfold qfp;rw [za (by simp [*]),zb hb]
  have hst:=qg ht hP.at_ hb
  have hP':=hP.step hst
  rw [jv,zb hc,hsg] at hj
  have hle:=(hrs _ hP'.at_).le
  have hle':r.at_+1≤(part (adv r)).2.at_:=hle
  (repeat' ((conv=>whnf);first|(refine qh (fun _=>rfl) (by kernel_rfl) 300 ?_)|fail))
  ((conv=>whnf);refine CallY.trip [0] (hps (adv r) hP') (by kernel_rfl) leA qa (by exact qb rfl) (by exact qb rfl) ?_)
  (conv=>whnf)
  refine CallY.con (qhk 7 a (part (adv r)).1) (by rfl) leA ?_
  ((conv=>whnf);refine AltG.far 5 [2] (by kernel_rfl) farA (EndG.go ?_))
  ((conv=>whnf);refine ⟨(k,binT 7 a (part (adv r)).1,(part (adv r)).2),⟨hP'.step (hrs _ hP'.at_),hj,by dsimp only;omega⟩,⟨qa,qa⟩,⟨qa,qa⟩,?_⟩;(first|omega|(dsimp only;omega)|skip))
 ·have hpct:sees ts r sPct=true:=by simp_all
  have hc:qdn ts r=true:=by unfold qdn;rw [hpct];simp
  have hsg:(qfp ts) r=8:=by unfold qfp;rw [za (by simp [*]),za (by simp [*])]
  have hst:=qg ht hP.at_ hpct
  have hP':=hP.step hst
  rw [jv,zb hc,hsg] at hj
  have hle:=(hrs _ hP'.at_).le
  have hle':r.at_+1≤(part (adv r)).2.at_:=hle
  (repeat' ((conv=>whnf);first|(refine qh (fun _=>rfl) (by kernel_rfl) 300 ?_)|fail))
  ((conv=>whnf);refine CallY.trip [0] (hps (adv r) hP') (by kernel_rfl) leA qa (by exact qb rfl) (by exact qb rfl) ?_)
  (conv=>whnf)
  refine CallY.con (qhk 8 a (part (adv r)).1) (by rfl) leA ?_
  ((conv=>whnf);refine AltG.far 5 [2] (by kernel_rfl) farA (EndG.go ?_))
  ((conv=>whnf);refine ⟨(k,binT 8 a (part (adv r)).1,(part (adv r)).2),⟨hP'.step (hrs _ hP'.at_),hj,by dsimp only;omega⟩,⟨qa,qa⟩,⟨qa,qa⟩,?_⟩;(first|omega|(dsimp only;omega)|skip))
 ·have hc:¬ ((qdn ts) r=true):=by simp [qdn,sumC,hb]
  rw [jv,za hc] at hj
  rw [← hj]
  exact ⟨Le.refl _,qa⟩
theorem jkr (ht:ToksOk ts) {part:Ps→Tr × Ps} (hr:Runs ts part) (hp:∀ q,Pre ts n q→RdT ts 114 part q):∀ q,Pre ts n q→RdT ts 112 (sumF ts part) q:=by
 intro p h
 have h2:=ht.len
 have hps:=jkq ht hr hp
 have hrs:=qjq ht hr
 have hs:=hrs p h.at_
 have hq:=h.step hs
 refine zM {} 300 Try.func112 (fun c0 rdb mpb=>?_)
 ((conv=>whnf);refine zT 300 [0] (hps p h) qa ?_)
 ((conv=>whnf);refine qag (fun _=>rfl) 300 1 (fun _:Nat × Tr × Ps=>[]) (fun g=>[(2,.box 62 g.2.1.cells),(0,pso ts g.2.2)]) (fun g=>Pre ts n g.2.2∧jv (qco ts part) (sumC ts) (sumS ts) g.1 g.2.1 g.2.2=sumF ts part p∧(ts.length:Int) - g.2.2.at_≤g.1) (fun g=>((ts.length:Int) - g.2.2.at_).toNat) ((ts.length,(qco ts part p).1,(qco ts part p).2)) (⟨hq,rfl,by have:=hq.at_.lo;simp only;omega⟩) qa qa (fun _=>rfl) (by kernel_rfl) ?_;(conv=>whnf))
 rintro ⟨k,a,r⟩ ⟨hP,hj,hk⟩
 simp only at hP hj hk
 have h0:=hP.at_.lo
 have h1:=hP.at_.hi
 obtain ⟨k,rfl⟩:∃ k',k=k'+1:=⟨k - 1,by omega⟩
 (repeat' ((conv=>whnf);first|refine Ob.auto ?_|(refine Ob.intro (by (exact qx (by dsimp only;omega) (by dsimp only;omega))) ?_)|(refine qj (fun _=>rfl) 300 (qfa hP.at_ _) qc (by (repeat' (first|exact trivial|exact Le.refl _|(refine And.intro ?_ ?_))) <;> fail) (by rfl) (by kernel_rfl) ?_)|(refine qv (fun _=>rfl) 300 (fun hg=>qfa hP.at_ _) (fun hg=>qc) (fun hg=>(by (repeat' (first|exact trivial|exact Le.refl _|exact Le.cnd hg|(refine And.intro ?_ ?_))) <;> fail)) (by rfl) (by kernel_rfl) ?_)|(apply zB <;> intro hb <;> (try simp [-zd] at hb) <;> try (exfalso;omega))))
 ·have hc:(sumC ts) r=true:=by simp [qdn,sumC, *]
  have hsg:(sumS ts) r=4:=by unfold sumS;rw [zb hb]
  have hst:=qg ht hP.at_ hb
  have hP':=hP.step hst
  rw [jv,zb hc,hsg] at hj
  have hle:=(hrs _ hP'.at_).le
  have hle':r.at_+1≤(qco ts part (adv r)).2.at_:=hle
  (repeat' ((conv=>whnf);first|(refine qh (fun _=>rfl) (by kernel_rfl) 300 ?_)|fail))
  ((conv=>whnf);refine CallY.trip [0] (hps (adv r) hP') (by kernel_rfl) leA qa (by exact qb rfl) (by exact qb rfl) ?_)
  (conv=>whnf)
  refine CallY.con (qhk 4 a (qco ts part (adv r)).1) (by rfl) leA ?_
  ((conv=>whnf);refine AltG.far 5 [2] (by kernel_rfl) farA (EndG.go ?_))
  ((conv=>whnf);refine ⟨(k,binT 4 a (qco ts part (adv r)).1,(qco ts part (adv r)).2),⟨hP'.step (hrs _ hP'.at_),hj,by dsimp only;omega⟩,⟨qa,qa⟩,⟨qa,qa⟩,?_⟩;(first|omega|(dsimp only;omega)|skip))
 ·have hmin:sees ts r qaj=true:=by simp_all
  have hc:sumC ts r=true:=by unfold sumC;rw [hmin];simp
  have hsg:(sumS ts) r=5:=by unfold sumS;rw [za (by simp [*])]
  have hst:=qg ht hP.at_ hmin
  have hP':=hP.step hst
  rw [jv,zb hc,hsg] at hj
  have hle:=(hrs _ hP'.at_).le
  have hle':r.at_+1≤(qco ts part (adv r)).2.at_:=hle
  (repeat' ((conv=>whnf);first|(refine qh (fun _=>rfl) (by kernel_rfl) 300 ?_)|fail))
  ((conv=>whnf);refine CallY.trip [0] (hps (adv r) hP') (by kernel_rfl) leA qa (by exact qb rfl) (by exact qb rfl) ?_)
  (conv=>whnf)
  refine CallY.con (qhk 5 a (qco ts part (adv r)).1) (by rfl) leA ?_
  ((conv=>whnf);refine AltG.far 5 [2] (by kernel_rfl) farA (EndG.go ?_))
  ((conv=>whnf);refine ⟨(k,binT 5 a (qco ts part (adv r)).1,(qco ts part (adv r)).2),⟨hP'.step (hrs _ hP'.at_),hj,by dsimp only;omega⟩,⟨qa,qa⟩,⟨qa,qa⟩,?_⟩;(first|omega|(dsimp only;omega)|skip))
 ·have hc:¬ ((sumC ts) r=true):=by simp [qdn,sumC,hb]
  rw [jv,za hc] at hj
  rw [← hj]
  exact ⟨Le.refl _,qa⟩
theorem jks (ht:ToksOk ts) {part:Ps→Tr × Ps} (hr:Runs ts part) (hp:∀ q,Pre ts n q→RdT ts 114 part q):∀ q,Pre ts n q→RdT ts 110 (qck ts part) q:=by
 intro p h
 have h2:=ht.len
 have hps:=jkr ht hr hp
 have hrs:=qnr ht hr
 have hs:=hrs p h.at_
 have hq:=h.step hs
 refine zM {} 300 Try.func110 (fun c0 rdb mpb=>?_)
 ((conv=>whnf);refine zT 300 [0] (hps p h) qa ?_)
 ((conv=>whnf);refine zT 300 [0] (qbl ht hq.at_ sLt) qa ?_)
 (repeat' ((conv=>whnf);first|refine Ob.auto ?_|(apply zB <;> intro hb <;> (try simp [-zd] at hb) <;> try (exfalso;omega))))
 ·have e1:took ts (sumF ts part p).2 sLt=adv (sumF ts part p).2:=zb hb
  have hP':=hq.step (qg ht hq.at_ hb)
  have e2:qck ts part p=(binT 3 (sumF ts part p).1 (sumF ts part (adv (sumF ts part p).2)).1,(sumF ts part (adv (sumF ts part p).2)).2):=zb hb
  rw [e1,e2]
  (repeat' ((conv=>whnf);first|(refine qh (fun _=>rfl) (by kernel_rfl) 300 ?_)|fail))
  ((conv=>whnf);refine CallY.trip [0] (hps _ hP') (by kernel_rfl) leA qa (by exact qb rfl) (by exact qb rfl) ?_)
  (conv=>whnf)
  refine CallY.con (qhk 3 (sumF ts part p).1 (sumF ts part (adv (sumF ts part p).2)).1) (by rfl) leA ?_
  ((conv=>whnf);refine AltG.far 4 [2] (by kernel_rfl) farA (EndG.go ?_))
  (repeat' ((conv=>whnf);first|refine Ob.auto ?_|fail))
  exact ⟨Le.refl _,qa⟩
 ·have e1:took ts (sumF ts part p).2 sLt=(sumF ts part p).2:=za (by rw [hb];decide)
  have e2:qck ts part p=sumF ts part p:=za (by rw [hb];decide)
  rw [e1,e2]
  exact ⟨Le.refl _,qa⟩
theorem jkt (ht:ToksOk ts) {part:Ps→Tr × Ps} (hr:Runs ts part) (hp:∀ q,Pre ts n q→RdT ts 114 part q):∀ q,Pre ts n q→RdT ts 104 (qcy ts part) q:=by
 intro p h
 have h2:=ht.len
 have hps:=jks ht hr hp
 have hrs:=qns ht hr
 have hs:=hrs p h.at_
 have hq:=h.step hs
 refine zM {} 300 Try.func104 (fun c0 rdb mpb=>?_)
 ((conv=>whnf);refine zT 300 [0] (hps p h) qa ?_)
 ((conv=>whnf);refine zT 300 [0] (qbl ht hq.at_ sEq2) qa ?_)
 (repeat' ((conv=>whnf);first|refine Ob.auto ?_|(apply zB <;> intro hb <;> (try simp [-zd] at hb) <;> try (exfalso;omega))))
 ·have e1:took ts (qck ts part p).2 sEq2=adv (qck ts part p).2:=zb hb
  have hP':=hq.step (qg ht hq.at_ hb)
  have e2:qcy ts part p=(binT 2 (qck ts part p).1 (qck ts part (adv (qck ts part p).2)).1,(qck ts part (adv (qck ts part p).2)).2):=zb hb
  rw [e1,e2]
  (repeat' ((conv=>whnf);first|(refine qh (fun _=>rfl) (by kernel_rfl) 300 ?_)|fail))
  ((conv=>whnf);refine CallY.trip [0] (hps _ hP') (by kernel_rfl) leA qa (by exact qb rfl) (by exact qb rfl) ?_)
  (conv=>whnf)
  refine CallY.con (qhk 2 (qck ts part p).1 (qck ts part (adv (qck ts part p).2)).1) (by rfl) leA ?_
  ((conv=>whnf);refine AltG.far 4 [2] (by kernel_rfl) farA (EndG.go ?_))
  (repeat' ((conv=>whnf);first|refine Ob.auto ?_|fail))
  exact ⟨Le.refl _,qa⟩
 ·have e1:took ts (qck ts part p).2 sEq2=(qck ts part p).2:=za (by rw [hb];decide)
  have e2:qcy ts part p=qck ts part p:=za (by rw [hb];decide)
  rw [e1,e2]
  exact ⟨Le.refl _,qa⟩
theorem jku (ht:ToksOk ts) {part:Ps→Tr × Ps} (hr:Runs ts part) (hp:∀ q,Pre ts n q→RdT ts 114 part q):∀ q,Pre ts n q→RdT ts 93 (andF ts part) q:=by
 intro p h
 have h2:=ht.len
 have hps:=jkt ht hr hp
 have hrs:=qjr ht hr
 have hs:=hrs p h.at_
 have hq:=h.step hs
 refine zM {} 300 Try.func93 (fun c0 rdb mpb=>?_)
 ((conv=>whnf);refine zT 300 [0] (hps p h) qa ?_)
 ((conv=>whnf);refine qag (fun _=>rfl) 300 1 (fun _:Nat × Tr × Ps=>[]) (fun g=>[(2,.box 62 g.2.1.cells),(0,pso ts g.2.2)]) (fun g=>Pre ts n g.2.2∧jv (qcy ts part) (fun p=>sees ts p qhg) (fun _=>1) g.1 g.2.1 g.2.2=andF ts part p∧(ts.length:Int) - g.2.2.at_≤g.1) (fun g=>((ts.length:Int) - g.2.2.at_).toNat) ((ts.length,(qcy ts part p).1,(qcy ts part p).2)) (⟨hq,rfl,by have:=hq.at_.lo;simp only;omega⟩) qa qa (fun _=>rfl) (by kernel_rfl) ?_;(conv=>whnf))
 rintro ⟨k,a,r⟩ ⟨hP,hj,hk⟩
 simp only at hP hj hk
 have h0:=hP.at_.lo
 have h1:=hP.at_.hi
 obtain ⟨k,rfl⟩:∃ k',k=k'+1:=⟨k - 1,by omega⟩
 ((conv=>whnf);refine zT 300 [0] (qbl ht hP.at_ qhg) qa ?_)
 (repeat' ((conv=>whnf);first|refine Ob.auto ?_|(apply zB <;> intro hb <;> (try simp [-zd] at hb) <;> try (exfalso;omega))))
 ·have e1:took ts r qhg=adv r:=zb hb
  have hst:=qg ht hP.at_ hb
  have hP':=hP.step hst
  rw [jv,zb hb] at hj
  have hle:=(hrs _ hP'.at_).le
  have hle':r.at_+1≤(qcy ts part (adv r)).2.at_:=hle
  dsimp only
  rw [e1]
  (repeat' ((conv=>whnf);first|(refine qh (fun _=>rfl) (by kernel_rfl) 300 ?_)|fail))
  ((conv=>whnf);refine CallY.trip [0] (hps (adv r) hP') (by kernel_rfl) leA qa (by exact qb rfl) (by exact qb rfl) ?_)
  (conv=>whnf)
  refine CallY.con (qhk 1 a (qcy ts part (adv r)).1) (by rfl) leA ?_
  ((conv=>whnf);refine AltG.far 4 [2] (by kernel_rfl) farA (EndG.go ?_))
  ((conv=>whnf);refine ⟨(k,binT 1 a (qcy ts part (adv r)).1,(qcy ts part (adv r)).2),⟨hP'.step (hrs _ hP'.at_),hj,by dsimp only;omega⟩,⟨qa,qa⟩,⟨qa,qa⟩,?_⟩;(first|omega|(dsimp only;omega)|skip))
 ·have e1:took ts r qhg=r:=za (by rw [hb];decide)
  rw [jv,za (by rw [hb];decide)] at hj
  rw [← hj]
  dsimp only
  rw [e1]
  exact ⟨Le.refl _,qa⟩
theorem jaa (ht:ToksOk ts) {part:Ps→Tr × Ps} (hr:Runs ts part) (hp:∀ q,Pre ts n q→RdT ts 114 part q):∀ q,Pre ts n q→RdT ts 71 (qal ts part) q:=by
 intro p h
 have h2:=ht.len
 have hps:=jku ht hr hp
 have hrs:=qjs ht hr
 have hs:=hrs p h.at_
 have hq:=h.step hs
 refine zM {} 300 Try.func71 (fun c0 rdb mpb=>?_)
 ((conv=>whnf);refine zT 300 [0] (hps p h) qa ?_)
 ((conv=>whnf);refine qag (fun _=>rfl) 300 1 (fun _:Nat × Tr × Ps=>[]) (fun g=>[(2,.box 62 g.2.1.cells),(0,pso ts g.2.2)]) (fun g=>Pre ts n g.2.2∧jv (andF ts part) (fun p=>sees ts p sOr2) (fun _=>0) g.1 g.2.1 g.2.2=qal ts part p∧(ts.length:Int) - g.2.2.at_≤g.1) (fun g=>((ts.length:Int) - g.2.2.at_).toNat) ((ts.length,(andF ts part p).1,(andF ts part p).2)) (⟨hq,rfl,by have:=hq.at_.lo;simp only;omega⟩) qa qa (fun _=>rfl) (by kernel_rfl) ?_;(conv=>whnf))
 rintro ⟨k,a,r⟩ ⟨hP,hj,hk⟩
 simp only at hP hj hk
 have h0:=hP.at_.lo
 have h1:=hP.at_.hi
 obtain ⟨k,rfl⟩:∃ k',k=k'+1:=⟨k - 1,by omega⟩
 ((conv=>whnf);refine zT 300 [0] (qbl ht hP.at_ sOr2) qa ?_)
 (repeat' ((conv=>whnf);first|refine Ob.auto ?_|(apply zB <;> intro hb <;> (try simp [-zd] at hb) <;> try (exfalso;omega))))
 ·have e1:took ts r sOr2=adv r:=zb hb
  have hst:=qg ht hP.at_ hb
  have hP':=hP.step hst
  rw [jv,zb hb] at hj
  have hle:=(hrs _ hP'.at_).le
  have hle':r.at_+1≤(andF ts part (adv r)).2.at_:=hle
  dsimp only
  rw [e1]
  (repeat' ((conv=>whnf);first|(refine qh (fun _=>rfl) (by kernel_rfl) 300 ?_)|fail))
  ((conv=>whnf);refine CallY.trip [0] (hps (adv r) hP') (by kernel_rfl) leA qa (by exact qb rfl) (by exact qb rfl) ?_)
  (conv=>whnf)
  refine CallY.con (qhk 0 a (andF ts part (adv r)).1) (by rfl) leA ?_
  ((conv=>whnf);refine AltG.far 4 [2] (by kernel_rfl) farA (EndG.go ?_))
  ((conv=>whnf);refine ⟨(k,binT 0 a (andF ts part (adv r)).1,(andF ts part (adv r)).2),⟨hP'.step (hrs _ hP'.at_),hj,by dsimp only;omega⟩,⟨qa,qa⟩,⟨qa,qa⟩,?_⟩;(first|omega|(dsimp only;omega)|skip))
 ·have e1:took ts r sOr2=r:=za (by rw [hb];decide)
  rw [jv,za (by rw [hb];decide)] at hj
  rw [← hj]
  dsimp only
  rw [e1]
  exact ⟨Le.refl _,qa⟩
end
end Go.Proofs.Ythfaleaojlnnoaa
