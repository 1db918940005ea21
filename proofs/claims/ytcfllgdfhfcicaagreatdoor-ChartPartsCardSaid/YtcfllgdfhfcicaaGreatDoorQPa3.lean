/- Contracts of the document's parser: expressions. -/
import Derived.Test.YtcfllgdfhfcicaaGreatDoorQ7
import Derived.Test.YtcfllgdfhfcicaaGreatDoorQ2
set_option linter.unusedSimpArgs false
set_option linter.unusedVariables false
namespace Go.Proofs.YtcfllgdfhfcicaaGreatDoor
open List renaming getD_eq_getElem?_getD → zd
open Go Go.Sx Go.RowKit Go.St Pa
set_option maxRecDepth 100000
set_option maxHeartbeats 4000000
structure Pre (ts:List Lx.Tok) (n:Nat) (p:Ps):Prop where
 at_:AtOk ts p
 deep:0≤p.deep∧p.deep≤p.at_+1
 left:(ts.length:Int) - p.at_≤n
section
variable {ts:List Lx.Tok} {p q:Ps} {n:Nat}
theorem Pre.step (h:Pre ts n p) (k:Step ts p q):Pre ts n q:=
 ⟨k.ok h.at_,by have:=h.deep;have:=k.deep;have:=k.le;omega,by have:=h.left;have:=k.le;omega⟩
abbrev RdT (ts:List Lx.Tok) (f:FuncId) (F:Ps→Tr × Ps) (p:Ps):Prop:=Trip Tryz.prog f [.ptr 0 0] [pso ts p] (F p).1.av [(0,pso ts (F p).2)] 1
theorem jqj (a b:Tr):Le (.slc 6 2 (chop 6 (a.cells++b.cells))) (qmc [a,b]):=Le.slc rfl (fun i hi=>by
 match i,hi with
 | 0,_=>exact (Tr.cellsL_get [a,b] 0 (zbn _)).symm
 | 1,_=>exact (Tr.cellsL_get [a,b] 1 (zba _)).symm)
theorem qia (sg:Int) (a b:Tr):Con Tryz.prog 139 [iv sg,a.av,b.av] (binT sg a b).av:=by
 refine zK {} 300 Tryz.func139 (fun c0 rdb=>?_)
 (repeat' ((conv=>whnf);first|refine Ob.auto ?_|fail))
 refine Le.agg ⟨Le.refl _,Le.nils _ _,Le.slc rfl (fun i hi=>?_),Le.refl _,Le.refl _,jqj a b,trivial⟩
 obtain rfl:i=0:=by omega
 rfl
theorem jqk (ht:ToksOk ts) {part:Ps→Tr × Ps} (hr:Runs ts part) (hp:∀ q,Pre ts n q→RdT ts 189 part q):∀ q,Pre ts n q→RdT ts 188 (qcn ts part) q:=by
 intro p h
 have h2:=ht.len
 have hps:=hp
 have hrs:=hr
 have hs:=hrs p h.at_
 have hq:=h.step hs
 refine zM {} 300 Tryz.func188 (fun c0 rdb mpb=>?_)
 ((conv=>whnf);refine zT 300 [0] (hps p h) qa ?_)
 ((conv=>whnf);refine qo (fun _=>rfl) 300 1 (fun _:Nat × Tr × Ps=>[]) (fun g=>[(2,.box 99 g.2.1.cells),(0,pso ts g.2.2)]) (fun g=>Pre ts n g.2.2∧qav (part) (qeh ts) (qjc ts) g.1 g.2.1 g.2.2=qcn ts part p∧(ts.length:Int) - g.2.2.at_≤g.1) (fun g=>((ts.length:Int) - g.2.2.at_).toNat) ((ts.length,(part p).1,(part p).2)) (⟨hq,rfl,by have:=hq.at_.lo;simp only;omega⟩) qa qa (fun _=>rfl) (by kernel_rfl) ?_;(conv=>whnf))
 rintro ⟨k,a,r⟩ ⟨hP,hj,hk⟩
 simp only at hP hj hk
 have h0:=hP.at_.lo
 have h1:=hP.at_.hi
 obtain ⟨k,rfl⟩:∃ k',k=k'+1:=⟨k - 1,by omega⟩
 (repeat' ((conv=>whnf);first|refine Ob.auto ?_|(refine Ob.intro (by (exact qec (by dsimp only;omega) (by dsimp only;omega))) ?_)|refine zE 300 (qfg hP.at_ _) ?_|refine zF 300 (fun hg=>qfg hP.at_ _) ?_|(apply zB <;> intro hb <;> (try simp [-zd] at hb) <;> try (exfalso;omega))))
 ·have hc:(qeh ts) r=true:=by simp [qeh,sumC, *]
  have hsg:(qjc ts) r=6:=by unfold qjc;rw [zb hb]
  have hst:=qh ht hP.at_ hb
  have hP':=hP.step hst
  rw [qav,zb hc,hsg] at hj
  have hle:=(hrs _ hP'.at_).le
  have hle':r.at_+1≤(part (adv r)).2.at_:=hle
  (repeat' ((conv=>whnf);first|(refine qbe (fun _=>rfl) (by kernel_rfl) 300 ?_)|fail))
  ((conv=>whnf);refine CallY.trip [0] (hps (adv r) hP') (by kernel_rfl) leA qa (by exact qb rfl) (by exact qb rfl) ?_)
  (conv=>whnf)
  refine CallY.con (qia 6 a (part (adv r)).1) (by rfl) leA ?_
  ((conv=>whnf);refine AltG.far 5 [2] (by kernel_rfl) farA (EndG.go ?_))
  ((conv=>whnf);refine ⟨(k,binT 6 a (part (adv r)).1,(part (adv r)).2),⟨hP'.step (hrs _ hP'.at_),hj,by dsimp only;omega⟩,⟨qa,qa⟩,⟨qa,qa⟩,?_⟩;(first|omega|(dsimp only;omega)|skip))
 ·have hc:(qeh ts) r=true:=by simp [qeh,sumC, *]
  have hsg:(qjc ts) r=7:=by unfold qjc;rw [za (by simp [*]),zb hb]
  have hst:=qh ht hP.at_ hb
  have hP':=hP.step hst
  rw [qav,zb hc,hsg] at hj
  have hle:=(hrs _ hP'.at_).le
  have hle':r.at_+1≤(part (adv r)).2.at_:=hle
  (repeat' ((conv=>whnf);first|(refine qbe (fun _=>rfl) (by kernel_rfl) 300 ?_)|fail))
  ((conv=>whnf);refine CallY.trip [0] (hps (adv r) hP') (by kernel_rfl) leA qa (by exact qb rfl) (by exact qb rfl) ?_)
  (conv=>whnf)
  refine CallY.con (qia 7 a (part (adv r)).1) (by rfl) leA ?_
  ((conv=>whnf);refine AltG.far 5 [2] (by kernel_rfl) farA (EndG.go ?_))
  ((conv=>whnf);refine ⟨(k,binT 7 a (part (adv r)).1,(part (adv r)).2),⟨hP'.step (hrs _ hP'.at_),hj,by dsimp only;omega⟩,⟨qa,qa⟩,⟨qa,qa⟩,?_⟩;(first|omega|(dsimp only;omega)|skip))
 ·have hpct:sees ts r sPct=true:=by simp_all
  have hc:qeh ts r=true:=by unfold qeh;rw [hpct];simp
  have hsg:(qjc ts) r=8:=by unfold qjc;rw [za (by simp [*]),za (by simp [*])]
  have hst:=qh ht hP.at_ hpct
  have hP':=hP.step hst
  rw [qav,zb hc,hsg] at hj
  have hle:=(hrs _ hP'.at_).le
  have hle':r.at_+1≤(part (adv r)).2.at_:=hle
  (repeat' ((conv=>whnf);first|(refine qbe (fun _=>rfl) (by kernel_rfl) 300 ?_)|fail))
  ((conv=>whnf);refine CallY.trip [0] (hps (adv r) hP') (by kernel_rfl) leA qa (by exact qb rfl) (by exact qb rfl) ?_)
  (conv=>whnf)
  refine CallY.con (qia 8 a (part (adv r)).1) (by rfl) leA ?_
  ((conv=>whnf);refine AltG.far 5 [2] (by kernel_rfl) farA (EndG.go ?_))
  ((conv=>whnf);refine ⟨(k,binT 8 a (part (adv r)).1,(part (adv r)).2),⟨hP'.step (hrs _ hP'.at_),hj,by dsimp only;omega⟩,⟨qa,qa⟩,⟨qa,qa⟩,?_⟩;(first|omega|(dsimp only;omega)|skip))
 ·have hc:¬ ((qeh ts) r=true):=by simp [qeh,sumC,hb]
  rw [qav,za hc] at hj
  rw [← hj]
  exact ⟨Le.refl _,qa⟩
theorem jql (ht:ToksOk ts) {part:Ps→Tr × Ps} (hr:Runs ts part) (hp:∀ q,Pre ts n q→RdT ts 189 part q):∀ q,Pre ts n q→RdT ts 187 (sumF ts part) q:=by
 intro p h
 have h2:=ht.len
 have hps:=jqk ht hr hp
 have hrs:=qoe ht hr
 have hs:=hrs p h.at_
 have hq:=h.step hs
 refine zM {} 300 Tryz.func187 (fun c0 rdb mpb=>?_)
 ((conv=>whnf);refine zT 300 [0] (hps p h) qa ?_)
 ((conv=>whnf);refine qo (fun _=>rfl) 300 1 (fun _:Nat × Tr × Ps=>[]) (fun g=>[(2,.box 99 g.2.1.cells),(0,pso ts g.2.2)]) (fun g=>Pre ts n g.2.2∧qav (qcn ts part) (sumC ts) (sumS ts) g.1 g.2.1 g.2.2=sumF ts part p∧(ts.length:Int) - g.2.2.at_≤g.1) (fun g=>((ts.length:Int) - g.2.2.at_).toNat) ((ts.length,(qcn ts part p).1,(qcn ts part p).2)) (⟨hq,rfl,by have:=hq.at_.lo;simp only;omega⟩) qa qa (fun _=>rfl) (by kernel_rfl) ?_;(conv=>whnf))
 rintro ⟨k,a,r⟩ ⟨hP,hj,hk⟩
 simp only at hP hj hk
 have h0:=hP.at_.lo
 have h1:=hP.at_.hi
 obtain ⟨k,rfl⟩:∃ k',k=k'+1:=⟨k - 1,by omega⟩
 (repeat' ((conv=>whnf);first|refine Ob.auto ?_|(refine Ob.intro (by (exact qec (by dsimp only;omega) (by dsimp only;omega))) ?_)|refine zE 300 (qfg hP.at_ _) ?_|refine zF 300 (fun hg=>qfg hP.at_ _) ?_|(apply zB <;> intro hb <;> (try simp [-zd] at hb) <;> try (exfalso;omega))))
 ·have hc:(sumC ts) r=true:=by simp [qeh,sumC, *]
  have hsg:(sumS ts) r=4:=by unfold sumS;rw [zb hb]
  have hst:=qh ht hP.at_ hb
  have hP':=hP.step hst
  rw [qav,zb hc,hsg] at hj
  have hle:=(hrs _ hP'.at_).le
  have hle':r.at_+1≤(qcn ts part (adv r)).2.at_:=hle
  (repeat' ((conv=>whnf);first|(refine qbe (fun _=>rfl) (by kernel_rfl) 300 ?_)|fail))
  ((conv=>whnf);refine CallY.trip [0] (hps (adv r) hP') (by kernel_rfl) leA qa (by exact qb rfl) (by exact qb rfl) ?_)
  (conv=>whnf)
  refine CallY.con (qia 4 a (qcn ts part (adv r)).1) (by rfl) leA ?_
  ((conv=>whnf);refine AltG.far 5 [2] (by kernel_rfl) farA (EndG.go ?_))
  ((conv=>whnf);refine ⟨(k,binT 4 a (qcn ts part (adv r)).1,(qcn ts part (adv r)).2),⟨hP'.step (hrs _ hP'.at_),hj,by dsimp only;omega⟩,⟨qa,qa⟩,⟨qa,qa⟩,?_⟩;(first|omega|(dsimp only;omega)|skip))
 ·have hmin:sees ts r qff=true:=by simp_all
  have hc:sumC ts r=true:=by unfold sumC;rw [hmin];simp
  have hsg:(sumS ts) r=5:=by unfold sumS;rw [za (by simp [*])]
  have hst:=qh ht hP.at_ hmin
  have hP':=hP.step hst
  rw [qav,zb hc,hsg] at hj
  have hle:=(hrs _ hP'.at_).le
  have hle':r.at_+1≤(qcn ts part (adv r)).2.at_:=hle
  (repeat' ((conv=>whnf);first|(refine qbe (fun _=>rfl) (by kernel_rfl) 300 ?_)|fail))
  ((conv=>whnf);refine CallY.trip [0] (hps (adv r) hP') (by kernel_rfl) leA qa (by exact qb rfl) (by exact qb rfl) ?_)
  (conv=>whnf)
  refine CallY.con (qia 5 a (qcn ts part (adv r)).1) (by rfl) leA ?_
  ((conv=>whnf);refine AltG.far 5 [2] (by kernel_rfl) farA (EndG.go ?_))
  ((conv=>whnf);refine ⟨(k,binT 5 a (qcn ts part (adv r)).1,(qcn ts part (adv r)).2),⟨hP'.step (hrs _ hP'.at_),hj,by dsimp only;omega⟩,⟨qa,qa⟩,⟨qa,qa⟩,?_⟩;(first|omega|(dsimp only;omega)|skip))
 ·have hc:¬ ((sumC ts) r=true):=by simp [qeh,sumC,hb]
  rw [qav,za hc] at hj
  rw [← hj]
  exact ⟨Le.refl _,qa⟩
theorem jqm (ht:ToksOk ts) {part:Ps→Tr × Ps} (hr:Runs ts part) (hp:∀ q,Pre ts n q→RdT ts 189 part q):∀ q,Pre ts n q→RdT ts 177 (qch ts part) q:=by
 intro p h
 have h2:=ht.len
 have hps:=jql ht hr hp
 have hrs:=qvo ht hr
 have hs:=hrs p h.at_
 have hq:=h.step hs
 refine zM {} 300 Tryz.func177 (fun c0 rdb mpb=>?_)
 ((conv=>whnf);refine zT 300 [0] (hps p h) qa ?_)
 ((conv=>whnf);refine zT 300 [0] (qaw ht hq.at_ sLt) qa ?_)
 (repeat' ((conv=>whnf);first|refine Ob.auto ?_|(apply zB <;> intro hb <;> (try simp [-zd] at hb) <;> try (exfalso;omega))))
 ·have e1:took ts (sumF ts part p).2 sLt=adv (sumF ts part p).2:=zb hb
  have hP':=hq.step (qh ht hq.at_ hb)
  have e2:qch ts part p=(binT 3 (sumF ts part p).1 (sumF ts part (adv (sumF ts part p).2)).1,(sumF ts part (adv (sumF ts part p).2)).2):=zb hb
  rw [e1,e2]
  (repeat' ((conv=>whnf);first|(refine qbe (fun _=>rfl) (by kernel_rfl) 300 ?_)|fail))
  ((conv=>whnf);refine CallY.trip [0] (hps _ hP') (by kernel_rfl) leA qa (by exact qb rfl) (by exact qb rfl) ?_)
  (conv=>whnf)
  refine CallY.con (qia 3 (sumF ts part p).1 (sumF ts part (adv (sumF ts part p).2)).1) (by rfl) leA ?_
  ((conv=>whnf);refine AltG.far 4 [2] (by kernel_rfl) farA (EndG.go ?_))
  (repeat' ((conv=>whnf);first|refine Ob.auto ?_|fail))
  exact ⟨Le.refl _,qa⟩
 ·have e1:took ts (sumF ts part p).2 sLt=(sumF ts part p).2:=za (by rw [hb];decide)
  have e2:qch ts part p=sumF ts part p:=za (by rw [hb];decide)
  rw [e1,e2]
  exact ⟨Le.refl _,qa⟩
theorem jqn (ht:ToksOk ts) {part:Ps→Tr × Ps} (hr:Runs ts part) (hp:∀ q,Pre ts n q→RdT ts 189 part q):∀ q,Pre ts n q→RdT ts 165 (qdv ts part) q:=by
 intro p h
 have h2:=ht.len
 have hps:=jqm ht hr hp
 have hrs:=qvp ht hr
 have hs:=hrs p h.at_
 have hq:=h.step hs
 refine zM {} 300 Tryz.func165 (fun c0 rdb mpb=>?_)
 ((conv=>whnf);refine zT 300 [0] (hps p h) qa ?_)
 ((conv=>whnf);refine zT 300 [0] (qaw ht hq.at_ sEq2) qa ?_)
 (repeat' ((conv=>whnf);first|refine Ob.auto ?_|(apply zB <;> intro hb <;> (try simp [-zd] at hb) <;> try (exfalso;omega))))
 ·have e1:took ts (qch ts part p).2 sEq2=adv (qch ts part p).2:=zb hb
  have hP':=hq.step (qh ht hq.at_ hb)
  have e2:qdv ts part p=(binT 2 (qch ts part p).1 (qch ts part (adv (qch ts part p).2)).1,(qch ts part (adv (qch ts part p).2)).2):=zb hb
  rw [e1,e2]
  (repeat' ((conv=>whnf);first|(refine qbe (fun _=>rfl) (by kernel_rfl) 300 ?_)|fail))
  ((conv=>whnf);refine CallY.trip [0] (hps _ hP') (by kernel_rfl) leA qa (by exact qb rfl) (by exact qb rfl) ?_)
  (conv=>whnf)
  refine CallY.con (qia 2 (qch ts part p).1 (qch ts part (adv (qch ts part p).2)).1) (by rfl) leA ?_
  ((conv=>whnf);refine AltG.far 4 [2] (by kernel_rfl) farA (EndG.go ?_))
  (repeat' ((conv=>whnf);first|refine Ob.auto ?_|fail))
  exact ⟨Le.refl _,qa⟩
 ·have e1:took ts (qch ts part p).2 sEq2=(qch ts part p).2:=za (by rw [hb];decide)
  have e2:qdv ts part p=qch ts part p:=za (by rw [hb];decide)
  rw [e1,e2]
  exact ⟨Le.refl _,qa⟩
theorem jqo (ht:ToksOk ts) {part:Ps→Tr × Ps} (hr:Runs ts part) (hp:∀ q,Pre ts n q→RdT ts 189 part q):∀ q,Pre ts n q→RdT ts 138 (andF ts part) q:=by
 intro p h
 have h2:=ht.len
 have hps:=jqn ht hr hp
 have hrs:=qof ht hr
 have hs:=hrs p h.at_
 have hq:=h.step hs
 refine zM {} 300 Tryz.func138 (fun c0 rdb mpb=>?_)
 ((conv=>whnf);refine zT 300 [0] (hps p h) qa ?_)
 ((conv=>whnf);refine qo (fun _=>rfl) 300 1 (fun _:Nat × Tr × Ps=>[]) (fun g=>[(2,.box 99 g.2.1.cells),(0,pso ts g.2.2)]) (fun g=>Pre ts n g.2.2∧qav (qdv ts part) (fun p=>sees ts p qob) (fun _=>1) g.1 g.2.1 g.2.2=andF ts part p∧(ts.length:Int) - g.2.2.at_≤g.1) (fun g=>((ts.length:Int) - g.2.2.at_).toNat) ((ts.length,(qdv ts part p).1,(qdv ts part p).2)) (⟨hq,rfl,by have:=hq.at_.lo;simp only;omega⟩) qa qa (fun _=>rfl) (by kernel_rfl) ?_;(conv=>whnf))
 rintro ⟨k,a,r⟩ ⟨hP,hj,hk⟩
 simp only at hP hj hk
 have h0:=hP.at_.lo
 have h1:=hP.at_.hi
 obtain ⟨k,rfl⟩:∃ k',k=k'+1:=⟨k - 1,by omega⟩
 ((conv=>whnf);refine zT 300 [0] (qaw ht hP.at_ qob) qa ?_)
 (repeat' ((conv=>whnf);first|refine Ob.auto ?_|(apply zB <;> intro hb <;> (try simp [-zd] at hb) <;> try (exfalso;omega))))
 ·have e1:took ts r qob=adv r:=zb hb
  have hst:=qh ht hP.at_ hb
  have hP':=hP.step hst
  rw [qav,zb hb] at hj
  have hle:=(hrs _ hP'.at_).le
  have hle':r.at_+1≤(qdv ts part (adv r)).2.at_:=hle
  dsimp only
  rw [e1]
  (repeat' ((conv=>whnf);first|(refine qbe (fun _=>rfl) (by kernel_rfl) 300 ?_)|fail))
  ((conv=>whnf);refine CallY.trip [0] (hps (adv r) hP') (by kernel_rfl) leA qa (by exact qb rfl) (by exact qb rfl) ?_)
  (conv=>whnf)
  refine CallY.con (qia 1 a (qdv ts part (adv r)).1) (by rfl) leA ?_
  ((conv=>whnf);refine AltG.far 4 [2] (by kernel_rfl) farA (EndG.go ?_))
  ((conv=>whnf);refine ⟨(k,binT 1 a (qdv ts part (adv r)).1,(qdv ts part (adv r)).2),⟨hP'.step (hrs _ hP'.at_),hj,by dsimp only;omega⟩,⟨qa,qa⟩,⟨qa,qa⟩,?_⟩;(first|omega|(dsimp only;omega)|skip))
 ·have e1:took ts r qob=r:=za (by rw [hb];decide)
  rw [qav,za (by rw [hb];decide)] at hj
  rw [← hj]
  dsimp only
  rw [e1]
  exact ⟨Le.refl _,qa⟩
theorem jcq (ht:ToksOk ts) {part:Ps→Tr × Ps} (hr:Runs ts part) (hp:∀ q,Pre ts n q→RdT ts 189 part q):∀ q,Pre ts n q→RdT ts 108 (qei ts part) q:=by
 intro p h
 have h2:=ht.len
 have hps:=jqo ht hr hp
 have hrs:=qog ht hr
 have hs:=hrs p h.at_
 have hq:=h.step hs
 refine zM {} 300 Tryz.func108 (fun c0 rdb mpb=>?_)
 ((conv=>whnf);refine zT 300 [0] (hps p h) qa ?_)
 ((conv=>whnf);refine qo (fun _=>rfl) 300 1 (fun _:Nat × Tr × Ps=>[]) (fun g=>[(2,.box 99 g.2.1.cells),(0,pso ts g.2.2)]) (fun g=>Pre ts n g.2.2∧qav (andF ts part) (fun p=>sees ts p sOr2) (fun _=>0) g.1 g.2.1 g.2.2=qei ts part p∧(ts.length:Int) - g.2.2.at_≤g.1) (fun g=>((ts.length:Int) - g.2.2.at_).toNat) ((ts.length,(andF ts part p).1,(andF ts part p).2)) (⟨hq,rfl,by have:=hq.at_.lo;simp only;omega⟩) qa qa (fun _=>rfl) (by kernel_rfl) ?_;(conv=>whnf))
 rintro ⟨k,a,r⟩ ⟨hP,hj,hk⟩
 simp only at hP hj hk
 have h0:=hP.at_.lo
 have h1:=hP.at_.hi
 obtain ⟨k,rfl⟩:∃ k',k=k'+1:=⟨k - 1,by omega⟩
 ((conv=>whnf);refine zT 300 [0] (qaw ht hP.at_ sOr2) qa ?_)
 (repeat' ((conv=>whnf);first|refine Ob.auto ?_|(apply zB <;> intro hb <;> (try simp [-zd] at hb) <;> try (exfalso;omega))))
 ·have e1:took ts r sOr2=adv r:=zb hb
  have hst:=qh ht hP.at_ hb
  have hP':=hP.step hst
  rw [qav,zb hb] at hj
  have hle:=(hrs _ hP'.at_).le
  have hle':r.at_+1≤(andF ts part (adv r)).2.at_:=hle
  dsimp only
  rw [e1]
  (repeat' ((conv=>whnf);first|(refine qbe (fun _=>rfl) (by kernel_rfl) 300 ?_)|fail))
  ((conv=>whnf);refine CallY.trip [0] (hps (adv r) hP') (by kernel_rfl) leA qa (by exact qb rfl) (by exact qb rfl) ?_)
  (conv=>whnf)
  refine CallY.con (qia 0 a (andF ts part (adv r)).1) (by rfl) leA ?_
  ((conv=>whnf);refine AltG.far 4 [2] (by kernel_rfl) farA (EndG.go ?_))
  ((conv=>whnf);refine ⟨(k,binT 0 a (andF ts part (adv r)).1,(andF ts part (adv r)).2),⟨hP'.step (hrs _ hP'.at_),hj,by dsimp only;omega⟩,⟨qa,qa⟩,⟨qa,qa⟩,?_⟩;(first|omega|(dsimp only;omega)|skip))
 ·have e1:took ts r sOr2=r:=za (by rw [hb];decide)
  rw [qav,za (by rw [hb];decide)] at hj
  rw [← hj]
  dsimp only
  rw [e1]
  exact ⟨Le.refl _,qa⟩
end
end Go.Proofs.YtcfllgdfhfcicaaGreatDoor
