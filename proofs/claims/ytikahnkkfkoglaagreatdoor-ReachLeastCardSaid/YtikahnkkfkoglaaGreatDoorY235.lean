/- Some texts of the library, one behind the other. -/
import Derived.Test.YtikahnkkfkoglaaGreatDoorY234
import Derived.Test.YtikahnkkfkoglaaGreatDoorY22
set_option linter.unusedSimpArgs false
set_option linter.unusedVariables false
section
namespace Go.Proofs.YtikahnkkfkoglaaGreatDoor
open List renaming getD_eq_getElem?_getD → zd
open Go Go.Sx Go.RowKit Go.St
set_option maxRecDepth 100000
set_option maxHeartbeats 8000000
section
variable (m:Md) (nv:Nat) (fv:Nat→List AV) (np:Nat) (fp:Nat→List AV) (p:Pr) (a frm to:Int) (h0:0≤a) (h1:a<m.tree.length)
include h0 h1 in
theorem stat12_trip (q:Pr) (hk:(m.tree.getD a.toNat nd0).kind=12) (hk1:(m.tree.getD a.toNat nd0).kids.length=2) (hE:p.edges.length≤50000) (hP:0≤p.places∧p.places≤100000) (hR:p.rest.length≤100000)
  (B:qlj m nv fv np fp (putF (putF (qg p) frm p.places 4 a ((m.tree.getD a.toNat nd0).kids.getD 0 0) (-1) (-1)) frm to 5 a ((m.tree.getD a.toNat nd0).kids.getD 0 0) (-1) (-1)) ((m.tree.getD a.toNat nd0).kids.getD 1 0) p.places frm q):qgh m nv fv np fp p a frm to q:=by
 have hE1:(qg p).edges.length≤100000:=by show p.edges.length≤100000;omega
 have hE2:(putF (qg p) frm p.places 4 a ((m.tree.getD a.toNat nd0).kids.getD 0 0) (-1) (-1)).edges.length≤100000:=by simp [putF,qg];omega
 refine qdj (T:=tab Tryz.prog) (C:={}) 5 1500 (fun _=>rfl) Tryz.func67 rfl (by kernel_rfl) (by kernel_rfl) (fun c0 rdb mpb=>?_)
 (repeat' ((conv=>whnf);first|refine Ob.auto ?_|refine zC 1500 (qli p hP hR) ?_|(refine zQ 1500 ?_)|(apply zB <;> intro hb <;> (try simp [-zd] at hb) <;> try (exfalso;omega))))
 ((conv=>whnf);refine CallY.trip [] (qda (qg p) hE1 frm p.places 4 a ((m.tree.getD a.toNat nd0).kids.getD 0 0) (-1) (-1)) (by kernel_rfl) leA qa (by exact qb rfl) (by exact qb rfl) ?_)
 (repeat' ((conv=>whnf);first|refine Ob.auto ?_|fail))
 ((conv=>whnf);refine AltG.none (by kernel_rfl) (EndG.go ?_))
 ((conv=>whnf);refine qdp [0,1,2,3,4,5,6] 6 rfl frzA ?_)
 (repeat' ((conv=>whnf);first|refine Ob.auto ?_|(refine zQ 1500 ?_)|fail))
 ((conv=>whnf);refine CallY.trip [] (qda _ hE2 frm to 5 a ((m.tree.getD a.toNat nd0).kids.getD 0 0) (-1) (-1)) (by kernel_rfl) leA qa (by exact qb rfl) (by exact qb rfl) ?_)
 (repeat' ((conv=>whnf);first|refine Ob.auto ?_|fail))
 ((conv=>whnf);refine AltG.none (by kernel_rfl) (EndG.go ?_))
 ((conv=>whnf);refine qdp [0,1,2,3,4,5,6] 6 rfl frzA ?_)
 (repeat' ((conv=>whnf);first|refine Ob.auto ?_|(refine zQ 1500 ?_)|fail))
 ((conv=>whnf);refine CallY.trip [0,1] (B) (by kernel_rfl) leA qa (by exact qb rfl) (by exact qb rfl) ?_)
 (repeat' ((conv=>whnf);first|refine zA ?_|refine Ob.auto ?_|fail))
 (refine ⟨⟨Le.refl _,qa⟩,qdi rfl (SoLe.refl _)⟩)
include h0 h1 in
theorem stat11_trip (q1 q:Pr) (hk:(m.tree.getD a.toNat nd0).kind=11) (hk1:(m.tree.getD a.toNat nd0).kids.length=2) (hE:p.edges.length≤50000) (hP:0≤p.places∧p.places≤100000) (hR:p.rest.length≤100000)
  (B:qlj m nv fv np fp (putF (qg p) frm p.places 4 a ((m.tree.getD a.toNat nd0).kids.getD 0 0) (-1) (-1)) ((m.tree.getD a.toNat nd0).kids.getD 1 0) p.places to q1) (hE1:q1.edges.length≤100000) :
  qgh m nv fv np fp p a frm to (putF q1 frm to 5 a ((m.tree.getD a.toNat nd0).kids.getD 0 0) (-1) (-1)):=by
 have hE2:(qg p).edges.length≤100000:=by show p.edges.length≤100000;omega
 refine qdj (T:=tab Tryz.prog) (C:={}) 5 1500 (fun _=>rfl) Tryz.func67 rfl (by kernel_rfl) (by kernel_rfl) (fun c0 rdb mpb=>?_)
 (repeat' ((conv=>whnf);first|refine Ob.auto ?_|refine zC 1500 (qli p hP hR) ?_|(refine zQ 1500 ?_)|(apply zB <;> intro hb <;> (try simp [-zd] at hb) <;> try (exfalso;omega))))
 ((conv=>whnf);refine CallY.trip [] (qda (qg p) hE2 frm p.places 4 a ((m.tree.getD a.toNat nd0).kids.getD 0 0) (-1) (-1)) (by kernel_rfl) leA qa (by exact qb rfl) (by exact qb rfl) ?_)
 (repeat' ((conv=>whnf);first|refine Ob.auto ?_|fail))
 ((conv=>whnf);refine AltG.none (by kernel_rfl) (EndG.go ?_))
 ((conv=>whnf);refine qdp [0,1,2,3,4,5,6] 6 rfl frzA ?_)
 (repeat' ((conv=>whnf);first|refine Ob.auto ?_|(refine zQ 1500 ?_)|fail))
 ((conv=>whnf);refine CallY.trip [0,1] (B) (by kernel_rfl) leA qa (by exact qb rfl) (by exact qb rfl) ?_)
 (repeat' ((conv=>whnf);first|refine Ob.auto ?_|fail))
 ((conv=>whnf);refine AltG.none (by kernel_rfl) (EndG.go ?_))
 (repeat' ((conv=>whnf);first|(apply zB <;> intro hb <;> (try simp [-zd] at hb) <;> try (exfalso;omega))))
 all_goals first
  | (exfalso;omega)
  | skip
 ((conv=>whnf);refine qdp [0,1,2,3,4,5,6] 6 rfl frzA ?_)
 (repeat' ((conv=>whnf);first|refine Ob.auto ?_|(refine zQ 1500 ?_)|fail))
 ((conv=>whnf);refine CallY.trip [] (qda _ hE1 frm to 5 a ((m.tree.getD a.toNat nd0).kids.getD 0 0) (-1) (-1)) (by kernel_rfl) leA qa (by exact qb rfl) (by exact qb rfl) ?_)
 (repeat' ((conv=>whnf);first|refine zA ?_|refine Ob.auto ?_|fail))
 (refine ⟨⟨Le.refl _,qa⟩,qdi rfl (SoLe.refl _)⟩)
include h0 h1 in
theorem stat11b_trip (q1 q:Pr) (hk:(m.tree.getD a.toNat nd0).kind=11) (hk1:(m.tree.getD a.toNat nd0).kids.length=3) (hE:p.edges.length≤50000) (hP:0≤p.places∧p.places≤100000) (hR:p.rest.length≤100000)
  (B:qlj m nv fv np fp (putF (qg p) frm p.places 4 a ((m.tree.getD a.toNat nd0).kids.getD 0 0) (-1) (-1)) ((m.tree.getD a.toNat nd0).kids.getD 1 0) p.places to q1) (hE1:q1.edges.length≤100000) (hP1:0≤q1.places∧q1.places≤100000) (hR1:q1.rest.length≤100000)
  (B2:qlj m nv fv np fp (putF (qg q1) frm q1.places 5 a ((m.tree.getD a.toNat nd0).kids.getD 0 0) (-1) (-1)) ((m.tree.getD a.toNat nd0).kids.getD 2 0) q1.places to q) :
  qgh m nv fv np fp p a frm to q:=by
 have hE2:(qg p).edges.length≤100000:=by show p.edges.length≤100000;omega
 have hE3:(qg q1).edges.length≤100000:=hE1
 refine qdj (T:=tab Tryz.prog) (C:={}) 5 1500 (fun _=>rfl) Tryz.func67 rfl (by kernel_rfl) (by kernel_rfl) (fun c0 rdb mpb=>?_)
 (repeat' ((conv=>whnf);first|refine Ob.auto ?_|refine zC 1500 (qli p hP hR) ?_|(refine zQ 1500 ?_)|(apply zB <;> intro hb <;> (try simp [-zd] at hb) <;> try (exfalso;omega))))
 ((conv=>whnf);refine CallY.trip [] (qda (qg p) hE2 frm p.places 4 a ((m.tree.getD a.toNat nd0).kids.getD 0 0) (-1) (-1)) (by kernel_rfl) leA qa (by exact qb rfl) (by exact qb rfl) ?_)
 (repeat' ((conv=>whnf);first|refine Ob.auto ?_|fail))
 ((conv=>whnf);refine AltG.none (by kernel_rfl) (EndG.go ?_))
 ((conv=>whnf);refine qdp [0,1,2,3,4,5,6] 6 rfl frzA ?_)
 (repeat' ((conv=>whnf);first|refine Ob.auto ?_|(refine zQ 1500 ?_)|fail))
 ((conv=>whnf);refine CallY.trip [0,1] (B) (by kernel_rfl) leA qa (by exact qb rfl) (by exact qb rfl) ?_)
 (repeat' ((conv=>whnf);first|refine Ob.auto ?_|fail))
 ((conv=>whnf);refine AltG.none (by kernel_rfl) (EndG.go ?_))
 (repeat' ((conv=>whnf);first|(apply zB <;> intro hb <;> (try simp [-zd] at hb) <;> try (exfalso;omega))))
 all_goals first
  | (exfalso;omega)
  | skip
 ((conv=>whnf);refine jbp [0,1,2,3,4,5,6] frzA ?_)
 ((conv=>whnf);refine qex (fun _=>rfl) 1500 (qli q1 hP1 hR1) (by rfl) leA (by kernel_rfl) ?_)
 (repeat' ((conv=>whnf);first|refine Ob.auto ?_|(refine zQ 1500 ?_)|fail))
 ((conv=>whnf);refine CallY.trip [] (qda (qg q1) hE3 frm q1.places 5 a ((m.tree.getD a.toNat nd0).kids.getD 0 0) (-1) (-1)) (by kernel_rfl) leA qa (by exact qb rfl) (by exact qb rfl) ?_)
 (repeat' ((conv=>whnf);first|refine Ob.auto ?_|fail))
 ((conv=>whnf);refine AltG.none (by kernel_rfl) (EndG.go ?_))
 ((conv=>whnf);refine qdp [0,1,2,3,4,5,6] 6 rfl frzA ?_)
 (repeat' ((conv=>whnf);first|refine Ob.auto ?_|(refine zQ 1500 ?_)|fail))
 ((conv=>whnf);refine CallY.trip [0,1] (B2) (by kernel_rfl) leA qa (by exact qb rfl) (by exact qb rfl) ?_)
 (repeat' ((conv=>whnf);first|refine zA ?_|refine Ob.auto ?_|fail))
 (refine ⟨⟨Le.refl _,qa⟩,qdi rfl (SoLe.refl _)⟩)
end
section
variable (m:Md) (nv:Nat) (fv:Nat→List AV) (np:Nat) (fp:Nat→List AV) (p:Pr) (a frm to:Int) (h0:0≤a) (h1:a<m.tree.length)
def mdC (m:Md) (nv np:Nat):List AV:=[jx m.tree,iv m.globals,slcL Ch.cells ch0 5 m.chans,.own 0 0 0 nv,.own 1 0 0 np,ints m.safe,.bool m.dead]
def prZ:List AV:=[.str [],iv 0,.nils,iv 0,.nils,.nils,.nils,.nils]
def prC (k:Nat) (p:Pr):List AV:=[.str p.name,iv p.copy,ints p.locals,iv p.places,qmb p.rest,.own k 0 0 p.edges.length,strs p.names,ints p.vars]
def chI (m:Md) (nv:Nat) (fv:Nat→List AV) (np:Nat) (fp:Nat→List AV) (n:Nd) (p:Pr) (a frm to:Int):Option (Nat × Pr)→ASt
 | none=>⟨[(12,iv 0),(11,.ptr 5 0),(10,.ptr 4 0),(6,.ptr 3 0),(5,.ptr 2 0),(2,iv a),(3,iv frm),(4,iv to)],
   [(0,vrSO nv fv),(1,pcSO np fp),(2,.box 29 (mdC m nv np)),(3,.box 80 p.cells),(4,.box 80 prZ),(5,.box 99 n.cells)],6⟩
 | some (i,q)=>⟨[(12,iv i),(11,.ptr 5 0),(10,.ptr 4 0),(6,.ptr 3 0),(5,.ptr 2 0),(2,iv a),(3,iv frm),(4,iv to)],
   [(0,vrSO nv fv),(1,pcSO np fp),(2,.box 29 (mdC m nv np)),(3,.box 80 (prC 6 q)),(4,.box 80 prZ),(5,.box 99 n.cells),(6,edSO q)],7⟩
abbrev qjs (m:Md) (a:Int) (i:Nat):Int:=(m.tree.getD a.toNat nd0).kids.getD i 0
abbrev kidN (m:Md) (a:Int) (i:Nat):Nd:=m.tree.getD (qjs m a i).toNat nd0
include h0 h1 in
theorem stat10_trip (nx:Nat→Pr→Pr) (Q:Nat→Pr→Prop) (hk:(m.tree.getD a.toNat nd0).kind=10) (hn1:(m.tree.getD a.toNat nd0).nums.length=1) (hkl:1≤(m.tree.getD a.toNat nd0).kids.length∧(m.tree.getD a.toNat nd0).kids.length≤800) (hE:p.edges.length≤50000) (hF:0≤frm∧frm<p.rest.length) (hR:p.rest.length≤100000)
  (hkr:∀ i,i<(m.tree.getD a.toNat nd0).kids.length→(0≤qjs m a i∧qjs m a i<m.tree.length)∧((kidN m a i).kids.length≠0→0≤(kidN m a i).kids.getD 0 0∧(kidN m a i).kids.getD 0 0<m.tree.length)∧(kidN m a i).kids.length≤800)
  (hQ0:Q 0 (qad p frm ((m.tree.getD a.toNat nd0).nums.getD 0 0)))
  (hQ:∀ i q,i<(m.tree.getD a.toNat nd0).kids.length→Q i q→(q.edges.length≤90000∧(0≤q.places∧q.places≤90000)∧q.rest.length≤90000)∧Q (i+1) (nx i q) ∧
   (((kidN m a i).kids.length≠0∧(m.tree.getD ((kidN m a i).kids.getD 0 0).toNat nd0).kind=12)→qlj m nv fv np fp (putF (qg q) frm q.places 0 (qjs m a i) (-1) (-1) (-1)) (qjs m a i) q.places to (nx i q)) ∧
   (¬ ((kidN m a i).kids.length≠0∧(m.tree.getD ((kidN m a i).kids.getD 0 0).toNat nd0).kind=12)→qlj m nv fv np fp q (qjs m a i) frm to (nx i q)))
  (q:Pr) (hq:∀ r,Q (m.tree.getD a.toNat nd0).kids.length r→r=q):qgh m nv fv np fp p a frm to q:=by
 refine qdj (T:=tab Tryz.prog) (C:={}) 5 1500 (fun _=>rfl) Tryz.func67 rfl (by kernel_rfl) (by kernel_rfl) (fun c0 rdb mpb=>?_)
 (repeat' ((conv=>whnf);first|refine zA ?_|refine Ob.auto ?_|(refine CallY.con (qyq p frm ((m.tree.getD a.toNat nd0).nums.getD 0 0) hF hR) (by rfl) leA ?_)|(refine zQ 1500 ?_)|(apply zB <;> intro hb <;> (try simp [-zd] at hb) <;> try (exfalso;omega))))
 (conv=>whnf)
 refine jcb (fun _=>rfl) 1500 1 (chI m nv fv np fp (m.tree.getD a.toNat nd0) (qad p frm ((m.tree.getD a.toNat nd0).nums.getD 0 0)) a frm to)
  (fun g=>match g with|none=>True|some (i,r)=>(1≤i∧i≤(m.tree.getD a.toNat nd0).kids.length)∧Q i r)
  (fun g=>match g with|none=>(m.tree.getD a.toNat nd0).kids.length+1|some (i,_)=>(m.tree.getD a.toNat nd0).kids.length - i) none trivial (TurnR.of_sub ⟨qa,qa⟩ (by kernel_rfl)) (by kernel_rfl) ?_
 rintro (_|⟨i,r⟩) hg
 ·have hk0:=hkr 0 (by omega)
  have hq0:=hQ 0 _ (by omega) hQ0
  unfold chI
  (repeat' ((conv=>whnf);first|refine zO ?_|refine Ob.auto ?_|(refine Ob.intro (by (first|exact ⟨by omega,by omega⟩|exact hk0.1|(intro h;exact ⟨h,h,hk0.2.1 (fun e=>absurd (show 0<((kidN m a 0).kids.length:Int) from zm h) (by omega))⟩))) ?_)|refine zD 1500 ?_|(apply zB <;> intro hb <;> (try simp [-zd] at hb) <;> try (exfalso;omega))))
  ·have hc:(kidN m a 0).kids.length≠0∧(m.tree.getD ((kidN m a 0).kids.getD 0 0).toNat nd0).kind=12:=⟨Nat.ne_of_gt hb.1,hb.2⟩
   have hB:=hq0.2.2.1 hc
   ((conv=>whnf);refine qex (fun _=>rfl) 1500 (qli (qad p frm ((m.tree.getD a.toNat nd0).nums.getD 0 0)) (by omega) (by omega)) (by rfl) leA (by kernel_rfl) ?_)
   (repeat' ((conv=>whnf);first|refine Ob.auto ?_|(refine zQ 1500 ?_)|fail))
   ((conv=>whnf);refine CallY.trip [] (qda (qg (qad p frm ((m.tree.getD a.toNat nd0).nums.getD 0 0))) (by have:=hq0.1.1;exact xa this (by decide)) frm (qad p frm ((m.tree.getD a.toNat nd0).nums.getD 0 0)).places 0 (qjs m a 0) (-1) (-1) (-1)) (by kernel_rfl) leA qa (by exact qb rfl) (by exact qb rfl) ?_)
   (repeat' ((conv=>whnf);first|refine zA ?_|refine Ob.auto ?_|fail))
   ((conv=>whnf);refine qdp [0,1,2,3,4,5] 3 rfl frzA ?_)
   (repeat' ((conv=>whnf);first|refine Ob.auto ?_|(refine zQ 1500 ?_)|fail))
   ((conv=>whnf);refine CallY.trip [0,1] (hB) (by kernel_rfl) leA qa (by exact qb rfl) (by exact qb rfl) ?_)
   (repeat' ((conv=>whnf);first|refine zA ?_|refine Ob.auto ?_|fail))
   ((conv=>whnf);refine ⟨some (1,nx 0 (qad p frm ((m.tree.getD a.toNat nd0).nums.getD 0 0))),⟨⟨by omega,by omega⟩,hq0.2.1⟩,TurnR.ren 6 34 (by kernel_rfl) renA renA,?_⟩;(first|omega|(dsimp only;omega)|skip))
  ·have hc:¬ ((kidN m a 0).kids.length≠0∧(m.tree.getD ((kidN m a 0).kids.getD 0 0).toNat nd0).kind=12):=fun h=>hb (Nat.pos_of_ne_zero h.1) h.2
   have hB:=hq0.2.2.2 hc
   (repeat' ((conv=>whnf);first|refine Ob.auto ?_|(refine zQ 1500 ?_)|fail))
   ((conv=>whnf);refine CallY.trip [0,1] (hB) (by kernel_rfl) leA qa (by exact qb rfl) (by exact qb rfl) ?_)
   (repeat' ((conv=>whnf);first|refine zA ?_|refine Ob.auto ?_|fail))
   ((conv=>whnf);refine ⟨some (1,nx 0 (qad p frm ((m.tree.getD a.toNat nd0).nums.getD 0 0))),⟨⟨by omega,by omega⟩,hq0.2.1⟩,TurnR.ren 6 33 (by kernel_rfl) renA renA,?_⟩;(first|omega|(dsimp only;omega)|skip))
  ·exfalso;first|omega|(rw [hb] at hkl;simp at hkl)
 ·obtain ⟨⟨hi1,hi2⟩,hQi⟩:=hg
  have hki:=hkr i
  have hqi:=fun h=>hQ i r h hQi
  unfold chI
  (repeat' ((conv=>whnf);first|refine zO ?_|refine Ob.auto ?_|(refine Ob.intro (by (first|exact ⟨by omega,by omega⟩|exact (hki (by omega)).1|(intro h;exact ⟨h,h,(hki (by omega)).2.1 (fun e=>absurd (show 0<((kidN m a i).kids.length:Int) from zm h) (by omega))⟩))) ?_)|refine zD 1500 ?_|(apply zB <;> intro hb <;> (try simp [-zd] at hb) <;> try (exfalso;omega))))
  ·have hil:i<(m.tree.getD a.toNat nd0).kids.length:=by omega
   have hc:(kidN m a i).kids.length≠0∧(m.tree.getD ((kidN m a i).kids.getD 0 0).toNat nd0).kind=12:=⟨Nat.ne_of_gt hb.1,hb.2⟩
   have hB:=(hqi hil).2.2.1 hc
   have hqs:=(hqi hil).1
   ((conv=>whnf);refine jbp [0,1,2,3,4,5,7] frzA ?_)
   ((conv=>whnf);refine qex (fun _=>rfl) 1500 (qli r (by omega) (by omega)) (by rfl) leA (by kernel_rfl) ?_)
   (repeat' ((conv=>whnf);first|refine Ob.auto ?_|(refine zQ 1500 ?_)|fail))
   ((conv=>whnf);refine CallY.trip [] (qda (qg r) (by exact xa hqs.1 (by decide)) frm r.places 0 (qjs m a i) (-1) (-1) (-1)) (by kernel_rfl) leA qa (by exact qb rfl) (by exact qb rfl) ?_)
   (repeat' ((conv=>whnf);first|refine zA ?_|refine Ob.auto ?_|fail))
   ((conv=>whnf);refine qdp [0,1,2,3,4,5,7] 3 rfl frzA ?_)
   (repeat' ((conv=>whnf);first|refine Ob.auto ?_|(refine zQ 1500 ?_)|fail))
   ((conv=>whnf);refine CallY.trip [0,1] (hB) (by kernel_rfl) leA qa (by exact qb rfl) (by exact qb rfl) ?_)
   (repeat' ((conv=>whnf);first|refine zA ?_|refine Ob.auto ?_|fail))
   ((conv=>whnf);refine ⟨some (i+1,nx i r),⟨⟨by omega,by omega⟩,(hqi hil).2.1⟩,TurnR.ren 6 35 (by kernel_rfl) renA renA,?_⟩;(first|omega|(dsimp only;omega)|skip))
  ·have hil:i<(m.tree.getD a.toNat nd0).kids.length:=by omega
   have hc:¬ ((kidN m a i).kids.length≠0∧(m.tree.getD ((kidN m a i).kids.getD 0 0).toNat nd0).kind=12):=fun h=>hb (Nat.pos_of_ne_zero h.1) h.2
   have hB:=(hqi hil).2.2.2 hc
   ((conv=>whnf);refine qdp [0,1,2,3,4,5,7] 3 rfl frzA ?_)
   (repeat' ((conv=>whnf);first|refine Ob.auto ?_|(refine zQ 1500 ?_)|fail))
   ((conv=>whnf);refine CallY.trip [0,1] (hB) (by kernel_rfl) leA qa (by exact qb rfl) (by exact qb rfl) ?_)
   (repeat' ((conv=>whnf);first|refine zA ?_|refine Ob.auto ?_|fail))
   ((conv=>whnf);refine ⟨some (i+1,nx i r),⟨⟨by omega,by omega⟩,(hqi hil).2.1⟩,TurnR.ren 6 34 (by kernel_rfl) renA renA,?_⟩;(first|omega|(dsimp only;omega)|skip))
  ·obtain rfl:i=(m.tree.getD a.toNat nd0).kids.length:=by omega
   obtain rfl:=hq r hQi
   (refine ⟨⟨Le.refl _,qa⟩,qdi rfl (SoLe.refl _)⟩)
include h0 h1 in
theorem stat13_trip (q:Pr) (hk:(m.tree.getD a.toNat nd0).kind=13) (hk1:(m.tree.getD a.toNat nd0).kids.length=1) (hE:p.edges.length≤50000)
  (B:qlj m nv fv np fp p ((m.tree.getD a.toNat nd0).kids.getD 0 0) frm to q) (hE1:q.edges.length≤100000) (hpq:p.edges.length≤q.edges.length) :
  qgh m nv fv np fp p a frm to { q with edges:=q.edges.take p.edges.length++(q.edges.drop p.edges.length).map (qer to) }:=by
 refine qdj (T:=tab Tryz.prog) (C:={}) 5 1500 (fun _=>rfl) Tryz.func67 rfl (by kernel_rfl) (by kernel_rfl) (fun c0 rdb mpb=>?_)
 (repeat' ((conv=>whnf);first|refine Ob.auto ?_|(refine zQ 1500 ?_)|(apply zB <;> intro hb <;> (try simp [-zd] at hb) <;> try (exfalso;omega))))
 ((conv=>whnf);refine CallY.trip [0,1] (B) (by kernel_rfl) leA qa (by exact qb rfl) (by exact qb rfl) ?_)
 (repeat' ((conv=>whnf);first|refine Ob.auto ?_|fail))
 ((conv=>whnf);refine AltG.none (by kernel_rfl) (EndG.go ?_))
 ((conv=>whnf);refine qm (fun _=>rfl) 1500 1 (fun i:Nat=>[(21,iv i)]) (fun i=>[(6,.row [] 83 8 0 q.edges.length (fun j=>Ed.cells (if p.edges.length≤j∧j<i then qer to (q.edges.getD j ed0) else q.edges.getD j ed0)))]) (fun i=>p.edges.length≤i∧i≤q.edges.length) (fun i=>q.edges.length - i) (p.edges.length) (by omega) qa ⟨qcb (fun k hk=>by rw [za (by omega)];rfl),trivial⟩ (fun _=>rfl) (by kernel_rfl) ?_;(conv=>whnf))
 intro i hi
 have hX:(if p.edges.length≤i∧i<i then qer to (q.edges.getD i ed0) else q.edges.getD i ed0)=q.edges.getD i ed0:=za (by omega)
 (repeat' ((conv=>whnf);first|refine Ob.auto ?_|(refine zN 1500 ?_)|(apply zB <;> intro hb <;> (try simp [-zd] at hb) <;> try (exfalso;omega))))
 ·(conv=>whnf)
  refine ⟨i+1,by omega,⟨⟨Le.refl _,trivial⟩,⟨⟨rfl,rfl,rfl⟩,rfl,rfl,fun j hj=>LeL.of_eq ?_⟩,trivial⟩,⟨qa,qa⟩,by omega⟩
  by_cases e:j=i
  ·subst e
   refine (zb (by simp)).trans ?_
   have hX':(if p.edges.length≤(j:Int).toNat∧(j:Int).toNat<j then qer to (q.edges.getD (j:Int).toNat ed0) else q.edges.getD (j:Int).toNat ed0)=q.edges.getD j ed0:=hX
   show qaw (Ed.cells (if p.edges.length≤(j:Int).toNat∧(j:Int).toNat<j then qer to (q.edges.getD (j:Int).toNat ed0) else q.edges.getD (j:Int).toNat ed0)) 6
    [AV.bool ((if p.edges.length≤(j:Int).toNat∧(j:Int).toNat<j then qer to (q.edges.getD (j:Int).toNat ed0) else q.edges.getD (j:Int).toNat ed0).to != to && (if p.edges.length≤(j:Int).toNat∧(j:Int).toNat<j then qer to (q.edges.getD (j:Int).toNat ed0) else q.edges.getD (j:Int).toNat ed0).to != 1)] =
    Ed.cells (if p.edges.length≤j∧j<j+1 then qer to (q.edges.getD j ed0) else q.edges.getD j ed0)
   rw [hX',zb (show p.edges.length≤j∧j<j+1 by omega)]
   rfl
  ·refine (za (by simpa using e)).trans ?_
   show Ed.cells (if p.edges.length≤j∧j<i then qer to (q.edges.getD j ed0) else q.edges.getD j ed0)=Ed.cells (if p.edges.length≤j∧j<i+1 then qer to (q.edges.getD j ed0) else q.edges.getD j ed0)
   by_cases h:p.edges.length≤j∧j<i
   ·rw [zb h,zb (show p.edges.length≤j∧j<i+1 by omega)]
   ·rw [za h,za (show ¬ (p.edges.length≤j∧j<i+1) by omega)]
 ·obtain rfl:i=q.edges.length:=by omega
  have hlen:(q.edges.take p.edges.length++(q.edges.drop p.edges.length).map (qer to)).length=q.edges.length:=by simp;omega
  refine ⟨⟨Le.agg ⟨Le.refl _,Le.refl _,Le.refl _,Le.refl _,Le.refl _,Le.of_eq (congrArg (AV.own _ _ _) hlen.symm),Le.refl _,Le.refl _,trivial⟩,qa⟩,qdi rfl ⟨⟨rfl,rfl,rfl⟩,rfl,hlen.symm,fun j hj=>LeL.of_eq ?_⟩⟩
  show Ed.cells _=Ed.cells _
  congr 1
  simp only [zd]
  by_cases h:j<p.edges.length
  ·rw [za (by omega),zy (by simp;omega),xz,zb h]
  ·rw [zb (by omega),zx (by simp;omega),zi,xe]
   have e:p.edges.length+(j - (q.edges.take p.edges.length).length)=j:=by simp;omega
   rw [e,ze hj];rfl
end
end Go.Proofs.YtikahnkkfkoglaaGreatDoor
end
