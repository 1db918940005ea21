/- Contracts: automata by the document's answer: statements, kind by kind: loops. -/
import Derived.Test.YtikahnkkfkoglaaGreatDoorY137
import Derived.Test.YtikahnkkfkoglaaGreatDoorY12
set_option linter.unusedSimpArgs false
set_option linter.unusedVariables false
namespace Go.Proofs.YtikahnkkfkoglaaGreatDoor
open List renaming getD_eq_getElem?_getD → zd
open Go Go.Sx Go.RowKit Go.St
set_option maxRecDepth 100000
set_option maxHeartbeats 8000000
section
variable (m:Md) (nv:Nat) (fv:Nat→List AV) (np:Nat) (fp:Nat→List AV) (p:Pr) (a frm to:Int) (h0:0≤a) (h1:a<m.tree.length)
def mdC (m:Md) (nv np:Nat):List AV:=[jr m.tree,iv m.globals,slcL Ch.cells ch0 5 m.chans,.own 0 0 0 nv,.own 1 0 0 np,ints m.safe,.bool m.dead]
def prZ:List AV:=[.str [],iv 0,.nils,iv 0,.nils,.nils,.nils,.nils]
def prC (k:Nat) (p:Pr):List AV:=[.str p.name,iv p.copy,ints p.locals,iv p.places,qlg p.rest,.own k 0 0 p.edges.length,strs p.names,ints p.vars]
def chI (m:Md) (nv:Nat) (fv:Nat→List AV) (np:Nat) (fp:Nat→List AV) (n:Nd) (p:Pr) (a frm to:Int):Option (Nat × Pr)→ASt
 | none=>⟨[(12,iv 0),(11,.ptr 5 0),(10,.ptr 4 0),(6,.ptr 3 0),(5,.ptr 2 0),(2,iv a),(3,iv frm),(4,iv to)],
   [(0,vrSO nv fv),(1,pcSO np fp),(2,.box 29 (mdC m nv np)),(3,.box 80 p.cells),(4,.box 80 prZ),(5,.box 99 n.cells)],6⟩
 | some (i,q)=>⟨[(12,iv i),(11,.ptr 5 0),(10,.ptr 4 0),(6,.ptr 3 0),(5,.ptr 2 0),(2,iv a),(3,iv frm),(4,iv to)],
   [(0,vrSO nv fv),(1,pcSO np fp),(2,.box 29 (mdC m nv np)),(3,.box 80 (prC 6 q)),(4,.box 80 prZ),(5,.box 99 n.cells),(6,edSO q)],7⟩
abbrev qix (m:Md) (a:Int) (i:Nat):Int:=(m.tree.getD a.toNat nd0).kids.getD i 0
abbrev kidN (m:Md) (a:Int) (i:Nat):Nd:=m.tree.getD (qix m a i).toNat nd0
include h0 h1 in
theorem stat10_trip (nx:Nat→Pr→Pr) (Q:Nat→Pr→Prop) (hk:(m.tree.getD a.toNat nd0).kind=10) (hn1:(m.tree.getD a.toNat nd0).nums.length=1) (hkl:1≤(m.tree.getD a.toNat nd0).kids.length∧(m.tree.getD a.toNat nd0).kids.length≤800) (hE:p.edges.length≤50000) (hF:0≤frm∧frm<p.rest.length) (hR:p.rest.length≤100000)
  (hkr:∀ i,i<(m.tree.getD a.toNat nd0).kids.length→(0≤qix m a i∧qix m a i<m.tree.length)∧((kidN m a i).kids.length≠0→0≤(kidN m a i).kids.getD 0 0∧(kidN m a i).kids.getD 0 0<m.tree.length)∧(kidN m a i).kids.length≤800)
  (hQ0:Q 0 (jy p frm ((m.tree.getD a.toNat nd0).nums.getD 0 0)))
  (hQ:∀ i q,i<(m.tree.getD a.toNat nd0).kids.length→Q i q→(q.edges.length≤90000∧(0≤q.places∧q.places≤90000)∧q.rest.length≤90000)∧Q (i+1) (nx i q) ∧
   (((kidN m a i).kids.length≠0∧(m.tree.getD ((kidN m a i).kids.getD 0 0).toNat nd0).kind=12)→qkm m nv fv np fp (putF (qg q) frm q.places 0 (qix m a i) (-1) (-1) (-1)) (qix m a i) q.places to (nx i q)) ∧
   (¬ ((kidN m a i).kids.length≠0∧(m.tree.getD ((kidN m a i).kids.getD 0 0).toNat nd0).kind=12)→qkm m nv fv np fp q (qix m a i) frm to (nx i q)))
  (q:Pr) (hq:∀ r,Q (m.tree.getD a.toNat nd0).kids.length r→r=q):qfw m nv fv np fp p a frm to q:=by
 refine qdc (T:=tab Tryz.prog) (C:={}) 5 1500 (fun _=>rfl) Tryz.func67 rfl (by kernel_rfl) (by kernel_rfl) (fun c0 rdb mpb=>?_)
 (repeat' ((conv=>whnf);first|refine zA ?_|refine Ob.auto ?_|(refine CallY.con (qxh p frm ((m.tree.getD a.toNat nd0).nums.getD 0 0) hF hR) (by rfl) leA ?_)|(refine zQ 1500 ?_)|(apply zB <;> intro hb <;> (try simp [-zd] at hb) <;> try (exfalso;omega))))
 (conv=>whnf)
 refine jav (fun _=>rfl) 1500 1 (chI m nv fv np fp (m.tree.getD a.toNat nd0) (jy p frm ((m.tree.getD a.toNat nd0).nums.getD 0 0)) a frm to)
  (fun g=>match g with|none=>True|some (i,r)=>(1≤i∧i≤(m.tree.getD a.toNat nd0).kids.length)∧Q i r)
  (fun g=>match g with|none=>(m.tree.getD a.toNat nd0).kids.length+1|some (i,_)=>(m.tree.getD a.toNat nd0).kids.length - i) none trivial (TurnR.of_sub ⟨qa,qa⟩ (by kernel_rfl)) (by kernel_rfl) ?_
 rintro (_|⟨i,r⟩) hg
 ·have hk0:=hkr 0 (by omega)
  have hq0:=hQ 0 _ (by omega) hQ0
  unfold chI
  (repeat' ((conv=>whnf);first|refine zO ?_|refine Ob.auto ?_|(refine Ob.intro (by (first|exact ⟨by omega,by omega⟩|exact hk0.1|(intro h;exact ⟨h,h,hk0.2.1 (fun e=>absurd (show 0<((kidN m a 0).kids.length:Int) from zm h) (by omega))⟩))) ?_)|refine zD 1500 ?_|(apply zB <;> intro hb <;> (try simp [-zd] at hb) <;> try (exfalso;omega))))
  ·have hc:(kidN m a 0).kids.length≠0∧(m.tree.getD ((kidN m a 0).kids.getD 0 0).toNat nd0).kind=12:=⟨Nat.ne_of_gt hb.1,hb.2⟩
   have hB:=hq0.2.2.1 hc
   ((conv=>whnf);refine qef (fun _=>rfl) 1500 (qkl (jy p frm ((m.tree.getD a.toNat nd0).nums.getD 0 0)) (by omega) (by omega)) (by rfl) leA (by kernel_rfl) ?_)
   (repeat' ((conv=>whnf);first|refine Ob.auto ?_|(refine zQ 1500 ?_)|fail))
   ((conv=>whnf);refine CallY.trip [] (qcu (qg (jy p frm ((m.tree.getD a.toNat nd0).nums.getD 0 0))) (by have:=hq0.1.1;exact zv this (by decide)) frm (jy p frm ((m.tree.getD a.toNat nd0).nums.getD 0 0)).places 0 (qix m a 0) (-1) (-1) (-1)) (by kernel_rfl) leA qa (by exact qb rfl) (by exact qb rfl) ?_)
   (repeat' ((conv=>whnf);first|refine zA ?_|refine Ob.auto ?_|fail))
   ((conv=>whnf);refine qdi [0,1,2,3,4,5] 3 rfl frzA ?_)
   (repeat' ((conv=>whnf);first|refine Ob.auto ?_|(refine zQ 1500 ?_)|fail))
   ((conv=>whnf);refine CallY.trip [0,1] (hB) (by kernel_rfl) leA qa (by exact qb rfl) (by exact qb rfl) ?_)
   (repeat' ((conv=>whnf);first|refine zA ?_|refine Ob.auto ?_|fail))
   ((conv=>whnf);refine ⟨some (1,nx 0 (jy p frm ((m.tree.getD a.toNat nd0).nums.getD 0 0))),⟨⟨by omega,by omega⟩,hq0.2.1⟩,TurnR.ren 6 34 (by kernel_rfl) renA renA,?_⟩;(first|omega|(dsimp only;omega)|skip))
  ·have hc:¬ ((kidN m a 0).kids.length≠0∧(m.tree.getD ((kidN m a 0).kids.getD 0 0).toNat nd0).kind=12):=fun h=>hb (Nat.pos_of_ne_zero h.1) h.2
   have hB:=hq0.2.2.2 hc
   (repeat' ((conv=>whnf);first|refine Ob.auto ?_|(refine zQ 1500 ?_)|fail))
   ((conv=>whnf);refine CallY.trip [0,1] (hB) (by kernel_rfl) leA qa (by exact qb rfl) (by exact qb rfl) ?_)
   (repeat' ((conv=>whnf);first|refine zA ?_|refine Ob.auto ?_|fail))
   ((conv=>whnf);refine ⟨some (1,nx 0 (jy p frm ((m.tree.getD a.toNat nd0).nums.getD 0 0))),⟨⟨by omega,by omega⟩,hq0.2.1⟩,TurnR.ren 6 33 (by kernel_rfl) renA renA,?_⟩;(first|omega|(dsimp only;omega)|skip))
  ·exfalso;first|omega|(rw [hb] at hkl;simp at hkl)
 ·obtain ⟨⟨hi1,hi2⟩,hQi⟩:=hg
  have hki:=hkr i
  have hqi:=fun h=>hQ i r h hQi
  unfold chI
  (repeat' ((conv=>whnf);first|refine zO ?_|refine Ob.auto ?_|(refine Ob.intro (by (first|exact ⟨by omega,by omega⟩|exact (hki (by omega)).1|(intro h;exact ⟨h,h,(hki (by omega)).2.1 (fun e=>absurd (show 0<((kidN m a i).kids.length:Int) from zm h) (by omega))⟩))) ?_)|refine zD 1500 ?_|(apply zB <;> intro hb <;> (try simp [-zd] at hb) <;> try (exfalso;omega))))
  ·have hil:i<(m.tree.getD a.toNat nd0).kids.length:=by omega
   have hc:(kidN m a i).kids.length≠0∧(m.tree.getD ((kidN m a i).kids.getD 0 0).toNat nd0).kind=12:=⟨Nat.ne_of_gt hb.1,hb.2⟩
   have hB:=(hqi hil).2.2.1 hc
   have hqs:=(hqi hil).1
   ((conv=>whnf);refine jaj [0,1,2,3,4,5,7] frzA ?_)
   ((conv=>whnf);refine qef (fun _=>rfl) 1500 (qkl r (by omega) (by omega)) (by rfl) leA (by kernel_rfl) ?_)
   (repeat' ((conv=>whnf);first|refine Ob.auto ?_|(refine zQ 1500 ?_)|fail))
   ((conv=>whnf);refine CallY.trip [] (qcu (qg r) (by exact zv hqs.1 (by decide)) frm r.places 0 (qix m a i) (-1) (-1) (-1)) (by kernel_rfl) leA qa (by exact qb rfl) (by exact qb rfl) ?_)
   (repeat' ((conv=>whnf);first|refine zA ?_|refine Ob.auto ?_|fail))
   ((conv=>whnf);refine qdi [0,1,2,3,4,5,7] 3 rfl frzA ?_)
   (repeat' ((conv=>whnf);first|refine Ob.auto ?_|(refine zQ 1500 ?_)|fail))
   ((conv=>whnf);refine CallY.trip [0,1] (hB) (by kernel_rfl) leA qa (by exact qb rfl) (by exact qb rfl) ?_)
   (repeat' ((conv=>whnf);first|refine zA ?_|refine Ob.auto ?_|fail))
   ((conv=>whnf);refine ⟨some (i+1,nx i r),⟨⟨by omega,by omega⟩,(hqi hil).2.1⟩,TurnR.ren 6 35 (by kernel_rfl) renA renA,?_⟩;(first|omega|(dsimp only;omega)|skip))
  ·have hil:i<(m.tree.getD a.toNat nd0).kids.length:=by omega
   have hc:¬ ((kidN m a i).kids.length≠0∧(m.tree.getD ((kidN m a i).kids.getD 0 0).toNat nd0).kind=12):=fun h=>hb (Nat.pos_of_ne_zero h.1) h.2
   have hB:=(hqi hil).2.2.2 hc
   ((conv=>whnf);refine qdi [0,1,2,3,4,5,7] 3 rfl frzA ?_)
   (repeat' ((conv=>whnf);first|refine Ob.auto ?_|(refine zQ 1500 ?_)|fail))
   ((conv=>whnf);refine CallY.trip [0,1] (hB) (by kernel_rfl) leA qa (by exact qb rfl) (by exact qb rfl) ?_)
   (repeat' ((conv=>whnf);first|refine zA ?_|refine Ob.auto ?_|fail))
   ((conv=>whnf);refine ⟨some (i+1,nx i r),⟨⟨by omega,by omega⟩,(hqi hil).2.1⟩,TurnR.ren 6 34 (by kernel_rfl) renA renA,?_⟩;(first|omega|(dsimp only;omega)|skip))
  ·obtain rfl:i=(m.tree.getD a.toNat nd0).kids.length:=by omega
   obtain rfl:=hq r hQi
   (refine ⟨⟨Le.refl _,qa⟩,qdb rfl (SoLe.refl _)⟩)
include h0 h1 in
theorem stat13_trip (q:Pr) (hk:(m.tree.getD a.toNat nd0).kind=13) (hk1:(m.tree.getD a.toNat nd0).kids.length=1) (hE:p.edges.length≤50000)
  (B:qkm m nv fv np fp p ((m.tree.getD a.toNat nd0).kids.getD 0 0) frm to q) (hE1:q.edges.length≤100000) (hpq:p.edges.length≤q.edges.length) :
  qfw m nv fv np fp p a frm to { q with edges:=q.edges.take p.edges.length++(q.edges.drop p.edges.length).map (qei to) }:=by
 refine qdc (T:=tab Tryz.prog) (C:={}) 5 1500 (fun _=>rfl) Tryz.func67 rfl (by kernel_rfl) (by kernel_rfl) (fun c0 rdb mpb=>?_)
 (repeat' ((conv=>whnf);first|refine Ob.auto ?_|(refine zQ 1500 ?_)|(apply zB <;> intro hb <;> (try simp [-zd] at hb) <;> try (exfalso;omega))))
 ((conv=>whnf);refine CallY.trip [0,1] (B) (by kernel_rfl) leA qa (by exact qb rfl) (by exact qb rfl) ?_)
 (repeat' ((conv=>whnf);first|refine Ob.auto ?_|fail))
 ((conv=>whnf);refine AltG.none (by kernel_rfl) (EndG.go ?_))
 ((conv=>whnf);refine qo (fun _=>rfl) 1500 1 (fun i:Nat=>[(21,iv i)]) (fun i=>[(6,.row [] 83 8 0 q.edges.length (fun j=>Ed.cells (if p.edges.length≤j∧j<i then qei to (q.edges.getD j ed0) else q.edges.getD j ed0)))]) (fun i=>p.edges.length≤i∧i≤q.edges.length) (fun i=>q.edges.length - i) (p.edges.length) (by omega) qa ⟨qda (fun k hk=>by rw [za (by omega)];rfl),trivial⟩ (fun _=>rfl) (by kernel_rfl) ?_;(conv=>whnf))
 intro i hi
 have hX:(if p.edges.length≤i∧i<i then qei to (q.edges.getD i ed0) else q.edges.getD i ed0)=q.edges.getD i ed0:=za (by omega)
 (repeat' ((conv=>whnf);first|refine Ob.auto ?_|(refine zN 1500 ?_)|(apply zB <;> intro hb <;> (try simp [-zd] at hb) <;> try (exfalso;omega))))
 ·(conv=>whnf)
  refine ⟨i+1,by omega,⟨⟨Le.refl _,trivial⟩,⟨⟨rfl,rfl,rfl⟩,rfl,rfl,fun j hj=>LeL.of_eq ?_⟩,trivial⟩,⟨qa,qa⟩,by omega⟩
  by_cases e:j=i
  ·subst e
   refine (zb (by simp)).trans ?_
   have hX':(if p.edges.length≤(j:Int).toNat∧(j:Int).toNat<j then qei to (q.edges.getD (j:Int).toNat ed0) else q.edges.getD (j:Int).toNat ed0)=q.edges.getD j ed0:=hX
   show qas (Ed.cells (if p.edges.length≤(j:Int).toNat∧(j:Int).toNat<j then qei to (q.edges.getD (j:Int).toNat ed0) else q.edges.getD (j:Int).toNat ed0)) 6
    [AV.bool ((if p.edges.length≤(j:Int).toNat∧(j:Int).toNat<j then qei to (q.edges.getD (j:Int).toNat ed0) else q.edges.getD (j:Int).toNat ed0).to != to && (if p.edges.length≤(j:Int).toNat∧(j:Int).toNat<j then qei to (q.edges.getD (j:Int).toNat ed0) else q.edges.getD (j:Int).toNat ed0).to != 1)] =
    Ed.cells (if p.edges.length≤j∧j<j+1 then qei to (q.edges.getD j ed0) else q.edges.getD j ed0)
   rw [hX',zb (show p.edges.length≤j∧j<j+1 by omega)]
   rfl
  ·refine (za (by simpa using e)).trans ?_
   show Ed.cells (if p.edges.length≤j∧j<i then qei to (q.edges.getD j ed0) else q.edges.getD j ed0)=Ed.cells (if p.edges.length≤j∧j<i+1 then qei to (q.edges.getD j ed0) else q.edges.getD j ed0)
   by_cases h:p.edges.length≤j∧j<i
   ·rw [zb h,zb (show p.edges.length≤j∧j<i+1 by omega)]
   ·rw [za h,za (show ¬ (p.edges.length≤j∧j<i+1) by omega)]
 ·obtain rfl:i=q.edges.length:=by omega
  have hlen:(q.edges.take p.edges.length++(q.edges.drop p.edges.length).map (qei to)).length=q.edges.length:=by simp;omega
  refine ⟨⟨Le.agg ⟨Le.refl _,Le.refl _,Le.refl _,Le.refl _,Le.refl _,Le.of_eq (congrArg (AV.own _ _ _) hlen.symm),Le.refl _,Le.refl _,trivial⟩,qa⟩,qdb rfl ⟨⟨rfl,rfl,rfl⟩,rfl,hlen.symm,fun j hj=>LeL.of_eq ?_⟩⟩
  show Ed.cells _=Ed.cells _
  congr 1
  simp only [zd]
  by_cases h:j<p.edges.length
  ·rw [za (by omega),zr (by simp;omega),xu,zb h]
  ·rw [zb (by omega),zp (by simp;omega),zh,xc]
   have e:p.edges.length+(j - (q.edges.take p.edges.length).length)=j:=by simp;omega
   rw [e,ze hj];rfl
end
end Go.Proofs.YtikahnkkfkoglaaGreatDoor
