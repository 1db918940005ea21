/- Contracts of the document's parser: items, the whole. -/
import Derived.Test.YtikahnkkfkoglaaGreatDoorY2Pa8
import Derived.Test.YtikahnkkfkoglaaGreatDoorY22
set_option linter.unusedSimpArgs false
set_option linter.unusedVariables false
namespace Go.Proofs.YtikahnkkfkoglaaGreatDoor
open List renaming getD_eq_getElem?_getD → zd
open Go Go.Sx Go.RowKit Go.St Pa
set_option maxRecDepth 100000
set_option maxHeartbeats 8000000
section
variable {ts:List Lx.Tok} {p q:Ps} {n:Nat}
theorem juk {f:Nat→List AV} {a b c d:Int} (h:f 0=[iv a]) (h':f 1=[iv b]) (h'':f 2=[iv c]) (h''':f 3=[iv d]):Le (.slc 1 4 f) (ints [a,b,c,d]):=Le.slc rfl (fun i hi=>by
 rcases (by omega:i=0∨i=1∨i=2∨i=3) with rfl|rfl|rfl|rfl
 ·exact h
 ·exact h'
 ·exact h''
 ·exact h''')
theorem jul {l:List Tr} {t:Tr} {g:Nat→List AV} (hg:g 0=t.cells):∀ j,j<l.length+1→
  LeL (appF l.length (qcl l) 1 g j) (qcl (l++[t]) j):=by
 intro j hj
 refine LeL.of_eq ?_
 have e:qcl (l++[t]) j=((l++[t]).getD j Tr.none).cells:=Tr.cellsL_get _ _ (by simp;omega)
 rw [e,qko]
 by_cases h:j<l.length
 ·rw [zb h,appF,zb h]
  exact Tr.cellsL_get _ _ h
 ·obtain rfl:j=l.length:=by omega
  rw [za (by omega),zb rfl,appF,za (by omega),zb (by omega),zai]
  exact hg
theorem jum (ht:ToksOk ts) (h:Pre ts n p):RdT ts 63 (itemF ts) p:=by
 have h2:=ht.len
 refine zM {} 600 Tryz.func63 (fun c0 rdb mpb=>?_)
 (repeat' ((conv=>whnf);first|(refine qi (fun _=>rfl) 600 (qlg h.at_ _) qc (by (repeat' (first|exact trivial|exact Le.refl _|(refine And.intro ?_ ?_))) <;> fail) (by rfl) (by kernel_rfl) ?_)|fail))
 (repeat' ((conv=>whnf);first|(refine qi (fun _=>rfl) 600 (qfm h.at_ _) qc (by (repeat' (first|exact trivial|exact Le.refl _|(refine And.intro ?_ ?_))) <;> fail) (by rfl) (by kernel_rfl) ?_)|(apply zB <;> intro hb <;> (try simp [-zd] at hb) <;> try (exfalso;omega))))
 ·have hv:sees ts p kVar=true:=by assumption
  have e5:itemF ts p=jz ts p:=zb hv
  rw [e5]
  ((conv=>whnf);refine zT 600 [0] (qyc ht h) qa ?_)
  (repeat' ((conv=>whnf);first|refine Ob.auto ?_|fail))
  exact ⟨Le.refl _,qa⟩
 ·have hv:sees ts p kVar=false:=by assumption
  have hp:sees ts p jd=true:=by assumption
  have e5:itemF ts p=qdw ts p:=(za (by rw [hv];decide)).trans (zb hp)
  rw [e5]
  ((conv=>whnf);refine zT 600 [0] (juj ht h) qa ?_)
  (repeat' ((conv=>whnf);first|refine Ob.auto ?_|fail))
  exact ⟨Le.refl _,qa⟩
 have hc0:¬ (sees ts p kVar=true):=by simp_all
 have hc1:¬ (sees ts p jd=true):=by simp_all
 ((conv=>whnf);refine zT 600 [0] (qba ht h.at_ qps) qa ?_)
 cases hkC:sees ts p qps with
 | true=>
  have tkC:took ts p qps=adv p:=zb hkC
  have h1:Pre ts n (adv p):=h.step (qh ht h.at_ hkC)
  rw [tkC]
  (repeat' ((conv=>whnf);first|(apply zB <;> intro hb <;> (try simp [-zd] at hb) <;> try (exfalso;omega))))
  have h2':=h1.step (qav ht h1.at_)
  have h3:=h2'.step (qn ht h2'.at_ sLb)
  have h4:=h3.step (qbr ht h3.at_)
  have h5:=h4.step (qn ht h4.at_ sRb)
  have h6:=h5.step (qn ht h5.at_ kOf)
  have h7:=h6.step (qbr ht h6.at_)
  have h8:=h7.step (qig ht h7.at_ qie)
  have h9:=h8.step (qig ht h8.at_ qjm)
  have e5:itemF ts p=(.mk 1 [qai ts (adv p)] [numN ts (must ts (qf ts (adv p)) sLb),numN ts (must ts (must ts (numP ts (must ts (qf ts (adv p)) sLb)) sRb) kOf),qhg ts (numP ts (must ts (must ts (numP ts (must ts (qf ts (adv p)) sLb)) sRb) kOf)) qie,qhg ts (took ts (numP ts (must ts (must ts (numP ts (must ts (qf ts (adv p)) sLb)) sRb) kOf)) qie) qjm] (tk ts p).pos [],must ts (took ts (took ts (numP ts (must ts (must ts (numP ts (must ts (qf ts (adv p)) sLb)) sRb) kOf)) qie) qjm) qx):=((za hc0).trans (za hc1)).trans (zb hkC)
  rw [e5]
  (repeat' ((conv=>whnf);first|(refine qbc (fun _=>rfl) (by kernel_rfl) 600 ?_)|fail))
  ((conv=>whnf);refine CallY.trip [0] (qih ht h1.at_) (by kernel_rfl) leA qa (by exact qb rfl) (by exact qb rfl) ?_)
  (repeat' ((conv=>whnf);first|refine Ob.auto ?_|fail))
  ((conv=>whnf);refine AltG.far 9 [2] (by kernel_rfl) farA (EndG.go ?_))
  ((conv=>whnf);refine zT 600 [0] (qbh ht h2'.at_ sLb) qa ?_)
  (repeat' ((conv=>whnf);first|(refine qbc (fun _=>rfl) (by kernel_rfl) 600 ?_)|fail))
  ((conv=>whnf);refine CallY.trip [0] (qlf ht h3.at_) (by kernel_rfl) leA qa (by exact qb rfl) (by exact qb rfl) ?_)
  (repeat' ((conv=>whnf);first|refine Ob.auto ?_|fail))
  ((conv=>whnf);refine AltG.far 9 [2] (by kernel_rfl) farA (EndG.go ?_))
  ((conv=>whnf);refine zT 600 [0] (qbh ht h4.at_ sRb) qa ?_)
  ((conv=>whnf);refine zT 600 [0] (qbh ht h5.at_ kOf) qa ?_)
  (repeat' ((conv=>whnf);first|(refine qbc (fun _=>rfl) (by kernel_rfl) 600 ?_)|fail))
  ((conv=>whnf);refine CallY.trip [0] (qlf ht h6.at_) (by kernel_rfl) leA qa (by exact qb rfl) (by exact qb rfl) ?_)
  (repeat' ((conv=>whnf);first|refine Ob.auto ?_|fail))
  ((conv=>whnf);refine AltG.far 9 [2] (by kernel_rfl) farA (EndG.go ?_))
  (repeat' ((conv=>whnf);first|(refine qbc (fun _=>rfl) (by kernel_rfl) 600 ?_)|fail))
  ((conv=>whnf);refine CallY.trip [0] (qya ht h7.at_ qie) (by kernel_rfl) leA qa (by exact qb rfl) (by exact qb rfl) ?_)
  (repeat' ((conv=>whnf);first|refine Ob.auto ?_|fail))
  ((conv=>whnf);refine AltG.far 9 [2] (by kernel_rfl) farA (EndG.go ?_))
  (repeat' ((conv=>whnf);first|(refine qbc (fun _=>rfl) (by kernel_rfl) 600 ?_)|fail))
  ((conv=>whnf);refine CallY.trip [0] (qya ht h8.at_ qjm) (by kernel_rfl) leA qa (by exact qb rfl) (by exact qb rfl) ?_)
  (repeat' ((conv=>whnf);first|refine Ob.auto ?_|fail))
  ((conv=>whnf);refine AltG.far 9 [2] (by kernel_rfl) farA (EndG.go ?_))
  ((conv=>whnf);refine zT 600 [0] (qbh ht h9.at_ qx) qa ?_)
  (repeat' ((conv=>whnf);first|refine Ob.auto ?_|fail))
  refine ⟨Le.agg ⟨Le.refl _,qaa rfl,juk rfl rfl rfl rfl,Le.refl _,Le.refl _,Le.nils _ _,trivial⟩,qa⟩
 | false=>
  have tkC:took ts p qps=p:=za (by rw [hkC];decide)
  rw [tkC]
  (repeat' ((conv=>whnf);first|(apply zB <;> intro hb <;> (try simp [-zd] at hb) <;> try (exfalso;omega))))
  ((conv=>whnf);refine zT 600 [0] (qba ht h.at_ qpt) qa ?_)
  cases hkS:sees ts p qpt with
  | true=>
   have tkS:took ts p qpt=adv p:=zb hkS
   have h1:Pre ts n (adv p):=h.step (qh ht h.at_ hkS)
   rw [tkS]
   (repeat' ((conv=>whnf);first|(apply zB <;> intro hb <;> (try simp [-zd] at hb) <;> try (exfalso;omega))))
   have e5:itemF ts p=(.mk 4 [] [] (tk ts p).pos [(eF ts (adv p)).1],must ts (eF ts (adv p)).2 qx):=(((za hc0).trans (za hc1)).trans (za (by rw [hkC];decide))).trans (zb hkS)
   rw [e5]
   have h2':=h1.step (qbo ht _ h1.at_)
   ((conv=>whnf);refine qbm (fun _=>rfl) (by kernel_rfl) 600 [.turn [0] [.ptr 0 0] [pso ts (adv p)] (eF ts (adv p)).1.av [(0,pso ts (eF ts (adv p)).2)]] (by kernel_rfl) ?_)
   (repeat' ((conv=>whnf);first|refine Ob.auto ?_|refine Ob.intro ?_ ?_|fail))
   ·exact ⟨e_rd ht h1.full,by kernel_rfl,leA,qa,by exact qb rfl,by exact qb rfl⟩
   ((conv=>whnf);refine zT 600 [0] (qbh ht h2'.at_ qx) qa ?_)
   (repeat' ((conv=>whnf);first|refine Ob.auto ?_|fail))
   (refine ⟨Le.agg ⟨Le.refl _,?_,?_,Le.refl _,Le.refl _,?_,trivial⟩,qa⟩ <;> first|exact Le.nils _ _|exact Le.refl _|exact jr rfl|exact qaa rfl|exact qan rfl|exact qal rfl rfl|exact qam rfl rfl|exact qao rfl rfl|exact qap rfl rfl rfl|exact qaq (fun _ _=>rfl))
  | false=>
   have tkS:took ts p qpt=p:=za (by rw [hkS];decide)
   rw [tkS]
   have e5:itemF ts p=(.mk 5 [] [] (tk ts p).pos [],must ts (must ts p qmw) qx):=(((za hc0).trans (za hc1)).trans (za (by rw [hkC];decide))).trans (za (by rw [hkS];decide))
   rw [e5]
   have h1:Pre ts n (must ts p qmw):=h.step (qn ht h.at_ _)
   (repeat' ((conv=>whnf);first|(apply zB <;> intro hb <;> (try simp [-zd] at hb) <;> try (exfalso;omega))))
   ((conv=>whnf);refine zT 600 [0] (qbh ht h.at_ qmw) qa ?_)
   ((conv=>whnf);refine zT 600 [0] (qbh ht h1.at_ qx) qa ?_)
   (repeat' ((conv=>whnf);first|refine Ob.auto ?_|fail))
   (refine ⟨Le.agg ⟨Le.refl _,?_,?_,Le.refl _,Le.refl _,?_,trivial⟩,qa⟩ <;> first|exact Le.nils _ _|exact Le.refl _|exact jr rfl|exact qaa rfl|exact qan rfl|exact qal rfl rfl|exact qam rfl rfl|exact qao rfl rfl|exact qap rfl rfl rfl|exact qaq (fun _ _=>rfl))
theorem jun (ht:ToksOk ts) (h:Pre ts n p):RdT ts 36 (qcy ts) p:=by
 have h2:=ht.len
 refine zM {} 600 Tryz.func36 (fun c0 rdb mpb=>?_)
 (repeat' ((conv=>whnf);first|(refine qi (fun _=>rfl) 600 (qlg h.at_ _) qc (by (repeat' (first|exact trivial|exact Le.refl _|(refine And.intro ?_ ?_))) <;> fail) (by rfl) (by kernel_rfl) ?_)|fail))
 ((conv=>whnf);refine qsk [0,1,2] 2 rfl frzA ?_)
 (conv=>whnf)
 refine qdh 2 5 102 6 rfl rfl ?_
 ((conv=>whnf);refine qm (fun _=>rfl) 600 1 (fun _:Nat × List Tr × Ps=>[]) (fun g=>[(3,.row [] 102 6 0 g.2.1.length (qcl g.2.1)),(2,.box 102 [iv 0,.nils,.nils,.nils,iv (tk ts p).pos,.own 3 0 0 g.2.1.length]),(0,pso ts g.2.2)]) (fun g=>Pre ts n g.2.2∧qdx ts g.1 g.2.1 g.2.2=qdx ts ts.length [] p∧(g.2.2.err=0→(ts.length:Int) - g.2.2.at_≤g.1)∧g.2.1.length+g.1≤ts.length) (fun g=>g.1) ((ts.length,[],p)) (⟨h,rfl,by have:=h.at_.lo;simp only;omega,by simp⟩) qa ⟨⟨⟨rfl,rfl,rfl⟩,rfl,rfl,fun j hj=>absurd hj (zh j)⟩,⟨rfl,Le.refl _,Le.refl _,Le.refl _,Le.refl _,Le.refl _,Le.refl _,trivial⟩,SoLe.refl _,trivial⟩ (fun _=>rfl) (by kernel_rfl) ?_;(conv=>whnf))
 rintro ⟨m,l,r⟩ ⟨hP,hj,hk,hl⟩
 simp only at hP hj hk hl
 (repeat' ((conv=>whnf);first|refine Ob.auto ?_|(refine qi (fun _=>rfl) 600 (qgg) qc (by (repeat' (first|exact trivial|exact Le.refl _|(refine And.intro ?_ ?_))) <;> fail) (by rfl) (by kernel_rfl) ?_)|(refine qq (fun _=>rfl) 600 (fun hg=>qle hP.at_) (fun hg=>qc) (fun hg=>(by (repeat' (first|exact trivial|exact Le.refl _|exact Le.cnd hg|(refine And.intro ?_ ?_))) <;> fail)) (by rfl) (by kernel_rfl) ?_)|(apply zB <;> intro hb <;> (try simp [-zd] at hb) <;> try (exfalso;omega))))
 ·obtain ⟨he',hk3⟩:=hb
  have hQ:=hP
  have hm:1≤m:=by have:=hk he';have:=hP.at_.hi;omega
  obtain ⟨m,rfl⟩:∃ m',m=m'+1:=⟨m - 1,by omega⟩
  rw [qdx,zb ⟨he',hk3⟩] at hj
  dsimp only
  ((conv=>whnf);refine qbm (fun _=>rfl) (by kernel_rfl) 600 [.turn [0] [.ptr 0 0] [pso ts r] (itemF ts r).1.av [(0,pso ts (itemF ts r).2)]] (by kernel_rfl) ?_)
  (repeat' ((conv=>whnf);first|refine Ob.auto ?_|refine Ob.intro ?_ ?_|fail))
  ·exact ⟨jum ht hP,by kernel_rfl,leA,qa,by exact qb rfl,by exact qb rfl⟩
  have hst:=qxv ht r hP.at_
  have hk':(itemF ts r).2.err=0→(ts.length:Int) - (itemF ts r).2.at_≤m:=fun h=>by have:=jgj ht r hP.at_ h;have:=hk he';omega
  have hlen:l.length+1=(l++[(itemF ts r).1]).length:=by rw [zg];rfl
  ((conv=>whnf);refine ⟨(m,l++[(itemF ts r).1],(itemF ts r).2),⟨hP.step hst,hj,hk',by simp;omega⟩,⟨qa,⟨⟨⟨rfl,rfl,rfl⟩,rfl,hlen,jul (t:=(itemF ts r).1) rfl⟩,⟨rfl,Le.refl _,Le.refl _,Le.refl _,Le.refl _,Le.refl _,Le.of_eq (congrArg (AV.own _ _ _) hlen),trivial⟩,qa⟩⟩,⟨qa,qa⟩,?_⟩;(first|omega|(dsimp only;omega)|skip))
 ·have hn:¬ (r.err=0∧(tk ts r).kind≠3):=fun h=>h.2 (hb h.1)
  have e2:qdx ts ts.length [] p=(l,r):=by
   rw [← hj]
   cases m with
   | zero=>rfl
   | succ m=>rw [qdx,za hn]
  have e5:qcy ts p=(.mk 0 [] [] (tk ts p).pos l,r):=by unfold qcy;rw [e2]
  rw [e5]
  (refine ⟨Le.agg ⟨Le.refl _,?_,?_,Le.refl _,Le.refl _,?_,trivial⟩,qa⟩ <;> first|exact Le.nils _ _|exact Le.refl _|exact jr rfl|exact qaa rfl|exact qan rfl|exact qal rfl rfl|exact qam rfl rfl|exact qao rfl rfl|exact qap rfl rfl rfl|exact qaq (fun _ _=>rfl))
end
end Go.Proofs.YtikahnkkfkoglaaGreatDoor
