/- Contracts of the document's parser: items. -/
import Derived.Test.YtikahnkkfkoglaaGreatDoorY2Pa7
import Derived.Test.YtikahnkkfkoglaaGreatDoorY22
set_option linter.unusedSimpArgs false
set_option linter.unusedVariables false
namespace Go.Proofs.YtikahnkkfkoglaaGreatDoor
open List renaming getD_eq_getElem?_getD → zd
open Go Go.Sx Go.RowKit Go.St Pa
set_option maxRecDepth 100000
set_option maxHeartbeats 8000000
section
variable {ts:List Lx.Tok} {p q:Ps} {n:Nat}
theorem jui (ht:ToksOk ts) (h:AtOk ts p):0≤numN ts p∧numN ts p≤999999:=by
 unfold numN
 split
 ·rename_i hn
  unfold qhe at hn
  simp only [zf,xu] at hn
  have h1:=ht.num _ (qtm h) hn.1
  have h2:=qxq h1.2 (tk ts p).s.length (zl _)
  rw [zay] at h2
  have h3:(10:Int) ^ (tk ts p).s.length≤10 ^ 6:=by exact_mod_cast Nat.pow_le_pow_right (show 0<10 by decide) h1.1
  omega
 ·omega
theorem qyc (ht:ToksOk ts) (h:Pre ts n p):RdT ts 90 (jz ts) p:=by
 have h2:=ht.len
 have s1:=qn ht h.at_ kVar
 have h1:=h.step s1
 have s3:=qav ht h1.at_
 have h3:=h1.step s3
 have h4:=h3.step (qn ht h3.at_ kOf)
 have h5:=h4.step (qbr ht h4.at_)
 refine zM {} 600 Tryz.func90 (fun c0 rdb mpb=>?_)
 (repeat' ((conv=>whnf);first|(refine qi (fun _=>rfl) 600 (qlg h.at_ _) qc (by (repeat' (first|exact trivial|exact Le.refl _|(refine And.intro ?_ ?_))) <;> fail) (by rfl) (by kernel_rfl) ?_)|fail))
 ((conv=>whnf);refine zT 600 [0] (qbh ht h.at_ kVar) qa ?_)
 (repeat' ((conv=>whnf);first|(refine qbc (fun _=>rfl) (by kernel_rfl) 600 ?_)|fail))
 ((conv=>whnf);refine CallY.trip [0] (qih ht h1.at_) (by kernel_rfl) leA qa (by exact qb rfl) (by exact qb rfl) ?_)
 (repeat' ((conv=>whnf);first|refine Ob.auto ?_|fail))
 ((conv=>whnf);refine AltG.far 9 [2] (by kernel_rfl) farA (EndG.go ?_))
 ((conv=>whnf);refine zT 600 [0] (qbh ht h3.at_ kOf) qa ?_)
 ((conv=>whnf);refine zT 600 [0] (qlf ht h4.at_) qa ?_)
 ((conv=>whnf);refine zT 600 [0] (qba ht h5.at_ sEq) qa ?_)
 cases he:sees ts (numP ts (must ts (qf ts (must ts p kVar)) kOf)) sEq with
 | true=>
  have t1:took ts (numP ts (must ts (qf ts (must ts p kVar)) kOf)) sEq=adv (numP ts (must ts (qf ts (must ts p kVar)) kOf)):=zb he
  have h6:=h5.step (qh ht h5.at_ he)
  rw [t1]
  (repeat' ((conv=>whnf);first|(apply zB <;> intro hb <;> (try simp [-zd] at hb) <;> try (exfalso;omega))))
  ((conv=>whnf);refine zT 600 [0] (qba ht h6.at_ qfl) qa ?_)
  cases hm:sees ts (adv (numP ts (must ts (qf ts (must ts p kVar)) kOf))) qfl with
  | true=>
   have t2:took ts (adv (numP ts (must ts (qf ts (must ts p kVar)) kOf))) qfl=adv (adv (numP ts (must ts (qf ts (must ts p kVar)) kOf))):=zb hm
   have h7:=h6.step (qh ht h6.at_ hm)
   have h8:=h7.step (qbr ht h7.at_)
   have hb:=jui ht h7.at_
   have e5:jz ts p=(.mk 2 [qai ts (must ts p kVar)] [numN ts (must ts (qf ts (must ts p kVar)) kOf),0 - numN ts (adv (adv (numP ts (must ts (qf ts (must ts p kVar)) kOf))))] (tk ts p).pos [],must ts (numP ts (adv (adv (numP ts (must ts (qf ts (must ts p kVar)) kOf))))) qx):=by
    unfold jz;simp only;rw [zb he,zb hm]
   rw [t2,e5]
   (repeat' ((conv=>whnf);first|(apply zB <;> intro hb <;> (try simp [-zd] at hb) <;> try (exfalso;omega))))
   ((conv=>whnf);refine zT 600 [0] (qlf ht h7.at_) qa ?_)
   (repeat' ((conv=>whnf);first|refine Ob.auto ?_|fail))
   ((conv=>whnf);refine zT 600 [0] (qbh ht h8.at_ qx) qa ?_)
   (repeat' ((conv=>whnf);first|refine Ob.auto ?_|fail))
   (refine ⟨Le.agg ⟨Le.refl _,?_,?_,Le.refl _,Le.refl _,?_,trivial⟩,qa⟩ <;> first|exact Le.nils _ _|exact Le.refl _|exact jr rfl|exact qaa rfl|exact qan rfl|exact qal rfl rfl|exact qam rfl rfl|exact qao rfl rfl|exact qap rfl rfl rfl|exact qaq (fun _ _=>rfl))
  | false=>
   have t2:took ts (adv (numP ts (must ts (qf ts (must ts p kVar)) kOf))) qfl=adv (numP ts (must ts (qf ts (must ts p kVar)) kOf)):=za (by rw [hm];decide)
   have h8:=h6.step (qbr ht h6.at_)
   have e5:jz ts p=(.mk 2 [qai ts (must ts p kVar)] [numN ts (must ts (qf ts (must ts p kVar)) kOf),numN ts (adv (numP ts (must ts (qf ts (must ts p kVar)) kOf)))] (tk ts p).pos [],must ts (numP ts (adv (numP ts (must ts (qf ts (must ts p kVar)) kOf)))) qx):=by
    unfold jz;simp only;rw [zb he,za (by rw [hm];decide)]
   rw [t2,e5]
   (repeat' ((conv=>whnf);first|(apply zB <;> intro hb <;> (try simp [-zd] at hb) <;> try (exfalso;omega))))
   ((conv=>whnf);refine zT 600 [0] (qlf ht h6.at_) qa ?_)
   ((conv=>whnf);refine zT 600 [0] (qbh ht h8.at_ qx) qa ?_)
   (repeat' ((conv=>whnf);first|refine Ob.auto ?_|fail))
   (refine ⟨Le.agg ⟨Le.refl _,?_,?_,Le.refl _,Le.refl _,?_,trivial⟩,qa⟩ <;> first|exact Le.nils _ _|exact Le.refl _|exact jr rfl|exact qaa rfl|exact qan rfl|exact qal rfl rfl|exact qam rfl rfl|exact qao rfl rfl|exact qap rfl rfl rfl|exact qaq (fun _ _=>rfl))
 | false=>
  have t1:took ts (numP ts (must ts (qf ts (must ts p kVar)) kOf)) sEq=(numP ts (must ts (qf ts (must ts p kVar)) kOf)):=za (by rw [he];decide)
  have e5:jz ts p=(.mk 2 [qai ts (must ts p kVar)] [numN ts (must ts (qf ts (must ts p kVar)) kOf),0] (tk ts p).pos [],must ts (numP ts (must ts (qf ts (must ts p kVar)) kOf)) qx):=by
   unfold jz;simp only;rw [za (by rw [he];decide)]
  rw [t1,e5]
  (repeat' ((conv=>whnf);first|(apply zB <;> intro hb <;> (try simp [-zd] at hb) <;> try (exfalso;omega))))
  ((conv=>whnf);refine zT 600 [0] (qbh ht h5.at_ qx) qa ?_)
  (repeat' ((conv=>whnf);first|refine Ob.auto ?_|fail))
  (refine ⟨Le.agg ⟨Le.refl _,?_,?_,Le.refl _,Le.refl _,?_,trivial⟩,qa⟩ <;> first|exact Le.nils _ _|exact Le.refl _|exact jr rfl|exact qaa rfl|exact qan rfl|exact qal rfl rfl|exact qam rfl rfl|exact qao rfl rfl|exact qap rfl rfl rfl|exact qaq (fun _ _=>rfl))
theorem juj (ht:ToksOk ts) (h:Pre ts n p):RdT ts 91 (qdw ts) p:=by
 have h2:=ht.len
 have hs0:=qn ht h.at_ jd
 have h1:=h.step hs0
 have hs3:=qav ht h1.at_
 have h3:=h1.step hs3
 refine zM {} 600 Tryz.func91 (fun c0 rdb mpb=>?_)
 (repeat' ((conv=>whnf);first|(refine qi (fun _=>rfl) 600 (qlg h.at_ _) qc (by (repeat' (first|exact trivial|exact Le.refl _|(refine And.intro ?_ ?_))) <;> fail) (by rfl) (by kernel_rfl) ?_)|fail))
 ((conv=>whnf);refine zT 600 [0] (qbh ht h.at_ jd) qa ?_)
 (repeat' ((conv=>whnf);first|(refine qbc (fun _=>rfl) (by kernel_rfl) 600 ?_)|fail))
 ((conv=>whnf);refine CallY.trip [0] (qih ht h1.at_) (by kernel_rfl) leA qa (by exact qb rfl) (by exact qb rfl) ?_)
 (repeat' ((conv=>whnf);first|refine Ob.auto ?_|fail))
 ((conv=>whnf);refine AltG.far 9 [2] (by kernel_rfl) farA (EndG.go ?_))
 ((conv=>whnf);refine zT 600 [0] (qba ht h3.at_ qge) qa ?_)
 cases he:sees ts (qf ts (must ts p jd)) qge with
 | true=>
  have t1:took ts (qf ts (must ts p jd)) qge=adv (qf ts (must ts p jd)):=zb he
  have hs6:=hs3.trans (qh ht h3.at_ he)
  have hc:=hs6.trans (qbr ht (hs6.ok h1.at_))
  rw [t1]
  (repeat' ((conv=>whnf);first|(apply zB <;> intro hb <;> (try simp [-zd] at hb) <;> try (exfalso;omega))))
  ((conv=>whnf);refine zT 600 [0] (qlf ht (hs6.ok h1.at_)) qa ?_)
  have hsr:=hc.trans (qn ht (hc.ok h1.at_) sLc)
  have hr:=h1.step hsr
  ((conv=>whnf);refine zT 600 [0] (qbh ht (hc.ok h1.at_) sLc) qa ?_)
  ((conv=>whnf);refine qsk [0,1,2] 2 rfl frzA ?_)
  (conv=>whnf)
  refine qdh 2 5 102 6 rfl rfl ?_
  ((conv=>whnf);refine qm (fun _=>rfl) 600 1 (fun _:Nat × List Tr × Ps=>[]) (fun g=>[(4,.row [] 102 6 0 g.2.1.length (qcl g.2.1)),(2,.box 102 [iv 3,strs [qai ts (must ts p jd)],ints [numN ts (adv (qf ts (must ts p jd)))],.nils,iv (tk ts p).pos,.own 4 0 0 g.2.1.length]),(0,pso ts g.2.2)]) (fun g=>Step ts (must ts p jd) g.2.2∧qcd ts g.1 g.2.1 g.2.2=qcd ts ts.length [] (must ts (numP ts (adv (qf ts (must ts p jd)))) sLc)∧(ts.length:Int) - g.2.2.at_≤g.1∧g.2.1.length+g.1≤ts.length) (fun g=>g.1) ((ts.length,[],(must ts (numP ts (adv (qf ts (must ts p jd)))) sLc))) (⟨hsr,rfl,by have:=hr.at_.lo;simp only;omega,by simp⟩) qa ⟨⟨⟨rfl,rfl,rfl⟩,rfl,rfl,fun j hj=>absurd hj (zh j)⟩,⟨rfl,Le.refl _,qaa rfl,jr rfl,Le.refl _,Le.refl _,Le.refl _,trivial⟩,SoLe.refl _,trivial⟩ (fun _=>rfl) (by kernel_rfl) ?_;(conv=>whnf))
  rintro ⟨m,l,r⟩ ⟨hS,hj,hk,hl⟩
  simp only at hS hj hk hl
  have hP:=h1.step hS
  (repeat' ((conv=>whnf);first|(refine qi (fun _=>rfl) 600 (qfm hP.at_ _) qc (by (repeat' (first|exact trivial|exact Le.refl _|(refine And.intro ?_ ?_))) <;> fail) (by rfl) (by kernel_rfl) ?_)|(apply zB <;> intro hb <;> (try simp [-zd] at hb) <;> try (exfalso;omega))))
  ·have hsv:sees ts r kVar=true:=by assumption
   have hm:1≤m:=by have:=hP.at_.hi;omega
   obtain ⟨m,rfl⟩:∃ m',m=m'+1:=⟨m - 1,by omega⟩
   rw [qcd,zb hsv] at hj
   ((conv=>whnf);refine qbm (fun _=>rfl) (by kernel_rfl) 600 [.turn [0] [.ptr 0 0] [pso ts r] (jz ts r).1.av [(0,pso ts (jz ts r).2)]] (by kernel_rfl) ?_)
   (repeat' ((conv=>whnf);first|refine Ob.auto ?_|refine Ob.intro ?_ ?_|fail))
   ·exact ⟨qyc ht hP,by kernel_rfl,leA,qa,by exact qb rfl,by exact qb rfl⟩
   have hst:=qmz ht _ hP.at_
   have hle:=(jgh ht hP.at_).le
   have hle2:(must ts r kVar).at_=r.at_+1:=by rw [show must ts r kVar=adv r from zb hsv];rfl
   ((conv=>whnf);refine ⟨(m,l++[(jz ts r).1],(jz ts r).2),⟨hS.trans hst,hj,by simp only;omega,by simp;omega⟩,⟨qa,⟨⟨⟨rfl,rfl,rfl⟩,rfl,by simp,qqi (t:=(jz ts r).1) (by simp) rfl⟩,⟨rfl,Le.refl _,Le.refl _,Le.refl _,Le.refl _,Le.refl _,Le.of_eq (congrArg (AV.own _ _ _) (by simp)),trivial⟩,qa⟩⟩,⟨qa,qa⟩,?_⟩;(first|omega|(dsimp only;omega)|skip))
  ·have hsv:sees ts r kVar=false:=by assumption
   have hV:qcd ts ts.length [] (must ts (numP ts (adv (qf ts (must ts p jd)))) sLc)=(l,r):=by
    rw [← hj]
    cases m with
    | zero=>rfl
    | succ m=>rw [qcd,za (by rw [hsv];decide)]
   have hw:=h.inW (hs0.trans hS) (fun he=>by have:=(qhi (hS.err0 he)).2;have:=hS.le;omega)
   have hso:=qhh ht (qjq ht) ts.length l _ hw.at_
   have hd:=hso.deep
   have hi:=(qcz hP.at_).2.2.1
   have hrd:=hP.deep
   have hra:=hP.at_.hi
   have e5:qdw ts p=(.mk 3 [qai ts (must ts p jd)] [numN ts (adv (qf ts (must ts p jd)))] (tk ts p).pos (jp ts (sF ts) ts.length l (inP ts r)).1,outP (jp ts (sF ts) ts.length l (inP ts r)).2):=by
    unfold qdw
    simp only
    rw [zb he,hV]
   rw [e5]
   ((conv=>whnf);refine zT 600 [0] (qna hP.at_ (by omega)) qa ?_)
   ((conv=>whnf);refine zT 600 [0,2,4] (jgl ht (qjq ht) (jgi ht (by have:=h.at_.lo;have:=h.at_.hi;omega)) (fun q hq=>s_rd ht hq) hw 3 (tk ts p).pos [qai ts (must ts p jd)] [numN ts (adv (qf ts (must ts p jd)))] l (by omega)) (⟨SoLe.refl _,⟨rfl,Le.refl _,Le.refl _,Le.refl _,Le.refl _,Le.refl _,Le.refl _,trivial⟩,SoLe.refl _,trivial⟩) ?_)
   (repeat' ((conv=>whnf);first|refine Ob.auto ?_|fail))
   (refine ⟨Le.agg ⟨Le.refl _,?_,?_,Le.refl _,Le.refl _,?_,trivial⟩,qa⟩ <;> first|exact Le.nils _ _|exact Le.refl _|exact jr rfl|exact qaa rfl|exact qan rfl|exact qal rfl rfl|exact qam rfl rfl|exact qao rfl rfl|exact qap rfl rfl rfl|exact qaq (fun _ _=>rfl))
 | false=>
  have t1:took ts (qf ts (must ts p jd)) qge=(qf ts (must ts p jd)):=za (by rw [he];decide)
  rw [t1]
  have hsr:=hs3.trans (qn ht (hs3.ok h1.at_) sLc)
  have hr:=h1.step hsr
  (repeat' ((conv=>whnf);first|(apply zB <;> intro hb <;> (try simp [-zd] at hb) <;> try (exfalso;omega))))
  ((conv=>whnf);refine zT 600 [0] (qbh ht (hs3.ok h1.at_) sLc) qa ?_)
  ((conv=>whnf);refine qsk [0,1,2] 2 rfl frzA ?_)
  (conv=>whnf)
  refine qdh 2 5 102 6 rfl rfl ?_
  ((conv=>whnf);refine qm (fun _=>rfl) 600 1 (fun _:Nat × List Tr × Ps=>[]) (fun g=>[(4,.row [] 102 6 0 g.2.1.length (qcl g.2.1)),(2,.box 102 [iv 3,strs [qai ts (must ts p jd)],ints [1],.nils,iv (tk ts p).pos,.own 4 0 0 g.2.1.length]),(0,pso ts g.2.2)]) (fun g=>Step ts (must ts p jd) g.2.2∧qcd ts g.1 g.2.1 g.2.2=qcd ts ts.length [] (must ts (qf ts (must ts p jd)) sLc)∧(ts.length:Int) - g.2.2.at_≤g.1∧g.2.1.length+g.1≤ts.length) (fun g=>g.1) ((ts.length,[],(must ts (qf ts (must ts p jd)) sLc))) (⟨hsr,rfl,by have:=hr.at_.lo;simp only;omega,by simp⟩) qa ⟨⟨⟨rfl,rfl,rfl⟩,rfl,rfl,fun j hj=>absurd hj (zh j)⟩,⟨rfl,Le.refl _,qaa rfl,jr rfl,Le.refl _,Le.refl _,Le.refl _,trivial⟩,SoLe.refl _,trivial⟩ (fun _=>rfl) (by kernel_rfl) ?_;(conv=>whnf))
  rintro ⟨m,l,r⟩ ⟨hS,hj,hk,hl⟩
  simp only at hS hj hk hl
  have hP:=h1.step hS
  (repeat' ((conv=>whnf);first|(refine qi (fun _=>rfl) 600 (qfm hP.at_ _) qc (by (repeat' (first|exact trivial|exact Le.refl _|(refine And.intro ?_ ?_))) <;> fail) (by rfl) (by kernel_rfl) ?_)|(apply zB <;> intro hb <;> (try simp [-zd] at hb) <;> try (exfalso;omega))))
  ·have hsv:sees ts r kVar=true:=by assumption
   have hm:1≤m:=by have:=hP.at_.hi;omega
   obtain ⟨m,rfl⟩:∃ m',m=m'+1:=⟨m - 1,by omega⟩
   rw [qcd,zb hsv] at hj
   ((conv=>whnf);refine qbm (fun _=>rfl) (by kernel_rfl) 600 [.turn [0] [.ptr 0 0] [pso ts r] (jz ts r).1.av [(0,pso ts (jz ts r).2)]] (by kernel_rfl) ?_)
   (repeat' ((conv=>whnf);first|refine Ob.auto ?_|refine Ob.intro ?_ ?_|fail))
   ·exact ⟨qyc ht hP,by kernel_rfl,leA,qa,by exact qb rfl,by exact qb rfl⟩
   have hst:=qmz ht _ hP.at_
   have hle:=(jgh ht hP.at_).le
   have hle2:(must ts r kVar).at_=r.at_+1:=by rw [show must ts r kVar=adv r from zb hsv];rfl
   ((conv=>whnf);refine ⟨(m,l++[(jz ts r).1],(jz ts r).2),⟨hS.trans hst,hj,by simp only;omega,by simp;omega⟩,⟨qa,⟨⟨⟨rfl,rfl,rfl⟩,rfl,by simp,qqi (t:=(jz ts r).1) (by simp) rfl⟩,⟨rfl,Le.refl _,Le.refl _,Le.refl _,Le.refl _,Le.refl _,Le.of_eq (congrArg (AV.own _ _ _) (by simp)),trivial⟩,qa⟩⟩,⟨qa,qa⟩,?_⟩;(first|omega|(dsimp only;omega)|skip))
  ·have hsv:sees ts r kVar=false:=by assumption
   have hV:qcd ts ts.length [] (must ts (qf ts (must ts p jd)) sLc)=(l,r):=by
    rw [← hj]
    cases m with
    | zero=>rfl
    | succ m=>rw [qcd,za (by rw [hsv];decide)]
   have hw:=h.inW (hs0.trans hS) (fun he=>by have:=(qhi (hS.err0 he)).2;have:=hS.le;omega)
   have hso:=qhh ht (qjq ht) ts.length l _ hw.at_
   have hd:=hso.deep
   have hi:=(qcz hP.at_).2.2.1
   have hrd:=hP.deep
   have hra:=hP.at_.hi
   have e5:qdw ts p=(.mk 3 [qai ts (must ts p jd)] [1] (tk ts p).pos (jp ts (sF ts) ts.length l (inP ts r)).1,outP (jp ts (sF ts) ts.length l (inP ts r)).2):=by
    unfold qdw
    simp only
    rw [za (by rw [he];decide),hV]
   rw [e5]
   ((conv=>whnf);refine zT 600 [0] (qna hP.at_ (by omega)) qa ?_)
   ((conv=>whnf);refine zT 600 [0,2,4] (jgl ht (qjq ht) (jgi ht (by have:=h.at_.lo;have:=h.at_.hi;omega)) (fun q hq=>s_rd ht hq) hw 3 (tk ts p).pos [qai ts (must ts p jd)] [1] l (by omega)) (⟨SoLe.refl _,⟨rfl,Le.refl _,Le.refl _,Le.refl _,Le.refl _,Le.refl _,Le.refl _,trivial⟩,SoLe.refl _,trivial⟩) ?_)
   (repeat' ((conv=>whnf);first|refine Ob.auto ?_|fail))
   (refine ⟨Le.agg ⟨Le.refl _,?_,?_,Le.refl _,Le.refl _,?_,trivial⟩,qa⟩ <;> first|exact Le.nils _ _|exact Le.refl _|exact jr rfl|exact qaa rfl|exact qan rfl|exact qal rfl rfl|exact qam rfl rfl|exact qao rfl rfl|exact qap rfl rfl rfl|exact qaq (fun _ _=>rfl))
end
end Go.Proofs.YtikahnkkfkoglaaGreatDoor
