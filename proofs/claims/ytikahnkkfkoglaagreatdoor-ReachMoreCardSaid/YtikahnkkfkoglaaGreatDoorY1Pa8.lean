/- Contracts of the document's parser: items. -/
import Derived.Test.YtikahnkkfkoglaaGreatDoorY1Pa7
import Derived.Test.YtikahnkkfkoglaaGreatDoorY12
set_option linter.unusedSimpArgs false
set_option linter.unusedVariables false
namespace Go.Proofs.YtikahnkkfkoglaaGreatDoor
open List renaming getD_eq_getElem?_getD → zd
open Go Go.Sx Go.RowKit Go.St Pa
set_option maxRecDepth 100000
set_option maxHeartbeats 8000000
section
variable {ts:List Lx.Tok} {p q:Ps} {n:Nat}
theorem jrw (ht:ToksOk ts) (h:AtOk ts p):0≤numN ts p∧numN ts p≤999999:=by
 unfold numN
 split
 ·rename_i hn
  unfold qgm at hn
  simp only [zf,xx] at hn
  have h1:=ht.num _ (qsc h) hn.1
  have h2:=qwh h1.2 (tk ts p).s.length (zi _)
  rw [zbc] at h2
  have h3:(10:Int) ^ (tk ts p).s.length≤10 ^ 6:=by exact_mod_cast Nat.pow_le_pow_right (show 0<10 by decide) h1.1
  omega
 ·omega
theorem qwt (ht:ToksOk ts) (h:Pre ts n p):RdT ts 90 (ju ts) p:=by
 have h2:=ht.len
 have s1:=qk ht h.at_ kVar
 have h1:=h.step s1
 have s3:=qar ht h1.at_
 have h3:=h1.step s3
 have h4:=h3.step (qk ht h3.at_ kOf)
 have h5:=h4.step (qbm ht h4.at_)
 refine zM {} 600 Tryz.func90 (fun c0 rdb mpb=>?_)
 (repeat' ((conv=>whnf);first|(refine ql (fun _=>rfl) 600 (qkj h.at_ _) qc (by (repeat' (first|exact trivial|exact Le.refl _|(refine And.intro ?_ ?_))) <;> fail) (by rfl) (by kernel_rfl) ?_)|fail))
 ((conv=>whnf);refine zT 600 [0] (qbb ht h.at_ kVar) qa ?_)
 (repeat' ((conv=>whnf);first|(refine qay (fun _=>rfl) (by kernel_rfl) 600 ?_)|fail))
 ((conv=>whnf);refine CallY.trip [0] (qhq ht h1.at_) (by kernel_rfl) leA qa (by exact qb rfl) (by exact qb rfl) ?_)
 (repeat' ((conv=>whnf);first|refine Ob.auto ?_|fail))
 ((conv=>whnf);refine AltG.far 9 [2] (by kernel_rfl) farA (EndG.go ?_))
 ((conv=>whnf);refine zT 600 [0] (qbb ht h3.at_ kOf) qa ?_)
 ((conv=>whnf);refine zT 600 [0] (qki ht h4.at_) qa ?_)
 ((conv=>whnf);refine zT 600 [0] (qav ht h5.at_ sEq) qa ?_)
 cases he:sees ts (numP ts (must ts (qf ts (must ts p kVar)) kOf)) sEq with
 | true=>
  have t1:took ts (numP ts (must ts (qf ts (must ts p kVar)) kOf)) sEq=adv (numP ts (must ts (qf ts (must ts p kVar)) kOf)):=zb he
  have h6:=h5.step (qh ht h5.at_ he)
  rw [t1]
  (repeat' ((conv=>whnf);first|(apply zB <;> intro hb <;> (try simp [-zd] at hb) <;> try (exfalso;omega))))
  ((conv=>whnf);refine zT 600 [0] (qav ht h6.at_ qfa) qa ?_)
  cases hm:sees ts (adv (numP ts (must ts (qf ts (must ts p kVar)) kOf))) qfa with
  | true=>
   have t2:took ts (adv (numP ts (must ts (qf ts (must ts p kVar)) kOf))) qfa=adv (adv (numP ts (must ts (qf ts (must ts p kVar)) kOf))):=zb hm
   have h7:=h6.step (qh ht h6.at_ hm)
   have h8:=h7.step (qbm ht h7.at_)
   have hb:=jrw ht h7.at_
   have e5:ju ts p=(.mk 2 [qad ts (must ts p kVar)] [numN ts (must ts (qf ts (must ts p kVar)) kOf),0 - numN ts (adv (adv (numP ts (must ts (qf ts (must ts p kVar)) kOf))))] (tk ts p).pos [],must ts (numP ts (adv (adv (numP ts (must ts (qf ts (must ts p kVar)) kOf))))) qq):=by
    unfold ju;simp only;rw [zb he,zb hm]
   rw [t2,e5]
   (repeat' ((conv=>whnf);first|(apply zB <;> intro hb <;> (try simp [-zd] at hb) <;> try (exfalso;omega))))
   ((conv=>whnf);refine zT 600 [0] (qki ht h7.at_) qa ?_)
   (repeat' ((conv=>whnf);first|refine Ob.auto ?_|fail))
   ((conv=>whnf);refine zT 600 [0] (qbb ht h8.at_ qq) qa ?_)
   (repeat' ((conv=>whnf);first|refine Ob.auto ?_|fail))
   (refine ⟨Le.agg ⟨Le.refl _,?_,?_,Le.refl _,Le.refl _,?_,trivial⟩,qa⟩ <;> first|exact Le.nils _ _|exact Le.refl _|exact jl rfl|exact jv rfl|exact qaj rfl|exact qah rfl rfl|exact qai rfl rfl|exact qak rfl rfl|exact qal rfl rfl rfl|exact qam (fun _ _=>rfl))
  | false=>
   have t2:took ts (adv (numP ts (must ts (qf ts (must ts p kVar)) kOf))) qfa=adv (numP ts (must ts (qf ts (must ts p kVar)) kOf)):=za (by rw [hm];decide)
   have h8:=h6.step (qbm ht h6.at_)
   have e5:ju ts p=(.mk 2 [qad ts (must ts p kVar)] [numN ts (must ts (qf ts (must ts p kVar)) kOf),numN ts (adv (numP ts (must ts (qf ts (must ts p kVar)) kOf)))] (tk ts p).pos [],must ts (numP ts (adv (numP ts (must ts (qf ts (must ts p kVar)) kOf)))) qq):=by
    unfold ju;simp only;rw [zb he,za (by rw [hm];decide)]
   rw [t2,e5]
   (repeat' ((conv=>whnf);first|(apply zB <;> intro hb <;> (try simp [-zd] at hb) <;> try (exfalso;omega))))
   ((conv=>whnf);refine zT 600 [0] (qki ht h6.at_) qa ?_)
   ((conv=>whnf);refine zT 600 [0] (qbb ht h8.at_ qq) qa ?_)
   (repeat' ((conv=>whnf);first|refine Ob.auto ?_|fail))
   (refine ⟨Le.agg ⟨Le.refl _,?_,?_,Le.refl _,Le.refl _,?_,trivial⟩,qa⟩ <;> first|exact Le.nils _ _|exact Le.refl _|exact jl rfl|exact jv rfl|exact qaj rfl|exact qah rfl rfl|exact qai rfl rfl|exact qak rfl rfl|exact qal rfl rfl rfl|exact qam (fun _ _=>rfl))
 | false=>
  have t1:took ts (numP ts (must ts (qf ts (must ts p kVar)) kOf)) sEq=(numP ts (must ts (qf ts (must ts p kVar)) kOf)):=za (by rw [he];decide)
  have e5:ju ts p=(.mk 2 [qad ts (must ts p kVar)] [numN ts (must ts (qf ts (must ts p kVar)) kOf),0] (tk ts p).pos [],must ts (numP ts (must ts (qf ts (must ts p kVar)) kOf)) qq):=by
   unfold ju;simp only;rw [za (by rw [he];decide)]
  rw [t1,e5]
  (repeat' ((conv=>whnf);first|(apply zB <;> intro hb <;> (try simp [-zd] at hb) <;> try (exfalso;omega))))
  ((conv=>whnf);refine zT 600 [0] (qbb ht h5.at_ qq) qa ?_)
  (repeat' ((conv=>whnf);first|refine Ob.auto ?_|fail))
  (refine ⟨Le.agg ⟨Le.refl _,?_,?_,Le.refl _,Le.refl _,?_,trivial⟩,qa⟩ <;> first|exact Le.nils _ _|exact Le.refl _|exact jl rfl|exact jv rfl|exact qaj rfl|exact qah rfl rfl|exact qai rfl rfl|exact qak rfl rfl|exact qal rfl rfl rfl|exact qam (fun _ _=>rfl))
theorem jrx (ht:ToksOk ts) (h:Pre ts n p):RdT ts 91 (qdo ts) p:=by
 have h2:=ht.len
 have hs0:=qk ht h.at_ qy
 have h1:=h.step hs0
 have hs3:=qar ht h1.at_
 have h3:=h1.step hs3
 refine zM {} 600 Tryz.func91 (fun c0 rdb mpb=>?_)
 (repeat' ((conv=>whnf);first|(refine ql (fun _=>rfl) 600 (qkj h.at_ _) qc (by (repeat' (first|exact trivial|exact Le.refl _|(refine And.intro ?_ ?_))) <;> fail) (by rfl) (by kernel_rfl) ?_)|fail))
 ((conv=>whnf);refine zT 600 [0] (qbb ht h.at_ qy) qa ?_)
 (repeat' ((conv=>whnf);first|(refine qay (fun _=>rfl) (by kernel_rfl) 600 ?_)|fail))
 ((conv=>whnf);refine CallY.trip [0] (qhq ht h1.at_) (by kernel_rfl) leA qa (by exact qb rfl) (by exact qb rfl) ?_)
 (repeat' ((conv=>whnf);first|refine Ob.auto ?_|fail))
 ((conv=>whnf);refine AltG.far 9 [2] (by kernel_rfl) farA (EndG.go ?_))
 ((conv=>whnf);refine zT 600 [0] (qav ht h3.at_ qft) qa ?_)
 cases he:sees ts (qf ts (must ts p qy)) qft with
 | true=>
  have t1:took ts (qf ts (must ts p qy)) qft=adv (qf ts (must ts p qy)):=zb he
  have hs6:=hs3.trans (qh ht h3.at_ he)
  have hc:=hs6.trans (qbm ht (hs6.ok h1.at_))
  rw [t1]
  (repeat' ((conv=>whnf);first|(apply zB <;> intro hb <;> (try simp [-zd] at hb) <;> try (exfalso;omega))))
  ((conv=>whnf);refine zT 600 [0] (qki ht (hs6.ok h1.at_)) qa ?_)
  have hsr:=hc.trans (qk ht (hc.ok h1.at_) sLc)
  have hr:=h1.step hsr
  ((conv=>whnf);refine zT 600 [0] (qbb ht (hc.ok h1.at_) sLc) qa ?_)
  ((conv=>whnf);refine qrb [0,1,2] 2 rfl frzA ?_)
  (conv=>whnf)
  refine qfl 2 5 102 6 rfl rfl ?_
  ((conv=>whnf);refine qo (fun _=>rfl) 600 1 (fun _:Nat × List Tr × Ps=>[]) (fun g=>[(4,.row [] 102 6 0 g.2.1.length (qce g.2.1)),(2,.box 102 [iv 3,strs [qad ts (must ts p qy)],ints [numN ts (adv (qf ts (must ts p qy)))],.nils,iv (tk ts p).pos,.own 4 0 0 g.2.1.length]),(0,pso ts g.2.2)]) (fun g=>Step ts (must ts p qy) g.2.2∧qbu ts g.1 g.2.1 g.2.2=qbu ts ts.length [] (must ts (numP ts (adv (qf ts (must ts p qy)))) sLc)∧(ts.length:Int) - g.2.2.at_≤g.1∧g.2.1.length+g.1≤ts.length) (fun g=>g.1) ((ts.length,[],(must ts (numP ts (adv (qf ts (must ts p qy)))) sLc))) (⟨hsr,rfl,by have:=hr.at_.lo;simp only;omega,by simp⟩) qa ⟨⟨⟨rfl,rfl,rfl⟩,rfl,rfl,fun j hj=>absurd hj (zj j)⟩,⟨rfl,Le.refl _,jv rfl,jl rfl,Le.refl _,Le.refl _,Le.refl _,trivial⟩,SoLe.refl _,trivial⟩ (fun _=>rfl) (by kernel_rfl) ?_;(conv=>whnf))
  rintro ⟨m,l,r⟩ ⟨hS,hj,hk,hl⟩
  simp only at hS hj hk hl
  have hP:=h1.step hS
  (repeat' ((conv=>whnf);first|(refine ql (fun _=>rfl) 600 (qfb hP.at_ _) qc (by (repeat' (first|exact trivial|exact Le.refl _|(refine And.intro ?_ ?_))) <;> fail) (by rfl) (by kernel_rfl) ?_)|(apply zB <;> intro hb <;> (try simp [-zd] at hb) <;> try (exfalso;omega))))
  ·have hsv:sees ts r kVar=true:=by assumption
   have hm:1≤m:=by have:=hP.at_.hi;omega
   obtain ⟨m,rfl⟩:∃ m',m=m'+1:=⟨m - 1,by omega⟩
   rw [qbu,zb hsv] at hj
   ((conv=>whnf);refine qbl (fun _=>rfl) (by kernel_rfl) 600 [.turn [0] [.ptr 0 0] [pso ts r] (ju ts r).1.av [(0,pso ts (ju ts r).2)]] (by kernel_rfl) ?_)
   (repeat' ((conv=>whnf);first|refine Ob.auto ?_|refine Ob.intro ?_ ?_|fail))
   ·exact ⟨qwt ht hP,by kernel_rfl,leA,qa,by exact qb rfl,by exact qb rfl⟩
   have hst:=qlw ht _ hP.at_
   have hle:=(jek ht hP.at_).le
   have hle2:(must ts r kVar).at_=r.at_+1:=by rw [show must ts r kVar=adv r from zb hsv];rfl
   ((conv=>whnf);refine ⟨(m,l++[(ju ts r).1],(ju ts r).2),⟨hS.trans hst,hj,by simp only;omega,by simp;omega⟩,⟨qa,⟨⟨⟨rfl,rfl,rfl⟩,rfl,by simp,qox (t:=(ju ts r).1) (by simp) rfl⟩,⟨rfl,Le.refl _,Le.refl _,Le.refl _,Le.refl _,Le.refl _,Le.of_eq (congrArg (AV.own _ _ _) (by simp)),trivial⟩,qa⟩⟩,⟨qa,qa⟩,?_⟩;(first|omega|(dsimp only;omega)|skip))
  ·have hsv:sees ts r kVar=false:=by assumption
   have hV:qbu ts ts.length [] (must ts (numP ts (adv (qf ts (must ts p qy)))) sLc)=(l,r):=by
    rw [← hj]
    cases m with
    | zero=>rfl
    | succ m=>rw [qbu,za (by rw [hsv];decide)]
   have hw:=h.inW (hs0.trans hS) (fun he=>by have:=(qgq (hS.err0 he)).2;have:=hS.le;omega)
   have hso:=qgp ht (qiv ht) ts.length l _ hw.at_
   have hd:=hso.deep
   have hi:=(qct hP.at_).2.2.1
   have hrd:=hP.deep
   have hra:=hP.at_.hi
   have e5:qdo ts p=(.mk 3 [qad ts (must ts p qy)] [numN ts (adv (qf ts (must ts p qy)))] (tk ts p).pos (jh ts (sF ts) ts.length l (inP ts r)).1,outP (jh ts (sF ts) ts.length l (inP ts r)).2):=by
    unfold qdo
    simp only
    rw [zb he,hV]
   rw [e5]
   ((conv=>whnf);refine zT 600 [0] (qlx hP.at_ (by omega)) qa ?_)
   ((conv=>whnf);refine zT 600 [0,2,4] (jeo ht (qiv ht) (jel ht (by have:=h.at_.lo;have:=h.at_.hi;omega)) (fun q hq=>s_rd ht hq) hw 3 (tk ts p).pos [qad ts (must ts p qy)] [numN ts (adv (qf ts (must ts p qy)))] l (by omega)) (⟨SoLe.refl _,⟨rfl,Le.refl _,Le.refl _,Le.refl _,Le.refl _,Le.refl _,Le.refl _,trivial⟩,SoLe.refl _,trivial⟩) ?_)
   (repeat' ((conv=>whnf);first|refine Ob.auto ?_|fail))
   (refine ⟨Le.agg ⟨Le.refl _,?_,?_,Le.refl _,Le.refl _,?_,trivial⟩,qa⟩ <;> first|exact Le.nils _ _|exact Le.refl _|exact jl rfl|exact jv rfl|exact qaj rfl|exact qah rfl rfl|exact qai rfl rfl|exact qak rfl rfl|exact qal rfl rfl rfl|exact qam (fun _ _=>rfl))
 | false=>
  have t1:took ts (qf ts (must ts p qy)) qft=(qf ts (must ts p qy)):=za (by rw [he];decide)
  rw [t1]
  have hsr:=hs3.trans (qk ht (hs3.ok h1.at_) sLc)
  have hr:=h1.step hsr
  (repeat' ((conv=>whnf);first|(apply zB <;> intro hb <;> (try simp [-zd] at hb) <;> try (exfalso;omega))))
  ((conv=>whnf);refine zT 600 [0] (qbb ht (hs3.ok h1.at_) sLc) qa ?_)
  ((conv=>whnf);refine qrb [0,1,2] 2 rfl frzA ?_)
  (conv=>whnf)
  refine qfl 2 5 102 6 rfl rfl ?_
  ((conv=>whnf);refine qo (fun _=>rfl) 600 1 (fun _:Nat × List Tr × Ps=>[]) (fun g=>[(4,.row [] 102 6 0 g.2.1.length (qce g.2.1)),(2,.box 102 [iv 3,strs [qad ts (must ts p qy)],ints [1],.nils,iv (tk ts p).pos,.own 4 0 0 g.2.1.length]),(0,pso ts g.2.2)]) (fun g=>Step ts (must ts p qy) g.2.2∧qbu ts g.1 g.2.1 g.2.2=qbu ts ts.length [] (must ts (qf ts (must ts p qy)) sLc)∧(ts.length:Int) - g.2.2.at_≤g.1∧g.2.1.length+g.1≤ts.length) (fun g=>g.1) ((ts.length,[],(must ts (qf ts (must ts p qy)) sLc))) (⟨hsr,rfl,by have:=hr.at_.lo;simp only;omega,by simp⟩) qa ⟨⟨⟨rfl,rfl,rfl⟩,rfl,rfl,fun j hj=>absurd hj (zj j)⟩,⟨rfl,Le.refl _,jv rfl,jl rfl,Le.refl _,Le.refl _,Le.refl _,trivial⟩,SoLe.refl _,trivial⟩ (fun _=>rfl) (by kernel_rfl) ?_;(conv=>whnf))
  rintro ⟨m,l,r⟩ ⟨hS,hj,hk,hl⟩
  simp only at hS hj hk hl
  have hP:=h1.step hS
  (repeat' ((conv=>whnf);first|(refine ql (fun _=>rfl) 600 (qfb hP.at_ _) qc (by (repeat' (first|exact trivial|exact Le.refl _|(refine And.intro ?_ ?_))) <;> fail) (by rfl) (by kernel_rfl) ?_)|(apply zB <;> intro hb <;> (try simp [-zd] at hb) <;> try (exfalso;omega))))
  ·have hsv:sees ts r kVar=true:=by assumption
   have hm:1≤m:=by have:=hP.at_.hi;omega
   obtain ⟨m,rfl⟩:∃ m',m=m'+1:=⟨m - 1,by omega⟩
   rw [qbu,zb hsv] at hj
   ((conv=>whnf);refine qbl (fun _=>rfl) (by kernel_rfl) 600 [.turn [0] [.ptr 0 0] [pso ts r] (ju ts r).1.av [(0,pso ts (ju ts r).2)]] (by kernel_rfl) ?_)
   (repeat' ((conv=>whnf);first|refine Ob.auto ?_|refine Ob.intro ?_ ?_|fail))
   ·exact ⟨qwt ht hP,by kernel_rfl,leA,qa,by exact qb rfl,by exact qb rfl⟩
   have hst:=qlw ht _ hP.at_
   have hle:=(jek ht hP.at_).le
   have hle2:(must ts r kVar).at_=r.at_+1:=by rw [show must ts r kVar=adv r from zb hsv];rfl
   ((conv=>whnf);refine ⟨(m,l++[(ju ts r).1],(ju ts r).2),⟨hS.trans hst,hj,by simp only;omega,by simp;omega⟩,⟨qa,⟨⟨⟨rfl,rfl,rfl⟩,rfl,by simp,qox (t:=(ju ts r).1) (by simp) rfl⟩,⟨rfl,Le.refl _,Le.refl _,Le.refl _,Le.refl _,Le.refl _,Le.of_eq (congrArg (AV.own _ _ _) (by simp)),trivial⟩,qa⟩⟩,⟨qa,qa⟩,?_⟩;(first|omega|(dsimp only;omega)|skip))
  ·have hsv:sees ts r kVar=false:=by assumption
   have hV:qbu ts ts.length [] (must ts (qf ts (must ts p qy)) sLc)=(l,r):=by
    rw [← hj]
    cases m with
    | zero=>rfl
    | succ m=>rw [qbu,za (by rw [hsv];decide)]
   have hw:=h.inW (hs0.trans hS) (fun he=>by have:=(qgq (hS.err0 he)).2;have:=hS.le;omega)
   have hso:=qgp ht (qiv ht) ts.length l _ hw.at_
   have hd:=hso.deep
   have hi:=(qct hP.at_).2.2.1
   have hrd:=hP.deep
   have hra:=hP.at_.hi
   have e5:qdo ts p=(.mk 3 [qad ts (must ts p qy)] [1] (tk ts p).pos (jh ts (sF ts) ts.length l (inP ts r)).1,outP (jh ts (sF ts) ts.length l (inP ts r)).2):=by
    unfold qdo
    simp only
    rw [za (by rw [he];decide),hV]
   rw [e5]
   ((conv=>whnf);refine zT 600 [0] (qlx hP.at_ (by omega)) qa ?_)
   ((conv=>whnf);refine zT 600 [0,2,4] (jeo ht (qiv ht) (jel ht (by have:=h.at_.lo;have:=h.at_.hi;omega)) (fun q hq=>s_rd ht hq) hw 3 (tk ts p).pos [qad ts (must ts p qy)] [1] l (by omega)) (⟨SoLe.refl _,⟨rfl,Le.refl _,Le.refl _,Le.refl _,Le.refl _,Le.refl _,Le.refl _,trivial⟩,SoLe.refl _,trivial⟩) ?_)
   (repeat' ((conv=>whnf);first|refine Ob.auto ?_|fail))
   (refine ⟨Le.agg ⟨Le.refl _,?_,?_,Le.refl _,Le.refl _,?_,trivial⟩,qa⟩ <;> first|exact Le.nils _ _|exact Le.refl _|exact jl rfl|exact jv rfl|exact qaj rfl|exact qah rfl rfl|exact qai rfl rfl|exact qak rfl rfl|exact qal rfl rfl rfl|exact qam (fun _ _=>rfl))
end
end Go.Proofs.YtikahnkkfkoglaaGreatDoor
