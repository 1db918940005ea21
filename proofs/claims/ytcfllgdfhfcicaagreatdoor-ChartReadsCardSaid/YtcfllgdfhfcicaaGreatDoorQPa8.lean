/- Contracts of the document's parser: items. -/
import Derived.Test.YtcfllgdfhfcicaaGreatDoorQPa7
import Derived.Test.YtcfllgdfhfcicaaGreatDoorQ2
namespace Go.Proofs.YtcfllgdfhfcicaaGreatDoor
open List renaming getD_eq_getElem?_getD → zd
open Go Go.Sx Go.RowKit Go.St Pa
set_option maxRecDepth 100000
set_option maxHeartbeats 8000000
section
variable {ts:List Lx.Tok} {p q:Ps} {n:Nat}
theorem jos (ht:ToksOk ts) (h:AtOk ts p):0≤numN ts p∧numN ts p≤999999:=by
 unfold numN
 split
 ·rename_i hn
  unfold qgc at hn
  simp only [Bool.and_eq_true,beq_iff_eq] at hn
  have h1:=ht.num _ (jan h) hn.1
  have h2:=qts h1.2 (tk ts p).s.length (Nat.le_refl _)
  rw [List.take_length] at h2
  have h3:(10:Int) ^ (tk ts p).s.length≤10 ^ 6:=by exact_mod_cast Nat.pow_le_pow_right (show 0<10 by decide) h1.1
  omega
 ·omega
theorem que (ht:ToksOk ts) (h:Pre ts n p):RdT ts 101 (jn ts) p:=by
 have h2:=ht.len
 have s1:=qi ht h.at_ kVar
 have h1:=h.step s1
 have s3:=qai ht h1.at_
 have h3:=h1.step s3
 have h4:=h3.step (qi ht h3.at_ kOf)
 have h5:=h4.step (qbf ht h4.at_)
 refine zM {} 600 Tryz.func101 (fun c0 rdb mpb=>?_)
 (repeat' ((conv=>whnf);first|refine zE 600 (qjp h.at_ _) ?_|fail))
 ((conv=>whnf);refine zT 600 [0] (qaq ht h.at_ kVar) qa ?_)
 (repeat' ((conv=>whnf);first|(refine qav (fun _=>rfl) (by kernel_rfl) 600 ?_)|fail))
 ((conv=>whnf);refine CallY.trip [0] (qhh ht h1.at_) (by kernel_rfl) leA qa (by exact qb rfl) (by exact qb rfl) ?_)
 (repeat' ((conv=>whnf);first|refine Ob.auto ?_|fail))
 ((conv=>whnf);refine AltG.far 9 [2] (by kernel_rfl) farA (EndG.go ?_))
 ((conv=>whnf);refine zT 600 [0] (qaq ht h3.at_ kOf) qa ?_)
 ((conv=>whnf);refine zT 600 [0] (qjo ht h4.at_) qa ?_)
 ((conv=>whnf);refine zT 600 [0] (qam ht h5.at_ sEq) qa ?_)
 cases he:sees ts (numP ts (must ts (qe ts (must ts p kVar)) kOf)) sEq with
 | true=>
  have t1:took ts (numP ts (must ts (qe ts (must ts p kVar)) kOf)) sEq=adv (numP ts (must ts (qe ts (must ts p kVar)) kOf)):=if_pos he
  have h6:=h5.step (qg ht h5.at_ he)
  rw [t1]
  (repeat' ((conv=>whnf);first|(apply zB <;> intro hb <;> (try simp [-zd] at hb) <;> try (exfalso;omega))))
  ((conv=>whnf);refine zT 600 [0] (qam ht h6.at_ qet) qa ?_)
  cases hm:sees ts (adv (numP ts (must ts (qe ts (must ts p kVar)) kOf))) qet with
  | true=>
   have t2:took ts (adv (numP ts (must ts (qe ts (must ts p kVar)) kOf))) qet=adv (adv (numP ts (must ts (qe ts (must ts p kVar)) kOf))):=if_pos hm
   have h7:=h6.step (qg ht h6.at_ hm)
   have h8:=h7.step (qbf ht h7.at_)
   have hb:=jos ht h7.at_
   have e5:jn ts p=(.mk 2 [ju ts (must ts p kVar)] [numN ts (must ts (qe ts (must ts p kVar)) kOf),0 - numN ts (adv (adv (numP ts (must ts (qe ts (must ts p kVar)) kOf))))] (tk ts p).pos [],must ts (numP ts (adv (adv (numP ts (must ts (qe ts (must ts p kVar)) kOf))))) qo):=by
    unfold jn;simp only;rw [if_pos he,if_pos hm]
   rw [t2,e5]
   (repeat' ((conv=>whnf);first|(apply zB <;> intro hb <;> (try simp [-zd] at hb) <;> try (exfalso;omega))))
   ((conv=>whnf);refine zT 600 [0] (qjo ht h7.at_) qa ?_)
   (repeat' ((conv=>whnf);first|refine Ob.auto ?_|fail))
   ((conv=>whnf);refine zT 600 [0] (qaq ht h8.at_ qo) qa ?_)
   (repeat' ((conv=>whnf);first|refine Ob.auto ?_|fail))
   (refine ⟨Le.agg ⟨Le.refl _,?_,?_,Le.refl _,Le.refl _,?_,trivial⟩,qa⟩ <;> first|exact Le.nils _ _|exact Le.refl _|exact ji rfl|exact jo rfl|exact jz rfl|exact jx rfl rfl|exact jy rfl rfl|exact qaa rfl rfl|exact qab rfl rfl rfl|exact qac (fun _ _=>rfl))
  | false=>
   have t2:took ts (adv (numP ts (must ts (qe ts (must ts p kVar)) kOf))) qet=adv (numP ts (must ts (qe ts (must ts p kVar)) kOf)):=if_neg (by rw [hm];decide)
   have h8:=h6.step (qbf ht h6.at_)
   have e5:jn ts p=(.mk 2 [ju ts (must ts p kVar)] [numN ts (must ts (qe ts (must ts p kVar)) kOf),numN ts (adv (numP ts (must ts (qe ts (must ts p kVar)) kOf)))] (tk ts p).pos [],must ts (numP ts (adv (numP ts (must ts (qe ts (must ts p kVar)) kOf)))) qo):=by
    unfold jn;simp only;rw [if_pos he,if_neg (by rw [hm];decide)]
   rw [t2,e5]
   (repeat' ((conv=>whnf);first|(apply zB <;> intro hb <;> (try simp [-zd] at hb) <;> try (exfalso;omega))))
   ((conv=>whnf);refine zT 600 [0] (qjo ht h6.at_) qa ?_)
   ((conv=>whnf);refine zT 600 [0] (qaq ht h8.at_ qo) qa ?_)
   (repeat' ((conv=>whnf);first|refine Ob.auto ?_|fail))
   (refine ⟨Le.agg ⟨Le.refl _,?_,?_,Le.refl _,Le.refl _,?_,trivial⟩,qa⟩ <;> first|exact Le.nils _ _|exact Le.refl _|exact ji rfl|exact jo rfl|exact jz rfl|exact jx rfl rfl|exact jy rfl rfl|exact qaa rfl rfl|exact qab rfl rfl rfl|exact qac (fun _ _=>rfl))
 | false=>
  have t1:took ts (numP ts (must ts (qe ts (must ts p kVar)) kOf)) sEq=(numP ts (must ts (qe ts (must ts p kVar)) kOf)):=if_neg (by rw [he];decide)
  have e5:jn ts p=(.mk 2 [ju ts (must ts p kVar)] [numN ts (must ts (qe ts (must ts p kVar)) kOf),0] (tk ts p).pos [],must ts (numP ts (must ts (qe ts (must ts p kVar)) kOf)) qo):=by
   unfold jn;simp only;rw [if_neg (by rw [he];decide)]
  rw [t1,e5]
  (repeat' ((conv=>whnf);first|(apply zB <;> intro hb <;> (try simp [-zd] at hb) <;> try (exfalso;omega))))
  ((conv=>whnf);refine zT 600 [0] (qaq ht h5.at_ qo) qa ?_)
  (repeat' ((conv=>whnf);first|refine Ob.auto ?_|fail))
  (refine ⟨Le.agg ⟨Le.refl _,?_,?_,Le.refl _,Le.refl _,?_,trivial⟩,qa⟩ <;> first|exact Le.nils _ _|exact Le.refl _|exact ji rfl|exact jo rfl|exact jz rfl|exact jx rfl rfl|exact jy rfl rfl|exact qaa rfl rfl|exact qab rfl rfl rfl|exact qac (fun _ _=>rfl))
theorem jot (ht:ToksOk ts) (h:Pre ts n p):RdT ts 102 (qdi ts) p:=by
 have h2:=ht.len
 have hs0:=qi ht h.at_ qu
 have h1:=h.step hs0
 have hs3:=qai ht h1.at_
 have h3:=h1.step hs3
 refine zM {} 600 Tryz.func102 (fun c0 rdb mpb=>?_)
 (repeat' ((conv=>whnf);first|refine zE 600 (qjp h.at_ _) ?_|fail))
 ((conv=>whnf);refine zT 600 [0] (qaq ht h.at_ qu) qa ?_)
 (repeat' ((conv=>whnf);first|(refine qav (fun _=>rfl) (by kernel_rfl) 600 ?_)|fail))
 ((conv=>whnf);refine CallY.trip [0] (qhh ht h1.at_) (by kernel_rfl) leA qa (by exact qb rfl) (by exact qb rfl) ?_)
 (repeat' ((conv=>whnf);first|refine Ob.auto ?_|fail))
 ((conv=>whnf);refine AltG.far 9 [2] (by kernel_rfl) farA (EndG.go ?_))
 ((conv=>whnf);refine zT 600 [0] (qam ht h3.at_ qfi) qa ?_)
 cases he:sees ts (qe ts (must ts p qu)) qfi with
 | true=>
  have t1:took ts (qe ts (must ts p qu)) qfi=adv (qe ts (must ts p qu)):=if_pos he
  have hs6:=hs3.trans (qg ht h3.at_ he)
  have hc:=hs6.trans (qbf ht (hs6.ok h1.at_))
  rw [t1]
  (repeat' ((conv=>whnf);first|(apply zB <;> intro hb <;> (try simp [-zd] at hb) <;> try (exfalso;omega))))
  ((conv=>whnf);refine zT 600 [0] (qjo ht (hs6.ok h1.at_)) qa ?_)
  have hsr:=hc.trans (qi ht (hc.ok h1.at_) sLc)
  have hr:=h1.step hsr
  ((conv=>whnf);refine zT 600 [0] (qaq ht (hc.ok h1.at_) sLc) qa ?_)
  ((conv=>whnf);refine qpv [0,1,2] 2 rfl frzA ?_)
  (conv=>whnf)
  refine qec 2 5 99 6 rfl rfl ?_
  ((conv=>whnf);refine qm (fun _=>rfl) 600 1 (fun _:Nat × List Tr × Ps=>[]) (fun g=>[(4,.row [] 99 6 0 g.2.1.length (qby g.2.1)),(2,.box 99 [iv 3,strs [ju ts (must ts p qu)],ints [numN ts (adv (qe ts (must ts p qu)))],.nils,iv (tk ts p).pos,.own 4 0 0 g.2.1.length]),(0,pso ts g.2.2)]) (fun g=>Step ts (must ts p qu) g.2.2∧qbp ts g.1 g.2.1 g.2.2=qbp ts ts.length [] (must ts (numP ts (adv (qe ts (must ts p qu)))) sLc)∧(ts.length:Int) - g.2.2.at_≤g.1∧g.2.1.length+g.1≤ts.length) (fun g=>g.1) ((ts.length,[],(must ts (numP ts (adv (qe ts (must ts p qu)))) sLc))) (⟨hsr,rfl,by have:=hr.at_.lo;simp only;omega,by simp⟩) qa ⟨⟨⟨rfl,rfl,rfl⟩,rfl,rfl,fun j hj=>absurd hj (Nat.not_lt_zero j)⟩,⟨rfl,Le.refl _,jo rfl,ji rfl,Le.refl _,Le.refl _,Le.refl _,trivial⟩,SoLe.refl _,trivial⟩ (fun _=>rfl) (by kernel_rfl) ?_;(conv=>whnf))
  rintro ⟨m,l,r⟩ ⟨hS,hj,hk,hl⟩
  simp only at hS hj hk hl
  have hP:=h1.step hS
  (repeat' ((conv=>whnf);first|refine zE 600 (qeu hP.at_ _) ?_|(apply zB <;> intro hb <;> (try simp [-zd] at hb) <;> try (exfalso;omega))))
  ·have hsv:sees ts r kVar=true:=by assumption
   have hm:1≤m:=by have:=hP.at_.hi;omega
   obtain ⟨m,rfl⟩:∃ m',m=m'+1:=⟨m - 1,by omega⟩
   rw [qbp,if_pos hsv] at hj
   ((conv=>whnf);refine qbe (fun _=>rfl) (by kernel_rfl) 600 [.turn [0] [.ptr 0 0] [pso ts r] (jn ts r).1.av [(0,pso ts (jn ts r).2)]] (by kernel_rfl) ?_)
   (repeat' ((conv=>whnf);first|refine Ob.auto ?_|refine Ob.intro ?_ ?_|fail))
   ·exact ⟨que ht hP,by kernel_rfl,leA,qa,by exact qb rfl,by exact qb rfl⟩
   have hst:=qld ht _ hP.at_
   have hle:=(jbd ht hP.at_).le
   have hle2:(must ts r kVar).at_=r.at_+1:=by rw [show must ts r kVar=adv r from if_pos hsv];rfl
   ((conv=>whnf);refine ⟨(m,l++[(jn ts r).1],(jn ts r).2),⟨hS.trans hst,hj,by simp only;omega,by simp;omega⟩,⟨qa,⟨⟨⟨rfl,rfl,rfl⟩,rfl,by simp,qni (t:=(jn ts r).1) (by simp) rfl⟩,⟨rfl,Le.refl _,Le.refl _,Le.refl _,Le.refl _,Le.refl _,Le.of_eq (congrArg (AV.own _ _ _) (by simp)),trivial⟩,qa⟩⟩,⟨qa,qa⟩,?_⟩;(first|omega|(dsimp only;omega)|skip))
  ·have hsv:sees ts r kVar=false:=by assumption
   have hV:qbp ts ts.length [] (must ts (numP ts (adv (qe ts (must ts p qu)))) sLc)=(l,r):=by
    rw [← hj]
    cases m with
    | zero=>rfl
    | succ m=>rw [qbp,if_neg (by rw [hsv];decide)]
   have hw:=h.inW (hs0.trans hS) (fun he=>by have:=(qgg (hS.err0 he)).2;have:=hS.le;omega)
   have hso:=qgf ht (qik ht) ts.length l _ hw.at_
   have hd:=hso.deep
   have hi:=(qcj hP.at_).2.2.1
   have hrd:=hP.deep
   have hra:=hP.at_.hi
   have e5:qdi ts p=(.mk 3 [ju ts (must ts p qu)] [numN ts (adv (qe ts (must ts p qu)))] (tk ts p).pos (je ts (sF ts) ts.length l (inP ts r)).1,outP (je ts (sF ts) ts.length l (inP ts r)).2):=by
    unfold qdi
    simp only
    rw [if_pos he,hV]
   rw [e5]
   ((conv=>whnf);refine zT 600 [0] (qle hP.at_ (by omega)) qa ?_)
   ((conv=>whnf);refine zT 600 [0,2,4] (jbi ht (qik ht) (jbe ht (by have:=h.at_.lo;have:=h.at_.hi;omega)) (fun q hq=>s_rd ht hq) hw 3 (tk ts p).pos [ju ts (must ts p qu)] [numN ts (adv (qe ts (must ts p qu)))] l (by omega)) (⟨SoLe.refl _,⟨rfl,Le.refl _,Le.refl _,Le.refl _,Le.refl _,Le.refl _,Le.refl _,trivial⟩,SoLe.refl _,trivial⟩) ?_)
   (repeat' ((conv=>whnf);first|refine Ob.auto ?_|fail))
   (refine ⟨Le.agg ⟨Le.refl _,?_,?_,Le.refl _,Le.refl _,?_,trivial⟩,qa⟩ <;> first|exact Le.nils _ _|exact Le.refl _|exact ji rfl|exact jo rfl|exact jz rfl|exact jx rfl rfl|exact jy rfl rfl|exact qaa rfl rfl|exact qab rfl rfl rfl|exact qac (fun _ _=>rfl))
 | false=>
  have t1:took ts (qe ts (must ts p qu)) qfi=(qe ts (must ts p qu)):=if_neg (by rw [he];decide)
  rw [t1]
  have hsr:=hs3.trans (qi ht (hs3.ok h1.at_) sLc)
  have hr:=h1.step hsr
  (repeat' ((conv=>whnf);first|(apply zB <;> intro hb <;> (try simp [-zd] at hb) <;> try (exfalso;omega))))
  ((conv=>whnf);refine zT 600 [0] (qaq ht (hs3.ok h1.at_) sLc) qa ?_)
  ((conv=>whnf);refine qpv [0,1,2] 2 rfl frzA ?_)
  (conv=>whnf)
  refine qec 2 5 99 6 rfl rfl ?_
  ((conv=>whnf);refine qm (fun _=>rfl) 600 1 (fun _:Nat × List Tr × Ps=>[]) (fun g=>[(4,.row [] 99 6 0 g.2.1.length (qby g.2.1)),(2,.box 99 [iv 3,strs [ju ts (must ts p qu)],ints [1],.nils,iv (tk ts p).pos,.own 4 0 0 g.2.1.length]),(0,pso ts g.2.2)]) (fun g=>Step ts (must ts p qu) g.2.2∧qbp ts g.1 g.2.1 g.2.2=qbp ts ts.length [] (must ts (qe ts (must ts p qu)) sLc)∧(ts.length:Int) - g.2.2.at_≤g.1∧g.2.1.length+g.1≤ts.length) (fun g=>g.1) ((ts.length,[],(must ts (qe ts (must ts p qu)) sLc))) (⟨hsr,rfl,by have:=hr.at_.lo;simp only;omega,by simp⟩) qa ⟨⟨⟨rfl,rfl,rfl⟩,rfl,rfl,fun j hj=>absurd hj (Nat.not_lt_zero j)⟩,⟨rfl,Le.refl _,jo rfl,ji rfl,Le.refl _,Le.refl _,Le.refl _,trivial⟩,SoLe.refl _,trivial⟩ (fun _=>rfl) (by kernel_rfl) ?_;(conv=>whnf))
  rintro ⟨m,l,r⟩ ⟨hS,hj,hk,hl⟩
  simp only at hS hj hk hl
  have hP:=h1.step hS
  (repeat' ((conv=>whnf);first|refine zE 600 (qeu hP.at_ _) ?_|(apply zB <;> intro hb <;> (try simp [-zd] at hb) <;> try (exfalso;omega))))
  ·have hsv:sees ts r kVar=true:=by assumption
   have hm:1≤m:=by have:=hP.at_.hi;omega
   obtain ⟨m,rfl⟩:∃ m',m=m'+1:=⟨m - 1,by omega⟩
   rw [qbp,if_pos hsv] at hj
   ((conv=>whnf);refine qbe (fun _=>rfl) (by kernel_rfl) 600 [.turn [0] [.ptr 0 0] [pso ts r] (jn ts r).1.av [(0,pso ts (jn ts r).2)]] (by kernel_rfl) ?_)
   (repeat' ((conv=>whnf);first|refine Ob.auto ?_|refine Ob.intro ?_ ?_|fail))
   ·exact ⟨que ht hP,by kernel_rfl,leA,qa,by exact qb rfl,by exact qb rfl⟩
   have hst:=qld ht _ hP.at_
   have hle:=(jbd ht hP.at_).le
   have hle2:(must ts r kVar).at_=r.at_+1:=by rw [show must ts r kVar=adv r from if_pos hsv];rfl
   ((conv=>whnf);refine ⟨(m,l++[(jn ts r).1],(jn ts r).2),⟨hS.trans hst,hj,by simp only;omega,by simp;omega⟩,⟨qa,⟨⟨⟨rfl,rfl,rfl⟩,rfl,by simp,qni (t:=(jn ts r).1) (by simp) rfl⟩,⟨rfl,Le.refl _,Le.refl _,Le.refl _,Le.refl _,Le.refl _,Le.of_eq (congrArg (AV.own _ _ _) (by simp)),trivial⟩,qa⟩⟩,⟨qa,qa⟩,?_⟩;(first|omega|(dsimp only;omega)|skip))
  ·have hsv:sees ts r kVar=false:=by assumption
   have hV:qbp ts ts.length [] (must ts (qe ts (must ts p qu)) sLc)=(l,r):=by
    rw [← hj]
    cases m with
    | zero=>rfl
    | succ m=>rw [qbp,if_neg (by rw [hsv];decide)]
   have hw:=h.inW (hs0.trans hS) (fun he=>by have:=(qgg (hS.err0 he)).2;have:=hS.le;omega)
   have hso:=qgf ht (qik ht) ts.length l _ hw.at_
   have hd:=hso.deep
   have hi:=(qcj hP.at_).2.2.1
   have hrd:=hP.deep
   have hra:=hP.at_.hi
   have e5:qdi ts p=(.mk 3 [ju ts (must ts p qu)] [1] (tk ts p).pos (je ts (sF ts) ts.length l (inP ts r)).1,outP (je ts (sF ts) ts.length l (inP ts r)).2):=by
    unfold qdi
    simp only
    rw [if_neg (by rw [he];decide),hV]
   rw [e5]
   ((conv=>whnf);refine zT 600 [0] (qle hP.at_ (by omega)) qa ?_)
   ((conv=>whnf);refine zT 600 [0,2,4] (jbi ht (qik ht) (jbe ht (by have:=h.at_.lo;have:=h.at_.hi;omega)) (fun q hq=>s_rd ht hq) hw 3 (tk ts p).pos [ju ts (must ts p qu)] [1] l (by omega)) (⟨SoLe.refl _,⟨rfl,Le.refl _,Le.refl _,Le.refl _,Le.refl _,Le.refl _,Le.refl _,trivial⟩,SoLe.refl _,trivial⟩) ?_)
   (repeat' ((conv=>whnf);first|refine Ob.auto ?_|fail))
   (refine ⟨Le.agg ⟨Le.refl _,?_,?_,Le.refl _,Le.refl _,?_,trivial⟩,qa⟩ <;> first|exact Le.nils _ _|exact Le.refl _|exact ji rfl|exact jo rfl|exact jz rfl|exact jx rfl rfl|exact jy rfl rfl|exact qaa rfl rfl|exact qab rfl rfl rfl|exact qac (fun _ _=>rfl))
end
end Go.Proofs.YtcfllgdfhfcicaaGreatDoor
