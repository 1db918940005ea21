/- Some texts of the library, one behind the other. -/
import Derived.Test.YtcfllgdfhfcicaaGreatDoorQPa7
import Derived.Test.YtcfllgdfhfcicaaGreatDoorQ2
set_option linter.unusedSimpArgs false
set_option linter.unusedVariables false
section
namespace Go.Proofs.YtcfllgdfhfcicaaGreatDoor
open List renaming getD_eq_getElem?_getD → zd
open Go Go.Sx Go.RowKit Go.St Pa
set_option maxRecDepth 100000
set_option maxHeartbeats 8000000
section
variable {ts:List Lx.Tok} {p q:Ps} {n:Nat}
theorem jqw (ht:ToksOk ts) (h:AtOk ts p):0≤numN ts p∧numN ts p≤999999:=by
 unfold numN
 split
 ·rename_i hn
  unfold qgx at hn
  simp only [zf,xz] at hn
  have h1:=ht.num _ (jcd h) hn.1
  have h2:=qvl h1.2 (tk ts p).s.length (zk _)
  rw [zav] at h2
  have h3:(10:Int) ^ (tk ts p).s.length≤10 ^ 6:=by exact_mod_cast Nat.pow_le_pow_right (show 0<10 by decide) h1.1
  omega
 ·omega
theorem qvx (ht:ToksOk ts) (h:Pre ts n p):RdT ts 101 (ju ts) p:=by
 have h2:=ht.len
 have s1:=ql ht h.at_ kVar
 have h1:=h.step s1
 have s3:=qar ht h1.at_
 have h3:=h1.step s3
 have h4:=h3.step (ql ht h3.at_ kOf)
 have h5:=h4.step (qbo ht h4.at_)
 refine zM {} 600 Tryz.func101 (fun c0 rdb mpb=>?_)
 (repeat' ((conv=>whnf);first|refine zE 600 (qkq h.at_ _) ?_|fail))
 ((conv=>whnf);refine zT 600 [0] (qba ht h.at_ kVar) qa ?_)
 (repeat' ((conv=>whnf);first|(refine qbe (fun _=>rfl) (by kernel_rfl) 600 ?_)|fail))
 ((conv=>whnf);refine CallY.trip [0] (qhz ht h1.at_) (by kernel_rfl) leA qa (by exact qb rfl) (by exact qb rfl) ?_)
 (repeat' ((conv=>whnf);first|refine Ob.auto ?_|fail))
 ((conv=>whnf);refine AltG.far 9 [2] (by kernel_rfl) farA (EndG.go ?_))
 ((conv=>whnf);refine zT 600 [0] (qba ht h3.at_ kOf) qa ?_)
 ((conv=>whnf);refine zT 600 [0] (qkp ht h4.at_) qa ?_)
 ((conv=>whnf);refine zT 600 [0] (qaw ht h5.at_ sEq) qa ?_)
 cases he:sees ts (numP ts (must ts (qf ts (must ts p kVar)) kOf)) sEq with
 | true=>
  have t1:took ts (numP ts (must ts (qf ts (must ts p kVar)) kOf)) sEq=adv (numP ts (must ts (qf ts (must ts p kVar)) kOf)):=zb he
  have h6:=h5.step (qh ht h5.at_ he)
  rw [t1]
  (repeat' ((conv=>whnf);first|(apply zB <;> intro hb <;> (try simp [-zd] at hb) <;> try (exfalso;omega))))
  ((conv=>whnf);refine zT 600 [0] (qaw ht h6.at_ qff) qa ?_)
  cases hm:sees ts (adv (numP ts (must ts (qf ts (must ts p kVar)) kOf))) qff with
  | true=>
   have t2:took ts (adv (numP ts (must ts (qf ts (must ts p kVar)) kOf))) qff=adv (adv (numP ts (must ts (qf ts (must ts p kVar)) kOf))):=zb hm
   have h7:=h6.step (qh ht h6.at_ hm)
   have h8:=h7.step (qbo ht h7.at_)
   have hb:=jqw ht h7.at_
   have e5:ju ts p=(.mk 2 [qad ts (must ts p kVar)] [numN ts (must ts (qf ts (must ts p kVar)) kOf),0 - numN ts (adv (adv (numP ts (must ts (qf ts (must ts p kVar)) kOf))))] (tk ts p).pos [],must ts (numP ts (adv (adv (numP ts (must ts (qf ts (must ts p kVar)) kOf))))) qq):=by
    unfold ju;simp only;rw [zb he,zb hm]
   rw [t2,e5]
   (repeat' ((conv=>whnf);first|(apply zB <;> intro hb <;> (try simp [-zd] at hb) <;> try (exfalso;omega))))
   ((conv=>whnf);refine zT 600 [0] (qkp ht h7.at_) qa ?_)
   (repeat' ((conv=>whnf);first|refine Ob.auto ?_|fail))
   ((conv=>whnf);refine zT 600 [0] (qba ht h8.at_ qq) qa ?_)
   (repeat' ((conv=>whnf);first|refine Ob.auto ?_|fail))
   (refine ⟨Le.agg ⟨Le.refl _,?_,?_,Le.refl _,Le.refl _,?_,trivial⟩,qa⟩ <;> first|exact Le.nils _ _|exact Le.refl _|exact jm rfl|exact jv rfl|exact qag rfl|exact qae rfl rfl|exact qaf rfl rfl|exact qah rfl rfl|exact qai rfl rfl rfl|exact qaj (fun _ _=>rfl))
  | false=>
   have t2:took ts (adv (numP ts (must ts (qf ts (must ts p kVar)) kOf))) qff=adv (numP ts (must ts (qf ts (must ts p kVar)) kOf)):=za (by rw [hm];decide)
   have h8:=h6.step (qbo ht h6.at_)
   have e5:ju ts p=(.mk 2 [qad ts (must ts p kVar)] [numN ts (must ts (qf ts (must ts p kVar)) kOf),numN ts (adv (numP ts (must ts (qf ts (must ts p kVar)) kOf)))] (tk ts p).pos [],must ts (numP ts (adv (numP ts (must ts (qf ts (must ts p kVar)) kOf)))) qq):=by
    unfold ju;simp only;rw [zb he,za (by rw [hm];decide)]
   rw [t2,e5]
   (repeat' ((conv=>whnf);first|(apply zB <;> intro hb <;> (try simp [-zd] at hb) <;> try (exfalso;omega))))
   ((conv=>whnf);refine zT 600 [0] (qkp ht h6.at_) qa ?_)
   ((conv=>whnf);refine zT 600 [0] (qba ht h8.at_ qq) qa ?_)
   (repeat' ((conv=>whnf);first|refine Ob.auto ?_|fail))
   (refine ⟨Le.agg ⟨Le.refl _,?_,?_,Le.refl _,Le.refl _,?_,trivial⟩,qa⟩ <;> first|exact Le.nils _ _|exact Le.refl _|exact jm rfl|exact jv rfl|exact qag rfl|exact qae rfl rfl|exact qaf rfl rfl|exact qah rfl rfl|exact qai rfl rfl rfl|exact qaj (fun _ _=>rfl))
 | false=>
  have t1:took ts (numP ts (must ts (qf ts (must ts p kVar)) kOf)) sEq=(numP ts (must ts (qf ts (must ts p kVar)) kOf)):=za (by rw [he];decide)
  have e5:ju ts p=(.mk 2 [qad ts (must ts p kVar)] [numN ts (must ts (qf ts (must ts p kVar)) kOf),0] (tk ts p).pos [],must ts (numP ts (must ts (qf ts (must ts p kVar)) kOf)) qq):=by
   unfold ju;simp only;rw [za (by rw [he];decide)]
  rw [t1,e5]
  (repeat' ((conv=>whnf);first|(apply zB <;> intro hb <;> (try simp [-zd] at hb) <;> try (exfalso;omega))))
  ((conv=>whnf);refine zT 600 [0] (qba ht h5.at_ qq) qa ?_)
  (repeat' ((conv=>whnf);first|refine Ob.auto ?_|fail))
  (refine ⟨Le.agg ⟨Le.refl _,?_,?_,Le.refl _,Le.refl _,?_,trivial⟩,qa⟩ <;> first|exact Le.nils _ _|exact Le.refl _|exact jm rfl|exact jv rfl|exact qag rfl|exact qae rfl rfl|exact qaf rfl rfl|exact qah rfl rfl|exact qai rfl rfl rfl|exact qaj (fun _ _=>rfl))
theorem jqx (ht:ToksOk ts) (h:Pre ts n p):RdT ts 102 (qdx ts) p:=by
 have h2:=ht.len
 have hs0:=ql ht h.at_ qy
 have h1:=h.step hs0
 have hs3:=qar ht h1.at_
 have h3:=h1.step hs3
 refine zM {} 600 Tryz.func102 (fun c0 rdb mpb=>?_)
 (repeat' ((conv=>whnf);first|refine zE 600 (qkq h.at_ _) ?_|fail))
 ((conv=>whnf);refine zT 600 [0] (qba ht h.at_ qy) qa ?_)
 (repeat' ((conv=>whnf);first|(refine qbe (fun _=>rfl) (by kernel_rfl) 600 ?_)|fail))
 ((conv=>whnf);refine CallY.trip [0] (qhz ht h1.at_) (by kernel_rfl) leA qa (by exact qb rfl) (by exact qb rfl) ?_)
 (repeat' ((conv=>whnf);first|refine Ob.auto ?_|fail))
 ((conv=>whnf);refine AltG.far 9 [2] (by kernel_rfl) farA (EndG.go ?_))
 ((conv=>whnf);refine zT 600 [0] (qaw ht h3.at_ qfv) qa ?_)
 cases he:sees ts (qf ts (must ts p qy)) qfv with
 | true=>
  have t1:took ts (qf ts (must ts p qy)) qfv=adv (qf ts (must ts p qy)):=zb he
  have hs6:=hs3.trans (qh ht h3.at_ he)
  have hc:=hs6.trans (qbo ht (hs6.ok h1.at_))
  rw [t1]
  (repeat' ((conv=>whnf);first|(apply zB <;> intro hb <;> (try simp [-zd] at hb) <;> try (exfalso;omega))))
  ((conv=>whnf);refine zT 600 [0] (qkp ht (hs6.ok h1.at_)) qa ?_)
  have hsr:=hc.trans (ql ht (hc.ok h1.at_) sLc)
  have hr:=h1.step hsr
  ((conv=>whnf);refine zT 600 [0] (qba ht (hc.ok h1.at_) sLc) qa ?_)
  ((conv=>whnf);refine qrf [0,1,2] 2 rfl frzA ?_)
  (conv=>whnf)
  refine qcm 2 5 99 6 rfl rfl ?_
  ((conv=>whnf);refine qo (fun _=>rfl) 600 1 (fun _:Nat × List Tr × Ps=>[]) (fun g=>[(4,.row [] 99 6 0 g.2.1.length (qci g.2.1)),(2,.box 99 [iv 3,strs [qad ts (must ts p qy)],ints [numN ts (adv (qf ts (must ts p qy)))],.nils,iv (tk ts p).pos,.own 4 0 0 g.2.1.length]),(0,pso ts g.2.2)]) (fun g=>Step ts (must ts p qy) g.2.2∧qbw ts g.1 g.2.1 g.2.2=qbw ts ts.length [] (must ts (numP ts (adv (qf ts (must ts p qy)))) sLc)∧(ts.length:Int) - g.2.2.at_≤g.1∧g.2.1.length+g.1≤ts.length) (fun g=>g.1) ((ts.length,[],(must ts (numP ts (adv (qf ts (must ts p qy)))) sLc))) (⟨hsr,rfl,by have:=hr.at_.lo;simp only;omega,by simp⟩) qa ⟨⟨⟨rfl,rfl,rfl⟩,rfl,rfl,fun j hj=>absurd hj (zh j)⟩,⟨rfl,Le.refl _,jv rfl,jm rfl,Le.refl _,Le.refl _,Le.refl _,trivial⟩,SoLe.refl _,trivial⟩ (fun _=>rfl) (by kernel_rfl) ?_;(conv=>whnf))
  rintro ⟨m,l,r⟩ ⟨hS,hj,hk,hl⟩
  simp only at hS hj hk hl
  have hP:=h1.step hS
  (repeat' ((conv=>whnf);first|refine zE 600 (qfg hP.at_ _) ?_|(apply zB <;> intro hb <;> (try simp [-zd] at hb) <;> try (exfalso;omega))))
  ·have hsv:sees ts r kVar=true:=by assumption
   have hm:1≤m:=by have:=hP.at_.hi;omega
   obtain ⟨m,rfl⟩:∃ m',m=m'+1:=⟨m - 1,by omega⟩
   rw [qbw,zb hsv] at hj
   ((conv=>whnf);refine qbh (fun _=>rfl) (by kernel_rfl) 600 [.turn [0] [.ptr 0 0] [pso ts r] (ju ts r).1.av [(0,pso ts (ju ts r).2)]] (by kernel_rfl) ?_)
   (repeat' ((conv=>whnf);first|refine Ob.auto ?_|refine Ob.intro ?_ ?_|fail))
   ·exact ⟨qvx ht hP,by kernel_rfl,leA,qa,by exact qb rfl,by exact qb rfl⟩
   have hst:=qmd ht _ hP.at_
   have hle:=(jct ht hP.at_).le
   have hle2:(must ts r kVar).at_=r.at_+1:=by rw [show must ts r kVar=adv r from zb hsv];rfl
   ((conv=>whnf);refine ⟨(m,l++[(ju ts r).1],(ju ts r).2),⟨hS.trans hst,hj,by simp only;omega,by simp;omega⟩,⟨qa,⟨⟨⟨rfl,rfl,rfl⟩,rfl,by simp,qoj (t:=(ju ts r).1) (by simp) rfl⟩,⟨rfl,Le.refl _,Le.refl _,Le.refl _,Le.refl _,Le.refl _,Le.of_eq (congrArg (AV.own _ _ _) (by simp)),trivial⟩,qa⟩⟩,⟨qa,qa⟩,?_⟩;(first|omega|(dsimp only;omega)|skip))
  ·have hsv:sees ts r kVar=false:=by assumption
   have hV:qbw ts ts.length [] (must ts (numP ts (adv (qf ts (must ts p qy)))) sLc)=(l,r):=by
    rw [← hj]
    cases m with
    | zero=>rfl
    | succ m=>rw [qbw,za (by rw [hsv];decide)]
   have hw:=h.inW (hs0.trans hS) (fun he=>by have:=(qhb (hS.err0 he)).2;have:=hS.le;omega)
   have hso:=qha ht (qje ht) ts.length l _ hw.at_
   have hd:=hso.deep
   have hi:=(qda hP.at_).2.2.1
   have hrd:=hP.deep
   have hra:=hP.at_.hi
   have e5:qdx ts p=(.mk 3 [qad ts (must ts p qy)] [numN ts (adv (qf ts (must ts p qy)))] (tk ts p).pos (jk ts (sF ts) ts.length l (inP ts r)).1,outP (jk ts (sF ts) ts.length l (inP ts r)).2):=by
    unfold qdx
    simp only
    rw [zb he,hV]
   rw [e5]
   ((conv=>whnf);refine zT 600 [0] (qme hP.at_ (by omega)) qa ?_)
   ((conv=>whnf);refine zT 600 [0,2,4] (jcy ht (qje ht) (jcu ht (by have:=h.at_.lo;have:=h.at_.hi;omega)) (fun q hq=>s_rd ht hq) hw 3 (tk ts p).pos [qad ts (must ts p qy)] [numN ts (adv (qf ts (must ts p qy)))] l (by omega)) (⟨SoLe.refl _,⟨rfl,Le.refl _,Le.refl _,Le.refl _,Le.refl _,Le.refl _,Le.refl _,trivial⟩,SoLe.refl _,trivial⟩) ?_)
   (repeat' ((conv=>whnf);first|refine Ob.auto ?_|fail))
   (refine ⟨Le.agg ⟨Le.refl _,?_,?_,Le.refl _,Le.refl _,?_,trivial⟩,qa⟩ <;> first|exact Le.nils _ _|exact Le.refl _|exact jm rfl|exact jv rfl|exact qag rfl|exact qae rfl rfl|exact qaf rfl rfl|exact qah rfl rfl|exact qai rfl rfl rfl|exact qaj (fun _ _=>rfl))
 | false=>
  have t1:took ts (qf ts (must ts p qy)) qfv=(qf ts (must ts p qy)):=za (by rw [he];decide)
  rw [t1]
  have hsr:=hs3.trans (ql ht (hs3.ok h1.at_) sLc)
  have hr:=h1.step hsr
  (repeat' ((conv=>whnf);first|(apply zB <;> intro hb <;> (try simp [-zd] at hb) <;> try (exfalso;omega))))
  ((conv=>whnf);refine zT 600 [0] (qba ht (hs3.ok h1.at_) sLc) qa ?_)
  ((conv=>whnf);refine qrf [0,1,2] 2 rfl frzA ?_)
  (conv=>whnf)
  refine qcm 2 5 99 6 rfl rfl ?_
  ((conv=>whnf);refine qo (fun _=>rfl) 600 1 (fun _:Nat × List Tr × Ps=>[]) (fun g=>[(4,.row [] 99 6 0 g.2.1.length (qci g.2.1)),(2,.box 99 [iv 3,strs [qad ts (must ts p qy)],ints [1],.nils,iv (tk ts p).pos,.own 4 0 0 g.2.1.length]),(0,pso ts g.2.2)]) (fun g=>Step ts (must ts p qy) g.2.2∧qbw ts g.1 g.2.1 g.2.2=qbw ts ts.length [] (must ts (qf ts (must ts p qy)) sLc)∧(ts.length:Int) - g.2.2.at_≤g.1∧g.2.1.length+g.1≤ts.length) (fun g=>g.1) ((ts.length,[],(must ts (qf ts (must ts p qy)) sLc))) (⟨hsr,rfl,by have:=hr.at_.lo;simp only;omega,by simp⟩) qa ⟨⟨⟨rfl,rfl,rfl⟩,rfl,rfl,fun j hj=>absurd hj (zh j)⟩,⟨rfl,Le.refl _,jv rfl,jm rfl,Le.refl _,Le.refl _,Le.refl _,trivial⟩,SoLe.refl _,trivial⟩ (fun _=>rfl) (by kernel_rfl) ?_;(conv=>whnf))
  rintro ⟨m,l,r⟩ ⟨hS,hj,hk,hl⟩
  simp only at hS hj hk hl
  have hP:=h1.step hS
  (repeat' ((conv=>whnf);first|refine zE 600 (qfg hP.at_ _) ?_|(apply zB <;> intro hb <;> (try simp [-zd] at hb) <;> try (exfalso;omega))))
  ·have hsv:sees ts r kVar=true:=by assumption
   have hm:1≤m:=by have:=hP.at_.hi;omega
   obtain ⟨m,rfl⟩:∃ m',m=m'+1:=⟨m - 1,by omega⟩
   rw [qbw,zb hsv] at hj
   ((conv=>whnf);refine qbh (fun _=>rfl) (by kernel_rfl) 600 [.turn [0] [.ptr 0 0] [pso ts r] (ju ts r).1.av [(0,pso ts (ju ts r).2)]] (by kernel_rfl) ?_)
   (repeat' ((conv=>whnf);first|refine Ob.auto ?_|refine Ob.intro ?_ ?_|fail))
   ·exact ⟨qvx ht hP,by kernel_rfl,leA,qa,by exact qb rfl,by exact qb rfl⟩
   have hst:=qmd ht _ hP.at_
   have hle:=(jct ht hP.at_).le
   have hle2:(must ts r kVar).at_=r.at_+1:=by rw [show must ts r kVar=adv r from zb hsv];rfl
   ((conv=>whnf);refine ⟨(m,l++[(ju ts r).1],(ju ts r).2),⟨hS.trans hst,hj,by simp only;omega,by simp;omega⟩,⟨qa,⟨⟨⟨rfl,rfl,rfl⟩,rfl,by simp,qoj (t:=(ju ts r).1) (by simp) rfl⟩,⟨rfl,Le.refl _,Le.refl _,Le.refl _,Le.refl _,Le.refl _,Le.of_eq (congrArg (AV.own _ _ _) (by simp)),trivial⟩,qa⟩⟩,⟨qa,qa⟩,?_⟩;(first|omega|(dsimp only;omega)|skip))
  ·have hsv:sees ts r kVar=false:=by assumption
   have hV:qbw ts ts.length [] (must ts (qf ts (must ts p qy)) sLc)=(l,r):=by
    rw [← hj]
    cases m with
    | zero=>rfl
    | succ m=>rw [qbw,za (by rw [hsv];decide)]
   have hw:=h.inW (hs0.trans hS) (fun he=>by have:=(qhb (hS.err0 he)).2;have:=hS.le;omega)
   have hso:=qha ht (qje ht) ts.length l _ hw.at_
   have hd:=hso.deep
   have hi:=(qda hP.at_).2.2.1
   have hrd:=hP.deep
   have hra:=hP.at_.hi
   have e5:qdx ts p=(.mk 3 [qad ts (must ts p qy)] [1] (tk ts p).pos (jk ts (sF ts) ts.length l (inP ts r)).1,outP (jk ts (sF ts) ts.length l (inP ts r)).2):=by
    unfold qdx
    simp only
    rw [za (by rw [he];decide),hV]
   rw [e5]
   ((conv=>whnf);refine zT 600 [0] (qme hP.at_ (by omega)) qa ?_)
   ((conv=>whnf);refine zT 600 [0,2,4] (jcy ht (qje ht) (jcu ht (by have:=h.at_.lo;have:=h.at_.hi;omega)) (fun q hq=>s_rd ht hq) hw 3 (tk ts p).pos [qad ts (must ts p qy)] [1] l (by omega)) (⟨SoLe.refl _,⟨rfl,Le.refl _,Le.refl _,Le.refl _,Le.refl _,Le.refl _,Le.refl _,trivial⟩,SoLe.refl _,trivial⟩) ?_)
   (repeat' ((conv=>whnf);first|refine Ob.auto ?_|fail))
   (refine ⟨Le.agg ⟨Le.refl _,?_,?_,Le.refl _,Le.refl _,?_,trivial⟩,qa⟩ <;> first|exact Le.nils _ _|exact Le.refl _|exact jm rfl|exact jv rfl|exact qag rfl|exact qae rfl rfl|exact qaf rfl rfl|exact qah rfl rfl|exact qai rfl rfl rfl|exact qaj (fun _ _=>rfl))
end
section
variable {ts:List Lx.Tok} {p q:Ps} {n:Nat}
theorem jqy {f:Nat→List AV} {a b c d:Int} (h:f 0=[iv a]) (h':f 1=[iv b]) (h'':f 2=[iv c]) (h''':f 3=[iv d]):Le (.slc 1 4 f) (ints [a,b,c,d]):=Le.slc rfl (fun i hi=>by
 rcases (by omega:i=0∨i=1∨i=2∨i=3) with rfl|rfl|rfl|rfl
 ·exact h
 ·exact h'
 ·exact h''
 ·exact h''')
theorem jqz {l:List Tr} {t:Tr} {g:Nat→List AV} (hg:g 0=t.cells):∀ j,j<l.length+1→
  LeL (appF l.length (qci l) 1 g j) (qci (l++[t]) j):=by
 intro j hj
 refine LeL.of_eq ?_
 have e:qci (l++[t]) j=((l++[t]).getD j Tr.none).cells:=Tr.cellsL_get _ _ (by simp;omega)
 rw [e,qiw]
 by_cases h:j<l.length
 ·rw [zb h,appF,zb h]
  exact Tr.cellsL_get _ _ h
 ·obtain rfl:j=l.length:=by omega
  rw [za (by omega),zb rfl,appF,za (by omega),zb (by omega),xv]
  exact hg
theorem jra (ht:ToksOk ts) (h:Pre ts n p):RdT ts 75 (itemF ts) p:=by
 have h2:=ht.len
 refine zM {} 600 Tryz.func75 (fun c0 rdb mpb=>?_)
 (repeat' ((conv=>whnf);first|refine zE 600 (qkq h.at_ _) ?_|fail))
 (repeat' ((conv=>whnf);first|refine zE 600 (qfg h.at_ _) ?_|(apply zB <;> intro hb <;> (try simp [-zd] at hb) <;> try (exfalso;omega))))
 ·have hv:sees ts p kVar=true:=by assumption
  have e5:itemF ts p=ju ts p:=zb hv
  rw [e5]
  ((conv=>whnf);refine zT 600 [0] (qvx ht h) qa ?_)
  (repeat' ((conv=>whnf);first|refine Ob.auto ?_|fail))
  exact ⟨Le.refl _,qa⟩
 ·have hv:sees ts p kVar=false:=by assumption
  have hp:sees ts p qy=true:=by assumption
  have e5:itemF ts p=qdx ts p:=(za (by rw [hv];decide)).trans (zb hp)
  rw [e5]
  ((conv=>whnf);refine zT 600 [0] (jqx ht h) qa ?_)
  (repeat' ((conv=>whnf);first|refine Ob.auto ?_|fail))
  exact ⟨Le.refl _,qa⟩
 have hc0:¬ (sees ts p kVar=true):=by simp_all
 have hc1:¬ (sees ts p qy=true):=by simp_all
 ((conv=>whnf);refine zT 600 [0] (qaw ht h.at_ qnt) qa ?_)
 cases hkC:sees ts p qnt with
 | true=>
  have tkC:took ts p qnt=adv p:=zb hkC
  have h1:Pre ts n (adv p):=h.step (qh ht h.at_ hkC)
  rw [tkC]
  (repeat' ((conv=>whnf);first|(apply zB <;> intro hb <;> (try simp [-zd] at hb) <;> try (exfalso;omega))))
  have h2':=h1.step (qar ht h1.at_)
  have h3:=h2'.step (ql ht h2'.at_ sLb)
  have h4:=h3.step (qbo ht h3.at_)
  have h5:=h4.step (ql ht h4.at_ sRb)
  have h6:=h5.step (ql ht h5.at_ kOf)
  have h7:=h6.step (qbo ht h6.at_)
  have h8:=h7.step (qhy ht h7.at_ qhw)
  have h9:=h8.step (qhy ht h8.at_ qjb)
  have e5:itemF ts p=(.mk 1 [qad ts (adv p)] [numN ts (must ts (qf ts (adv p)) sLb),numN ts (must ts (must ts (numP ts (must ts (qf ts (adv p)) sLb)) sRb) kOf),qgz ts (numP ts (must ts (must ts (numP ts (must ts (qf ts (adv p)) sLb)) sRb) kOf)) qhw,qgz ts (took ts (numP ts (must ts (must ts (numP ts (must ts (qf ts (adv p)) sLb)) sRb) kOf)) qhw) qjb] (tk ts p).pos [],must ts (took ts (took ts (numP ts (must ts (must ts (numP ts (must ts (qf ts (adv p)) sLb)) sRb) kOf)) qhw) qjb) qq):=((za hc0).trans (za hc1)).trans (zb hkC)
  rw [e5]
  (repeat' ((conv=>whnf);first|(refine qbe (fun _=>rfl) (by kernel_rfl) 600 ?_)|fail))
  ((conv=>whnf);refine CallY.trip [0] (qhz ht h1.at_) (by kernel_rfl) leA qa (by exact qb rfl) (by exact qb rfl) ?_)
  (repeat' ((conv=>whnf);first|refine Ob.auto ?_|fail))
  ((conv=>whnf);refine AltG.far 9 [2] (by kernel_rfl) farA (EndG.go ?_))
  ((conv=>whnf);refine zT 600 [0] (qba ht h2'.at_ sLb) qa ?_)
  (repeat' ((conv=>whnf);first|(refine qbe (fun _=>rfl) (by kernel_rfl) 600 ?_)|fail))
  ((conv=>whnf);refine CallY.trip [0] (qkp ht h3.at_) (by kernel_rfl) leA qa (by exact qb rfl) (by exact qb rfl) ?_)
  (repeat' ((conv=>whnf);first|refine Ob.auto ?_|fail))
  ((conv=>whnf);refine AltG.far 9 [2] (by kernel_rfl) farA (EndG.go ?_))
  ((conv=>whnf);refine zT 600 [0] (qba ht h4.at_ sRb) qa ?_)
  ((conv=>whnf);refine zT 600 [0] (qba ht h5.at_ kOf) qa ?_)
  (repeat' ((conv=>whnf);first|(refine qbe (fun _=>rfl) (by kernel_rfl) 600 ?_)|fail))
  ((conv=>whnf);refine CallY.trip [0] (qkp ht h6.at_) (by kernel_rfl) leA qa (by exact qb rfl) (by exact qb rfl) ?_)
  (repeat' ((conv=>whnf);first|refine Ob.auto ?_|fail))
  ((conv=>whnf);refine AltG.far 9 [2] (by kernel_rfl) farA (EndG.go ?_))
  (repeat' ((conv=>whnf);first|(refine qbe (fun _=>rfl) (by kernel_rfl) 600 ?_)|fail))
  ((conv=>whnf);refine CallY.trip [0] (qvv ht h7.at_ qhw) (by kernel_rfl) leA qa (by exact qb rfl) (by exact qb rfl) ?_)
  (repeat' ((conv=>whnf);first|refine Ob.auto ?_|fail))
  ((conv=>whnf);refine AltG.far 9 [2] (by kernel_rfl) farA (EndG.go ?_))
  (repeat' ((conv=>whnf);first|(refine qbe (fun _=>rfl) (by kernel_rfl) 600 ?_)|fail))
  ((conv=>whnf);refine CallY.trip [0] (qvv ht h8.at_ qjb) (by kernel_rfl) leA qa (by exact qb rfl) (by exact qb rfl) ?_)
  (repeat' ((conv=>whnf);first|refine Ob.auto ?_|fail))
  ((conv=>whnf);refine AltG.far 9 [2] (by kernel_rfl) farA (EndG.go ?_))
  ((conv=>whnf);refine zT 600 [0] (qba ht h9.at_ qq) qa ?_)
  (repeat' ((conv=>whnf);first|refine Ob.auto ?_|fail))
  refine ⟨Le.agg ⟨Le.refl _,jv rfl,jqy rfl rfl rfl rfl,Le.refl _,Le.refl _,Le.nils _ _,trivial⟩,qa⟩
 | false=>
  have tkC:took ts p qnt=p:=za (by rw [hkC];decide)
  rw [tkC]
  (repeat' ((conv=>whnf);first|(apply zB <;> intro hb <;> (try simp [-zd] at hb) <;> try (exfalso;omega))))
  ((conv=>whnf);refine zT 600 [0] (qaw ht h.at_ qnu) qa ?_)
  cases hkS:sees ts p qnu with
  | true=>
   have tkS:took ts p qnu=adv p:=zb hkS
   have h1:Pre ts n (adv p):=h.step (qh ht h.at_ hkS)
   rw [tkS]
   (repeat' ((conv=>whnf);first|(apply zB <;> intro hb <;> (try simp [-zd] at hb) <;> try (exfalso;omega))))
   have e5:itemF ts p=(.mk 4 [] [] (tk ts p).pos [(eF ts (adv p)).1],must ts (eF ts (adv p)).2 qq):=(((za hc0).trans (za hc1)).trans (za (by rw [hkC];decide))).trans (zb hkS)
   rw [e5]
   have h2':=h1.step (qbi ht _ h1.at_)
   ((conv=>whnf);refine qbh (fun _=>rfl) (by kernel_rfl) 600 [.turn [0] [.ptr 0 0] [pso ts (adv p)] (eF ts (adv p)).1.av [(0,pso ts (eF ts (adv p)).2)]] (by kernel_rfl) ?_)
   (repeat' ((conv=>whnf);first|refine Ob.auto ?_|refine Ob.intro ?_ ?_|fail))
   ·exact ⟨e_rd ht h1.full,by kernel_rfl,leA,qa,by exact qb rfl,by exact qb rfl⟩
   ((conv=>whnf);refine zT 600 [0] (qba ht h2'.at_ qq) qa ?_)
   (repeat' ((conv=>whnf);first|refine Ob.auto ?_|fail))
   (refine ⟨Le.agg ⟨Le.refl _,?_,?_,Le.refl _,Le.refl _,?_,trivial⟩,qa⟩ <;> first|exact Le.nils _ _|exact Le.refl _|exact jm rfl|exact jv rfl|exact qag rfl|exact qae rfl rfl|exact qaf rfl rfl|exact qah rfl rfl|exact qai rfl rfl rfl|exact qaj (fun _ _=>rfl))
  | false=>
   have tkS:took ts p qnu=p:=za (by rw [hkS];decide)
   rw [tkS]
   have e5:itemF ts p=(.mk 5 [] [] (tk ts p).pos [],must ts (must ts p qma) qq):=(((za hc0).trans (za hc1)).trans (za (by rw [hkC];decide))).trans (za (by rw [hkS];decide))
   rw [e5]
   have h1:Pre ts n (must ts p qma):=h.step (ql ht h.at_ _)
   (repeat' ((conv=>whnf);first|(apply zB <;> intro hb <;> (try simp [-zd] at hb) <;> try (exfalso;omega))))
   ((conv=>whnf);refine zT 600 [0] (qba ht h.at_ qma) qa ?_)
   ((conv=>whnf);refine zT 600 [0] (qba ht h1.at_ qq) qa ?_)
   (repeat' ((conv=>whnf);first|refine Ob.auto ?_|fail))
   (refine ⟨Le.agg ⟨Le.refl _,?_,?_,Le.refl _,Le.refl _,?_,trivial⟩,qa⟩ <;> first|exact Le.nils _ _|exact Le.refl _|exact jm rfl|exact jv rfl|exact qag rfl|exact qae rfl rfl|exact qaf rfl rfl|exact qah rfl rfl|exact qai rfl rfl rfl|exact qaj (fun _ _=>rfl))
theorem jrb (ht:ToksOk ts) (h:Pre ts n p):RdT ts 40 (qcz ts) p:=by
 have h2:=ht.len
 refine zM {} 600 Tryz.func40 (fun c0 rdb mpb=>?_)
 (repeat' ((conv=>whnf);first|refine zE 600 (qkq h.at_ _) ?_|fail))
 ((conv=>whnf);refine qrf [0,1,2] 2 rfl frzA ?_)
 (conv=>whnf)
 refine qcm 2 5 99 6 rfl rfl ?_
 ((conv=>whnf);refine qo (fun _=>rfl) 600 1 (fun _:Nat × List Tr × Ps=>[]) (fun g=>[(3,.row [] 99 6 0 g.2.1.length (qci g.2.1)),(2,.box 99 [iv 0,.nils,.nils,.nils,iv (tk ts p).pos,.own 3 0 0 g.2.1.length]),(0,pso ts g.2.2)]) (fun g=>Pre ts n g.2.2∧qdy ts g.1 g.2.1 g.2.2=qdy ts ts.length [] p∧(g.2.2.err=0→(ts.length:Int) - g.2.2.at_≤g.1)∧g.2.1.length+g.1≤ts.length) (fun g=>g.1) ((ts.length,[],p)) (⟨h,rfl,by have:=h.at_.lo;simp only;omega,by simp⟩) qa ⟨⟨⟨rfl,rfl,rfl⟩,rfl,rfl,fun j hj=>absurd hj (zh j)⟩,⟨rfl,Le.refl _,Le.refl _,Le.refl _,Le.refl _,Le.refl _,Le.refl _,trivial⟩,SoLe.refl _,trivial⟩ (fun _=>rfl) (by kernel_rfl) ?_;(conv=>whnf))
 rintro ⟨m,l,r⟩ ⟨hP,hj,hk,hl⟩
 simp only at hP hj hk hl
 (repeat' ((conv=>whnf);first|refine Ob.auto ?_|refine zE 600 (qfx) ?_|refine zF 600 (fun hg=>qko hP.at_) ?_|(apply zB <;> intro hb <;> (try simp [-zd] at hb) <;> try (exfalso;omega))))
 ·obtain ⟨he',hk3⟩:=hb
  have hQ:=hP
  have hm:1≤m:=by have:=hk he';have:=hP.at_.hi;omega
  obtain ⟨m,rfl⟩:∃ m',m=m'+1:=⟨m - 1,by omega⟩
  rw [qdy,zb ⟨he',hk3⟩] at hj
  dsimp only
  ((conv=>whnf);refine qbh (fun _=>rfl) (by kernel_rfl) 600 [.turn [0] [.ptr 0 0] [pso ts r] (itemF ts r).1.av [(0,pso ts (itemF ts r).2)]] (by kernel_rfl) ?_)
  (repeat' ((conv=>whnf);first|refine Ob.auto ?_|refine Ob.intro ?_ ?_|fail))
  ·exact ⟨jra ht hP,by kernel_rfl,leA,qa,by exact qb rfl,by exact qb rfl⟩
  have hst:=qvq ht r hP.at_
  have hk':(itemF ts r).2.err=0→(ts.length:Int) - (itemF ts r).2.at_≤m:=fun h=>by have:=jcv ht r hP.at_ h;have:=hk he';omega
  have hlen:l.length+1=(l++[(itemF ts r).1]).length:=by rw [zg];rfl
  ((conv=>whnf);refine ⟨(m,l++[(itemF ts r).1],(itemF ts r).2),⟨hP.step hst,hj,hk',by simp;omega⟩,⟨qa,⟨⟨⟨rfl,rfl,rfl⟩,rfl,hlen,jqz (t:=(itemF ts r).1) rfl⟩,⟨rfl,Le.refl _,Le.refl _,Le.refl _,Le.refl _,Le.refl _,Le.of_eq (congrArg (AV.own _ _ _) hlen),trivial⟩,qa⟩⟩,⟨qa,qa⟩,?_⟩;(first|omega|(dsimp only;omega)|skip))
 ·have hn:¬ (r.err=0∧(tk ts r).kind≠3):=fun h=>h.2 (hb h.1)
  have e2:qdy ts ts.length [] p=(l,r):=by
   rw [← hj]
   cases m with
   | zero=>rfl
   | succ m=>rw [qdy,za hn]
  have e5:qcz ts p=(.mk 0 [] [] (tk ts p).pos l,r):=by unfold qcz;rw [e2]
  rw [e5]
  (refine ⟨Le.agg ⟨Le.refl _,?_,?_,Le.refl _,Le.refl _,?_,trivial⟩,qa⟩ <;> first|exact Le.nils _ _|exact Le.refl _|exact jm rfl|exact jv rfl|exact qag rfl|exact qae rfl rfl|exact qaf rfl rfl|exact qah rfl rfl|exact qai rfl rfl rfl|exact qaj (fun _ _=>rfl))
end
end Go.Proofs.YtcfllgdfhfcicaaGreatDoor
end
