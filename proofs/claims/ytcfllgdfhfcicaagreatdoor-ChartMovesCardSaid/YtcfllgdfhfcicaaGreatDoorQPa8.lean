/- Contracts of the document's parser: items. -/
import Derived.Test.YtcfllgdfhfcicaaGreatDoorQPa7
import Derived.Test.YtcfllgdfhfcicaaGreatDoorQ2
namespace Go.Proofs.YtcfllgdfhfcicaaGreatDoor
open List renaming getD_eq_getElem?_getD → zd
open Go Go.Sx Go.RowKit Go.St Pa
set_option maxRecDepth 100000
set_option maxHeartbeats 8000000
section
variable {ts:List Lx.Tok} {p q:Ps} {n:Nat}
theorem jou (ht:ToksOk ts) (h:AtOk ts p):0≤numN ts p∧numN ts p≤999999:=by
 unfold numN
 split
 ·rename_i hn
  unfold qgo at hn
  simp only [Bool.and_eq_true,beq_iff_eq] at hn
  have h1:=ht.num _ (jaq h) hn.1
  have h2:=qum h1.2 (tk ts p).s.length (Nat.le_refl _)
  rw [List.take_length] at h2
  have h3:(10:Int) ^ (tk ts p).s.length≤10 ^ 6:=by exact_mod_cast Nat.pow_le_pow_right (show 0<10 by decide) h1.1
  omega
 ·omega
theorem quz (ht:ToksOk ts) (h:Pre ts n p):RdT ts 101 (jr ts) p:=by
 have h2:=ht.len
 have s1:=qk ht h.at_ kVar
 have h1:=h.step s1
 have s3:=qao ht h1.at_
 have h3:=h1.step s3
 have h4:=h3.step (qk ht h3.at_ kOf)
 have h5:=h4.step (qbj ht h4.at_)
 refine zM {} 600 Tryz.func101 (fun c0 rdb mpb=>?_)
 (repeat' ((conv=>whnf);first|refine zE 600 (qkg h.at_ _) ?_|fail))
 ((conv=>whnf);refine zT 600 [0] (qav ht h.at_ kVar) qa ?_)
 (repeat' ((conv=>whnf);first|(refine qbb (fun _=>rfl) (by kernel_rfl) 600 ?_)|fail))
 ((conv=>whnf);refine CallY.trip [0] (qhr ht h1.at_) (by kernel_rfl) leA qa (by exact qb rfl) (by exact qb rfl) ?_)
 (repeat' ((conv=>whnf);first|refine Ob.auto ?_|fail))
 ((conv=>whnf);refine AltG.far 9 [2] (by kernel_rfl) farA (EndG.go ?_))
 ((conv=>whnf);refine zT 600 [0] (qav ht h3.at_ kOf) qa ?_)
 ((conv=>whnf);refine zT 600 [0] (qkf ht h4.at_) qa ?_)
 ((conv=>whnf);refine zT 600 [0] (qas ht h5.at_ sEq) qa ?_)
 cases he:sees ts (numP ts (must ts (qe ts (must ts p kVar)) kOf)) sEq with
 | true=>
  have t1:took ts (numP ts (must ts (qe ts (must ts p kVar)) kOf)) sEq=adv (numP ts (must ts (qe ts (must ts p kVar)) kOf)):=if_pos he
  have h6:=h5.step (qg ht h5.at_ he)
  rw [t1]
  (repeat' ((conv=>whnf);first|(apply zB <;> intro hb <;> (try simp [-zd] at hb) <;> try (exfalso;omega))))
  ((conv=>whnf);refine zT 600 [0] (qas ht h6.at_ qez) qa ?_)
  cases hm:sees ts (adv (numP ts (must ts (qe ts (must ts p kVar)) kOf))) qez with
  | true=>
   have t2:took ts (adv (numP ts (must ts (qe ts (must ts p kVar)) kOf))) qez=adv (adv (numP ts (must ts (qe ts (must ts p kVar)) kOf))):=if_pos hm
   have h7:=h6.step (qg ht h6.at_ hm)
   have h8:=h7.step (qbj ht h7.at_)
   have hb:=jou ht h7.at_
   have e5:jr ts p=(.mk 2 [jz ts (must ts p kVar)] [numN ts (must ts (qe ts (must ts p kVar)) kOf),0 - numN ts (adv (adv (numP ts (must ts (qe ts (must ts p kVar)) kOf))))] (tk ts p).pos [],must ts (numP ts (adv (adv (numP ts (must ts (qe ts (must ts p kVar)) kOf))))) qq):=by
    unfold jr;simp only;rw [if_pos he,if_pos hm]
   rw [t2,e5]
   (repeat' ((conv=>whnf);first|(apply zB <;> intro hb <;> (try simp [-zd] at hb) <;> try (exfalso;omega))))
   ((conv=>whnf);refine zT 600 [0] (qkf ht h7.at_) qa ?_)
   (repeat' ((conv=>whnf);first|refine Ob.auto ?_|fail))
   ((conv=>whnf);refine zT 600 [0] (qav ht h8.at_ qq) qa ?_)
   (repeat' ((conv=>whnf);first|refine Ob.auto ?_|fail))
   (refine ⟨Le.agg ⟨Le.refl _,?_,?_,Le.refl _,Le.refl _,?_,trivial⟩,qa⟩ <;> first|exact Le.nils _ _|exact Le.refl _|exact jm rfl|exact js rfl|exact qae rfl|exact qac rfl rfl|exact qad rfl rfl|exact qaf rfl rfl|exact qag rfl rfl rfl|exact qah (fun _ _=>rfl))
  | false=>
   have t2:took ts (adv (numP ts (must ts (qe ts (must ts p kVar)) kOf))) qez=adv (numP ts (must ts (qe ts (must ts p kVar)) kOf)):=if_neg (by rw [hm];decide)
   have h8:=h6.step (qbj ht h6.at_)
   have e5:jr ts p=(.mk 2 [jz ts (must ts p kVar)] [numN ts (must ts (qe ts (must ts p kVar)) kOf),numN ts (adv (numP ts (must ts (qe ts (must ts p kVar)) kOf)))] (tk ts p).pos [],must ts (numP ts (adv (numP ts (must ts (qe ts (must ts p kVar)) kOf)))) qq):=by
    unfold jr;simp only;rw [if_pos he,if_neg (by rw [hm];decide)]
   rw [t2,e5]
   (repeat' ((conv=>whnf);first|(apply zB <;> intro hb <;> (try simp [-zd] at hb) <;> try (exfalso;omega))))
   ((conv=>whnf);refine zT 600 [0] (qkf ht h6.at_) qa ?_)
   ((conv=>whnf);refine zT 600 [0] (qav ht h8.at_ qq) qa ?_)
   (repeat' ((conv=>whnf);first|refine Ob.auto ?_|fail))
   (refine ⟨Le.agg ⟨Le.refl _,?_,?_,Le.refl _,Le.refl _,?_,trivial⟩,qa⟩ <;> first|exact Le.nils _ _|exact Le.refl _|exact jm rfl|exact js rfl|exact qae rfl|exact qac rfl rfl|exact qad rfl rfl|exact qaf rfl rfl|exact qag rfl rfl rfl|exact qah (fun _ _=>rfl))
 | false=>
  have t1:took ts (numP ts (must ts (qe ts (must ts p kVar)) kOf)) sEq=(numP ts (must ts (qe ts (must ts p kVar)) kOf)):=if_neg (by rw [he];decide)
  have e5:jr ts p=(.mk 2 [jz ts (must ts p kVar)] [numN ts (must ts (qe ts (must ts p kVar)) kOf),0] (tk ts p).pos [],must ts (numP ts (must ts (qe ts (must ts p kVar)) kOf)) qq):=by
   unfold jr;simp only;rw [if_neg (by rw [he];decide)]
  rw [t1,e5]
  (repeat' ((conv=>whnf);first|(apply zB <;> intro hb <;> (try simp [-zd] at hb) <;> try (exfalso;omega))))
  ((conv=>whnf);refine zT 600 [0] (qav ht h5.at_ qq) qa ?_)
  (repeat' ((conv=>whnf);first|refine Ob.auto ?_|fail))
  (refine ⟨Le.agg ⟨Le.refl _,?_,?_,Le.refl _,Le.refl _,?_,trivial⟩,qa⟩ <;> first|exact Le.nils _ _|exact Le.refl _|exact jm rfl|exact js rfl|exact qae rfl|exact qac rfl rfl|exact qad rfl rfl|exact qaf rfl rfl|exact qag rfl rfl rfl|exact qah (fun _ _=>rfl))
theorem jov (ht:ToksOk ts) (h:Pre ts n p):RdT ts 102 (qdr ts) p:=by
 have h2:=ht.len
 have hs0:=qk ht h.at_ qw
 have h1:=h.step hs0
 have hs3:=qao ht h1.at_
 have h3:=h1.step hs3
 refine zM {} 600 Tryz.func102 (fun c0 rdb mpb=>?_)
 (repeat' ((conv=>whnf);first|refine zE 600 (qkg h.at_ _) ?_|fail))
 ((conv=>whnf);refine zT 600 [0] (qav ht h.at_ qw) qa ?_)
 (repeat' ((conv=>whnf);first|(refine qbb (fun _=>rfl) (by kernel_rfl) 600 ?_)|fail))
 ((conv=>whnf);refine CallY.trip [0] (qhr ht h1.at_) (by kernel_rfl) leA qa (by exact qb rfl) (by exact qb rfl) ?_)
 (repeat' ((conv=>whnf);first|refine Ob.auto ?_|fail))
 ((conv=>whnf);refine AltG.far 9 [2] (by kernel_rfl) farA (EndG.go ?_))
 ((conv=>whnf);refine zT 600 [0] (qas ht h3.at_ qfo) qa ?_)
 cases he:sees ts (qe ts (must ts p qw)) qfo with
 | true=>
  have t1:took ts (qe ts (must ts p qw)) qfo=adv (qe ts (must ts p qw)):=if_pos he
  have hs6:=hs3.trans (qg ht h3.at_ he)
  have hc:=hs6.trans (qbj ht (hs6.ok h1.at_))
  rw [t1]
  (repeat' ((conv=>whnf);first|(apply zB <;> intro hb <;> (try simp [-zd] at hb) <;> try (exfalso;omega))))
  ((conv=>whnf);refine zT 600 [0] (qkf ht (hs6.ok h1.at_)) qa ?_)
  have hsr:=hc.trans (qk ht (hc.ok h1.at_) sLc)
  have hr:=h1.step hsr
  ((conv=>whnf);refine zT 600 [0] (qav ht (hc.ok h1.at_) sLc) qa ?_)
  ((conv=>whnf);refine qqs [0,1,2] 2 rfl frzA ?_)
  (conv=>whnf)
  refine qcd 2 5 99 6 rfl rfl ?_
  ((conv=>whnf);refine qp (fun _=>rfl) 600 1 (fun _:Nat × List Tr × Ps=>[]) (fun g=>[(4,.row [] 99 6 0 g.2.1.length (qca g.2.1)),(2,.box 99 [iv 3,strs [jz ts (must ts p qw)],ints [numN ts (adv (qe ts (must ts p qw)))],.nils,iv (tk ts p).pos,.own 4 0 0 g.2.1.length]),(0,pso ts g.2.2)]) (fun g=>Step ts (must ts p qw) g.2.2∧qbp ts g.1 g.2.1 g.2.2=qbp ts ts.length [] (must ts (numP ts (adv (qe ts (must ts p qw)))) sLc)∧(ts.length:Int) - g.2.2.at_≤g.1∧g.2.1.length+g.1≤ts.length) (fun g=>g.1) ((ts.length,[],(must ts (numP ts (adv (qe ts (must ts p qw)))) sLc))) (⟨hsr,rfl,by have:=hr.at_.lo;simp only;omega,by simp⟩) qa ⟨⟨⟨rfl,rfl,rfl⟩,rfl,rfl,fun j hj=>absurd hj (Nat.not_lt_zero j)⟩,⟨rfl,Le.refl _,js rfl,jm rfl,Le.refl _,Le.refl _,Le.refl _,trivial⟩,SoLe.refl _,trivial⟩ (fun _=>rfl) (by kernel_rfl) ?_;(conv=>whnf))
  rintro ⟨m,l,r⟩ ⟨hS,hj,hk,hl⟩
  simp only at hS hj hk hl
  have hP:=h1.step hS
  (repeat' ((conv=>whnf);first|refine zE 600 (qfa hP.at_ _) ?_|(apply zB <;> intro hb <;> (try simp [-zd] at hb) <;> try (exfalso;omega))))
  ·have hsv:sees ts r kVar=true:=by assumption
   have hm:1≤m:=by have:=hP.at_.hi;omega
   obtain ⟨m,rfl⟩:∃ m',m=m'+1:=⟨m - 1,by omega⟩
   rw [qbp,if_pos hsv] at hj
   ((conv=>whnf);refine qbd (fun _=>rfl) (by kernel_rfl) 600 [.turn [0] [.ptr 0 0] [pso ts r] (jr ts r).1.av [(0,pso ts (jr ts r).2)]] (by kernel_rfl) ?_)
   (repeat' ((conv=>whnf);first|refine Ob.auto ?_|refine Ob.intro ?_ ?_|fail))
   ·exact ⟨quz ht hP,by kernel_rfl,leA,qa,by exact qb rfl,by exact qb rfl⟩
   have hst:=qls ht _ hP.at_
   have hle:=(jbg ht hP.at_).le
   have hle2:(must ts r kVar).at_=r.at_+1:=by rw [show must ts r kVar=adv r from if_pos hsv];rfl
   ((conv=>whnf);refine ⟨(m,l++[(jr ts r).1],(jr ts r).2),⟨hS.trans hst,hj,by simp only;omega,by simp;omega⟩,⟨qa,⟨⟨⟨rfl,rfl,rfl⟩,rfl,by simp,qoc (t:=(jr ts r).1) (by simp) rfl⟩,⟨rfl,Le.refl _,Le.refl _,Le.refl _,Le.refl _,Le.refl _,Le.of_eq (congrArg (AV.own _ _ _) (by simp)),trivial⟩,qa⟩⟩,⟨qa,qa⟩,?_⟩;(first|omega|(dsimp only;omega)|skip))
  ·have hsv:sees ts r kVar=false:=by assumption
   have hV:qbp ts ts.length [] (must ts (numP ts (adv (qe ts (must ts p qw)))) sLc)=(l,r):=by
    rw [← hj]
    cases m with
    | zero=>rfl
    | succ m=>rw [qbp,if_neg (by rw [hsv];decide)]
   have hw:=h.inW (hs0.trans hS) (fun he=>by have:=(qgs (hS.err0 he)).2;have:=hS.le;omega)
   have hso:=qgr ht (qiv ht) ts.length l _ hw.at_
   have hd:=hso.deep
   have hi:=(qct hP.at_).2.2.1
   have hrd:=hP.deep
   have hra:=hP.at_.hi
   have e5:qdr ts p=(.mk 3 [jz ts (must ts p qw)] [numN ts (adv (qe ts (must ts p qw)))] (tk ts p).pos (jk ts (sF ts) ts.length l (inP ts r)).1,outP (jk ts (sF ts) ts.length l (inP ts r)).2):=by
    unfold qdr
    simp only
    rw [if_pos he,hV]
   rw [e5]
   ((conv=>whnf);refine zT 600 [0] (qlt hP.at_ (by omega)) qa ?_)
   ((conv=>whnf);refine zT 600 [0,2,4] (jbl ht (qiv ht) (jbh ht (by have:=h.at_.lo;have:=h.at_.hi;omega)) (fun q hq=>s_rd ht hq) hw 3 (tk ts p).pos [jz ts (must ts p qw)] [numN ts (adv (qe ts (must ts p qw)))] l (by omega)) (⟨SoLe.refl _,⟨rfl,Le.refl _,Le.refl _,Le.refl _,Le.refl _,Le.refl _,Le.refl _,trivial⟩,SoLe.refl _,trivial⟩) ?_)
   (repeat' ((conv=>whnf);first|refine Ob.auto ?_|fail))
   (refine ⟨Le.agg ⟨Le.refl _,?_,?_,Le.refl _,Le.refl _,?_,trivial⟩,qa⟩ <;> first|exact Le.nils _ _|exact Le.refl _|exact jm rfl|exact js rfl|exact qae rfl|exact qac rfl rfl|exact qad rfl rfl|exact qaf rfl rfl|exact qag rfl rfl rfl|exact qah (fun _ _=>rfl))
 | false=>
  have t1:took ts (qe ts (must ts p qw)) qfo=(qe ts (must ts p qw)):=if_neg (by rw [he];decide)
  rw [t1]
  have hsr:=hs3.trans (qk ht (hs3.ok h1.at_) sLc)
  have hr:=h1.step hsr
  (repeat' ((conv=>whnf);first|(apply zB <;> intro hb <;> (try simp [-zd] at hb) <;> try (exfalso;omega))))
  ((conv=>whnf);refine zT 600 [0] (qav ht (hs3.ok h1.at_) sLc) qa ?_)
  ((conv=>whnf);refine qqs [0,1,2] 2 rfl frzA ?_)
  (conv=>whnf)
  refine qcd 2 5 99 6 rfl rfl ?_
  ((conv=>whnf);refine qp (fun _=>rfl) 600 1 (fun _:Nat × List Tr × Ps=>[]) (fun g=>[(4,.row [] 99 6 0 g.2.1.length (qca g.2.1)),(2,.box 99 [iv 3,strs [jz ts (must ts p qw)],ints [1],.nils,iv (tk ts p).pos,.own 4 0 0 g.2.1.length]),(0,pso ts g.2.2)]) (fun g=>Step ts (must ts p qw) g.2.2∧qbp ts g.1 g.2.1 g.2.2=qbp ts ts.length [] (must ts (qe ts (must ts p qw)) sLc)∧(ts.length:Int) - g.2.2.at_≤g.1∧g.2.1.length+g.1≤ts.length) (fun g=>g.1) ((ts.length,[],(must ts (qe ts (must ts p qw)) sLc))) (⟨hsr,rfl,by have:=hr.at_.lo;simp only;omega,by simp⟩) qa ⟨⟨⟨rfl,rfl,rfl⟩,rfl,rfl,fun j hj=>absurd hj (Nat.not_lt_zero j)⟩,⟨rfl,Le.refl _,js rfl,jm rfl,Le.refl _,Le.refl _,Le.refl _,trivial⟩,SoLe.refl _,trivial⟩ (fun _=>rfl) (by kernel_rfl) ?_;(conv=>whnf))
  rintro ⟨m,l,r⟩ ⟨hS,hj,hk,hl⟩
  simp only at hS hj hk hl
  have hP:=h1.step hS
  (repeat' ((conv=>whnf);first|refine zE 600 (qfa hP.at_ _) ?_|(apply zB <;> intro hb <;> (try simp [-zd] at hb) <;> try (exfalso;omega))))
  ·have hsv:sees ts r kVar=true:=by assumption
   have hm:1≤m:=by have:=hP.at_.hi;omega
   obtain ⟨m,rfl⟩:∃ m',m=m'+1:=⟨m - 1,by omega⟩
   rw [qbp,if_pos hsv] at hj
   ((conv=>whnf);refine qbd (fun _=>rfl) (by kernel_rfl) 600 [.turn [0] [.ptr 0 0] [pso ts r] (jr ts r).1.av [(0,pso ts (jr ts r).2)]] (by kernel_rfl) ?_)
   (repeat' ((conv=>whnf);first|refine Ob.auto ?_|refine Ob.intro ?_ ?_|fail))
   ·exact ⟨quz ht hP,by kernel_rfl,leA,qa,by exact qb rfl,by exact qb rfl⟩
   have hst:=qls ht _ hP.at_
   have hle:=(jbg ht hP.at_).le
   have hle2:(must ts r kVar).at_=r.at_+1:=by rw [show must ts r kVar=adv r from if_pos hsv];rfl
   ((conv=>whnf);refine ⟨(m,l++[(jr ts r).1],(jr ts r).2),⟨hS.trans hst,hj,by simp only;omega,by simp;omega⟩,⟨qa,⟨⟨⟨rfl,rfl,rfl⟩,rfl,by simp,qoc (t:=(jr ts r).1) (by simp) rfl⟩,⟨rfl,Le.refl _,Le.refl _,Le.refl _,Le.refl _,Le.refl _,Le.of_eq (congrArg (AV.own _ _ _) (by simp)),trivial⟩,qa⟩⟩,⟨qa,qa⟩,?_⟩;(first|omega|(dsimp only;omega)|skip))
  ·have hsv:sees ts r kVar=false:=by assumption
   have hV:qbp ts ts.length [] (must ts (qe ts (must ts p qw)) sLc)=(l,r):=by
    rw [← hj]
    cases m with
    | zero=>rfl
    | succ m=>rw [qbp,if_neg (by rw [hsv];decide)]
   have hw:=h.inW (hs0.trans hS) (fun he=>by have:=(qgs (hS.err0 he)).2;have:=hS.le;omega)
   have hso:=qgr ht (qiv ht) ts.length l _ hw.at_
   have hd:=hso.deep
   have hi:=(qct hP.at_).2.2.1
   have hrd:=hP.deep
   have hra:=hP.at_.hi
   have e5:qdr ts p=(.mk 3 [jz ts (must ts p qw)] [1] (tk ts p).pos (jk ts (sF ts) ts.length l (inP ts r)).1,outP (jk ts (sF ts) ts.length l (inP ts r)).2):=by
    unfold qdr
    simp only
    rw [if_neg (by rw [he];decide),hV]
   rw [e5]
   ((conv=>whnf);refine zT 600 [0] (qlt hP.at_ (by omega)) qa ?_)
   ((conv=>whnf);refine zT 600 [0,2,4] (jbl ht (qiv ht) (jbh ht (by have:=h.at_.lo;have:=h.at_.hi;omega)) (fun q hq=>s_rd ht hq) hw 3 (tk ts p).pos [jz ts (must ts p qw)] [1] l (by omega)) (⟨SoLe.refl _,⟨rfl,Le.refl _,Le.refl _,Le.refl _,Le.refl _,Le.refl _,Le.refl _,trivial⟩,SoLe.refl _,trivial⟩) ?_)
   (repeat' ((conv=>whnf);first|refine Ob.auto ?_|fail))
   (refine ⟨Le.agg ⟨Le.refl _,?_,?_,Le.refl _,Le.refl _,?_,trivial⟩,qa⟩ <;> first|exact Le.nils _ _|exact Le.refl _|exact jm rfl|exact js rfl|exact qae rfl|exact qac rfl rfl|exact qad rfl rfl|exact qaf rfl rfl|exact qag rfl rfl rfl|exact qah (fun _ _=>rfl))
end
end Go.Proofs.YtcfllgdfhfcicaaGreatDoor
