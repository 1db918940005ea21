/- Contracts of the program's parser: a process, an item, the program. -/
import Derived.Test.YthfaleaojlnnoaaY6PcV
import Derived.Test.YthfaleaojlnnoaaY62
set_option linter.unusedSimpArgs false
set_option linter.unusedVariables false
namespace Go.Proofs.Ythfaleaojlnnoaa
open List renaming getD_eq_getElem?_getD → zd
open Go Go.Sx Go.RowKit Go.St Pa
set_option maxRecDepth 100000
set_option maxHeartbeats 8000000
section
variable {ts:List Lx.Tok} {p q r g:Ps} {n:Nat}
theorem joj (hc:TC ts) (h:PreC ts ts.length p) (hd:p.deep=0) (hs:sees ts p qk=true) (hq:sees ts (qd ts (must ts p qk)) qbg=false):RdM ts 60 (qbk ts) p:=by
 have ht:=hc.ok
 have h2:=ht.len
 have A0:=h.at_
 have t1:=qak hc h (s:=qk) (by decide +kernel)
 have a1:=qf ht A0 qk
 have e0:must ts p qk=adv p:=zb hs
 have k1:((must ts p qk).err == 0)=true:=by rw [e0];exact qcq h.err
 have hF:qbk ts p=(.mk 3 [jd ts (must ts p qk)] [1] (tk ts p).pos (qcb ts (inP ts (must ts (qd ts (must ts p qk)) sLc))).1,outP (qcb ts (inP ts (must ts (qd ts (must ts p qk)) sLc))).2):=by
  unfold qbk
  simp only
  rw [za (by rw [hq];decide),jbq ht]
  ·have a2:=jh ht (a1.ok A0)
   have A2:=a2.ok (a1.ok A0)
   have A3:=A2
   exact (qf ht A3 sLc).ok A3
  ·dsimp only
   have a2:=jh ht (a1.ok A0)
   have A2:=a2.ok (a1.ok A0)
   have A3:=A2
   have:=(qf ht A3 sLc).deep
   have:=a1.deep
   have:=a2.deep
   omega
 rw [RdM,hF]
 dsimp only
 generalize must ts p qk=p1 at *
 have A1:=a1.ok A0
 have h1:=h.step a1 k1
 have t2:=qfb hc h1
 have a2:=jh ht A1
 generalize qd ts p1=p2 at *
 have A2:=a2.ok A1
 have t3:=fun h':PreC ts ts.length p2=>qfv hc h' (s:=qbg) (by decide +kernel)
 have e3:took ts p2 qbg=p2:=za (by rw [hq];decide)
 have e4:js ts p2 qbg=0:=za (by rw [hq];decide)
 have a5:=qf ht A2 sLc
 have A5:=a5.ok A2
 have a6:=jbr ht (jn A5).1
 have di:=(jn A5).2.2.1
 have fi:=(jn A5).2.2.2
 have t5:=fun h':PreC ts ts.length p2=>jbi (g:=(qcb ts (inP ts (must ts p2 sLc))).2) hc h' (s:=sLc) (by decide +kernel) 3 (tk ts p).pos [jd ts p1] [1] (qcb ts (inP ts (must ts p2 sLc))).1
  (fun hq he=>jbu hc (hq.inn he) 3 (tk ts p).pos [jd ts p1] [1])
  (fun he=>by rw [qra he];exact ⟨rfl,rfl⟩)
  (fun _=>by have:=a6.deep;have:=a5.deep;omega)
 have zst:∀ x,Step ts x p2→x.err≠0→(qcb ts (inP ts (must ts p2 sLc))).2.err=x.err∧(qcb ts (inP ts (must ts p2 sLc))).2.fat=x.fat:=fun x hx he=>by
  have e1:=(hx.trans a5).err he
  have e2:=fi (by rw [e1];exact he)
  rw [qra (by rw [e2.1,e1];exact he),e2.1,e2.2,e1]
  exact ⟨rfl,rfl⟩
 generalize qcb ts (inP ts (must ts p2 sLc))=z at *
 refine qbb (T:=tab Try.prog) (C:={}) 600 (fun _=>rfl) Try.func60 rfl (by kernel_rfl) (by kernel_rfl) (fun c0 rdb mpb=>?_)
 (repeat' ((conv=>whnf);first|refine zA ?_|refine zO ?_|refine Ob.auto ?_|refine zD 600 ?_|(apply zB <;> intro hb <;> (try simp [-zd] at hb) <;> try (exfalso;omega))|refine Ob.intro ?_ ?_))
 ((conv=>whnf);refine zT 600 [0] (qbq h.at_ 3) qa ?_)
 (repeat' ((conv=>whnf);first|refine zA ?_|refine zO ?_|refine Ob.auto ?_|refine zD 600 ?_|(apply zB <;> intro hb <;> (try simp [-zd] at hb) <;> try (exfalso;omega))|refine Ob.intro ?_ ?_))
 (((conv=>whnf);refine jz frzA ?_);(conv=>whnf);refine qr (fun _=>rfl) 600 [0] (t1) (by kernel_rfl) (by kernel_rfl) ⟨Le.refl _,jj rfl,trivial⟩ qa (by exact qb rfl) (by exact qb rfl) (by kernel_rfl) (fun hk=>by rw [k1] at hk;cases hk) (fun hok=>?_))
 (repeat' ((conv=>whnf);first|refine zA ?_|refine zO ?_|refine Ob.auto ?_|refine zD 600 ?_|(apply zB <;> intro hb <;> (try simp [-zd] at hb) <;> try (exfalso;omega))|refine Ob.intro ?_ ?_))
 cases hk1:(p2.err == 0) with
 | false=>
  have hk:=hk1
  (repeat' ((conv=>whnf);first|refine zA ?_|refine zO ?_|refine Ob.auto ?_|refine zD 600 ?_|(refine qh (fun _=>rfl) (by kernel_rfl) 600 ?_)|(apply zB <;> intro hb <;> (try simp [-zd] at hb) <;> try (exfalso;omega))|refine Ob.intro ?_ ?_))
  ((conv=>whnf);refine CallY.mpan 99 [0] (t2) hk (qdr (zst p2 A2.refl) hk) (by kernel_rfl) (by kernel_rfl) leA qa (by exact qb rfl) ?_)
  (repeat' ((conv=>whnf);first|refine zO ?_|refine Ob.auto ?_|refine zD 600 ?_|(refine qh (fun _=>rfl) (by kernel_rfl) 600 ?_)|(apply zB <;> intro hb <;> (try simp [-zd] at hb) <;> try (exfalso;omega))|refine Ob.intro ?_ ?_))
  ((conv=>whnf);refine AltG.far 9 [3,2,1] (by kernel_rfl) farA (EndG.dead 99 (by rfl)))
 | true=>
  have h3:=h1.step a2 hk1
  (repeat' ((conv=>whnf);first|refine zA ?_|refine zO ?_|refine Ob.auto ?_|refine zD 600 ?_|(refine qh (fun _=>rfl) (by kernel_rfl) 600 ?_)|(apply zB <;> intro hb <;> (try simp [-zd] at hb) <;> try (exfalso;omega))|refine Ob.intro ?_ ?_))
  ((conv=>whnf);refine CallY.trip [0] (t2.trip hk1) (by kernel_rfl) leA qa (by exact qb rfl) (by exact qb rfl) ?_)
  (repeat' ((conv=>whnf);first|refine zO ?_|refine Ob.auto ?_|refine zD 600 ?_|(refine qh (fun _=>rfl) (by kernel_rfl) 600 ?_)|(apply zB <;> intro hb <;> (try simp [-zd] at hb) <;> try (exfalso;omega))|refine Ob.intro ?_ ?_))
  ((conv=>whnf);refine AltG.far 9 [3,2,1] (by kernel_rfl) farA (EndG.go ?_))
  (repeat' ((conv=>whnf);first|refine zA ?_|refine zO ?_|refine Ob.auto ?_|refine zD 600 ?_|(apply zB <;> intro hb <;> (try simp [-zd] at hb) <;> try (exfalso;omega))|refine Ob.intro ?_ ?_))
  ((conv=>whnf);refine zT 600 [0] (t3 h3) qa ?_)
  rw [e3,e4]
  (repeat' ((conv=>whnf);first|refine zA ?_|refine zO ?_|refine Ob.auto ?_|refine zD 600 ?_|(apply zB <;> intro hb <;> (try simp [-zd] at hb) <;> try (exfalso;omega))|refine Ob.intro ?_ ?_))
  have h5:=h3
  ((conv=>whnf);refine qr (fun _=>rfl) 600 [0,1,2,3] (t5 h5) (by kernel_rfl) (by kernel_rfl) leA ⟨SoLe.refl _,SoLe.refl _,⟨rfl,Le.refl _,jj rfl,qil rfl,Le.refl _,Le.refl _,Le.refl _,trivial⟩,SoLe.refl _,trivial⟩ (by exact qb rfl) (by exact qb rfl) (by kernel_rfl) (fun hk=>⟨hk,rfl⟩) (fun hok=>?_))
  (repeat' ((conv=>whnf);first|refine zA ?_|refine zO ?_|refine Ob.auto ?_|refine zD 600 ?_|(apply zB <;> intro hb <;> (try simp [-zd] at hb) <;> try (exfalso;omega))|refine Ob.intro ?_ ?_))
  exact ⟨hok,Le.rptrL ⟨Le.refl _,Le.refl _,Le.refl _,Le.refl _,Le.refl _,Le.refl _,trivial⟩,qa⟩
theorem jok (hc:TC ts) (h:PreC ts ts.length p) (hd:p.deep=0) (hs:sees ts p qk=true) (hq:sees ts (qd ts (must ts p qk)) qbg=true):RdM ts 60 (qbk ts) p:=by
 have ht:=hc.ok
 have h2:=ht.len
 have A0:=h.at_
 have t1:=qak hc h (s:=qk) (by decide +kernel)
 have a1:=qf ht A0 qk
 have e0:must ts p qk=adv p:=zb hs
 have k1:((must ts p qk).err == 0)=true:=by rw [e0];exact qcq h.err
 have hF:qbk ts p=(.mk 3 [jd ts (must ts p qk)] [numN ts (adv (qd ts (must ts p qk)))] (tk ts p).pos (qcb ts (inP ts (must ts (numP ts (adv (qd ts (must ts p qk)))) sLc))).1,outP (qcb ts (inP ts (must ts (numP ts (adv (qd ts (must ts p qk)))) sLc))).2):=by
  unfold qbk
  simp only
  rw [zb hq,jbq ht]
  ·have a2:=jh ht (a1.ok A0)
   have A2:=a2.ok (a1.ok A0)
   have A3:=(jx ht ((qg ht A2 hq).ok A2)).ok ((qg ht A2 hq).ok A2)
   exact (qf ht A3 sLc).ok A3
  ·dsimp only
   have a2:=jh ht (a1.ok A0)
   have A2:=a2.ok (a1.ok A0)
   have a3:=qg ht A2 hq
   have a4:=jx ht (a3.ok A2)
   have A3:=a4.ok (a3.ok A2)
   have:=(qf ht A3 sLc).deep
   have:=a1.deep
   have:=a2.deep
   have:=a3.deep
   have:=a4.deep
   omega
 rw [RdM,hF]
 dsimp only
 generalize must ts p qk=p1 at *
 have A1:=a1.ok A0
 have h1:=h.step a1 k1
 have t2:=qfb hc h1
 have a2:=jh ht A1
 generalize qd ts p1=p2 at *
 have A2:=a2.ok A1
 have t3:=fun h':PreC ts ts.length p2=>qfv hc h' (s:=qbg) (by decide +kernel)
 have e3:took ts p2 qbg=adv p2:=zb hq
 have e4:js ts p2 qbg=1:=zb hq
 have a3:=qg ht A2 hq
 have A3:=a3.ok A2
 have t4:=fun h':PreC ts ts.length (adv p2)=>qhm hc h'
 have a4:=jx ht A3
 have nb:=qvj ht A3
 generalize numP ts (adv p2)=p3 at *
 have A4:=a4.ok A3
 have ab:=a3.trans a4
 have a5:=qf ht A4 sLc
 have A5:=a5.ok A4
 have a6:=jbr ht (jn A5).1
 have di:=(jn A5).2.2.1
 have fi:=(jn A5).2.2.2
 have t5:=fun h':PreC ts ts.length p3=>jbi (g:=(qcb ts (inP ts (must ts p3 sLc))).2) hc h' (s:=sLc) (by decide +kernel) 3 (tk ts p).pos [jd ts p1] [numN ts (adv p2)] (qcb ts (inP ts (must ts p3 sLc))).1
  (fun hq he=>jbu hc (hq.inn he) 3 (tk ts p).pos [jd ts p1] [numN ts (adv p2)])
  (fun he=>by rw [qra he];exact ⟨rfl,rfl⟩)
  (fun _=>by have:=a6.deep;have:=a5.deep;omega)
 have zst:∀ x,Step ts x p3→x.err≠0→(qcb ts (inP ts (must ts p3 sLc))).2.err=x.err∧(qcb ts (inP ts (must ts p3 sLc))).2.fat=x.fat:=fun x hx he=>by
  have e1:=(hx.trans a5).err he
  have e2:=fi (by rw [e1];exact he)
  rw [qra (by rw [e2.1,e1];exact he),e2.1,e2.2,e1]
  exact ⟨rfl,rfl⟩
 generalize qcb ts (inP ts (must ts p3 sLc))=z at *
 refine qbb (T:=tab Try.prog) (C:={}) 600 (fun _=>rfl) Try.func60 rfl (by kernel_rfl) (by kernel_rfl) (fun c0 rdb mpb=>?_)
 (repeat' ((conv=>whnf);first|refine zA ?_|refine zO ?_|refine Ob.auto ?_|refine zD 600 ?_|(apply zB <;> intro hb <;> (try simp [-zd] at hb) <;> try (exfalso;omega))|refine Ob.intro ?_ ?_))
 ((conv=>whnf);refine zT 600 [0] (qbq h.at_ 3) qa ?_)
 (repeat' ((conv=>whnf);first|refine zA ?_|refine zO ?_|refine Ob.auto ?_|refine zD 600 ?_|(apply zB <;> intro hb <;> (try simp [-zd] at hb) <;> try (exfalso;omega))|refine Ob.intro ?_ ?_))
 (((conv=>whnf);refine jz frzA ?_);(conv=>whnf);refine qr (fun _=>rfl) 600 [0] (t1) (by kernel_rfl) (by kernel_rfl) ⟨Le.refl _,jj rfl,trivial⟩ qa (by exact qb rfl) (by exact qb rfl) (by kernel_rfl) (fun hk=>by rw [k1] at hk;cases hk) (fun hok=>?_))
 (repeat' ((conv=>whnf);first|refine zA ?_|refine zO ?_|refine Ob.auto ?_|refine zD 600 ?_|(apply zB <;> intro hb <;> (try simp [-zd] at hb) <;> try (exfalso;omega))|refine Ob.intro ?_ ?_))
 cases hk1:(p2.err == 0) with
 | false=>
  have hk:=hk1
  (repeat' ((conv=>whnf);first|refine zA ?_|refine zO ?_|refine Ob.auto ?_|refine zD 600 ?_|(refine qh (fun _=>rfl) (by kernel_rfl) 600 ?_)|(apply zB <;> intro hb <;> (try simp [-zd] at hb) <;> try (exfalso;omega))|refine Ob.intro ?_ ?_))
  ((conv=>whnf);refine CallY.mpan 99 [0] (t2) hk (qdr (zst p2 ab) hk) (by kernel_rfl) (by kernel_rfl) leA qa (by exact qb rfl) ?_)
  (repeat' ((conv=>whnf);first|refine zO ?_|refine Ob.auto ?_|refine zD 600 ?_|(refine qh (fun _=>rfl) (by kernel_rfl) 600 ?_)|(apply zB <;> intro hb <;> (try simp [-zd] at hb) <;> try (exfalso;omega))|refine Ob.intro ?_ ?_))
  ((conv=>whnf);refine AltG.far 9 [3,2,1] (by kernel_rfl) farA (EndG.dead 99 (by rfl)))
 | true=>
  have h3:=h1.step a2 hk1
  (repeat' ((conv=>whnf);first|refine zA ?_|refine zO ?_|refine Ob.auto ?_|refine zD 600 ?_|(refine qh (fun _=>rfl) (by kernel_rfl) 600 ?_)|(apply zB <;> intro hb <;> (try simp [-zd] at hb) <;> try (exfalso;omega))|refine Ob.intro ?_ ?_))
  ((conv=>whnf);refine CallY.trip [0] (t2.trip hk1) (by kernel_rfl) leA qa (by exact qb rfl) (by exact qb rfl) ?_)
  (repeat' ((conv=>whnf);first|refine zO ?_|refine Ob.auto ?_|refine zD 600 ?_|(refine qh (fun _=>rfl) (by kernel_rfl) 600 ?_)|(apply zB <;> intro hb <;> (try simp [-zd] at hb) <;> try (exfalso;omega))|refine Ob.intro ?_ ?_))
  ((conv=>whnf);refine AltG.far 9 [3,2,1] (by kernel_rfl) farA (EndG.go ?_))
  (repeat' ((conv=>whnf);first|refine zA ?_|refine zO ?_|refine Ob.auto ?_|refine zD 600 ?_|(apply zB <;> intro hb <;> (try simp [-zd] at hb) <;> try (exfalso;omega))|refine Ob.intro ?_ ?_))
  ((conv=>whnf);refine zT 600 [0] (t3 h3) qa ?_)
  rw [e3,e4]
  (repeat' ((conv=>whnf);first|refine zA ?_|refine zO ?_|refine Ob.auto ?_|refine zD 600 ?_|(apply zB <;> intro hb <;> (try simp [-zd] at hb) <;> try (exfalso;omega))|refine Ob.intro ?_ ?_))
  have h4:=h3.step a3 (qcq h3.err)
  ((conv=>whnf);refine qr (fun _=>rfl) 600 [0] (t4 h4) (by kernel_rfl) (by kernel_rfl) leA qa (by exact qb rfl) (by exact qb rfl) (by kernel_rfl) (fun hk=>qdr (zst p3 A4.refl) hk) (fun hok=>?_))
  have h5:=h4.step a4 hok
  (repeat' ((conv=>whnf);first|refine zA ?_|refine zO ?_|refine Ob.auto ?_|refine zD 600 ?_|(apply zB <;> intro hb <;> (try simp [-zd] at hb) <;> try (exfalso;omega))|refine Ob.intro ?_ ?_))
  ((conv=>whnf);refine qr (fun _=>rfl) 600 [0,1,2,3] (t5 h5) (by kernel_rfl) (by kernel_rfl) leA ⟨SoLe.refl _,SoLe.refl _,⟨rfl,Le.refl _,jj rfl,qil rfl,Le.refl _,Le.refl _,Le.refl _,trivial⟩,SoLe.refl _,trivial⟩ (by exact qb rfl) (by exact qb rfl) (by kernel_rfl) (fun hk=>⟨hk,rfl⟩) (fun hok=>?_))
  (repeat' ((conv=>whnf);first|refine zA ?_|refine zO ?_|refine Ob.auto ?_|refine zD 600 ?_|(apply zB <;> intro hb <;> (try simp [-zd] at hb) <;> try (exfalso;omega))|refine Ob.intro ?_ ?_))
  exact ⟨hok,Le.rptrL ⟨Le.refl _,Le.refl _,Le.refl _,Le.refl _,Le.refl _,Le.refl _,trivial⟩,qa⟩
theorem jol (hc:TC ts) (h:PreC ts ts.length p) (hd:p.deep=0) (hs:sees ts p qk=true):RdM ts 60 (qbk ts) p:=by
 cases hq:sees ts (qd ts (must ts p qk)) qbg with
 | true=>exact jok hc h hd hs hq
 | false=>exact joj hc h hd hs hq
theorem jom (hc:TC ts) (h:PreC ts ts.length p) (hd:p.deep=0):RdM ts 39 (jg ts) p:=by
 have ht:=hc.ok
 have h2:=ht.len
 have key:∀ s,kwB s=true→sees ts p s=((tk ts p).s == s):=fun s hs=>qdi hc.kind h.at_ h.err hs
 have hnow:=qw h.at_
 by_cases hw:(tk ts p).s=qdw
 ·have hnow1:Con Try.prog 38 [.rptr (p.cellsC ts)] (.agg [iv (tk ts p).kind,.str qdw,iv (tk ts p).pos]):=by rw [← hw];exact hnow
  have see:sees ts p qdw=true:=by rw [key _ (by decide +kernel),hw];decide
  have no_kVar:sees ts p kVar=false:=by rw [key _ (by decide +kernel),hw];decide
  have no_kProc:sees ts p qk=false:=by rw [key _ (by decide +kernel),hw];decide
  have t1:=jmx hc h see no_kVar no_kProc
  rw [RdM] at t1 ⊢
  generalize jg ts p=z at *
  refine qbb (T:=tab Try.prog) (C:={}) 600 (fun _=>rfl) Try.func39 rfl (by kernel_rfl) (by kernel_rfl) (fun c0 rdb mpb=>?_)
  (repeat' ((conv=>whnf);first|refine zA ?_|refine zO ?_|refine Ob.auto ?_|refine zC 600 (hnow1) ?_|refine zG 600 (fun hg=>hnow1) ?_|(refine CallY.con (hnow1) (by rfl) leA ?_)|(refine CallZ.con (fun hg=>hnow1) qz (by rfl) ?_)|(refine qj (fun _=>rfl) 600 (hnow1) qc (by (repeat' (first|exact trivial|exact Le.refl _|(refine And.intro ?_ ?_))) <;> fail) (by rfl) (by kernel_rfl) ?_)|(refine qv (fun _=>rfl) 600 (fun hg=>hnow1) (fun hg=>qc) (fun hg=>(by (repeat' (first|exact trivial|exact Le.refl _|exact Le.cnd hg|(refine And.intro ?_ ?_))) <;> fail)) (by rfl) (by kernel_rfl) ?_)|refine zD 600 ?_|(apply zB <;> intro hb <;> (try simp [-zd] at hb) <;> try (exfalso;omega))|refine Ob.intro ?_ ?_))
  ((conv=>whnf);refine qr (fun _=>rfl) 600 [0] (t1) (by kernel_rfl) (by kernel_rfl) leA qa (by exact qb rfl) (by exact qb rfl) (by kernel_rfl) (fun hk=>⟨hk,rfl⟩) (fun hok=>?_))
  (repeat' ((conv=>whnf);first|refine zA ?_|refine zO ?_|refine Ob.auto ?_|refine zD 600 ?_|(apply zB <;> intro hb <;> (try simp [-zd] at hb) <;> try (exfalso;omega))|refine Ob.intro ?_ ?_))
  exact ⟨hok,Le.refl _,qa⟩
 by_cases hw:(tk ts p).s=kVar
 ·have hnow1:Con Try.prog 38 [.rptr (p.cellsC ts)] (.agg [iv (tk ts p).kind,.str kVar,iv (tk ts p).pos]):=by rw [← hw];exact hnow
  have see:sees ts p kVar=true:=by rw [key _ (by decide +kernel),hw];decide
  have e2:jg ts p=jf ts p:=zb see
  have t1:=jbf hc h
  rw [RdM] at t1 ⊢
  rw [e2]
  generalize jf ts p=z at *
  refine qbb (T:=tab Try.prog) (C:={}) 600 (fun _=>rfl) Try.func39 rfl (by kernel_rfl) (by kernel_rfl) (fun c0 rdb mpb=>?_)
  (repeat' ((conv=>whnf);first|refine zA ?_|refine zO ?_|refine Ob.auto ?_|refine zC 600 (hnow1) ?_|refine zG 600 (fun hg=>hnow1) ?_|(refine CallY.con (hnow1) (by rfl) leA ?_)|(refine CallZ.con (fun hg=>hnow1) qz (by rfl) ?_)|(refine qj (fun _=>rfl) 600 (hnow1) qc (by (repeat' (first|exact trivial|exact Le.refl _|(refine And.intro ?_ ?_))) <;> fail) (by rfl) (by kernel_rfl) ?_)|(refine qv (fun _=>rfl) 600 (fun hg=>hnow1) (fun hg=>qc) (fun hg=>(by (repeat' (first|exact trivial|exact Le.refl _|exact Le.cnd hg|(refine And.intro ?_ ?_))) <;> fail)) (by rfl) (by kernel_rfl) ?_)|refine zD 600 ?_|(apply zB <;> intro hb <;> (try simp [-zd] at hb) <;> try (exfalso;omega))|refine Ob.intro ?_ ?_))
  ((conv=>whnf);refine qr (fun _=>rfl) 600 [0] (t1) (by kernel_rfl) (by kernel_rfl) leA qa (by exact qb rfl) (by exact qb rfl) (by kernel_rfl) (fun hk=>⟨hk,rfl⟩) (fun hok=>?_))
  (repeat' ((conv=>whnf);first|refine zA ?_|refine zO ?_|refine Ob.auto ?_|refine zD 600 ?_|(apply zB <;> intro hb <;> (try simp [-zd] at hb) <;> try (exfalso;omega))|refine Ob.intro ?_ ?_))
  exact ⟨hok,Le.refl _,qa⟩
 by_cases hw:(tk ts p).s=qk
 ·have hnow1:Con Try.prog 38 [.rptr (p.cellsC ts)] (.agg [iv (tk ts p).kind,.str qk,iv (tk ts p).pos]):=by rw [← hw];exact hnow
  have see:sees ts p qk=true:=by rw [key _ (by decide +kernel),hw];decide
  have no_kVar:sees ts p kVar=false:=by rw [key _ (by decide +kernel),hw];decide
  have e2:jg ts p=qbk ts p:=(za (by rw [no_kVar];decide)).trans (zb see)
  have t1:=jol hc h hd see
  rw [RdM] at t1 ⊢
  rw [e2]
  generalize qbk ts p=z at *
  refine qbb (T:=tab Try.prog) (C:={}) 600 (fun _=>rfl) Try.func39 rfl (by kernel_rfl) (by kernel_rfl) (fun c0 rdb mpb=>?_)
  (repeat' ((conv=>whnf);first|refine zA ?_|refine zO ?_|refine Ob.auto ?_|refine zC 600 (hnow1) ?_|refine zG 600 (fun hg=>hnow1) ?_|(refine CallY.con (hnow1) (by rfl) leA ?_)|(refine CallZ.con (fun hg=>hnow1) qz (by rfl) ?_)|(refine qj (fun _=>rfl) 600 (hnow1) qc (by (repeat' (first|exact trivial|exact Le.refl _|(refine And.intro ?_ ?_))) <;> fail) (by rfl) (by kernel_rfl) ?_)|(refine qv (fun _=>rfl) 600 (fun hg=>hnow1) (fun hg=>qc) (fun hg=>(by (repeat' (first|exact trivial|exact Le.refl _|exact Le.cnd hg|(refine And.intro ?_ ?_))) <;> fail)) (by rfl) (by kernel_rfl) ?_)|refine zD 600 ?_|(apply zB <;> intro hb <;> (try simp [-zd] at hb) <;> try (exfalso;omega))|refine Ob.intro ?_ ?_))
  ((conv=>whnf);refine qr (fun _=>rfl) 600 [0] (t1) (by kernel_rfl) (by kernel_rfl) leA qa (by exact qb rfl) (by exact qb rfl) (by kernel_rfl) (fun hk=>⟨hk,rfl⟩) (fun hok=>?_))
  (repeat' ((conv=>whnf);first|refine zA ?_|refine zO ?_|refine Ob.auto ?_|refine zD 600 ?_|(apply zB <;> intro hb <;> (try simp [-zd] at hb) <;> try (exfalso;omega))|refine Ob.intro ?_ ?_))
  exact ⟨hok,Le.refl _,qa⟩
 by_cases hw:(tk ts p).s=kSafe
 ·have hnow1:Con Try.prog 38 [.rptr (p.cellsC ts)] (.agg [iv (tk ts p).kind,.str kSafe,iv (tk ts p).pos]):=by rw [← hw];exact hnow
  have see:sees ts p kSafe=true:=by rw [key _ (by decide +kernel),hw];decide
  have no_kVar:sees ts p kVar=false:=by rw [key _ (by decide +kernel),hw];decide
  have no_kProc:sees ts p qk=false:=by rw [key _ (by decide +kernel),hw];decide
  have no_kChan:sees ts p qdw=false:=by rw [key _ (by decide +kernel),hw];decide
  have e2:jg ts p=(.mk 4 [] [] (tk ts p).pos [(eF ts (adv p)).1],must ts (eF ts (adv p)).2 sSemi):=(za (by rw [no_kVar];decide)).trans ((za (by rw [no_kProc];decide)).trans ((za (by rw [no_kChan];decide)).trans (zb see)))
  have t1:=qak hc h (s:=kSafe) (by decide +kernel)
  rw [show must ts p kSafe=adv p from zb see] at t1
  have h0:=h.s see ht
  have A0:=h0.at_
  have t2:=qka hc (adv p) h0.full
  have a2:=qae ht (adv p) A0
  unfold RdE at t2
  rw [RdM,e2]
  dsimp only
  generalize eF ts (adv p)=y at *
  have A2:=a2.ok A0
  have t3:=fun h':PreC ts ts.length y.2=>qak hc h' (s:=sSemi) (by decide +kernel)
  have a3:=qf ht A2 sSemi
  generalize must ts y.2 sSemi=z at *
  refine qbb (T:=tab Try.prog) (C:={}) 600 (fun _=>rfl) Try.func39 rfl (by kernel_rfl) (by kernel_rfl) (fun c0 rdb mpb=>?_)
  (repeat' ((conv=>whnf);first|refine zA ?_|refine zO ?_|refine Ob.auto ?_|refine zC 600 (hnow1) ?_|refine zG 600 (fun hg=>hnow1) ?_|(refine CallY.con (hnow1) (by rfl) leA ?_)|(refine CallZ.con (fun hg=>hnow1) qz (by rfl) ?_)|(refine qj (fun _=>rfl) 600 (hnow1) qc (by (repeat' (first|exact trivial|exact Le.refl _|(refine And.intro ?_ ?_))) <;> fail) (by rfl) (by kernel_rfl) ?_)|(refine qv (fun _=>rfl) 600 (fun hg=>hnow1) (fun hg=>qc) (fun hg=>(by (repeat' (first|exact trivial|exact Le.refl _|exact Le.cnd hg|(refine And.intro ?_ ?_))) <;> fail)) (by rfl) (by kernel_rfl) ?_)|refine zD 600 ?_|(apply zB <;> intro hb <;> (try simp [-zd] at hb) <;> try (exfalso;omega))|refine Ob.intro ?_ ?_))
  ((conv=>whnf);refine zT 600 [0] (qbq h.at_ 4) qa ?_)
  (repeat' ((conv=>whnf);first|refine zA ?_|refine zO ?_|refine Ob.auto ?_|refine zD 600 ?_|(apply zB <;> intro hb <;> (try simp [-zd] at hb) <;> try (exfalso;omega))|refine Ob.intro ?_ ?_))
  (((conv=>whnf);refine jz frzA ?_);(conv=>whnf);refine qr (fun _=>rfl) 600 [0] (t1) (by kernel_rfl) (by kernel_rfl) ⟨Le.refl _,jj rfl,trivial⟩ qa (by exact qb rfl) (by exact qb rfl) (by kernel_rfl) (fun hk=>by rw [qcq h.err] at hk;cases hk) (fun hok=>?_))
  (repeat' ((conv=>whnf);first|refine zA ?_|refine zO ?_|refine Ob.auto ?_|refine zD 600 ?_|(apply zB <;> intro hb <;> (try simp [-zd] at hb) <;> try (exfalso;omega))|refine Ob.intro ?_ ?_))
  cases hk:(y.2.err == 0) with
  | false=>
   (repeat' ((conv=>whnf);first|refine zA ?_|refine zO ?_|refine Ob.auto ?_|refine zI ?_|refine zD 600 ?_|(refine qh (fun _=>rfl) (by kernel_rfl) 600 ?_)|(apply zB <;> intro hb <;> (try simp [-zd] at hb) <;> try (exfalso;omega))|refine Ob.intro ?_ ?_))
   ((conv=>whnf);refine CallY.mpan 99 [0] (t2) hk (qaa a3 hk) (by kernel_rfl) (by kernel_rfl) leA qa (by exact qb rfl) ?_)
   (repeat' ((conv=>whnf);first|refine zO ?_|refine Ob.auto ?_|refine zI ?_|refine zD 600 ?_|(refine qh (fun _=>rfl) (by kernel_rfl) 600 ?_)|(apply zB <;> intro hb <;> (try simp [-zd] at hb) <;> try (exfalso;omega))|refine Ob.intro ?_ ?_))
   ((conv=>whnf);refine AltG.far 11 [1] (by kernel_rfl) farA (EndG.dead 99 (by rfl)))
  | true=>
   (repeat' ((conv=>whnf);first|refine zA ?_|refine zO ?_|refine Ob.auto ?_|refine zI ?_|refine zD 600 ?_|(refine qh (fun _=>rfl) (by kernel_rfl) 600 ?_)|(apply zB <;> intro hb <;> (try simp [-zd] at hb) <;> try (exfalso;omega))|refine Ob.intro ?_ ?_))
   ((conv=>whnf);refine CallY.trip [0] (t2.trip hk) (by kernel_rfl) leA qa (by exact qb rfl) (by exact qb rfl) ?_)
   (repeat' ((conv=>whnf);first|refine zO ?_|refine Ob.auto ?_|refine zI ?_|refine zD 600 ?_|(refine qh (fun _=>rfl) (by kernel_rfl) 600 ?_)|(apply zB <;> intro hb <;> (try simp [-zd] at hb) <;> try (exfalso;omega))|refine Ob.intro ?_ ?_))
   ((conv=>whnf);refine AltG.far 11 [1] (by kernel_rfl) farA (EndG.go ?_))
   (repeat' ((conv=>whnf);first|refine zA ?_|refine zO ?_|refine Ob.auto ?_|refine zD 600 ?_|(apply zB <;> intro hb <;> (try simp [-zd] at hb) <;> try (exfalso;omega))|refine Ob.intro ?_ ?_))
   have h4:=h0.step a2 hk
   (((conv=>whnf);refine jz frzA ?_);(conv=>whnf);refine qr (fun _=>rfl) 600 [0] (t3 h4) (by kernel_rfl) (by kernel_rfl) ⟨Le.refl _,jj rfl,trivial⟩ qa (by exact qb rfl) (by exact qb rfl) (by kernel_rfl) (fun hk=>⟨hk,rfl⟩) (fun hok=>?_))
   (repeat' ((conv=>whnf);first|refine zA ?_|refine zO ?_|refine Ob.auto ?_|refine zD 600 ?_|(apply zB <;> intro hb <;> (try simp [-zd] at hb) <;> try (exfalso;omega))|refine Ob.intro ?_ ?_))
   exact ⟨hok,Le.rptrL ⟨Le.refl _,Le.nils _ _,Le.nils _ _,Le.refl _,Le.refl _,qqx rfl,trivial⟩,qa⟩
 have q0:¬ (tk ts p).s=qdw:=by assumption
 have q1:¬ (tk ts p).s=kVar:=by assumption
 have q2:¬ (tk ts p).s=qk:=by assumption
 have q3:¬ (tk ts p).s=kSafe:=by assumption
 have n0:sees ts p qdw=false:=by rw [key _ (by decide +kernel)];simpa using q0
 have n1:sees ts p kVar=false:=by rw [key _ (by decide +kernel)];simpa using q1
 have n2:sees ts p qk=false:=by rw [key _ (by decide +kernel)];simpa using q2
 have n3:sees ts p kSafe=false:=by rw [key _ (by decide +kernel)];simpa using q3
 have e2:jg ts p=(.mk 5 [] [] (tk ts p).pos [],must ts (must ts p qgn) sSemi):=(za (by rw [n1];decide)).trans ((za (by rw [n2];decide)).trans ((za (by rw [n0];decide)).trans (za (by rw [n3];decide))))
 have t1:=qak hc h (s:=qgn) (by decide +kernel)
 have a1:=qf ht h.at_ qgn
 rw [RdM,e2]
 dsimp only
 generalize must ts p qgn=p1 at *
 have A1:=a1.ok h.at_
 have t3:=fun h':PreC ts ts.length p1=>qak hc h' (s:=sSemi) (by decide +kernel)
 have a3:=qf ht A1 sSemi
 generalize must ts p1 sSemi=z at *
 refine qbb (T:=tab Try.prog) (C:={}) 600 (fun _=>rfl) Try.func39 rfl (by kernel_rfl) (by kernel_rfl) (fun c0 rdb mpb=>?_)
 (repeat' ((conv=>whnf);first|refine zA ?_|refine zO ?_|refine Ob.auto ?_|refine zC 600 (hnow) ?_|refine zG 600 (fun hg=>hnow) ?_|(refine CallY.con (hnow) (by rfl) leA ?_)|(refine CallZ.con (fun hg=>hnow) qz (by rfl) ?_)|(refine qj (fun _=>rfl) 600 (hnow) qc (by (repeat' (first|exact trivial|exact Le.refl _|(refine And.intro ?_ ?_))) <;> fail) (by rfl) (by kernel_rfl) ?_)|(refine qv (fun _=>rfl) 600 (fun hg=>hnow) (fun hg=>qc) (fun hg=>(by (repeat' (first|exact trivial|exact Le.refl _|exact Le.cnd hg|(refine And.intro ?_ ?_))) <;> fail)) (by rfl) (by kernel_rfl) ?_)|refine zD 600 ?_|(apply zB <;> intro hb <;> (try simp [-zd] at hb) <;> (try (exfalso;omega)) <;> (try contradiction))|refine Ob.intro ?_ ?_))
 ((conv=>whnf);refine zT 600 [0] (qbq h.at_ 5) qa ?_)
 (repeat' ((conv=>whnf);first|refine zA ?_|refine zO ?_|refine Ob.auto ?_|refine zD 600 ?_|(apply zB <;> intro hb <;> (try simp [-zd] at hb) <;> try (exfalso;omega))|refine Ob.intro ?_ ?_))
 (((conv=>whnf);refine jz frzA ?_);(conv=>whnf);refine qr (fun _=>rfl) 600 [0] (t1) (by kernel_rfl) (by kernel_rfl) ⟨Le.refl _,jj rfl,trivial⟩ qa (by exact qb rfl) (by exact qb rfl) (by kernel_rfl) (fun hk=>qaa a3 hk) (fun hok=>?_))
 have h1:=h.step a1 hok
 (repeat' ((conv=>whnf);first|refine zA ?_|refine zO ?_|refine Ob.auto ?_|refine zD 600 ?_|(apply zB <;> intro hb <;> (try simp [-zd] at hb) <;> try (exfalso;omega))|refine Ob.intro ?_ ?_))
 (((conv=>whnf);refine jz frzA ?_);(conv=>whnf);refine qr (fun _=>rfl) 600 [0] (t3 h1) (by kernel_rfl) (by kernel_rfl) ⟨Le.refl _,jj rfl,trivial⟩ qa (by exact qb rfl) (by exact qb rfl) (by kernel_rfl) (fun hk=>⟨hk,rfl⟩) (fun hok=>?_))
 (repeat' ((conv=>whnf);first|refine zA ?_|refine zO ?_|refine Ob.auto ?_|refine zD 600 ?_|(apply zB <;> intro hb <;> (try simp [-zd] at hb) <;> try (exfalso;omega))|refine Ob.intro ?_ ?_))
 exact ⟨hok,Le.rptrL ⟨Le.refl _,Le.nils _ _,Le.nils _ _,Le.refl _,Le.refl _,Le.nils _ _,trivial⟩,qa⟩
theorem jon (hc:TC ts) (h:PreC ts ts.length p) (hd:p.deep=0):RdM ts 21 (jk ts) p:=by
 have ht:=hc.ok
 have h2:=ht.len
 have A0:=h.at_
 rw [RdM,jk]
 dsimp only
 generalize hG:qau ts ts.length [] p=G
 refine qbb (T:=tab Try.prog) (C:={}) 600 (fun _=>rfl) Try.func21 rfl (by kernel_rfl) (by kernel_rfl) (fun c0 rdb mpb=>?_)
 (repeat' ((conv=>whnf);first|refine zA ?_|refine zO ?_|refine Ob.auto ?_|refine zD 600 ?_|(apply zB <;> intro hb <;> (try simp [-zd] at hb) <;> try (exfalso;omega))|refine Ob.intro ?_ ?_))
 ((conv=>whnf);refine zT 600 [0] (qbq h.at_ 0) qa ?_)
 (repeat' ((conv=>whnf);first|refine zA ?_|refine zO ?_|refine Ob.auto ?_|refine zD 600 ?_|(apply zB <;> intro hb <;> (try simp [-zd] at hb) <;> try (exfalso;omega))|refine Ob.intro ?_ ?_))
 refine qjl 1 5 54 1 rfl rfl ?_
 ((conv=>whnf);refine qag (fun _=>rfl) 600 1 (fun _:Nat × List Tr × Ps=>[]) (fun g=>[(2,rowB g.2.1),(1,brO 0 .nils .nils (tk ts p).pos (.own 2 0 0 g.2.1.length)),(0,psc ts g.2.2)]) (fun g=>PreC ts ts.length g.2.2∧g.2.2.deep=0∧qau ts g.1 g.2.1 g.2.2=G∧(ts.length:Int) - g.2.2.at_≤g.1∧g.2.1.length+g.1≤ts.length) (fun g=>g.1) ((ts.length,[],p)) (⟨h,hd,hG,by have:=h.at_.lo;simp only;omega,by simp⟩) qa qa (fun _=>rfl) (by kernel_rfl) ?_;(conv=>whnf))
 rintro ⟨m,l,r⟩ ⟨hP,hd',hj,hkk,hl⟩
 simp only at hP hd' hj hkk hl
 have g1:=hP.at_.hi
 obtain ⟨m,rfl⟩:∃ m',m=m'+1:=⟨m - 1,by omega⟩
 rw [qau] at hj
 (repeat' ((conv=>whnf);first|refine zA ?_|refine zO ?_|refine Ob.auto ?_|refine zC 600 (qw hP.at_) ?_|refine zG 600 (fun hg=>qw hP.at_) ?_|(refine CallY.con (qw hP.at_) (by rfl) leA ?_)|(refine CallZ.con (fun hg=>qw hP.at_) qz (by rfl) ?_)|(refine qj (fun _=>rfl) 600 (qw hP.at_) qc (by (repeat' (first|exact trivial|exact Le.refl _|(refine And.intro ?_ ?_))) <;> fail) (by rfl) (by kernel_rfl) ?_)|(refine qv (fun _=>rfl) 600 (fun hg=>qw hP.at_) (fun hg=>qc) (fun hg=>(by (repeat' (first|exact trivial|exact Le.refl _|exact Le.cnd hg|(refine And.intro ?_ ?_))) <;> fail)) (by rfl) (by kernel_rfl) ?_)|refine zD 600 ?_|(apply zB <;> intro hb <;> (try simp [-zd] at hb) <;> try (exfalso;omega))|refine Ob.intro ?_ ?_))
 ·rw [zb ⟨hP.err,hb⟩] at hj
  have hst:=qnt ht r hP.at_
  have t1:=jom hc hP hd'
  rw [RdM] at t1
  have hgn:=qqi ht r hP.at_
  generalize jg ts r=y at hj hst t1 hgn
  cases hkk2:(y.2.err == 0) with
  | false=>
   have hk:=hkk2
   have hz:y.2.err≠0→G.2.err=y.2.err∧G.2.fat=y.2.fat:=fun he=>by
    rw [← hj]
    cases m with
    | zero=>exact ⟨rfl,rfl⟩
    | succ m=>rw [qau,za (fun h=>he h.1)];exact ⟨rfl,rfl⟩
   (repeat' ((conv=>whnf);first|refine zA ?_|refine zO ?_|refine Ob.auto ?_|refine zI ?_|refine zD 600 ?_|(refine qh (fun _=>rfl) (by kernel_rfl) 600 ?_)|(apply zB <;> intro hb <;> (try simp [-zd] at hb) <;> try (exfalso;omega))|refine Ob.intro ?_ ?_))
   ((conv=>whnf);refine CallY.mpan 99 [0] (t1) hk (qdr hz hk) (by kernel_rfl) (by kernel_rfl) leA qa (by exact qb rfl) ?_)
   (repeat' ((conv=>whnf);first|refine zO ?_|refine Ob.auto ?_|refine zI ?_|refine zD 600 ?_|(refine qh (fun _=>rfl) (by kernel_rfl) 600 ?_)|(apply zB <;> intro hb <;> (try simp [-zd] at hb) <;> try (exfalso;omega))|refine Ob.intro ?_ ?_))
   ((conv=>whnf);refine AltG.far 11 [1] (by kernel_rfl) farA (EndG.dead 99 (by rfl)))
  | true=>
   (repeat' ((conv=>whnf);first|refine zA ?_|refine zO ?_|refine Ob.auto ?_|refine zI ?_|refine zD 600 ?_|(refine qh (fun _=>rfl) (by kernel_rfl) 600 ?_)|(apply zB <;> intro hb <;> (try simp [-zd] at hb) <;> try (exfalso;omega))|refine Ob.intro ?_ ?_))
   ((conv=>whnf);refine CallY.trip [0] (t1.trip hkk2) (by kernel_rfl) leA qa (by exact qb rfl) (by exact qb rfl) ?_)
   (repeat' ((conv=>whnf);first|refine zO ?_|refine Ob.auto ?_|refine zI ?_|refine zD 600 ?_|(refine qh (fun _=>rfl) (by kernel_rfl) 600 ?_)|(apply zB <;> intro hb <;> (try simp [-zd] at hb) <;> try (exfalso;omega))|refine Ob.intro ?_ ?_))
   ((conv=>whnf);refine AltG.far 11 [1] (by kernel_rfl) farA (EndG.go ?_))
   (repeat' ((conv=>whnf);first|refine zA ?_|refine zO ?_|refine Ob.auto ?_|refine zD 600 ?_|(apply zB <;> intro hb <;> (try simp [-zd] at hb) <;> try (exfalso;omega))|refine Ob.intro ?_ ?_))
   have hgn':=hgn (by simpa using hkk2)
   have hdd:=hst.deep
   ((conv=>whnf);refine ⟨(m,l++[y.1],y.2),⟨hP.step hst hkk2,by dsimp only;omega,hj,by dsimp only;omega,by simp;omega⟩,⟨qa,⟨⟨⟨rfl,rfl,rfl⟩,rfl,by simp,qoc rfl rfl⟩,⟨rfl,Le.refl _,Le.refl _,Le.refl _,Le.refl _,Le.refl _,Le.of_eq (congrArg (AV.own _ _ _) (by simp)),trivial⟩,qa⟩⟩,⟨qa,qa⟩,?_⟩;(first|omega|(dsimp only;omega)|skip))
 ·rw [za (fun h=>h.2 hb)] at hj
  subst hj
  exact ⟨by rw [hP.err];rfl,Le.rptrL ⟨Le.refl _,Le.nils _ _,Le.nils _ _,Le.refl _,Le.refl _,Le.refl _,trivial⟩,qa⟩
end
end Go.Proofs.Ythfaleaojlnnoaa
