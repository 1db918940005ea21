/- Contracts of the program's parser: a process, an item, the program. -/
import Derived.Test.YthfaleaojlnnoaaY7PcV
import Derived.Test.YthfaleaojlnnoaaY72
set_option linter.unusedSimpArgs false
set_option linter.unusedVariables false
namespace Go.Proofs.Ythfaleaojlnnoaa
open List renaming getD_eq_getElem?_getD → zd
open Go Go.Sx Go.RowKit Go.St Pa
set_option maxRecDepth 100000
set_option maxHeartbeats 8000000
section
variable {ts:List Lx.Tok} {p q r g:Ps} {n:Nat}
theorem jng (hc:TC ts) (h:PreC ts ts.length p) (hd:p.deep=0) (hs:sees ts p qo=true) (hq:sees ts (qd ts (must ts p qo)) qbl=false):RdM ts 60 (qbu ts) p:=by
 have ht:=hc.ok
 have h2:=ht.len
 have A0:=h.at_
 have t1:=qad hc h (s:=qo) (by decide +kernel)
 have a1:=qe ht A0 qo
 have e0:must ts p qo=adv p:=zb hs
 have k1:((must ts p qo).err == 0)=true:=by rw [e0];exact qbw h.err
 have hF:qbu ts p=(.mk 3 [jn ts (must ts p qo)] [1] (tk ts p).pos (qbg ts (inP ts (must ts (qd ts (must ts p qo)) sLc))).1,outP (qbg ts (inP ts (must ts (qd ts (must ts p qo)) sLc))).2):=by
  unfold qbu
  simp only
  rw [za (by rw [hq];decide),jav ht]
  ·have a2:=jl ht (a1.ok A0)
   have A2:=a2.ok (a1.ok A0)
   have A3:=A2
   exact (qe ht A3 sLc).ok A3
  ·dsimp only
   have a2:=jl ht (a1.ok A0)
   have A2:=a2.ok (a1.ok A0)
   have A3:=A2
   have:=(qe ht A3 sLc).deep
   have:=a1.deep
   have:=a2.deep
   omega
 rw [RdM,hF]
 dsimp only
 generalize must ts p qo=p1 at *
 have A1:=a1.ok A0
 have h1:=h.step a1 k1
 have t2:=qek hc h1
 have a2:=jl ht A1
 generalize qd ts p1=p2 at *
 have A2:=a2.ok A1
 have t3:=fun h':PreC ts ts.length p2=>qfg hc h' (s:=qbl) (by decide +kernel)
 have e3:took ts p2 qbl=p2:=za (by rw [hq];decide)
 have e4:qaf ts p2 qbl=0:=za (by rw [hq];decide)
 have a5:=qe ht A2 sLc
 have A5:=a5.ok A2
 have a6:=jaw ht (jt A5).1
 have di:=(jt A5).2.2.1
 have fi:=(jt A5).2.2.2
 have t5:=fun h':PreC ts ts.length p2=>jan (g:=(qbg ts (inP ts (must ts p2 sLc))).2) hc h' (s:=sLc) (by decide +kernel) 3 (tk ts p).pos [jn ts p1] [1] (qbg ts (inP ts (must ts p2 sLc))).1
  (fun hq he=>jaz hc (hq.inn he) 3 (tk ts p).pos [jn ts p1] [1])
  (fun he=>by rw [qqe he];exact ⟨rfl,rfl⟩)
  (fun _=>by have:=a6.deep;have:=a5.deep;omega)
 have zst:∀ x,Step ts x p2→x.err≠0→(qbg ts (inP ts (must ts p2 sLc))).2.err=x.err∧(qbg ts (inP ts (must ts p2 sLc))).2.fat=x.fat:=fun x hx he=>by
  have e1:=(hx.trans a5).err he
  have e2:=fi (by rw [e1];exact he)
  rw [qqe (by rw [e2.1,e1];exact he),e2.1,e2.2,e1]
  exact ⟨rfl,rfl⟩
 generalize qbg ts (inP ts (must ts p2 sLc))=z at *
 refine qat (T:=tab Try.prog) (C:={}) 600 (fun _=>rfl) Try.func60 rfl (by kernel_rfl) (by kernel_rfl) (fun c0 rdb mpb=>?_)
 (repeat' ((conv=>whnf);first|refine zA ?_|refine zO ?_|refine Ob.auto ?_|refine zD 600 ?_|(apply zB <;> intro hb <;> (try simp [-zd] at hb) <;> try (exfalso;omega))|refine Ob.intro ?_ ?_))
 ((conv=>whnf);refine zT 600 [0] (qbc h.at_ 3) qa ?_)
 (repeat' ((conv=>whnf);first|refine zA ?_|refine zO ?_|refine Ob.auto ?_|refine zD 600 ?_|(apply zB <;> intro hb <;> (try simp [-zd] at hb) <;> try (exfalso;omega))|refine Ob.intro ?_ ?_))
 (((conv=>whnf);refine jr frzA ?_);(conv=>whnf);refine qm (fun _=>rfl) 600 [0] (t1) (by kernel_rfl) (by kernel_rfl) ⟨Le.refl _,jf rfl,trivial⟩ qa (by exact qb rfl) (by exact qb rfl) (by kernel_rfl) (fun hk=>by rw [k1] at hk;cases hk) (fun hok=>?_))
 (repeat' ((conv=>whnf);first|refine zA ?_|refine zO ?_|refine Ob.auto ?_|refine zD 600 ?_|(apply zB <;> intro hb <;> (try simp [-zd] at hb) <;> try (exfalso;omega))|refine Ob.intro ?_ ?_))
 cases hk1:(p2.err == 0) with
 | false=>
  have hk:=hk1
  (repeat' ((conv=>whnf);first|refine zA ?_|refine zO ?_|refine Ob.auto ?_|refine zD 600 ?_|(refine qi (fun _=>rfl) (by kernel_rfl) 600 ?_)|(apply zB <;> intro hb <;> (try simp [-zd] at hb) <;> try (exfalso;omega))|refine Ob.intro ?_ ?_))
  ((conv=>whnf);refine CallY.mpan 99 [0] (t2) hk (qde (zst p2 A2.refl) hk) (by kernel_rfl) (by kernel_rfl) leA qa (by exact qb rfl) ?_)
  (repeat' ((conv=>whnf);first|refine zO ?_|refine Ob.auto ?_|refine zD 600 ?_|(refine qi (fun _=>rfl) (by kernel_rfl) 600 ?_)|(apply zB <;> intro hb <;> (try simp [-zd] at hb) <;> try (exfalso;omega))|refine Ob.intro ?_ ?_))
  ((conv=>whnf);refine AltG.far 9 [3,2,1] (by kernel_rfl) farA (EndG.dead 99 (by rfl)))
 | true=>
  have h3:=h1.step a2 hk1
  (repeat' ((conv=>whnf);first|refine zA ?_|refine zO ?_|refine Ob.auto ?_|refine zD 600 ?_|(refine qi (fun _=>rfl) (by kernel_rfl) 600 ?_)|(apply zB <;> intro hb <;> (try simp [-zd] at hb) <;> try (exfalso;omega))|refine Ob.intro ?_ ?_))
  ((conv=>whnf);refine CallY.trip [0] (t2.trip hk1) (by kernel_rfl) leA qa (by exact qb rfl) (by exact qb rfl) ?_)
  (repeat' ((conv=>whnf);first|refine zO ?_|refine Ob.auto ?_|refine zD 600 ?_|(refine qi (fun _=>rfl) (by kernel_rfl) 600 ?_)|(apply zB <;> intro hb <;> (try simp [-zd] at hb) <;> try (exfalso;omega))|refine Ob.intro ?_ ?_))
  ((conv=>whnf);refine AltG.far 9 [3,2,1] (by kernel_rfl) farA (EndG.go ?_))
  (repeat' ((conv=>whnf);first|refine zA ?_|refine zO ?_|refine Ob.auto ?_|refine zD 600 ?_|(apply zB <;> intro hb <;> (try simp [-zd] at hb) <;> try (exfalso;omega))|refine Ob.intro ?_ ?_))
  ((conv=>whnf);refine zT 600 [0] (t3 h3) qa ?_)
  rw [e3,e4]
  (repeat' ((conv=>whnf);first|refine zA ?_|refine zO ?_|refine Ob.auto ?_|refine zD 600 ?_|(apply zB <;> intro hb <;> (try simp [-zd] at hb) <;> try (exfalso;omega))|refine Ob.intro ?_ ?_))
  have h5:=h3
  ((conv=>whnf);refine qm (fun _=>rfl) 600 [0,1,2,3] (t5 h5) (by kernel_rfl) (by kernel_rfl) leA ⟨SoLe.refl _,SoLe.refl _,⟨rfl,Le.refl _,jf rfl,qht rfl,Le.refl _,Le.refl _,Le.refl _,trivial⟩,SoLe.refl _,trivial⟩ (by exact qb rfl) (by exact qb rfl) (by kernel_rfl) (fun hk=>⟨hk,rfl⟩) (fun hok=>?_))
  (repeat' ((conv=>whnf);first|refine zA ?_|refine zO ?_|refine Ob.auto ?_|refine zD 600 ?_|(apply zB <;> intro hb <;> (try simp [-zd] at hb) <;> try (exfalso;omega))|refine Ob.intro ?_ ?_))
  exact ⟨hok,Le.rptrL ⟨Le.refl _,Le.refl _,Le.refl _,Le.refl _,Le.refl _,Le.refl _,trivial⟩,qa⟩
theorem jnh (hc:TC ts) (h:PreC ts ts.length p) (hd:p.deep=0) (hs:sees ts p qo=true) (hq:sees ts (qd ts (must ts p qo)) qbl=true):RdM ts 60 (qbu ts) p:=by
 have ht:=hc.ok
 have h2:=ht.len
 have A0:=h.at_
 have t1:=qad hc h (s:=qo) (by decide +kernel)
 have a1:=qe ht A0 qo
 have e0:must ts p qo=adv p:=zb hs
 have k1:((must ts p qo).err == 0)=true:=by rw [e0];exact qbw h.err
 have hF:qbu ts p=(.mk 3 [jn ts (must ts p qo)] [numN ts (adv (qd ts (must ts p qo)))] (tk ts p).pos (qbg ts (inP ts (must ts (numP ts (adv (qd ts (must ts p qo)))) sLc))).1,outP (qbg ts (inP ts (must ts (numP ts (adv (qd ts (must ts p qo)))) sLc))).2):=by
  unfold qbu
  simp only
  rw [zb hq,jav ht]
  ·have a2:=jl ht (a1.ok A0)
   have A2:=a2.ok (a1.ok A0)
   have A3:=(qav ht ((qh ht A2 hq).ok A2)).ok ((qh ht A2 hq).ok A2)
   exact (qe ht A3 sLc).ok A3
  ·dsimp only
   have a2:=jl ht (a1.ok A0)
   have A2:=a2.ok (a1.ok A0)
   have a3:=qh ht A2 hq
   have a4:=qav ht (a3.ok A2)
   have A3:=a4.ok (a3.ok A2)
   have:=(qe ht A3 sLc).deep
   have:=a1.deep
   have:=a2.deep
   have:=a3.deep
   have:=a4.deep
   omega
 rw [RdM,hF]
 dsimp only
 generalize must ts p qo=p1 at *
 have A1:=a1.ok A0
 have h1:=h.step a1 k1
 have t2:=qek hc h1
 have a2:=jl ht A1
 generalize qd ts p1=p2 at *
 have A2:=a2.ok A1
 have t3:=fun h':PreC ts ts.length p2=>qfg hc h' (s:=qbl) (by decide +kernel)
 have e3:took ts p2 qbl=adv p2:=zb hq
 have e4:qaf ts p2 qbl=1:=zb hq
 have a3:=qh ht A2 hq
 have A3:=a3.ok A2
 have t4:=fun h':PreC ts ts.length (adv p2)=>qgu hc h'
 have a4:=qav ht A3
 have nb:=qun ht A3
 generalize numP ts (adv p2)=p3 at *
 have A4:=a4.ok A3
 have ab:=a3.trans a4
 have a5:=qe ht A4 sLc
 have A5:=a5.ok A4
 have a6:=jaw ht (jt A5).1
 have di:=(jt A5).2.2.1
 have fi:=(jt A5).2.2.2
 have t5:=fun h':PreC ts ts.length p3=>jan (g:=(qbg ts (inP ts (must ts p3 sLc))).2) hc h' (s:=sLc) (by decide +kernel) 3 (tk ts p).pos [jn ts p1] [numN ts (adv p2)] (qbg ts (inP ts (must ts p3 sLc))).1
  (fun hq he=>jaz hc (hq.inn he) 3 (tk ts p).pos [jn ts p1] [numN ts (adv p2)])
  (fun he=>by rw [qqe he];exact ⟨rfl,rfl⟩)
  (fun _=>by have:=a6.deep;have:=a5.deep;omega)
 have zst:∀ x,Step ts x p3→x.err≠0→(qbg ts (inP ts (must ts p3 sLc))).2.err=x.err∧(qbg ts (inP ts (must ts p3 sLc))).2.fat=x.fat:=fun x hx he=>by
  have e1:=(hx.trans a5).err he
  have e2:=fi (by rw [e1];exact he)
  rw [qqe (by rw [e2.1,e1];exact he),e2.1,e2.2,e1]
  exact ⟨rfl,rfl⟩
 generalize qbg ts (inP ts (must ts p3 sLc))=z at *
 refine qat (T:=tab Try.prog) (C:={}) 600 (fun _=>rfl) Try.func60 rfl (by kernel_rfl) (by kernel_rfl) (fun c0 rdb mpb=>?_)
 (repeat' ((conv=>whnf);first|refine zA ?_|refine zO ?_|refine Ob.auto ?_|refine zD 600 ?_|(apply zB <;> intro hb <;> (try simp [-zd] at hb) <;> try (exfalso;omega))|refine Ob.intro ?_ ?_))
 ((conv=>whnf);refine zT 600 [0] (qbc h.at_ 3) qa ?_)
 (repeat' ((conv=>whnf);first|refine zA ?_|refine zO ?_|refine Ob.auto ?_|refine zD 600 ?_|(apply zB <;> intro hb <;> (try simp [-zd] at hb) <;> try (exfalso;omega))|refine Ob.intro ?_ ?_))
 (((conv=>whnf);refine jr frzA ?_);(conv=>whnf);refine qm (fun _=>rfl) 600 [0] (t1) (by kernel_rfl) (by kernel_rfl) ⟨Le.refl _,jf rfl,trivial⟩ qa (by exact qb rfl) (by exact qb rfl) (by kernel_rfl) (fun hk=>by rw [k1] at hk;cases hk) (fun hok=>?_))
 (repeat' ((conv=>whnf);first|refine zA ?_|refine zO ?_|refine Ob.auto ?_|refine zD 600 ?_|(apply zB <;> intro hb <;> (try simp [-zd] at hb) <;> try (exfalso;omega))|refine Ob.intro ?_ ?_))
 cases hk1:(p2.err == 0) with
 | false=>
  have hk:=hk1
  (repeat' ((conv=>whnf);first|refine zA ?_|refine zO ?_|refine Ob.auto ?_|refine zD 600 ?_|(refine qi (fun _=>rfl) (by kernel_rfl) 600 ?_)|(apply zB <;> intro hb <;> (try simp [-zd] at hb) <;> try (exfalso;omega))|refine Ob.intro ?_ ?_))
  ((conv=>whnf);refine CallY.mpan 99 [0] (t2) hk (qde (zst p2 ab) hk) (by kernel_rfl) (by kernel_rfl) leA qa (by exact qb rfl) ?_)
  (repeat' ((conv=>whnf);first|refine zO ?_|refine Ob.auto ?_|refine zD 600 ?_|(refine qi (fun _=>rfl) (by kernel_rfl) 600 ?_)|(apply zB <;> intro hb <;> (try simp [-zd] at hb) <;> try (exfalso;omega))|refine Ob.intro ?_ ?_))
  ((conv=>whnf);refine AltG.far 9 [3,2,1] (by kernel_rfl) farA (EndG.dead 99 (by rfl)))
 | true=>
  have h3:=h1.step a2 hk1
  (repeat' ((conv=>whnf);first|refine zA ?_|refine zO ?_|refine Ob.auto ?_|refine zD 600 ?_|(refine qi (fun _=>rfl) (by kernel_rfl) 600 ?_)|(apply zB <;> intro hb <;> (try simp [-zd] at hb) <;> try (exfalso;omega))|refine Ob.intro ?_ ?_))
  ((conv=>whnf);refine CallY.trip [0] (t2.trip hk1) (by kernel_rfl) leA qa (by exact qb rfl) (by exact qb rfl) ?_)
  (repeat' ((conv=>whnf);first|refine zO ?_|refine Ob.auto ?_|refine zD 600 ?_|(refine qi (fun _=>rfl) (by kernel_rfl) 600 ?_)|(apply zB <;> intro hb <;> (try simp [-zd] at hb) <;> try (exfalso;omega))|refine Ob.intro ?_ ?_))
  ((conv=>whnf);refine AltG.far 9 [3,2,1] (by kernel_rfl) farA (EndG.go ?_))
  (repeat' ((conv=>whnf);first|refine zA ?_|refine zO ?_|refine Ob.auto ?_|refine zD 600 ?_|(apply zB <;> intro hb <;> (try simp [-zd] at hb) <;> try (exfalso;omega))|refine Ob.intro ?_ ?_))
  ((conv=>whnf);refine zT 600 [0] (t3 h3) qa ?_)
  rw [e3,e4]
  (repeat' ((conv=>whnf);first|refine zA ?_|refine zO ?_|refine Ob.auto ?_|refine zD 600 ?_|(apply zB <;> intro hb <;> (try simp [-zd] at hb) <;> try (exfalso;omega))|refine Ob.intro ?_ ?_))
  have h4:=h3.step a3 (qbw h3.err)
  ((conv=>whnf);refine qm (fun _=>rfl) 600 [0] (t4 h4) (by kernel_rfl) (by kernel_rfl) leA qa (by exact qb rfl) (by exact qb rfl) (by kernel_rfl) (fun hk=>qde (zst p3 A4.refl) hk) (fun hok=>?_))
  have h5:=h4.step a4 hok
  (repeat' ((conv=>whnf);first|refine zA ?_|refine zO ?_|refine Ob.auto ?_|refine zD 600 ?_|(apply zB <;> intro hb <;> (try simp [-zd] at hb) <;> try (exfalso;omega))|refine Ob.intro ?_ ?_))
  ((conv=>whnf);refine qm (fun _=>rfl) 600 [0,1,2,3] (t5 h5) (by kernel_rfl) (by kernel_rfl) leA ⟨SoLe.refl _,SoLe.refl _,⟨rfl,Le.refl _,jf rfl,qht rfl,Le.refl _,Le.refl _,Le.refl _,trivial⟩,SoLe.refl _,trivial⟩ (by exact qb rfl) (by exact qb rfl) (by kernel_rfl) (fun hk=>⟨hk,rfl⟩) (fun hok=>?_))
  (repeat' ((conv=>whnf);first|refine zA ?_|refine zO ?_|refine Ob.auto ?_|refine zD 600 ?_|(apply zB <;> intro hb <;> (try simp [-zd] at hb) <;> try (exfalso;omega))|refine Ob.intro ?_ ?_))
  exact ⟨hok,Le.rptrL ⟨Le.refl _,Le.refl _,Le.refl _,Le.refl _,Le.refl _,Le.refl _,trivial⟩,qa⟩
theorem jni (hc:TC ts) (h:PreC ts ts.length p) (hd:p.deep=0) (hs:sees ts p qo=true):RdM ts 60 (qbu ts) p:=by
 cases hq:sees ts (qd ts (must ts p qo)) qbl with
 | true=>exact jnh hc h hd hs hq
 | false=>exact jng hc h hd hs hq
theorem jnj (hc:TC ts) (h:PreC ts ts.length p) (hd:p.deep=0):RdM ts 39 (qax ts) p:=by
 have ht:=hc.ok
 have h2:=ht.len
 have key:∀ s,kwB s=true→sees ts p s=((tk ts p).s == s):=fun s hs=>qcx hc.kind h.at_ h.err hs
 have hnow:=qr h.at_
 by_cases hw:(tk ts p).s=qfb
 ·have hnow1:Con Try.prog 38 [.rptr (p.cellsC ts)] (.agg [iv (tk ts p).kind,.str qfb,iv (tk ts p).pos]):=by rw [← hw];exact hnow
  have see:sees ts p qfb=true:=by rw [key _ (by decide +kernel),hw];decide
  have no_kVar:sees ts p kVar=false:=by rw [key _ (by decide +kernel),hw];decide
  have no_kProc:sees ts p qo=false:=by rw [key _ (by decide +kernel),hw];decide
  have t1:=jlu hc h see no_kVar no_kProc
  rw [RdM] at t1 ⊢
  generalize qax ts p=z at *
  refine qat (T:=tab Try.prog) (C:={}) 600 (fun _=>rfl) Try.func39 rfl (by kernel_rfl) (by kernel_rfl) (fun c0 rdb mpb=>?_)
  (repeat' ((conv=>whnf);first|refine zA ?_|refine zO ?_|refine Ob.auto ?_|refine zC 600 (hnow1) ?_|refine zG 600 (fun hg=>hnow1) ?_|(refine CallY.con (hnow1) (by rfl) leA ?_)|(refine CallZ.con (fun hg=>hnow1) qn (by rfl) ?_)|(refine ql (fun _=>rfl) 600 (hnow1) qc (by (repeat' (first|exact trivial|exact Le.refl _|(refine And.intro ?_ ?_))) <;> fail) (by rfl) (by kernel_rfl) ?_)|(refine qp (fun _=>rfl) 600 (fun hg=>hnow1) (fun hg=>qc) (fun hg=>(by (repeat' (first|exact trivial|exact Le.refl _|exact Le.cnd hg|(refine And.intro ?_ ?_))) <;> fail)) (by rfl) (by kernel_rfl) ?_)|refine zD 600 ?_|(apply zB <;> intro hb <;> (try simp [-zd] at hb) <;> try (exfalso;omega))|refine Ob.intro ?_ ?_))
  ((conv=>whnf);refine qm (fun _=>rfl) 600 [0] (t1) (by kernel_rfl) (by kernel_rfl) leA qa (by exact qb rfl) (by exact qb rfl) (by kernel_rfl) (fun hk=>⟨hk,rfl⟩) (fun hok=>?_))
  (repeat' ((conv=>whnf);first|refine zA ?_|refine zO ?_|refine Ob.auto ?_|refine zD 600 ?_|(apply zB <;> intro hb <;> (try simp [-zd] at hb) <;> try (exfalso;omega))|refine Ob.intro ?_ ?_))
  exact ⟨hok,Le.refl _,qa⟩
 by_cases hw:(tk ts p).s=kVar
 ·have hnow1:Con Try.prog 38 [.rptr (p.cellsC ts)] (.agg [iv (tk ts p).kind,.str kVar,iv (tk ts p).pos]):=by rw [← hw];exact hnow
  have see:sees ts p kVar=true:=by rw [key _ (by decide +kernel),hw];decide
  have e2:qax ts p=qah ts p:=zb see
  have t1:=jak hc h
  rw [RdM] at t1 ⊢
  rw [e2]
  generalize qah ts p=z at *
  refine qat (T:=tab Try.prog) (C:={}) 600 (fun _=>rfl) Try.func39 rfl (by kernel_rfl) (by kernel_rfl) (fun c0 rdb mpb=>?_)
  (repeat' ((conv=>whnf);first|refine zA ?_|refine zO ?_|refine Ob.auto ?_|refine zC 600 (hnow1) ?_|refine zG 600 (fun hg=>hnow1) ?_|(refine CallY.con (hnow1) (by rfl) leA ?_)|(refine CallZ.con (fun hg=>hnow1) qn (by rfl) ?_)|(refine ql (fun _=>rfl) 600 (hnow1) qc (by (repeat' (first|exact trivial|exact Le.refl _|(refine And.intro ?_ ?_))) <;> fail) (by rfl) (by kernel_rfl) ?_)|(refine qp (fun _=>rfl) 600 (fun hg=>hnow1) (fun hg=>qc) (fun hg=>(by (repeat' (first|exact trivial|exact Le.refl _|exact Le.cnd hg|(refine And.intro ?_ ?_))) <;> fail)) (by rfl) (by kernel_rfl) ?_)|refine zD 600 ?_|(apply zB <;> intro hb <;> (try simp [-zd] at hb) <;> try (exfalso;omega))|refine Ob.intro ?_ ?_))
  ((conv=>whnf);refine qm (fun _=>rfl) 600 [0] (t1) (by kernel_rfl) (by kernel_rfl) leA qa (by exact qb rfl) (by exact qb rfl) (by kernel_rfl) (fun hk=>⟨hk,rfl⟩) (fun hok=>?_))
  (repeat' ((conv=>whnf);first|refine zA ?_|refine zO ?_|refine Ob.auto ?_|refine zD 600 ?_|(apply zB <;> intro hb <;> (try simp [-zd] at hb) <;> try (exfalso;omega))|refine Ob.intro ?_ ?_))
  exact ⟨hok,Le.refl _,qa⟩
 by_cases hw:(tk ts p).s=qo
 ·have hnow1:Con Try.prog 38 [.rptr (p.cellsC ts)] (.agg [iv (tk ts p).kind,.str qo,iv (tk ts p).pos]):=by rw [← hw];exact hnow
  have see:sees ts p qo=true:=by rw [key _ (by decide +kernel),hw];decide
  have no_kVar:sees ts p kVar=false:=by rw [key _ (by decide +kernel),hw];decide
  have e2:qax ts p=qbu ts p:=(za (by rw [no_kVar];decide)).trans (zb see)
  have t1:=jni hc h hd see
  rw [RdM] at t1 ⊢
  rw [e2]
  generalize qbu ts p=z at *
  refine qat (T:=tab Try.prog) (C:={}) 600 (fun _=>rfl) Try.func39 rfl (by kernel_rfl) (by kernel_rfl) (fun c0 rdb mpb=>?_)
  (repeat' ((conv=>whnf);first|refine zA ?_|refine zO ?_|refine Ob.auto ?_|refine zC 600 (hnow1) ?_|refine zG 600 (fun hg=>hnow1) ?_|(refine CallY.con (hnow1) (by rfl) leA ?_)|(refine CallZ.con (fun hg=>hnow1) qn (by rfl) ?_)|(refine ql (fun _=>rfl) 600 (hnow1) qc (by (repeat' (first|exact trivial|exact Le.refl _|(refine And.intro ?_ ?_))) <;> fail) (by rfl) (by kernel_rfl) ?_)|(refine qp (fun _=>rfl) 600 (fun hg=>hnow1) (fun hg=>qc) (fun hg=>(by (repeat' (first|exact trivial|exact Le.refl _|exact Le.cnd hg|(refine And.intro ?_ ?_))) <;> fail)) (by rfl) (by kernel_rfl) ?_)|refine zD 600 ?_|(apply zB <;> intro hb <;> (try simp [-zd] at hb) <;> try (exfalso;omega))|refine Ob.intro ?_ ?_))
  ((conv=>whnf);refine qm (fun _=>rfl) 600 [0] (t1) (by kernel_rfl) (by kernel_rfl) leA qa (by exact qb rfl) (by exact qb rfl) (by kernel_rfl) (fun hk=>⟨hk,rfl⟩) (fun hok=>?_))
  (repeat' ((conv=>whnf);first|refine zA ?_|refine zO ?_|refine Ob.auto ?_|refine zD 600 ?_|(apply zB <;> intro hb <;> (try simp [-zd] at hb) <;> try (exfalso;omega))|refine Ob.intro ?_ ?_))
  exact ⟨hok,Le.refl _,qa⟩
 by_cases hw:(tk ts p).s=qho
 ·have hnow1:Con Try.prog 38 [.rptr (p.cellsC ts)] (.agg [iv (tk ts p).kind,.str qho,iv (tk ts p).pos]):=by rw [← hw];exact hnow
  have see:sees ts p qho=true:=by rw [key _ (by decide +kernel),hw];decide
  have no_kVar:sees ts p kVar=false:=by rw [key _ (by decide +kernel),hw];decide
  have no_kProc:sees ts p qo=false:=by rw [key _ (by decide +kernel),hw];decide
  have no_kChan:sees ts p qfb=false:=by rw [key _ (by decide +kernel),hw];decide
  have e2:qax ts p=(.mk 4 [] [] (tk ts p).pos [(eF ts (adv p)).1],must ts (eF ts (adv p)).2 qj):=(za (by rw [no_kVar];decide)).trans ((za (by rw [no_kProc];decide)).trans ((za (by rw [no_kChan];decide)).trans (zb see)))
  have t1:=qad hc h (s:=qho) (by decide +kernel)
  rw [show must ts p qho=adv p from zb see] at t1
  have h0:=h.s see ht
  have A0:=h0.at_
  have t2:=qjh hc (adv p) h0.full
  have a2:=qas ht (adv p) A0
  unfold RdE at t2
  rw [RdM,e2]
  dsimp only
  generalize eF ts (adv p)=y at *
  have A2:=a2.ok A0
  have t3:=fun h':PreC ts ts.length y.2=>qad hc h' (s:=qj) (by decide +kernel)
  have a3:=qe ht A2 qj
  generalize must ts y.2 qj=z at *
  refine qat (T:=tab Try.prog) (C:={}) 600 (fun _=>rfl) Try.func39 rfl (by kernel_rfl) (by kernel_rfl) (fun c0 rdb mpb=>?_)
  (repeat' ((conv=>whnf);first|refine zA ?_|refine zO ?_|refine Ob.auto ?_|refine zC 600 (hnow1) ?_|refine zG 600 (fun hg=>hnow1) ?_|(refine CallY.con (hnow1) (by rfl) leA ?_)|(refine CallZ.con (fun hg=>hnow1) qn (by rfl) ?_)|(refine ql (fun _=>rfl) 600 (hnow1) qc (by (repeat' (first|exact trivial|exact Le.refl _|(refine And.intro ?_ ?_))) <;> fail) (by rfl) (by kernel_rfl) ?_)|(refine qp (fun _=>rfl) 600 (fun hg=>hnow1) (fun hg=>qc) (fun hg=>(by (repeat' (first|exact trivial|exact Le.refl _|exact Le.cnd hg|(refine And.intro ?_ ?_))) <;> fail)) (by rfl) (by kernel_rfl) ?_)|refine zD 600 ?_|(apply zB <;> intro hb <;> (try simp [-zd] at hb) <;> try (exfalso;omega))|refine Ob.intro ?_ ?_))
  ((conv=>whnf);refine zT 600 [0] (qbc h.at_ 4) qa ?_)
  (repeat' ((conv=>whnf);first|refine zA ?_|refine zO ?_|refine Ob.auto ?_|refine zD 600 ?_|(apply zB <;> intro hb <;> (try simp [-zd] at hb) <;> try (exfalso;omega))|refine Ob.intro ?_ ?_))
  (((conv=>whnf);refine jr frzA ?_);(conv=>whnf);refine qm (fun _=>rfl) 600 [0] (t1) (by kernel_rfl) (by kernel_rfl) ⟨Le.refl _,jf rfl,trivial⟩ qa (by exact qb rfl) (by exact qb rfl) (by kernel_rfl) (fun hk=>by rw [qbw h.err] at hk;cases hk) (fun hok=>?_))
  (repeat' ((conv=>whnf);first|refine zA ?_|refine zO ?_|refine Ob.auto ?_|refine zD 600 ?_|(apply zB <;> intro hb <;> (try simp [-zd] at hb) <;> try (exfalso;omega))|refine Ob.intro ?_ ?_))
  cases hk:(y.2.err == 0) with
  | false=>
   (repeat' ((conv=>whnf);first|refine zA ?_|refine zO ?_|refine Ob.auto ?_|refine zI ?_|refine zD 600 ?_|(refine qi (fun _=>rfl) (by kernel_rfl) 600 ?_)|(apply zB <;> intro hb <;> (try simp [-zd] at hb) <;> try (exfalso;omega))|refine Ob.intro ?_ ?_))
   ((conv=>whnf);refine CallY.mpan 99 [0] (t2) hk (js a3 hk) (by kernel_rfl) (by kernel_rfl) leA qa (by exact qb rfl) ?_)
   (repeat' ((conv=>whnf);first|refine zO ?_|refine Ob.auto ?_|refine zI ?_|refine zD 600 ?_|(refine qi (fun _=>rfl) (by kernel_rfl) 600 ?_)|(apply zB <;> intro hb <;> (try simp [-zd] at hb) <;> try (exfalso;omega))|refine Ob.intro ?_ ?_))
   ((conv=>whnf);refine AltG.far 11 [1] (by kernel_rfl) farA (EndG.dead 99 (by rfl)))
  | true=>
   (repeat' ((conv=>whnf);first|refine zA ?_|refine zO ?_|refine Ob.auto ?_|refine zI ?_|refine zD 600 ?_|(refine qi (fun _=>rfl) (by kernel_rfl) 600 ?_)|(apply zB <;> intro hb <;> (try simp [-zd] at hb) <;> try (exfalso;omega))|refine Ob.intro ?_ ?_))
   ((conv=>whnf);refine CallY.trip [0] (t2.trip hk) (by kernel_rfl) leA qa (by exact qb rfl) (by exact qb rfl) ?_)
   (repeat' ((conv=>whnf);first|refine zO ?_|refine Ob.auto ?_|refine zI ?_|refine zD 600 ?_|(refine qi (fun _=>rfl) (by kernel_rfl) 600 ?_)|(apply zB <;> intro hb <;> (try simp [-zd] at hb) <;> try (exfalso;omega))|refine Ob.intro ?_ ?_))
   ((conv=>whnf);refine AltG.far 11 [1] (by kernel_rfl) farA (EndG.go ?_))
   (repeat' ((conv=>whnf);first|refine zA ?_|refine zO ?_|refine Ob.auto ?_|refine zD 600 ?_|(apply zB <;> intro hb <;> (try simp [-zd] at hb) <;> try (exfalso;omega))|refine Ob.intro ?_ ?_))
   have h4:=h0.step a2 hk
   (((conv=>whnf);refine jr frzA ?_);(conv=>whnf);refine qm (fun _=>rfl) 600 [0] (t3 h4) (by kernel_rfl) (by kernel_rfl) ⟨Le.refl _,jf rfl,trivial⟩ qa (by exact qb rfl) (by exact qb rfl) (by kernel_rfl) (fun hk=>⟨hk,rfl⟩) (fun hok=>?_))
   (repeat' ((conv=>whnf);first|refine zA ?_|refine zO ?_|refine Ob.auto ?_|refine zD 600 ?_|(apply zB <;> intro hb <;> (try simp [-zd] at hb) <;> try (exfalso;omega))|refine Ob.intro ?_ ?_))
   exact ⟨hok,Le.rptrL ⟨Le.refl _,Le.nils _ _,Le.nils _ _,Le.refl _,Le.refl _,qqb rfl,trivial⟩,qa⟩
 have q0:¬ (tk ts p).s=qfb:=by assumption
 have q1:¬ (tk ts p).s=kVar:=by assumption
 have q2:¬ (tk ts p).s=qo:=by assumption
 have q3:¬ (tk ts p).s=qho:=by assumption
 have n0:sees ts p qfb=false:=by rw [key _ (by decide +kernel)];simpa using q0
 have n1:sees ts p kVar=false:=by rw [key _ (by decide +kernel)];simpa using q1
 have n2:sees ts p qo=false:=by rw [key _ (by decide +kernel)];simpa using q2
 have n3:sees ts p qho=false:=by rw [key _ (by decide +kernel)];simpa using q3
 have e2:qax ts p=(.mk 5 [] [] (tk ts p).pos [],must ts (must ts p qiy) qj):=(za (by rw [n1];decide)).trans ((za (by rw [n2];decide)).trans ((za (by rw [n0];decide)).trans (za (by rw [n3];decide))))
 have t1:=qad hc h (s:=qiy) (by decide +kernel)
 have a1:=qe ht h.at_ qiy
 rw [RdM,e2]
 dsimp only
 generalize must ts p qiy=p1 at *
 have A1:=a1.ok h.at_
 have t3:=fun h':PreC ts ts.length p1=>qad hc h' (s:=qj) (by decide +kernel)
 have a3:=qe ht A1 qj
 generalize must ts p1 qj=z at *
 refine qat (T:=tab Try.prog) (C:={}) 600 (fun _=>rfl) Try.func39 rfl (by kernel_rfl) (by kernel_rfl) (fun c0 rdb mpb=>?_)
 (repeat' ((conv=>whnf);first|refine zA ?_|refine zO ?_|refine Ob.auto ?_|refine zC 600 (hnow) ?_|refine zG 600 (fun hg=>hnow) ?_|(refine CallY.con (hnow) (by rfl) leA ?_)|(refine CallZ.con (fun hg=>hnow) qn (by rfl) ?_)|(refine ql (fun _=>rfl) 600 (hnow) qc (by (repeat' (first|exact trivial|exact Le.refl _|(refine And.intro ?_ ?_))) <;> fail) (by rfl) (by kernel_rfl) ?_)|(refine qp (fun _=>rfl) 600 (fun hg=>hnow) (fun hg=>qc) (fun hg=>(by (repeat' (first|exact trivial|exact Le.refl _|exact Le.cnd hg|(refine And.intro ?_ ?_))) <;> fail)) (by rfl) (by kernel_rfl) ?_)|refine zD 600 ?_|(apply zB <;> intro hb <;> (try simp [-zd] at hb) <;> (try (exfalso;omega)) <;> (try contradiction))|refine Ob.intro ?_ ?_))
 ((conv=>whnf);refine zT 600 [0] (qbc h.at_ 5) qa ?_)
 (repeat' ((conv=>whnf);first|refine zA ?_|refine zO ?_|refine Ob.auto ?_|refine zD 600 ?_|(apply zB <;> intro hb <;> (try simp [-zd] at hb) <;> try (exfalso;omega))|refine Ob.intro ?_ ?_))
 (((conv=>whnf);refine jr frzA ?_);(conv=>whnf);refine qm (fun _=>rfl) 600 [0] (t1) (by kernel_rfl) (by kernel_rfl) ⟨Le.refl _,jf rfl,trivial⟩ qa (by exact qb rfl) (by exact qb rfl) (by kernel_rfl) (fun hk=>js a3 hk) (fun hok=>?_))
 have h1:=h.step a1 hok
 (repeat' ((conv=>whnf);first|refine zA ?_|refine zO ?_|refine Ob.auto ?_|refine zD 600 ?_|(apply zB <;> intro hb <;> (try simp [-zd] at hb) <;> try (exfalso;omega))|refine Ob.intro ?_ ?_))
 (((conv=>whnf);refine jr frzA ?_);(conv=>whnf);refine qm (fun _=>rfl) 600 [0] (t3 h1) (by kernel_rfl) (by kernel_rfl) ⟨Le.refl _,jf rfl,trivial⟩ qa (by exact qb rfl) (by exact qb rfl) (by kernel_rfl) (fun hk=>⟨hk,rfl⟩) (fun hok=>?_))
 (repeat' ((conv=>whnf);first|refine zA ?_|refine zO ?_|refine Ob.auto ?_|refine zD 600 ?_|(apply zB <;> intro hb <;> (try simp [-zd] at hb) <;> try (exfalso;omega))|refine Ob.intro ?_ ?_))
 exact ⟨hok,Le.rptrL ⟨Le.refl _,Le.nils _ _,Le.nils _ _,Le.refl _,Le.refl _,Le.nils _ _,trivial⟩,qa⟩
theorem jnk (hc:TC ts) (h:PreC ts ts.length p) (hd:p.deep=0):RdM ts 21 (qaj ts) p:=by
 have ht:=hc.ok
 have h2:=ht.len
 have A0:=h.at_
 rw [RdM,qaj]
 dsimp only
 generalize hG:qcp ts ts.length [] p=G
 refine qat (T:=tab Try.prog) (C:={}) 600 (fun _=>rfl) Try.func21 rfl (by kernel_rfl) (by kernel_rfl) (fun c0 rdb mpb=>?_)
 (repeat' ((conv=>whnf);first|refine zA ?_|refine zO ?_|refine Ob.auto ?_|refine zD 600 ?_|(apply zB <;> intro hb <;> (try simp [-zd] at hb) <;> try (exfalso;omega))|refine Ob.intro ?_ ?_))
 ((conv=>whnf);refine zT 600 [0] (qbc h.at_ 0) qa ?_)
 (repeat' ((conv=>whnf);first|refine zA ?_|refine zO ?_|refine Ob.auto ?_|refine zD 600 ?_|(apply zB <;> intro hb <;> (try simp [-zd] at hb) <;> try (exfalso;omega))|refine Ob.intro ?_ ?_))
 refine qsx 1 5 54 1 rfl rfl ?_
 ((conv=>whnf);refine qbb (fun _=>rfl) 600 1 (fun _:Nat × List Tr × Ps=>[]) (fun g=>[(2,rowB g.2.1),(1,brO 0 .nils .nils (tk ts p).pos (.own 2 0 0 g.2.1.length)),(0,psc ts g.2.2)]) (fun g=>PreC ts ts.length g.2.2∧g.2.2.deep=0∧qcp ts g.1 g.2.1 g.2.2=G∧(ts.length:Int) - g.2.2.at_≤g.1∧g.2.1.length+g.1≤ts.length) (fun g=>g.1) ((ts.length,[],p)) (⟨h,hd,hG,by have:=h.at_.lo;simp only;omega,by simp⟩) qa qa (fun _=>rfl) (by kernel_rfl) ?_;(conv=>whnf))
 rintro ⟨m,l,r⟩ ⟨hP,hd',hj,hkk,hl⟩
 simp only at hP hd' hj hkk hl
 have g1:=hP.at_.hi
 obtain ⟨m,rfl⟩:∃ m',m=m'+1:=⟨m - 1,by omega⟩
 rw [qcp] at hj
 (repeat' ((conv=>whnf);first|refine zA ?_|refine zO ?_|refine Ob.auto ?_|refine zC 600 (qr hP.at_) ?_|refine zG 600 (fun hg=>qr hP.at_) ?_|(refine CallY.con (qr hP.at_) (by rfl) leA ?_)|(refine CallZ.con (fun hg=>qr hP.at_) qn (by rfl) ?_)|(refine ql (fun _=>rfl) 600 (qr hP.at_) qc (by (repeat' (first|exact trivial|exact Le.refl _|(refine And.intro ?_ ?_))) <;> fail) (by rfl) (by kernel_rfl) ?_)|(refine qp (fun _=>rfl) 600 (fun hg=>qr hP.at_) (fun hg=>qc) (fun hg=>(by (repeat' (first|exact trivial|exact Le.refl _|exact Le.cnd hg|(refine And.intro ?_ ?_))) <;> fail)) (by rfl) (by kernel_rfl) ?_)|refine zD 600 ?_|(apply zB <;> intro hb <;> (try simp [-zd] at hb) <;> try (exfalso;omega))|refine Ob.intro ?_ ?_))
 ·rw [zb ⟨hP.err,hb⟩] at hj
  have hst:=qpp ht r hP.at_
  have t1:=jnj hc hP hd'
  rw [RdM] at t1
  have hgn:=qtt ht r hP.at_
  generalize qax ts r=y at hj hst t1 hgn
  cases hkk2:(y.2.err == 0) with
  | false=>
   have hk:=hkk2
   have hz:y.2.err≠0→G.2.err=y.2.err∧G.2.fat=y.2.fat:=fun he=>by
    rw [← hj]
    cases m with
    | zero=>exact ⟨rfl,rfl⟩
    | succ m=>rw [qcp,za (fun h=>he h.1)];exact ⟨rfl,rfl⟩
   (repeat' ((conv=>whnf);first|refine zA ?_|refine zO ?_|refine Ob.auto ?_|refine zI ?_|refine zD 600 ?_|(refine qi (fun _=>rfl) (by kernel_rfl) 600 ?_)|(apply zB <;> intro hb <;> (try simp [-zd] at hb) <;> try (exfalso;omega))|refine Ob.intro ?_ ?_))
   ((conv=>whnf);refine CallY.mpan 99 [0] (t1) hk (qde hz hk) (by kernel_rfl) (by kernel_rfl) leA qa (by exact qb rfl) ?_)
   (repeat' ((conv=>whnf);first|refine zO ?_|refine Ob.auto ?_|refine zI ?_|refine zD 600 ?_|(refine qi (fun _=>rfl) (by kernel_rfl) 600 ?_)|(apply zB <;> intro hb <;> (try simp [-zd] at hb) <;> try (exfalso;omega))|refine Ob.intro ?_ ?_))
   ((conv=>whnf);refine AltG.far 11 [1] (by kernel_rfl) farA (EndG.dead 99 (by rfl)))
  | true=>
   (repeat' ((conv=>whnf);first|refine zA ?_|refine zO ?_|refine Ob.auto ?_|refine zI ?_|refine zD 600 ?_|(refine qi (fun _=>rfl) (by kernel_rfl) 600 ?_)|(apply zB <;> intro hb <;> (try simp [-zd] at hb) <;> try (exfalso;omega))|refine Ob.intro ?_ ?_))
   ((conv=>whnf);refine CallY.trip [0] (t1.trip hkk2) (by kernel_rfl) leA qa (by exact qb rfl) (by exact qb rfl) ?_)
   (repeat' ((conv=>whnf);first|refine zO ?_|refine Ob.auto ?_|refine zI ?_|refine zD 600 ?_|(refine qi (fun _=>rfl) (by kernel_rfl) 600 ?_)|(apply zB <;> intro hb <;> (try simp [-zd] at hb) <;> try (exfalso;omega))|refine Ob.intro ?_ ?_))
   ((conv=>whnf);refine AltG.far 11 [1] (by kernel_rfl) farA (EndG.go ?_))
   (repeat' ((conv=>whnf);first|refine zA ?_|refine zO ?_|refine Ob.auto ?_|refine zD 600 ?_|(apply zB <;> intro hb <;> (try simp [-zd] at hb) <;> try (exfalso;omega))|refine Ob.intro ?_ ?_))
   have hgn':=hgn (by simpa using hkk2)
   have hdd:=hst.deep
   ((conv=>whnf);refine ⟨(m,l++[y.1],y.2),⟨hP.step hst hkk2,by dsimp only;omega,hj,by dsimp only;omega,by simp;omega⟩,⟨qa,⟨⟨⟨rfl,rfl,rfl⟩,rfl,by simp,qnl rfl rfl⟩,⟨rfl,Le.refl _,Le.refl _,Le.refl _,Le.refl _,Le.refl _,Le.of_eq (congrArg (AV.own _ _ _) (by simp)),trivial⟩,qa⟩⟩,⟨qa,qa⟩,?_⟩;(first|omega|(dsimp only;omega)|skip))
 ·rw [za (fun h=>h.2 hb)] at hj
  subst hj
  exact ⟨by rw [hP.err];rfl,Le.rptrL ⟨Le.refl _,Le.nils _ _,Le.nils _ _,Le.refl _,Le.refl _,Le.refl _,trivial⟩,qa⟩
end
end Go.Proofs.Ythfaleaojlnnoaa
