/- Some texts of the library, one behind the other. -/
import Derived.Test.YthfaleaojlnnoaaY57
import Derived.Test.YthfaleaojlnnoaaY55
import Derived.Test.YthfaleaojlnnoaaY52
set_option linter.unusedSimpArgs false
set_option linter.unusedVariables false
section
namespace Go.Proofs.Ythfaleaojlnnoaa
open List renaming getD_eq_getElem?_getD → zd
open Go Go.Sx Go.RowKit Go.St Pa
set_option maxRecDepth 100000
set_option maxHeartbeats 4000000
section
variable {ts:List Lx.Tok} {p q:Ps} {n:Nat}
theorem qad {f:Nat→List AV} {v:Int} (h:f 0=[iv v]):Le (.slc 1 1 f) (ints [v]):=Le.slc rfl (fun i hi=>by obtain rfl:i=0:=(by omega);exact h)
theorem qas {f:Nat→List AV} {v:List UInt8} (h:f 0=[.str v]):Le (.slc 1 1 f) (strs [v]):=Le.slc rfl (fun i hi=>by obtain rfl:i=0:=(by omega);exact h)
theorem qba {f:Nat→List AV} {v w:Int} (h:f 0=[iv v]) (h':f 1=[iv w]):Le (.slc 1 2 f) (ints [v,w]):=Le.slc rfl (fun i hi=>by
 rcases (by omega:i=0∨i=1) with rfl|rfl
 ·exact h
 ·exact h')
theorem qbb {f:Nat→List AV} {v w:List UInt8} (h:f 0=[.str v]) (h':f 1=[.str w]):Le (.slc 1 2 f) (strs [v,w]):=Le.slc rfl (fun i hi=>by
 rcases (by omega:i=0∨i=1) with rfl|rfl
 ·exact h
 ·exact h')
theorem qbc {f:Nat→List AV} {a:Tr} (h:f 0=a.cells):Le (.slc 6 1 f) (qma [a]):=Le.slc rfl (fun i hi=>by
 obtain rfl:i=0:=(by omega)
 exact h.trans (Tr.cellsL_get [a] 0 (zao _)).symm)
theorem qbd {f:Nat→List AV} {a b:Tr} (h:f 0=a.cells) (h':f 1=b.cells):Le (.slc 6 2 f) (qma [a,b]):=Le.slc rfl (fun i hi=>by
 rcases (by omega:i=0∨i=1) with rfl|rfl
 ·exact h.trans (Tr.cellsL_get [a,b] 0 (zao _)).symm
 ·exact h'.trans (Tr.cellsL_get [a,b] 1 (zan _)).symm)
theorem qbe {f:Nat→List AV} {a b c:Tr} (h:f 0=a.cells) (h':f 1=b.cells) (h'':f 2=c.cells):Le (.slc 6 3 f) (qma [a,b,c]):=Le.slc rfl (fun i hi=>by
 rcases (by omega:i=0∨i=1∨i=2) with rfl|rfl|rfl
 ·exact h.trans (Tr.cellsL_get [a,b,c] 0 (zao _)).symm
 ·exact h'.trans (Tr.cellsL_get [a,b,c] 1 (Nat.succ_lt_succ (zao _))).symm
 ·exact h''.trans (Tr.cellsL_get [a,b,c] 2 (zan _)).symm)
theorem jmz (ht:ToksOk ts):∀ n q,Pre ts n q→RdT ts 114 (qr ts n) q:=by
 intro n
 induction n with
 | zero=>intro p h;have:=h.left;have:=h.at_.hi;omega
 | succ n ih=>
  intro p h
  have h0:=h.at_.lo
  have h1:=h.at_.hi
  have h2:=ht.len
  have h3:=h.deep
  have h4:=h.left
  refine zM {} 600 Try.func114 (fun c0 rdb mpb=>?_)
  (repeat' ((conv=>whnf);first|refine Ob.auto ?_|(refine qm (fun _=>rfl) 600 (qkj h.at_ _) qe (by (repeat' (first|exact trivial|exact Le.refl _|(refine And.intro ?_ ?_))) <;> fail) (by rfl) (by kernel_rfl) ?_)|(refine qm (fun _=>rfl) 600 (qge) qe (by (repeat' (first|exact trivial|exact Le.refl _|(refine And.intro ?_ ?_))) <;> fail) (by rfl) (by kernel_rfl) ?_)|(refine qx (fun _=>rfl) 600 (fun hg=>qkh h.at_) (fun hg=>qe) (fun hg=>(by (repeat' (first|exact trivial|exact Le.refl _|exact Le.cnd hg|(refine And.intro ?_ ?_))) <;> fail)) (by rfl) (by kernel_rfl) ?_)|(apply zB <;> intro hb <;> (try simp [-zd] at hb) <;> try (exfalso;omega))))
  ·have e1:qr ts (n+1) p=(.mk 17 [] [numN ts p] (tk ts p).pos [],numP ts p):=zf hb
   rw [e1]
   (repeat' ((conv=>whnf);first|(refine qk (fun _=>rfl) (by kernel_rfl) 600 ?_)|fail))
   ((conv=>whnf);refine CallY.trip [0] (qki ht h.at_) (by kernel_rfl) leA qa (by exact qb rfl) (by exact qb rfl) ?_)
   (repeat' ((conv=>whnf);first|refine Ob.auto ?_|fail))
   ((conv=>whnf);refine AltG.far 9 [2] (by kernel_rfl) farA (EndG.go ?_))
   (repeat' ((conv=>whnf);first|refine Ob.auto ?_|fail))
   (refine ⟨Le.agg ⟨Le.refl _,?_,?_,Le.refl _,Le.refl _,?_,trivial⟩,qa⟩ <;> first|exact Le.nils _ _|exact Le.refl _|exact qad rfl|exact qas rfl|exact qbc rfl|exact qba rfl rfl|exact qbb rfl rfl|exact qbd rfl rfl|exact qbe rfl rfl rfl|exact qbf (fun _ _=>rfl))
  have hn1:¬ (p.err=0∧(tk ts p).kind=1):=fun h=>hb h.1 h.2
  ((conv=>whnf);refine zT 600 [0] (qbp ht h.at_ kLen) qa ?_)
  (repeat' ((conv=>whnf);first|(apply zB <;> intro hb <;> (try simp [-zd] at hb) <;> try (exfalso;omega))))
  ·have e1:took ts p kLen=adv p:=zf hb
   have e2:qr ts (n+1) p=(.mk 19 [qz ts (adv p)] [] (tk ts p).pos [],qc ts (adv p)):=(ze hn1).trans (zf hb)
   have hP':=h.step (qf ht h.at_ hb)
   rw [e1,e2]
   (repeat' ((conv=>whnf);first|(refine qk (fun _=>rfl) (by kernel_rfl) 600 ?_)|fail))
   ((conv=>whnf);refine CallY.trip [0] (qht ht hP'.at_) (by kernel_rfl) leA qa (by exact qb rfl) (by exact qb rfl) ?_)
   (repeat' ((conv=>whnf);first|refine Ob.auto ?_|fail))
   ((conv=>whnf);refine AltG.far 9 [2] (by kernel_rfl) farA (EndG.go ?_))
   (repeat' ((conv=>whnf);first|refine Ob.auto ?_|fail))
   (refine ⟨Le.agg ⟨Le.refl _,?_,?_,Le.refl _,Le.refl _,?_,trivial⟩,qa⟩ <;> first|exact Le.nils _ _|exact Le.refl _|exact qad rfl|exact qas rfl|exact qbc rfl|exact qba rfl rfl|exact qbb rfl rfl|exact qbd rfl rfl|exact qbe rfl rfl rfl|exact qbf (fun _ _=>rfl))
  have e1:took ts p kLen=p:=ze (by rw [hb];decide)
  rw [e1]
  (repeat' ((conv=>whnf);first|refine Ob.auto ?_|(refine qm (fun _=>rfl) 600 (qfn h.at_ _) qe (by (repeat' (first|exact trivial|exact Le.refl _|(refine And.intro ?_ ?_))) <;> fail) (by rfl) (by kernel_rfl) ?_)|(refine qx (fun _=>rfl) 600 (fun hg=>qfn h.at_ _) (fun hg=>qe) (fun hg=>(by (repeat' (first|exact trivial|exact Le.refl _|exact Le.cnd hg|(refine And.intro ?_ ?_))) <;> fail)) (by rfl) (by kernel_rfl) ?_)|(apply zB <;> intro hb <;> (try simp [-zd] at hb) <;> try (exfalso;omega))))
  ·have hsee:sees ts p qaq=true∨sees ts p qha=true:=.inl (by assumption)
   have hst:Step ts p (adv p):=by rcases hsee with hs|hs <;> exact qf ht h.at_ hs
   have hP':=h.step hst
   obtain ⟨i1,i2,i3,_⟩:=jo hP'.at_
   have hQ:Pre ts n (inP ts (adv p)):=⟨i1,by rw [i2,i3];show 0≤p.deep+1∧p.deep+1≤(p.at_+1)+1;omega,by rw [i2];show (ts.length:Int) - (p.at_+1)≤n;omega⟩
   have hQd:(inP ts (adv p)).deep=p.deep+1:=i3
   have e2:qr ts (n+1) p=(.mk 20 [] [] (tk ts p).pos (ifOk (qr ts n) (inP ts (adv p))).1,outP (ifOk (qr ts n) (inP ts (adv p))).2):=by
    refine (ze hn1).trans ((ze (by simp [*])).trans ((zf hsee).trans ?_))
    rw [zf (by assumption)]
   have hdp:=(qcq ht n _ i1).deep
   rw [e2]
   ((conv=>whnf);refine zT 600 [0] (qme hP'.at_ (show 0≤p.deep∧p.deep≤100000 by omega)) qa ?_)
   (repeat' ((conv=>whnf);first|refine Ob.auto ?_|(refine qm (fun _=>rfl) 600 (qge) qe (by (repeat' (first|exact trivial|exact Le.refl _|(refine And.intro ?_ ?_))) <;> fail) (by rfl) (by kernel_rfl) ?_)|(apply zB <;> intro hb <;> (try simp [-zd] at hb) <;> try (exfalso;omega))))
   ·rw [ifOk,zf hb]
    (repeat' ((conv=>whnf);first|(refine qk (fun _=>rfl) (by kernel_rfl) 600 ?_)|fail))
    ((conv=>whnf);refine CallY.trip [0] (ih _ hQ) (by kernel_rfl) leA qa (by exact qb rfl) (by exact qb rfl) ?_)
    (repeat' ((conv=>whnf);first|refine Ob.auto ?_|fail))
    ((conv=>whnf);refine AltG.far 7 [2] (by kernel_rfl) farA (EndG.go ?_))
    (repeat' ((conv=>whnf);first|refine Ob.auto ?_|fail))
    (refine ⟨Le.agg ⟨Le.refl _,?_,?_,Le.refl _,Le.refl _,?_,trivial⟩,qa⟩ <;> first|exact Le.nils _ _|exact Le.refl _|exact qad rfl|exact qas rfl|exact qbc rfl|exact qba rfl rfl|exact qbb rfl rfl|exact qbd rfl rfl|exact qbe rfl rfl rfl|exact qbf (fun _ _=>rfl))
   ·rw [ifOk,ze hb]
    (refine ⟨Le.agg ⟨Le.refl _,?_,?_,Le.refl _,Le.refl _,?_,trivial⟩,qa⟩ <;> first|exact Le.nils _ _|exact Le.refl _|exact qad rfl|exact qas rfl|exact qbc rfl|exact qba rfl rfl|exact qbb rfl rfl|exact qbd rfl rfl|exact qbe rfl rfl rfl|exact qbf (fun _ _=>rfl))
  ·have hsee:sees ts p qaq=true∨sees ts p qha=true:=.inr (by simp_all)
   have hst:Step ts p (adv p):=by rcases hsee with hs|hs <;> exact qf ht h.at_ hs
   have hP':=h.step hst
   obtain ⟨i1,i2,i3,_⟩:=jo hP'.at_
   have hQ:Pre ts n (inP ts (adv p)):=⟨i1,by rw [i2,i3];show 0≤p.deep+1∧p.deep+1≤(p.at_+1)+1;omega,by rw [i2];show (ts.length:Int) - (p.at_+1)≤n;omega⟩
   have hQd:(inP ts (adv p)).deep=p.deep+1:=i3
   have e2:qr ts (n+1) p=(.mk 21 [] [] (tk ts p).pos (ifOk (qr ts n) (inP ts (adv p))).1,outP (ifOk (qr ts n) (inP ts (adv p))).2):=by
    refine (ze hn1).trans ((ze (by simp [*])).trans ((zf hsee).trans ?_))
    rw [ze (by simp [*])]
   have hdp:=(qcq ht n _ i1).deep
   rw [e2]
   ((conv=>whnf);refine zT 600 [0] (qme hP'.at_ (show 0≤p.deep∧p.deep≤100000 by omega)) qa ?_)
   (repeat' ((conv=>whnf);first|refine Ob.auto ?_|(refine qm (fun _=>rfl) 600 (qge) qe (by (repeat' (first|exact trivial|exact Le.refl _|(refine And.intro ?_ ?_))) <;> fail) (by rfl) (by kernel_rfl) ?_)|(apply zB <;> intro hb <;> (try simp [-zd] at hb) <;> try (exfalso;omega))))
   ·rw [ifOk,zf hb]
    (repeat' ((conv=>whnf);first|(refine qk (fun _=>rfl) (by kernel_rfl) 600 ?_)|fail))
    ((conv=>whnf);refine CallY.trip [0] (ih _ hQ) (by kernel_rfl) leA qa (by exact qb rfl) (by exact qb rfl) ?_)
    (repeat' ((conv=>whnf);first|refine Ob.auto ?_|fail))
    ((conv=>whnf);refine AltG.far 7 [2] (by kernel_rfl) farA (EndG.go ?_))
    (repeat' ((conv=>whnf);first|refine Ob.auto ?_|fail))
    (refine ⟨Le.agg ⟨Le.refl _,?_,?_,Le.refl _,Le.refl _,?_,trivial⟩,qa⟩ <;> first|exact Le.nils _ _|exact Le.refl _|exact qad rfl|exact qas rfl|exact qbc rfl|exact qba rfl rfl|exact qbb rfl rfl|exact qbd rfl rfl|exact qbe rfl rfl rfl|exact qbf (fun _ _=>rfl))
   ·rw [ifOk,ze hb]
    (refine ⟨Le.agg ⟨Le.refl _,?_,?_,Le.refl _,Le.refl _,?_,trivial⟩,qa⟩ <;> first|exact Le.nils _ _|exact Le.refl _|exact qad rfl|exact qas rfl|exact qbc rfl|exact qba rfl rfl|exact qbb rfl rfl|exact qbd rfl rfl|exact qbe rfl rfl rfl|exact qbf (fun _ _=>rfl))
  have hn2:¬ (sees ts p qaq=true∨sees ts p qha=true):=by simp [hb]
  ((conv=>whnf);refine zT 600 [0] (qbp ht h.at_ sLp) qa ?_)
  (repeat' ((conv=>whnf);first|(apply zB <;> intro hb <;> (try simp [-zd] at hb) <;> try (exfalso;omega))))
  ·have e3:took ts p sLp=adv p:=zf (by assumption)
   have hst:=qf ht h.at_ (by assumption:sees ts p sLp=true)
   have hP':=h.step hst
   obtain ⟨i1,i2,i3,_⟩:=jo hP'.at_
   have hQ:Pre ts n (inP ts (adv p)):=⟨i1,by rw [i2,i3];show 0≤p.deep+1∧p.deep+1≤(p.at_+1)+1;omega,by rw [i2];show (ts.length:Int) - (p.at_+1)≤n;omega⟩
   have hQd:(inP ts (adv p)).deep=p.deep+1:=i3
   have e2:qr ts (n+1) p=((if (inP ts (adv p)).err=0 then (qal ts (qr ts n) (inP ts (adv p))).1 else .mk 17 [] [] (tk ts p).pos []),
    must ts (outP (if (inP ts (adv p)).err=0 then (qal ts (qr ts n) (inP ts (adv p))).2 else inP ts (adv p))) sRp):=
    (ze hn1).trans ((ze (by simp [*])).trans ((ze hn2).trans (zf (by assumption))))
   have hrp:=qcq ht n
   have hse:=qix ht hrp _ i1
   have hdp:=hse.deep
   rw [e2,e3]
   ((conv=>whnf);refine zT 600 [0] (qme hP'.at_ (show 0≤p.deep∧p.deep≤100000 by omega)) qa ?_)
   (repeat' ((conv=>whnf);first|refine Ob.auto ?_|(refine qm (fun _=>rfl) 600 (qge) qe (by (repeat' (first|exact trivial|exact Le.refl _|(refine And.intro ?_ ?_))) <;> fail) (by rfl) (by kernel_rfl) ?_)|(apply zB <;> intro hb <;> (try simp [-zd] at hb) <;> try (exfalso;omega))))
   ·rw [zf hb,zf hb]
    ((conv=>whnf);refine zT 600 [0] (jbe ht hrp ih _ hQ) qa ?_)
    (repeat' ((conv=>whnf);first|refine Ob.auto ?_|fail))
    ((conv=>whnf);refine zT 600 [0] (qbz ht (p:=outP (qal ts (qr ts n) (inP ts (adv p))).2) ⟨(hse.ok i1).lo,(hse.ok i1).hi⟩ sRp) qa ?_)
    (repeat' ((conv=>whnf);first|refine Ob.auto ?_|fail))
    exact ⟨Le.refl _,qa⟩
   ·rw [ze hb,ze hb]
    ((conv=>whnf);refine zT 600 [0] (qbz ht (p:=outP (inP ts (adv p))) ⟨i1.lo,i1.hi⟩ sRp) qa ?_)
    (repeat' ((conv=>whnf);first|refine Ob.auto ?_|fail))
    (refine ⟨Le.agg ⟨Le.refl _,?_,?_,Le.refl _,Le.refl _,?_,trivial⟩,qa⟩ <;> first|exact Le.nils _ _|exact Le.refl _|exact qad rfl|exact qas rfl|exact qbc rfl|exact qba rfl rfl|exact qbb rfl rfl|exact qbd rfl rfl|exact qbe rfl rfl rfl|exact qbf (fun _ _=>rfl))
  ·have e3:took ts p sLp=p:=ze (by simp [*])
   have e2:qr ts (n+1) p=(.mk 18 [qz ts p] [] (tk ts p).pos [],qc ts p):=(ze hn1).trans ((ze (by simp [*])).trans ((ze hn2).trans (ze (by simp [*]))))
   rw [e2,e3]
   (repeat' ((conv=>whnf);first|(refine qk (fun _=>rfl) (by kernel_rfl) 600 ?_)|fail))
   ((conv=>whnf);refine CallY.trip [0] (qht ht h.at_) (by kernel_rfl) leA qa (by exact qb rfl) (by exact qb rfl) ?_)
   (repeat' ((conv=>whnf);first|refine Ob.auto ?_|fail))
   ((conv=>whnf);refine AltG.far 9 [2] (by kernel_rfl) farA (EndG.go ?_))
   (repeat' ((conv=>whnf);first|refine Ob.auto ?_|fail))
   (refine ⟨Le.agg ⟨Le.refl _,?_,?_,Le.refl _,Le.refl _,?_,trivial⟩,qa⟩ <;> first|exact Le.nils _ _|exact Le.refl _|exact qad rfl|exact qas rfl|exact qbc rfl|exact qba rfl rfl|exact qbb rfl rfl|exact qbd rfl rfl|exact qbe rfl rfl rfl|exact qbf (fun _ _=>rfl))
theorem e_rd (ht:ToksOk ts) (h:Pre ts ts.length p):RdT ts 71 (eF ts) p:=jbe ht (qcq ht _) (jmz ht _) p h
end
end Go.Proofs.Ythfaleaojlnnoaa
end
section
namespace Go.Proofs.Ythfaleaojlnnoaa
namespace Pa
open Go Go.Sx
section
variable {ts:List Lx.Tok} {p q r:Ps}
theorem Step.err0 (h:Step ts p q) (e:q.err=0):p.err=0:=Classical.byContradiction fun hp=>by
 have:=h.err hp
 subst this
 exact hp e
theorem qop (h:(bad ts p 11).err=0):False:=by
 unfold bad at h
 split at h
 ·simp at h
 ·rename_i hp;exact hp h
theorem qev {s:List UInt8} (h:(must ts p s).err=0):sees ts p s=true∧(must ts p s).at_=p.at_+1:=by
 unfold must at h ⊢
 split
 ·exact ⟨by assumption,rfl⟩
 ·rename_i hn
  rw [ze hn] at h
  exact (qop h).elim
theorem qoq (h:(qc ts p).err=0):(qc ts p).at_=p.at_+1:=by
 unfold qc at h ⊢
 split
 ·rfl
 ·rename_i hn
  rw [ze hn] at h
  exact (qop h).elim
theorem jbf (h:(numP ts p).err=0):(numP ts p).at_=p.at_+1:=by
 unfold numP at h ⊢
 split
 ·rfl
 ·rename_i hn
  rw [ze hn] at h
  exact (qop h).elim
abbrev qem (ts:List Lx.Tok) (f:Ps→Tr × Ps):Prop:=∀ p,AtOk ts p→(f p).2.err=0→p.at_<(f p).2.at_
variable (ht:ToksOk ts)
include ht
theorem jna {blk:Ps→Tr × Ps} (hb:Runs ts blk) (a i:Int):qem ts (qam ts blk a i):=fun p h he=>by
 unfold qam at he ⊢
 split
 ·rename_i hs
  rw [zf hs] at he
  have h1:=qf ht h hs
  have h2:=jj ht (h1.ok h)
  have h3:=jj ht (h2.ok (h1.ok h))
  have h4:=h2.trans (h3.trans (qg ht (h3.ok (h2.ok (h1.ok h))) qj))
  have:p.at_+1≤_:=h4.le
  simp only;omega
 ·rename_i hs
  rw [ze hs] at he
  split
  ·rename_i hw
   have h1:=qf ht h hw
   have h2:=jz ht _ (h1.ok h)
   have h4:=h2.trans (qg ht (h2.ok (h1.ok h)) qj)
   have:p.at_+1≤_:=h4.le
   simp only;omega
  ·rename_i hw
   rw [ze hw] at he
   have h1:=qg ht h qp
   have h2:=hb _ (h1.ok h)
   have h3:=h2.trans (qhb ht hb ts.length [(blk (must ts p qp)).1] _ (h2.ok (h1.ok h)))
   have h4:=(qev (h3.err0 he)).2
   have:=h3.le
   simp only at this ⊢;omega
theorem qor (n:Nat):qem ts (qd ts (n+1)):=fun p h he=>by
 have hb:=qgd ht (qdr ht n)
 have key:∀ x:Tr × Ps,qd ts (n+1) p=x→Step ts p x.2→(∀ q,Step ts p q→p.at_<q.at_→Step ts q x.2→p.at_<x.2.at_):=fun x _ _ q _ h1 h2=>Int.lt_of_lt_of_le h1 h2.le
 unfold qd at he ⊢
 simp only at he ⊢
 split
 ·rename_i hw
  rw [zf hw] at he
  have h1:=qcy ht h jq
  have:=jna ht hb _ _ _ (h1.ok h) he
  have:=h1.le
  omega
 rename_i hw
 rw [ze hw] at he
 split
 ·have h1:=qf ht h (by assumption)
  have h2:=jj ht (h1.ok h)
  have h3:=jz ht _ (h2.ok (h1.ok h))
  have h4:p.at_+1≤_:=(h2.trans (h3.trans (qg ht (h3.ok (h2.ok (h1.ok h))) qj))).le
  simp only;omega
 rename_i hw
 rw [ze hw] at he
 split
 ·have h1:=qf ht h (by assumption)
  have h2:=jz ht _ (h1.ok h)
  have h3:=h2.trans (hb _ (h2.ok (h1.ok h)))
  have h4:p.at_+1≤_:=h3.le
  split
  ·have h5:=qf ht (h3.ok (h1.ok h)) (by assumption)
   have h6:=(h5.trans (hb _ (h5.ok (h3.ok (h1.ok h))))).le
   simp only at h6 ⊢;omega
  ·simp only;omega
 rename_i hw
 rw [ze hw] at he
 split
 ·have h1:=qf ht h (by assumption)
  have h2:=jz ht _ (h1.ok h)
  have h4:p.at_+1≤_:=(h2.trans (hb _ (h2.ok (h1.ok h)))).le
  simp only;omega
 rename_i hw
 rw [ze hw] at he
 split
 ·have h1:=qf ht h (by assumption)
  have h4:p.at_+1≤_:=(hb _ (h1.ok h)).le
  simp only;omega
 rename_i hw
 rw [ze hw] at he
 split
 ·have h1:=qf ht h (by assumption)
  have h4:p.at_+1≤_:=(qg ht (h1.ok h) qj).le
  simp only;omega
 rename_i hw
 rw [ze hw] at he
 split
 ·have h1:=qf ht h (by assumption)
  have h4:p.at_+1≤_:=(qg ht (h1.ok h) qj).le
  simp only;omega
 rename_i hw
 rw [ze hw] at he
 have h1:=jj ht h
 have h2:=qg ht (h1.ok h) sEq
 have h3:=jz ht _ (h2.ok (h1.ok h))
 have h4:=h2.trans (h3.trans (qg ht (h3.ok (h2.ok (h1.ok h))) qj))
 have h5:=qoq (h4.err0 he)
 have h6:=h4.le
 simp only at h6 ⊢;omega
theorem qmf:qem ts (jh ts):=fun p h he=>by
 have h1:=qg ht h kVar
 have h0:=qhc ht p h
 unfold jh at he h0 ⊢
 simp only at he h0 ⊢
 have h2:=jj ht (h1.ok h)
 have h3:=h2
 have h4:=h3.trans (qg ht (h3.ok (h1.ok h)) kOf)
 have h5:=h4.trans (jt ht (h4.ok (h1.ok h)))
 have key:∀ q,Step ts (must ts p kVar) q→(must ts q qj).err=0→p.at_<(must ts q qj).at_:=fun q hq hqe=>by
  have h6:=hq.trans (qg ht (hq.ok (h1.ok h)) qj)
  have h7:=(qev (h6.err0 hqe)).2
  have:=h6.le
  omega
 refine key _ ?_ he
 split
 ·have h6:=h5.trans (qf ht (h5.ok (h1.ok h)) (by assumption))
  split
  ·have h7:=h6.trans (qf ht (h6.ok (h1.ok h)) (by assumption))
   exact h7.trans (jt ht (h7.ok (h1.ok h)))
  ·exact h6.trans (jt ht (h6.ok (h1.ok h)))
 ·exact h5
theorem jbg (h:AtOk ts p):Step ts (must ts p kVar) (jh ts p).2:=by
 have h0:=(qg ht h kVar).ok h
 unfold jh
 simp only
 have h3:=jj ht h0
 have h4:=h3.trans (qg ht (h3.ok h0) kOf)
 have h5:=h4.trans (jt ht (h4.ok h0))
 split
 ·have h6:=h5.trans (qf ht (h5.ok h0) (by assumption))
  split
  ·have h7:=h6.trans (qf ht (h6.ok h0) (by assumption))
   have h8:=h7.trans (jt ht (h7.ok h0))
   exact h8.trans (qg ht (h8.ok h0) qj)
  ·have h8:=h6.trans (jt ht (h6.ok h0))
   exact h8.trans (qg ht (h8.ok h0) qj)
 ·exact h5.trans (qg ht (h5.ok h0) qj)
theorem qos (h:0<ts.length):qem ts (sF ts):=by
 show qem ts (qd ts ts.length)
 obtain ⟨m,hm⟩:∃ m,ts.length=m+1:=⟨ts.length - 1,by omega⟩
 rw [hm]
 exact qor ht m
theorem jbh:qem ts (qar ts):=fun p h he=>by
 have h0:=qg ht h qh
 unfold qar at he ⊢
 simp only at he ⊢
 have h1:=h0.ok h
 have h3:=jj ht h1
 have h4:Step ts (must ts p qh) (if sees ts (qc ts (must ts p qh)) qai=true then (numN ts (adv (qc ts (must ts p qh))),numP ts (adv (qc ts (must ts p qh)))) else (1,qc ts (must ts p qh))).2:=by
  split
  ·have h5:=h3.trans (qf ht (h3.ok h1) (by assumption))
   exact h5.trans (jt ht (h5.ok h1))
  ·exact h3
 have h5:=h4.trans (qg ht (h4.ok h1) sLc)
 have h6:=h5.trans (qfm ht ts.length [] _ (h5.ok h1))
 generalize jg ts ts.length [] _=V at he h6 ⊢
 have h7:=h6.trans (qfl (h6.ok h1) (qdf ht (qel ht) ts.length V.1 _ (jo (h6.ok h1)).1))
 have h8:=(qev (h7.err0 he)).2
 have h9:=h7.le
 omega
theorem qkk:qem ts (jm ts):=fun p h he=>by
 unfold jm at he ⊢
 simp only at he ⊢
 split
 ·rename_i hw
  rw [zf hw] at he
  exact qmf ht p h he
 rename_i hw
 rw [ze hw] at he
 split
 ·rename_i hw
  rw [zf hw] at he
  exact jbh ht p h he
 rename_i hw
 rw [ze hw] at he
 split
 ·have h1:=qf ht h (by assumption)
  have h2:=jj ht (h1.ok h)
  have h3:=h2.trans (qg ht (h2.ok (h1.ok h)) sLb)
  have h4:=h3.trans (jt ht (h3.ok (h1.ok h)))
  have h5:=h4.trans (qg ht (h4.ok (h1.ok h)) sRb)
  have h6:=h5.trans (qg ht (h5.ok (h1.ok h)) kOf)
  have h7:=h6.trans (jt ht (h6.ok (h1.ok h)))
  have h8:=h7.trans (qcy ht (h7.ok (h1.ok h)) qeb)
  have h9:=h8.trans (qcy ht (h8.ok (h1.ok h)) qej)
  have h10:p.at_+1≤_:=(h9.trans (qg ht (h9.ok (h1.ok h)) qj)).le
  simp only;omega
 rename_i hw
 rw [ze hw] at he
 split
 ·have h1:=qf ht h (by assumption)
  have h2:=jz ht _ (h1.ok h)
  have h4:p.at_+1≤_:=(h2.trans (qg ht (h2.ok (h1.ok h)) qj)).le
  simp only;omega
 rename_i hw
 rw [ze hw] at he
 have h1:=qg ht h qgc
 have h2:=qg ht (h1.ok h) qj
 have h3:=(qev (h2.err0 he)).2
 have:=h2.le
 simp only at this ⊢;omega
end
end Pa
end Go.Proofs.Ythfaleaojlnnoaa
end
