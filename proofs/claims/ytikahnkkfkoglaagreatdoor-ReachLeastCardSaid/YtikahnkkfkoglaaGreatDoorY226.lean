/- Some texts of the library, one behind the other. -/
import Derived.Test.YtikahnkkfkoglaaGreatDoorY225
import Derived.Test.YtikahnkkfkoglaaGreatDoorY223
import Derived.Test.YtikahnkkfkoglaaGreatDoorY22
set_option linter.unusedSimpArgs false
set_option linter.unusedVariables false
section
namespace Go.Proofs.YtikahnkkfkoglaaGreatDoor
open List renaming getD_eq_getElem?_getD → zd
open Go Go.Sx Go.RowKit Go.St Pa
set_option maxRecDepth 100000
set_option maxHeartbeats 4000000
section
variable {ts:List Lx.Tok} {p q:Ps} {n:Nat}
theorem jr {f:Nat→List AV} {v:Int} (h:f 0=[iv v]):Le (.slc 1 1 f) (ints [v]):=Le.slc rfl (fun i hi=>by obtain rfl:i=0:=(by omega);exact h)
theorem qaa {f:Nat→List AV} {v:List UInt8} (h:f 0=[.str v]):Le (.slc 1 1 f) (strs [v]):=Le.slc rfl (fun i hi=>by obtain rfl:i=0:=(by omega);exact h)
theorem qal {f:Nat→List AV} {v w:Int} (h:f 0=[iv v]) (h':f 1=[iv w]):Le (.slc 1 2 f) (ints [v,w]):=Le.slc rfl (fun i hi=>by
 rcases (by omega:i=0∨i=1) with rfl|rfl
 ·exact h
 ·exact h')
theorem qam {f:Nat→List AV} {v w:List UInt8} (h:f 0=[.str v]) (h':f 1=[.str w]):Le (.slc 1 2 f) (strs [v,w]):=Le.slc rfl (fun i hi=>by
 rcases (by omega:i=0∨i=1) with rfl|rfl
 ·exact h
 ·exact h')
theorem qan {f:Nat→List AV} {a:Tr} (h:f 0=a.cells):Le (.slc 6 1 f) (qmy [a]):=Le.slc rfl (fun i hi=>by
 obtain rfl:i=0:=(by omega)
 exact h.trans (Tr.cellsL_get [a] 0 (Nat.zero_lt_succ _)).symm)
theorem qao {f:Nat→List AV} {a b:Tr} (h:f 0=a.cells) (h':f 1=b.cells):Le (.slc 6 2 f) (qmy [a,b]):=Le.slc rfl (fun i hi=>by
 rcases (by omega:i=0∨i=1) with rfl|rfl
 ·exact h.trans (Tr.cellsL_get [a,b] 0 (Nat.zero_lt_succ _)).symm
 ·exact h'.trans (Tr.cellsL_get [a,b] 1 (zaw _)).symm)
theorem qap {f:Nat→List AV} {a b c:Tr} (h:f 0=a.cells) (h':f 1=b.cells) (h'':f 2=c.cells):Le (.slc 6 3 f) (qmy [a,b,c]):=Le.slc rfl (fun i hi=>by
 rcases (by omega:i=0∨i=1∨i=2) with rfl|rfl|rfl
 ·exact h.trans (Tr.cellsL_get [a,b,c] 0 (Nat.zero_lt_succ _)).symm
 ·exact h'.trans (Tr.cellsL_get [a,b,c] 1 (Nat.succ_lt_succ (Nat.zero_lt_succ _))).symm
 ·exact h''.trans (Tr.cellsL_get [a,b,c] 2 (zaw _)).symm)
theorem jub (ht:ToksOk ts):∀ n q,Pre ts n q→RdT ts 154 (qas ts n) q:=by
 intro n
 induction n with
 | zero=>intro p h;have:=h.left;have:=h.at_.hi;omega
 | succ n ih=>
  intro p h
  have h0:=h.at_.lo
  have h1:=h.at_.hi
  have h2:=ht.len
  have h3:=h.deep
  have h4:=h.left
  refine zM {} 600 Tryz.func154 (fun c0 rdb mpb=>?_)
  (repeat' ((conv=>whnf);first|refine Ob.auto ?_|(refine qi (fun _=>rfl) 600 (qlg h.at_ _) qc (by (repeat' (first|exact trivial|exact Le.refl _|(refine And.intro ?_ ?_))) <;> fail) (by rfl) (by kernel_rfl) ?_)|(refine qi (fun _=>rfl) 600 (qgg) qc (by (repeat' (first|exact trivial|exact Le.refl _|(refine And.intro ?_ ?_))) <;> fail) (by rfl) (by kernel_rfl) ?_)|(refine qq (fun _=>rfl) 600 (fun hg=>qle h.at_) (fun hg=>qc) (fun hg=>(by (repeat' (first|exact trivial|exact Le.refl _|exact Le.cnd hg|(refine And.intro ?_ ?_))) <;> fail)) (by rfl) (by kernel_rfl) ?_)|(apply zB <;> intro hb <;> (try simp [-zd] at hb) <;> try (exfalso;omega))))
  ·have e1:qas ts (n+1) p=(.mk 17 [] [numN ts p] (tk ts p).pos [],numP ts p):=zb hb
   rw [e1]
   (repeat' ((conv=>whnf);first|(refine qbc (fun _=>rfl) (by kernel_rfl) 600 ?_)|fail))
   ((conv=>whnf);refine CallY.trip [0] (qlf ht h.at_) (by kernel_rfl) leA qa (by exact qb rfl) (by exact qb rfl) ?_)
   (repeat' ((conv=>whnf);first|refine Ob.auto ?_|fail))
   ((conv=>whnf);refine AltG.far 9 [2] (by kernel_rfl) farA (EndG.go ?_))
   (repeat' ((conv=>whnf);first|refine Ob.auto ?_|fail))
   (refine ⟨Le.agg ⟨Le.refl _,?_,?_,Le.refl _,Le.refl _,?_,trivial⟩,qa⟩ <;> first|exact Le.nils _ _|exact Le.refl _|exact jr rfl|exact qaa rfl|exact qan rfl|exact qal rfl rfl|exact qam rfl rfl|exact qao rfl rfl|exact qap rfl rfl rfl|exact qaq (fun _ _=>rfl))
  have hn1:¬ (p.err=0∧(tk ts p).kind=1):=fun h=>hb h.1 h.2
  ((conv=>whnf);refine zT 600 [0] (qba ht h.at_ kLen) qa ?_)
  (repeat' ((conv=>whnf);first|(apply zB <;> intro hb <;> (try simp [-zd] at hb) <;> try (exfalso;omega))))
  ·have e1:took ts p kLen=adv p:=zb hb
   have e2:qas ts (n+1) p=(.mk 19 [qai ts (adv p)] [] (tk ts p).pos [],qf ts (adv p)):=(za hn1).trans (zb hb)
   have hP':=h.step (qh ht h.at_ hb)
   rw [e1,e2]
   (repeat' ((conv=>whnf);first|(refine qbc (fun _=>rfl) (by kernel_rfl) 600 ?_)|fail))
   ((conv=>whnf);refine CallY.trip [0] (qih ht hP'.at_) (by kernel_rfl) leA qa (by exact qb rfl) (by exact qb rfl) ?_)
   (repeat' ((conv=>whnf);first|refine Ob.auto ?_|fail))
   ((conv=>whnf);refine AltG.far 9 [2] (by kernel_rfl) farA (EndG.go ?_))
   (repeat' ((conv=>whnf);first|refine Ob.auto ?_|fail))
   (refine ⟨Le.agg ⟨Le.refl _,?_,?_,Le.refl _,Le.refl _,?_,trivial⟩,qa⟩ <;> first|exact Le.nils _ _|exact Le.refl _|exact jr rfl|exact qaa rfl|exact qan rfl|exact qal rfl rfl|exact qam rfl rfl|exact qao rfl rfl|exact qap rfl rfl rfl|exact qaq (fun _ _=>rfl))
  have e1:took ts p kLen=p:=za (by rw [hb];decide)
  rw [e1]
  (repeat' ((conv=>whnf);first|refine Ob.auto ?_|(refine qi (fun _=>rfl) 600 (qfm h.at_ _) qc (by (repeat' (first|exact trivial|exact Le.refl _|(refine And.intro ?_ ?_))) <;> fail) (by rfl) (by kernel_rfl) ?_)|(refine qq (fun _=>rfl) 600 (fun hg=>qfm h.at_ _) (fun hg=>qc) (fun hg=>(by (repeat' (first|exact trivial|exact Le.refl _|exact Le.cnd hg|(refine And.intro ?_ ?_))) <;> fail)) (by rfl) (by kernel_rfl) ?_)|(apply zB <;> intro hb <;> (try simp [-zd] at hb) <;> try (exfalso;omega))))
  ·have hsee:sees ts p qfl=true∨sees ts p qtk=true:=.inl (by assumption)
   have hst:Step ts p (adv p):=by rcases hsee with hs|hs <;> exact qh ht h.at_ hs
   have hP':=h.step hst
   obtain ⟨i1,i2,i3,_⟩:=qcz hP'.at_
   have hQ:Pre ts n (inP ts (adv p)):=⟨i1,by rw [i2,i3];show 0≤p.deep+1∧p.deep+1≤(p.at_+1)+1;omega,by rw [i2];show (ts.length:Int) - (p.at_+1)≤n;omega⟩
   have hQd:(inP ts (adv p)).deep=p.deep+1:=i3
   have e2:qas ts (n+1) p=(.mk 20 [] [] (tk ts p).pos (ifOk (qas ts n) (inP ts (adv p))).1,outP (ifOk (qas ts n) (inP ts (adv p))).2):=by
    refine (za hn1).trans ((za (by simp [*])).trans ((zb hsee).trans ?_))
    rw [zb (by assumption)]
   have hdp:=(qgf ht n _ i1).deep
   rw [e2]
   ((conv=>whnf);refine zT 600 [0] (qna hP'.at_ (show 0≤p.deep∧p.deep≤100000 by omega)) qa ?_)
   (repeat' ((conv=>whnf);first|refine Ob.auto ?_|(refine qi (fun _=>rfl) 600 (qgg) qc (by (repeat' (first|exact trivial|exact Le.refl _|(refine And.intro ?_ ?_))) <;> fail) (by rfl) (by kernel_rfl) ?_)|(apply zB <;> intro hb <;> (try simp [-zd] at hb) <;> try (exfalso;omega))))
   ·rw [ifOk,zb hb]
    (repeat' ((conv=>whnf);first|(refine qbc (fun _=>rfl) (by kernel_rfl) 600 ?_)|fail))
    ((conv=>whnf);refine CallY.trip [0] (ih _ hQ) (by kernel_rfl) leA qa (by exact qb rfl) (by exact qb rfl) ?_)
    (repeat' ((conv=>whnf);first|refine Ob.auto ?_|fail))
    ((conv=>whnf);refine AltG.far 7 [2] (by kernel_rfl) farA (EndG.go ?_))
    (repeat' ((conv=>whnf);first|refine Ob.auto ?_|fail))
    (refine ⟨Le.agg ⟨Le.refl _,?_,?_,Le.refl _,Le.refl _,?_,trivial⟩,qa⟩ <;> first|exact Le.nils _ _|exact Le.refl _|exact jr rfl|exact qaa rfl|exact qan rfl|exact qal rfl rfl|exact qam rfl rfl|exact qao rfl rfl|exact qap rfl rfl rfl|exact qaq (fun _ _=>rfl))
   ·rw [ifOk,za hb]
    (refine ⟨Le.agg ⟨Le.refl _,?_,?_,Le.refl _,Le.refl _,?_,trivial⟩,qa⟩ <;> first|exact Le.nils _ _|exact Le.refl _|exact jr rfl|exact qaa rfl|exact qan rfl|exact qal rfl rfl|exact qam rfl rfl|exact qao rfl rfl|exact qap rfl rfl rfl|exact qaq (fun _ _=>rfl))
  ·have hsee:sees ts p qfl=true∨sees ts p qtk=true:=.inr (by simp_all)
   have hst:Step ts p (adv p):=by rcases hsee with hs|hs <;> exact qh ht h.at_ hs
   have hP':=h.step hst
   obtain ⟨i1,i2,i3,_⟩:=qcz hP'.at_
   have hQ:Pre ts n (inP ts (adv p)):=⟨i1,by rw [i2,i3];show 0≤p.deep+1∧p.deep+1≤(p.at_+1)+1;omega,by rw [i2];show (ts.length:Int) - (p.at_+1)≤n;omega⟩
   have hQd:(inP ts (adv p)).deep=p.deep+1:=i3
   have e2:qas ts (n+1) p=(.mk 21 [] [] (tk ts p).pos (ifOk (qas ts n) (inP ts (adv p))).1,outP (ifOk (qas ts n) (inP ts (adv p))).2):=by
    refine (za hn1).trans ((za (by simp [*])).trans ((zb hsee).trans ?_))
    rw [za (by simp [*])]
   have hdp:=(qgf ht n _ i1).deep
   rw [e2]
   ((conv=>whnf);refine zT 600 [0] (qna hP'.at_ (show 0≤p.deep∧p.deep≤100000 by omega)) qa ?_)
   (repeat' ((conv=>whnf);first|refine Ob.auto ?_|(refine qi (fun _=>rfl) 600 (qgg) qc (by (repeat' (first|exact trivial|exact Le.refl _|(refine And.intro ?_ ?_))) <;> fail) (by rfl) (by kernel_rfl) ?_)|(apply zB <;> intro hb <;> (try simp [-zd] at hb) <;> try (exfalso;omega))))
   ·rw [ifOk,zb hb]
    (repeat' ((conv=>whnf);first|(refine qbc (fun _=>rfl) (by kernel_rfl) 600 ?_)|fail))
    ((conv=>whnf);refine CallY.trip [0] (ih _ hQ) (by kernel_rfl) leA qa (by exact qb rfl) (by exact qb rfl) ?_)
    (repeat' ((conv=>whnf);first|refine Ob.auto ?_|fail))
    ((conv=>whnf);refine AltG.far 7 [2] (by kernel_rfl) farA (EndG.go ?_))
    (repeat' ((conv=>whnf);first|refine Ob.auto ?_|fail))
    (refine ⟨Le.agg ⟨Le.refl _,?_,?_,Le.refl _,Le.refl _,?_,trivial⟩,qa⟩ <;> first|exact Le.nils _ _|exact Le.refl _|exact jr rfl|exact qaa rfl|exact qan rfl|exact qal rfl rfl|exact qam rfl rfl|exact qao rfl rfl|exact qap rfl rfl rfl|exact qaq (fun _ _=>rfl))
   ·rw [ifOk,za hb]
    (refine ⟨Le.agg ⟨Le.refl _,?_,?_,Le.refl _,Le.refl _,?_,trivial⟩,qa⟩ <;> first|exact Le.nils _ _|exact Le.refl _|exact jr rfl|exact qaa rfl|exact qan rfl|exact qal rfl rfl|exact qam rfl rfl|exact qao rfl rfl|exact qap rfl rfl rfl|exact qaq (fun _ _=>rfl))
  have hn2:¬ (sees ts p qfl=true∨sees ts p qtk=true):=by simp [hb]
  ((conv=>whnf);refine zT 600 [0] (qba ht h.at_ sLp) qa ?_)
  (repeat' ((conv=>whnf);first|(apply zB <;> intro hb <;> (try simp [-zd] at hb) <;> try (exfalso;omega))))
  ·have e3:took ts p sLp=adv p:=zb (by assumption)
   have hst:=qh ht h.at_ (by assumption:sees ts p sLp=true)
   have hP':=h.step hst
   obtain ⟨i1,i2,i3,_⟩:=qcz hP'.at_
   have hQ:Pre ts n (inP ts (adv p)):=⟨i1,by rw [i2,i3];show 0≤p.deep+1∧p.deep+1≤(p.at_+1)+1;omega,by rw [i2];show (ts.length:Int) - (p.at_+1)≤n;omega⟩
   have hQd:(inP ts (adv p)).deep=p.deep+1:=i3
   have e2:qas ts (n+1) p=((if (inP ts (adv p)).err=0 then (qeh ts (qas ts n) (inP ts (adv p))).1 else .mk 17 [] [] (tk ts p).pos []),
    must ts (outP (if (inP ts (adv p)).err=0 then (qeh ts (qas ts n) (inP ts (adv p))).2 else inP ts (adv p))) sRp):=
    (za hn1).trans ((za (by simp [*])).trans ((za hn2).trans (zb (by assumption))))
   have hrp:=qgf ht n
   have hse:=qtn ht hrp _ i1
   have hdp:=hse.deep
   rw [e2,e3]
   ((conv=>whnf);refine zT 600 [0] (qna hP'.at_ (show 0≤p.deep∧p.deep≤100000 by omega)) qa ?_)
   (repeat' ((conv=>whnf);first|refine Ob.auto ?_|(refine qi (fun _=>rfl) 600 (qgg) qc (by (repeat' (first|exact trivial|exact Le.refl _|(refine And.intro ?_ ?_))) <;> fail) (by rfl) (by kernel_rfl) ?_)|(apply zB <;> intro hb <;> (try simp [-zd] at hb) <;> try (exfalso;omega))))
   ·rw [zb hb,zb hb]
    ((conv=>whnf);refine zT 600 [0] (jge ht hrp ih _ hQ) qa ?_)
    (repeat' ((conv=>whnf);first|refine Ob.auto ?_|fail))
    ((conv=>whnf);refine zT 600 [0] (qbh ht (p:=outP (qeh ts (qas ts n) (inP ts (adv p))).2) ⟨(hse.ok i1).lo,(hse.ok i1).hi⟩ sRp) qa ?_)
    (repeat' ((conv=>whnf);first|refine Ob.auto ?_|fail))
    exact ⟨Le.refl _,qa⟩
   ·rw [za hb,za hb]
    ((conv=>whnf);refine zT 600 [0] (qbh ht (p:=outP (inP ts (adv p))) ⟨i1.lo,i1.hi⟩ sRp) qa ?_)
    (repeat' ((conv=>whnf);first|refine Ob.auto ?_|fail))
    (refine ⟨Le.agg ⟨Le.refl _,?_,?_,Le.refl _,Le.refl _,?_,trivial⟩,qa⟩ <;> first|exact Le.nils _ _|exact Le.refl _|exact jr rfl|exact qaa rfl|exact qan rfl|exact qal rfl rfl|exact qam rfl rfl|exact qao rfl rfl|exact qap rfl rfl rfl|exact qaq (fun _ _=>rfl))
  ·have e3:took ts p sLp=p:=za (by simp [*])
   have e2:qas ts (n+1) p=(.mk 18 [qai ts p] [] (tk ts p).pos [],qf ts p):=(za hn1).trans ((za (by simp [*])).trans ((za hn2).trans (za (by simp [*]))))
   rw [e2,e3]
   (repeat' ((conv=>whnf);first|(refine qbc (fun _=>rfl) (by kernel_rfl) 600 ?_)|fail))
   ((conv=>whnf);refine CallY.trip [0] (qih ht h.at_) (by kernel_rfl) leA qa (by exact qb rfl) (by exact qb rfl) ?_)
   (repeat' ((conv=>whnf);first|refine Ob.auto ?_|fail))
   ((conv=>whnf);refine AltG.far 9 [2] (by kernel_rfl) farA (EndG.go ?_))
   (repeat' ((conv=>whnf);first|refine Ob.auto ?_|fail))
   (refine ⟨Le.agg ⟨Le.refl _,?_,?_,Le.refl _,Le.refl _,?_,trivial⟩,qa⟩ <;> first|exact Le.nils _ _|exact Le.refl _|exact jr rfl|exact qaa rfl|exact qan rfl|exact qal rfl rfl|exact qam rfl rfl|exact qao rfl rfl|exact qap rfl rfl rfl|exact qaq (fun _ _=>rfl))
theorem e_rd (ht:ToksOk ts) (h:Pre ts ts.length p):RdT ts 97 (eF ts) p:=jge ht (qgf ht _) (jub ht _) p h
end
end Go.Proofs.YtikahnkkfkoglaaGreatDoor
end
section
namespace Go.Proofs.YtikahnkkfkoglaaGreatDoor
namespace Pa
open Go Go.Sx
section
variable {ts:List Lx.Tok} {p q r:Ps}
theorem Step.err0 (h:Step ts p q) (e:q.err=0):p.err=0:=Classical.byContradiction fun hp=>by
 have:=h.err hp
 subst this
 exact hp e
theorem qyb (h:(bad ts p 11).err=0):False:=by
 unfold bad at h
 split at h
 ·simp at h
 ·rename_i hp;exact hp h
theorem qhi {s:List UInt8} (h:(must ts p s).err=0):sees ts p s=true∧(must ts p s).at_=p.at_+1:=by
 unfold must at h ⊢
 split
 ·exact ⟨by assumption,rfl⟩
 ·rename_i hn
  rw [za hn] at h
  exact (qyb h).elim
theorem qtr (h:(qf ts p).err=0):(qf ts p).at_=p.at_+1:=by
 unfold qf at h ⊢
 split
 ·rfl
 ·rename_i hn
  rw [za hn] at h
  exact (qyb h).elim
theorem juc (h:(numP ts p).err=0):(numP ts p).at_=p.at_+1:=by
 unfold numP at h ⊢
 split
 ·rfl
 ·rename_i hn
  rw [za hn] at h
  exact (qyb h).elim
abbrev qhj (ts:List Lx.Tok) (f:Ps→Tr × Ps):Prop:=∀ p,AtOk ts p→(f p).2.err=0→p.at_<(f p).2.at_
variable (ht:ToksOk ts)
include ht
theorem jud {blk:Ps→Tr × Ps} (hb:Runs ts blk) (a i:Int):qhj ts (qdv ts blk a i):=fun p h he=>by
 unfold qdv at he ⊢
 split
 ·rename_i hs
  rw [zb hs] at he
  have h1:=qh ht h hs
  have h2:=qav ht (h1.ok h)
  have h3:=qav ht (h2.ok (h1.ok h))
  have h4:=h2.trans (h3.trans (qn ht (h3.ok (h2.ok (h1.ok h))) qx))
  have:p.at_+1≤_:=h4.le
  simp only;omega
 ·rename_i hs
  rw [za hs] at he
  split
  ·rename_i hw
   have h1:=qh ht h hw
   have h2:=qbo ht _ (h1.ok h)
   have h4:=h2.trans (qn ht (h2.ok (h1.ok h)) qx)
   have:p.at_+1≤_:=h4.le
   simp only;omega
  ·rename_i hw
   rw [za hw] at he
   have h1:=qn ht h jk
   have h2:=hb _ (h1.ok h)
   have h3:=h2.trans (qqg ht hb ts.length [(blk (must ts p jk)).1] _ (h2.ok (h1.ok h)))
   have h4:=(qhi (h3.err0 he)).2
   have:=h3.le
   simp only at this ⊢;omega
theorem jgf (n:Nat):qhj ts (qe ts (n+1)):=fun p h he=>by
 have hb:=qto ht (qld ht n)
 have key:∀ x:Tr × Ps,qe ts (n+1) p=x→Step ts p x.2→(∀ q,Step ts p q→p.at_<q.at_→Step ts q x.2→p.at_<x.2.at_):=fun x _ _ q _ h1 h2=>Int.lt_of_lt_of_le h1 h2.le
 unfold qe at he ⊢
 simp only at he ⊢
 split
 ·rename_i hw
  rw [zb hw] at he
  have h1:=qig ht h qef
  have:=jud ht hb _ _ _ (h1.ok h) he
  have:=h1.le
  omega
 rename_i hw
 rw [za hw] at he
 split
 ·have h1:=qh ht h (by assumption)
  have h2:=qav ht (h1.ok h)
  have h3:=qbo ht _ (h2.ok (h1.ok h))
  have h4:p.at_+1≤_:=(h2.trans (h3.trans (qn ht (h3.ok (h2.ok (h1.ok h))) qx))).le
  simp only;omega
 rename_i hw
 rw [za hw] at he
 split
 ·have h1:=qh ht h (by assumption)
  have h2:=qbo ht _ (h1.ok h)
  have h3:=h2.trans (hb _ (h2.ok (h1.ok h)))
  have h4:p.at_+1≤_:=h3.le
  split
  ·have h5:=qh ht (h3.ok (h1.ok h)) (by assumption)
   have h6:=(h5.trans (hb _ (h5.ok (h3.ok (h1.ok h))))).le
   simp only at h6 ⊢;omega
  ·simp only;omega
 rename_i hw
 rw [za hw] at he
 split
 ·have h1:=qh ht h (by assumption)
  have h2:=qbo ht _ (h1.ok h)
  have h4:p.at_+1≤_:=(h2.trans (hb _ (h2.ok (h1.ok h)))).le
  simp only;omega
 rename_i hw
 rw [za hw] at he
 split
 ·have h1:=qh ht h (by assumption)
  have h4:p.at_+1≤_:=(hb _ (h1.ok h)).le
  simp only;omega
 rename_i hw
 rw [za hw] at he
 split
 ·have h1:=qh ht h (by assumption)
  have h4:p.at_+1≤_:=(qn ht (h1.ok h) qx).le
  simp only;omega
 rename_i hw
 rw [za hw] at he
 split
 ·have h1:=qh ht h (by assumption)
  have h4:p.at_+1≤_:=(qn ht (h1.ok h) qx).le
  simp only;omega
 rename_i hw
 rw [za hw] at he
 have h1:=qav ht h
 have h2:=qn ht (h1.ok h) sEq
 have h3:=qbo ht _ (h2.ok (h1.ok h))
 have h4:=h2.trans (h3.trans (qn ht (h3.ok (h2.ok (h1.ok h))) qx))
 have h5:=qtr (h4.err0 he)
 have h6:=h4.le
 simp only at h6 ⊢;omega
theorem jgg:qhj ts (jz ts):=fun p h he=>by
 have h1:=qn ht h kVar
 have h0:=qmz ht p h
 unfold jz at he h0 ⊢
 simp only at he h0 ⊢
 have h2:=qav ht (h1.ok h)
 have h3:=h2
 have h4:=h3.trans (qn ht (h3.ok (h1.ok h)) kOf)
 have h5:=h4.trans (qbr ht (h4.ok (h1.ok h)))
 have key:∀ q,Step ts (must ts p kVar) q→(must ts q qx).err=0→p.at_<(must ts q qx).at_:=fun q hq hqe=>by
  have h6:=hq.trans (qn ht (hq.ok (h1.ok h)) qx)
  have h7:=(qhi (h6.err0 hqe)).2
  have:=h6.le
  omega
 refine key _ ?_ he
 split
 ·have h6:=h5.trans (qh ht (h5.ok (h1.ok h)) (by assumption))
  split
  ·have h7:=h6.trans (qh ht (h6.ok (h1.ok h)) (by assumption))
   exact h7.trans (qbr ht (h7.ok (h1.ok h)))
  ·exact h6.trans (qbr ht (h6.ok (h1.ok h)))
 ·exact h5
theorem jgh (h:AtOk ts p):Step ts (must ts p kVar) (jz ts p).2:=by
 have h0:=(qn ht h kVar).ok h
 unfold jz
 simp only
 have h3:=qav ht h0
 have h4:=h3.trans (qn ht (h3.ok h0) kOf)
 have h5:=h4.trans (qbr ht (h4.ok h0))
 split
 ·have h6:=h5.trans (qh ht (h5.ok h0) (by assumption))
  split
  ·have h7:=h6.trans (qh ht (h6.ok h0) (by assumption))
   have h8:=h7.trans (qbr ht (h7.ok h0))
   exact h8.trans (qn ht (h8.ok h0) qx)
  ·have h8:=h6.trans (qbr ht (h6.ok h0))
   exact h8.trans (qn ht (h8.ok h0) qx)
 ·exact h5.trans (qn ht (h5.ok h0) qx)
theorem jgi (h:0<ts.length):qhj ts (sF ts):=by
 show qhj ts (qe ts ts.length)
 obtain ⟨m,hm⟩:∃ m,ts.length=m+1:=⟨ts.length - 1,by omega⟩
 rw [hm]
 exact jgf ht m
theorem jue:qhj ts (qdw ts):=fun p h he=>by
 have h0:=qn ht h jd
 unfold qdw at he ⊢
 simp only at he ⊢
 have h1:=h0.ok h
 have h3:=qav ht h1
 have h4:Step ts (must ts p jd) (if sees ts (qf ts (must ts p jd)) qge=true then (numN ts (adv (qf ts (must ts p jd))),numP ts (adv (qf ts (must ts p jd)))) else (1,qf ts (must ts p jd))).2:=by
  split
  ·have h5:=h3.trans (qh ht (h3.ok h1) (by assumption))
   exact h5.trans (qbr ht (h5.ok h1))
  ·exact h3
 have h5:=h4.trans (qn ht (h4.ok h1) sLc)
 have h6:=h5.trans (qqh ht ts.length [] _ (h5.ok h1))
 generalize qcd ts ts.length [] _=V at he h6 ⊢
 have h7:=h6.trans (qjp (h6.ok h1) (qhh ht (qjq ht) ts.length V.1 _ (qcz (h6.ok h1)).1))
 have h8:=(qhi (h7.err0 he)).2
 have h9:=h7.le
 omega
theorem jgj:qhj ts (itemF ts):=fun p h he=>by
 unfold itemF at he ⊢
 simp only at he ⊢
 split
 ·rename_i hw
  rw [zb hw] at he
  exact jgg ht p h he
 rename_i hw
 rw [za hw] at he
 split
 ·rename_i hw
  rw [zb hw] at he
  exact jue ht p h he
 rename_i hw
 rw [za hw] at he
 split
 ·have h1:=qh ht h (by assumption)
  have h2:=qav ht (h1.ok h)
  have h3:=h2.trans (qn ht (h2.ok (h1.ok h)) sLb)
  have h4:=h3.trans (qbr ht (h3.ok (h1.ok h)))
  have h5:=h4.trans (qn ht (h4.ok (h1.ok h)) sRb)
  have h6:=h5.trans (qn ht (h5.ok (h1.ok h)) kOf)
  have h7:=h6.trans (qbr ht (h6.ok (h1.ok h)))
  have h8:=h7.trans (qig ht (h7.ok (h1.ok h)) qie)
  have h9:=h8.trans (qig ht (h8.ok (h1.ok h)) qjm)
  have h10:p.at_+1≤_:=(h9.trans (qn ht (h9.ok (h1.ok h)) qx)).le
  simp only;omega
 rename_i hw
 rw [za hw] at he
 split
 ·have h1:=qh ht h (by assumption)
  have h2:=qbo ht _ (h1.ok h)
  have h4:p.at_+1≤_:=(h2.trans (qn ht (h2.ok (h1.ok h)) qx)).le
  simp only;omega
 rename_i hw
 rw [za hw] at he
 have h1:=qn ht h qmw
 have h2:=qn ht (h1.ok h) qx
 have h3:=(qhi (h2.err0 he)).2
 have:=h2.le
 simp only at this ⊢;omega
end
end Pa
end Go.Proofs.YtikahnkkfkoglaaGreatDoor
end
