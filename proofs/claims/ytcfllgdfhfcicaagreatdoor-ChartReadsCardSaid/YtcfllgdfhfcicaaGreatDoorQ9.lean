/- Some texts of the library, one behind the other. -/
import Derived.Test.YtcfllgdfhfcicaaGreatDoorQPa3
import Derived.Test.YtcfllgdfhfcicaaGreatDoorQ5
import Derived.Test.YtcfllgdfhfcicaaGreatDoorQ2
section
namespace Go.Proofs.YtcfllgdfhfcicaaGreatDoor
open List renaming getD_eq_getElem?_getD → zd
open Go Go.Sx Go.RowKit Go.St Pa
set_option maxRecDepth 100000
set_option maxHeartbeats 4000000
section
variable {ts:List Lx.Tok} {p q:Ps} {n:Nat}
theorem ji {f:Nat→List AV} {v:Int} (h:f 0=[iv v]):Le (.slc 1 1 f) (ints [v]):=Le.slc rfl (fun i hi=>by obtain rfl:i=0:=(by omega);exact h)
theorem jo {f:Nat→List AV} {v:List UInt8} (h:f 0=[.str v]):Le (.slc 1 1 f) (strs [v]):=Le.slc rfl (fun i hi=>by obtain rfl:i=0:=(by omega);exact h)
theorem jx {f:Nat→List AV} {v w:Int} (h:f 0=[iv v]) (h':f 1=[iv w]):Le (.slc 1 2 f) (ints [v,w]):=Le.slc rfl (fun i hi=>by
 rcases (by omega:i=0∨i=1) with rfl|rfl
 ·exact h
 ·exact h')
theorem jy {f:Nat→List AV} {v w:List UInt8} (h:f 0=[.str v]) (h':f 1=[.str w]):Le (.slc 1 2 f) (strs [v,w]):=Le.slc rfl (fun i hi=>by
 rcases (by omega:i=0∨i=1) with rfl|rfl
 ·exact h
 ·exact h')
theorem jz {f:Nat→List AV} {a:Tr} (h:f 0=a.cells):Le (.slc 6 1 f) (qlc [a]):=Le.slc rfl (fun i hi=>by
 obtain rfl:i=0:=(by omega)
 exact h.trans (Tr.cellsL_get [a] 0 (Nat.zero_lt_succ _)).symm)
theorem qaa {f:Nat→List AV} {a b:Tr} (h:f 0=a.cells) (h':f 1=b.cells):Le (.slc 6 2 f) (qlc [a,b]):=Le.slc rfl (fun i hi=>by
 rcases (by omega:i=0∨i=1) with rfl|rfl
 ·exact h.trans (Tr.cellsL_get [a,b] 0 (Nat.zero_lt_succ _)).symm
 ·exact h'.trans (Tr.cellsL_get [a,b] 1 (Nat.lt_succ_self _)).symm)
theorem qab {f:Nat→List AV} {a b c:Tr} (h:f 0=a.cells) (h':f 1=b.cells) (h'':f 2=c.cells):Le (.slc 6 3 f) (qlc [a,b,c]):=Le.slc rfl (fun i hi=>by
 rcases (by omega:i=0∨i=1∨i=2) with rfl|rfl|rfl
 ·exact h.trans (Tr.cellsL_get [a,b,c] 0 (Nat.zero_lt_succ _)).symm
 ·exact h'.trans (Tr.cellsL_get [a,b,c] 1 (Nat.succ_lt_succ (Nat.zero_lt_succ _))).symm
 ·exact h''.trans (Tr.cellsL_get [a,b,c] 2 (Nat.lt_succ_self _)).symm)
theorem jol (ht:ToksOk ts):∀ n q,Pre ts n q→RdT ts 189 (qah ts n) q:=by
 intro n
 induction n with
 | zero=>intro p h;have:=h.left;have:=h.at_.hi;omega
 | succ n ih=>
  intro p h
  have h0:=h.at_.lo
  have h1:=h.at_.hi
  have h2:=ht.len
  have h3:=h.deep
  have h4:=h.left
  refine zM {} 600 Tryz.func189 (fun c0 rdb mpb=>?_)
  (repeat' ((conv=>whnf);first|refine Ob.auto ?_|refine zE 600 (qjp h.at_ _) ?_|refine zE 600 (qfk) ?_|refine zF 600 (fun hg=>qjn h.at_) ?_|(apply zB <;> intro hb <;> (try simp [-zd] at hb) <;> try (exfalso;omega))))
  ·have e1:qah ts (n+1) p=(.mk 17 [] [numN ts p] (tk ts p).pos [],numP ts p):=if_pos hb
   rw [e1]
   (repeat' ((conv=>whnf);first|(refine qav (fun _=>rfl) (by kernel_rfl) 600 ?_)|fail))
   ((conv=>whnf);refine CallY.trip [0] (qjo ht h.at_) (by kernel_rfl) leA qa (by exact qb rfl) (by exact qb rfl) ?_)
   (repeat' ((conv=>whnf);first|refine Ob.auto ?_|fail))
   ((conv=>whnf);refine AltG.far 9 [2] (by kernel_rfl) farA (EndG.go ?_))
   (repeat' ((conv=>whnf);first|refine Ob.auto ?_|fail))
   (refine ⟨Le.agg ⟨Le.refl _,?_,?_,Le.refl _,Le.refl _,?_,trivial⟩,qa⟩ <;> first|exact Le.nils _ _|exact Le.refl _|exact ji rfl|exact jo rfl|exact jz rfl|exact jx rfl rfl|exact jy rfl rfl|exact qaa rfl rfl|exact qab rfl rfl rfl|exact qac (fun _ _=>rfl))
  have hn1:¬ (p.err=0∧(tk ts p).kind=1):=fun h=>hb h.1 h.2
  ((conv=>whnf);refine zT 600 [0] (qam ht h.at_ kLen) qa ?_)
  (repeat' ((conv=>whnf);first|(apply zB <;> intro hb <;> (try simp [-zd] at hb) <;> try (exfalso;omega))))
  ·have e1:took ts p kLen=adv p:=if_pos hb
   have e2:qah ts (n+1) p=(.mk 19 [ju ts (adv p)] [] (tk ts p).pos [],qe ts (adv p)):=(if_neg hn1).trans (if_pos hb)
   have hP':=h.step (qg ht h.at_ hb)
   rw [e1,e2]
   (repeat' ((conv=>whnf);first|(refine qav (fun _=>rfl) (by kernel_rfl) 600 ?_)|fail))
   ((conv=>whnf);refine CallY.trip [0] (qhh ht hP'.at_) (by kernel_rfl) leA qa (by exact qb rfl) (by exact qb rfl) ?_)
   (repeat' ((conv=>whnf);first|refine Ob.auto ?_|fail))
   ((conv=>whnf);refine AltG.far 9 [2] (by kernel_rfl) farA (EndG.go ?_))
   (repeat' ((conv=>whnf);first|refine Ob.auto ?_|fail))
   (refine ⟨Le.agg ⟨Le.refl _,?_,?_,Le.refl _,Le.refl _,?_,trivial⟩,qa⟩ <;> first|exact Le.nils _ _|exact Le.refl _|exact ji rfl|exact jo rfl|exact jz rfl|exact jx rfl rfl|exact jy rfl rfl|exact qaa rfl rfl|exact qab rfl rfl rfl|exact qac (fun _ _=>rfl))
  have e1:took ts p kLen=p:=if_neg (by rw [hb];decide)
  rw [e1]
  (repeat' ((conv=>whnf);first|refine Ob.auto ?_|refine zE 600 (qeu h.at_ _) ?_|refine zF 600 (fun hg=>qeu h.at_ _) ?_|(apply zB <;> intro hb <;> (try simp [-zd] at hb) <;> try (exfalso;omega))))
  ·have hsee:sees ts p qet=true∨sees ts p qqa=true:=.inl (by assumption)
   have hst:Step ts p (adv p):=by rcases hsee with hs|hs <;> exact qg ht h.at_ hs
   have hP':=h.step hst
   obtain ⟨i1,i2,i3,_⟩:=qcj hP'.at_
   have hQ:Pre ts n (inP ts (adv p)):=⟨i1,by rw [i2,i3];show 0≤p.deep+1∧p.deep+1≤(p.at_+1)+1;omega,by rw [i2];show (ts.length:Int) - (p.at_+1)≤n;omega⟩
   have hQd:(inP ts (adv p)).deep=p.deep+1:=i3
   have e2:qah ts (n+1) p=(.mk 20 [] [] (tk ts p).pos (ifOk (qah ts n) (inP ts (adv p))).1,outP (ifOk (qah ts n) (inP ts (adv p))).2):=by
    refine (if_neg hn1).trans ((if_neg (by simp [*])).trans ((if_pos hsee).trans ?_))
    rw [if_pos (by assumption)]
   have hdp:=(qfj ht n _ i1).deep
   rw [e2]
   ((conv=>whnf);refine zT 600 [0] (qle hP'.at_ (show 0≤p.deep∧p.deep≤100000 by omega)) qa ?_)
   (repeat' ((conv=>whnf);first|refine Ob.auto ?_|refine zE 600 (qfk) ?_|(apply zB <;> intro hb <;> (try simp [-zd] at hb) <;> try (exfalso;omega))))
   ·rw [ifOk,if_pos hb]
    (repeat' ((conv=>whnf);first|(refine qav (fun _=>rfl) (by kernel_rfl) 600 ?_)|fail))
    ((conv=>whnf);refine CallY.trip [0] (ih _ hQ) (by kernel_rfl) leA qa (by exact qb rfl) (by exact qb rfl) ?_)
    (repeat' ((conv=>whnf);first|refine Ob.auto ?_|fail))
    ((conv=>whnf);refine AltG.far 7 [2] (by kernel_rfl) farA (EndG.go ?_))
    (repeat' ((conv=>whnf);first|refine Ob.auto ?_|fail))
    (refine ⟨Le.agg ⟨Le.refl _,?_,?_,Le.refl _,Le.refl _,?_,trivial⟩,qa⟩ <;> first|exact Le.nils _ _|exact Le.refl _|exact ji rfl|exact jo rfl|exact jz rfl|exact jx rfl rfl|exact jy rfl rfl|exact qaa rfl rfl|exact qab rfl rfl rfl|exact qac (fun _ _=>rfl))
   ·rw [ifOk,if_neg hb]
    (refine ⟨Le.agg ⟨Le.refl _,?_,?_,Le.refl _,Le.refl _,?_,trivial⟩,qa⟩ <;> first|exact Le.nils _ _|exact Le.refl _|exact ji rfl|exact jo rfl|exact jz rfl|exact jx rfl rfl|exact jy rfl rfl|exact qaa rfl rfl|exact qab rfl rfl rfl|exact qac (fun _ _=>rfl))
  ·have hsee:sees ts p qet=true∨sees ts p qqa=true:=.inr (by simp_all)
   have hst:Step ts p (adv p):=by rcases hsee with hs|hs <;> exact qg ht h.at_ hs
   have hP':=h.step hst
   obtain ⟨i1,i2,i3,_⟩:=qcj hP'.at_
   have hQ:Pre ts n (inP ts (adv p)):=⟨i1,by rw [i2,i3];show 0≤p.deep+1∧p.deep+1≤(p.at_+1)+1;omega,by rw [i2];show (ts.length:Int) - (p.at_+1)≤n;omega⟩
   have hQd:(inP ts (adv p)).deep=p.deep+1:=i3
   have e2:qah ts (n+1) p=(.mk 21 [] [] (tk ts p).pos (ifOk (qah ts n) (inP ts (adv p))).1,outP (ifOk (qah ts n) (inP ts (adv p))).2):=by
    refine (if_neg hn1).trans ((if_neg (by simp [*])).trans ((if_pos hsee).trans ?_))
    rw [if_neg (by simp [*])]
   have hdp:=(qfj ht n _ i1).deep
   rw [e2]
   ((conv=>whnf);refine zT 600 [0] (qle hP'.at_ (show 0≤p.deep∧p.deep≤100000 by omega)) qa ?_)
   (repeat' ((conv=>whnf);first|refine Ob.auto ?_|refine zE 600 (qfk) ?_|(apply zB <;> intro hb <;> (try simp [-zd] at hb) <;> try (exfalso;omega))))
   ·rw [ifOk,if_pos hb]
    (repeat' ((conv=>whnf);first|(refine qav (fun _=>rfl) (by kernel_rfl) 600 ?_)|fail))
    ((conv=>whnf);refine CallY.trip [0] (ih _ hQ) (by kernel_rfl) leA qa (by exact qb rfl) (by exact qb rfl) ?_)
    (repeat' ((conv=>whnf);first|refine Ob.auto ?_|fail))
    ((conv=>whnf);refine AltG.far 7 [2] (by kernel_rfl) farA (EndG.go ?_))
    (repeat' ((conv=>whnf);first|refine Ob.auto ?_|fail))
    (refine ⟨Le.agg ⟨Le.refl _,?_,?_,Le.refl _,Le.refl _,?_,trivial⟩,qa⟩ <;> first|exact Le.nils _ _|exact Le.refl _|exact ji rfl|exact jo rfl|exact jz rfl|exact jx rfl rfl|exact jy rfl rfl|exact qaa rfl rfl|exact qab rfl rfl rfl|exact qac (fun _ _=>rfl))
   ·rw [ifOk,if_neg hb]
    (refine ⟨Le.agg ⟨Le.refl _,?_,?_,Le.refl _,Le.refl _,?_,trivial⟩,qa⟩ <;> first|exact Le.nils _ _|exact Le.refl _|exact ji rfl|exact jo rfl|exact jz rfl|exact jx rfl rfl|exact jy rfl rfl|exact qaa rfl rfl|exact qab rfl rfl rfl|exact qac (fun _ _=>rfl))
  have hn2:¬ (sees ts p qet=true∨sees ts p qqa=true):=by simp [hb]
  ((conv=>whnf);refine zT 600 [0] (qam ht h.at_ sLp) qa ?_)
  (repeat' ((conv=>whnf);first|(apply zB <;> intro hb <;> (try simp [-zd] at hb) <;> try (exfalso;omega))))
  ·have e3:took ts p sLp=adv p:=if_pos (by assumption)
   have hst:=qg ht h.at_ (by assumption:sees ts p sLp=true)
   have hP':=h.step hst
   obtain ⟨i1,i2,i3,_⟩:=qcj hP'.at_
   have hQ:Pre ts n (inP ts (adv p)):=⟨i1,by rw [i2,i3];show 0≤p.deep+1∧p.deep+1≤(p.at_+1)+1;omega,by rw [i2];show (ts.length:Int) - (p.at_+1)≤n;omega⟩
   have hQd:(inP ts (adv p)).deep=p.deep+1:=i3
   have e2:qah ts (n+1) p=((if (inP ts (adv p)).err=0 then (qdt ts (qah ts n) (inP ts (adv p))).1 else .mk 17 [] [] (tk ts p).pos []),
    must ts (outP (if (inP ts (adv p)).err=0 then (qdt ts (qah ts n) (inP ts (adv p))).2 else inP ts (adv p))) sRp):=
    (if_neg hn1).trans ((if_neg (by simp [*])).trans ((if_neg hn2).trans (if_pos (by assumption))))
   have hrp:=qfj ht n
   have hse:=qqb ht hrp _ i1
   have hdp:=hse.deep
   rw [e2,e3]
   ((conv=>whnf);refine zT 600 [0] (qle hP'.at_ (show 0≤p.deep∧p.deep≤100000 by omega)) qa ?_)
   (repeat' ((conv=>whnf);first|refine Ob.auto ?_|refine zE 600 (qfk) ?_|(apply zB <;> intro hb <;> (try simp [-zd] at hb) <;> try (exfalso;omega))))
   ·rw [if_pos hb,if_pos hb]
    ((conv=>whnf);refine zT 600 [0] (jba ht hrp ih _ hQ) qa ?_)
    (repeat' ((conv=>whnf);first|refine Ob.auto ?_|fail))
    ((conv=>whnf);refine zT 600 [0] (qaq ht (p:=outP (qdt ts (qah ts n) (inP ts (adv p))).2) ⟨(hse.ok i1).lo,(hse.ok i1).hi⟩ sRp) qa ?_)
    (repeat' ((conv=>whnf);first|refine Ob.auto ?_|fail))
    exact ⟨Le.refl _,qa⟩
   ·rw [if_neg hb,if_neg hb]
    ((conv=>whnf);refine zT 600 [0] (qaq ht (p:=outP (inP ts (adv p))) ⟨i1.lo,i1.hi⟩ sRp) qa ?_)
    (repeat' ((conv=>whnf);first|refine Ob.auto ?_|fail))
    (refine ⟨Le.agg ⟨Le.refl _,?_,?_,Le.refl _,Le.refl _,?_,trivial⟩,qa⟩ <;> first|exact Le.nils _ _|exact Le.refl _|exact ji rfl|exact jo rfl|exact jz rfl|exact jx rfl rfl|exact jy rfl rfl|exact qaa rfl rfl|exact qab rfl rfl rfl|exact qac (fun _ _=>rfl))
  ·have e3:took ts p sLp=p:=if_neg (by simp [*])
   have e2:qah ts (n+1) p=(.mk 18 [ju ts p] [] (tk ts p).pos [],qe ts p):=(if_neg hn1).trans ((if_neg (by simp [*])).trans ((if_neg hn2).trans (if_neg (by simp [*]))))
   rw [e2,e3]
   (repeat' ((conv=>whnf);first|(refine qav (fun _=>rfl) (by kernel_rfl) 600 ?_)|fail))
   ((conv=>whnf);refine CallY.trip [0] (qhh ht h.at_) (by kernel_rfl) leA qa (by exact qb rfl) (by exact qb rfl) ?_)
   (repeat' ((conv=>whnf);first|refine Ob.auto ?_|fail))
   ((conv=>whnf);refine AltG.far 9 [2] (by kernel_rfl) farA (EndG.go ?_))
   (repeat' ((conv=>whnf);first|refine Ob.auto ?_|fail))
   (refine ⟨Le.agg ⟨Le.refl _,?_,?_,Le.refl _,Le.refl _,?_,trivial⟩,qa⟩ <;> first|exact Le.nils _ _|exact Le.refl _|exact ji rfl|exact jo rfl|exact jz rfl|exact jx rfl rfl|exact jy rfl rfl|exact qaa rfl rfl|exact qab rfl rfl rfl|exact qac (fun _ _=>rfl))
theorem e_rd (ht:ToksOk ts) (h:Pre ts ts.length p):RdT ts 108 (eF ts) p:=jba ht (qfj ht _) (jol ht _) p h
end
end Go.Proofs.YtcfllgdfhfcicaaGreatDoor
end
section
namespace Go.Proofs.YtcfllgdfhfcicaaGreatDoor
namespace Pa
open Go Go.Sx
section
variable {ts:List Lx.Tok} {p q r:Ps}
theorem Step.err0 (h:Step ts p q) (e:q.err=0):p.err=0:=Classical.byContradiction fun hp=>by
 have:=h.err hp
 subst this
 exact hp e
theorem qud (h:(bad ts p 11).err=0):False:=by
 unfold bad at h
 split at h
 ·simp at h
 ·rename_i hp;exact hp h
theorem qgg {s:List UInt8} (h:(must ts p s).err=0):sees ts p s=true∧(must ts p s).at_=p.at_+1:=by
 unfold must at h ⊢
 split
 ·exact ⟨by assumption,rfl⟩
 ·rename_i hn
  rw [if_neg hn] at h
  exact (qud h).elim
theorem qqf (h:(qe ts p).err=0):(qe ts p).at_=p.at_+1:=by
 unfold qe at h ⊢
 split
 ·rfl
 ·rename_i hn
  rw [if_neg hn] at h
  exact (qud h).elim
theorem jom (h:(numP ts p).err=0):(numP ts p).at_=p.at_+1:=by
 unfold numP at h ⊢
 split
 ·rfl
 ·rename_i hn
  rw [if_neg hn] at h
  exact (qud h).elim
abbrev qgh (ts:List Lx.Tok) (f:Ps→Tr × Ps):Prop:=∀ p,AtOk ts p→(f p).2.err=0→p.at_<(f p).2.at_
variable (ht:ToksOk ts)
include ht
theorem jon {blk:Ps→Tr × Ps} (hb:Runs ts blk) (a i:Int):qgh ts (qdh ts blk a i):=fun p h he=>by
 unfold qdh at he ⊢
 split
 ·rename_i hs
  rw [if_pos hs] at he
  have h1:=qg ht h hs
  have h2:=qai ht (h1.ok h)
  have h3:=qai ht (h2.ok (h1.ok h))
  have h4:=h2.trans (h3.trans (qi ht (h3.ok (h2.ok (h1.ok h))) qo))
  have:p.at_+1≤_:=h4.le
  simp only;omega
 ·rename_i hs
  rw [if_neg hs] at he
  split
  ·rename_i hw
   have h1:=qg ht h hw
   have h2:=qay ht _ (h1.ok h)
   have h4:=h2.trans (qi ht (h2.ok (h1.ok h)) qo)
   have:p.at_+1≤_:=h4.le
   simp only;omega
  ·rename_i hw
   rw [if_neg hw] at he
   have h1:=qi ht h ja
   have h2:=hb _ (h1.ok h)
   have h3:=h2.trans (qng ht hb ts.length [(blk (must ts p ja)).1] _ (h2.ok (h1.ok h)))
   have h4:=(qgg (h3.err0 he)).2
   have:=h3.le
   simp only at this ⊢;omega
theorem jbb (n:Nat):qgh ts (qc ts (n+1)):=fun p h he=>by
 have hb:=qqc ht (qjm ht n)
 have key:∀ x:Tr × Ps,qc ts (n+1) p=x→Step ts p x.2→(∀ q,Step ts p q→p.at_<q.at_→Step ts q x.2→p.at_<x.2.at_):=fun x _ _ q _ h1 h2=>Int.lt_of_lt_of_le h1 h2.le
 unfold qc at he ⊢
 simp only at he ⊢
 split
 ·rename_i hw
  rw [if_pos hw] at he
  have h1:=qhg ht h qdr
  have:=jon ht hb _ _ _ (h1.ok h) he
  have:=h1.le
  omega
 rename_i hw
 rw [if_neg hw] at he
 split
 ·have h1:=qg ht h (by assumption)
  have h2:=qai ht (h1.ok h)
  have h3:=qay ht _ (h2.ok (h1.ok h))
  have h4:p.at_+1≤_:=(h2.trans (h3.trans (qi ht (h3.ok (h2.ok (h1.ok h))) qo))).le
  simp only;omega
 rename_i hw
 rw [if_neg hw] at he
 split
 ·have h1:=qg ht h (by assumption)
  have h2:=qay ht _ (h1.ok h)
  have h3:=h2.trans (hb _ (h2.ok (h1.ok h)))
  have h4:p.at_+1≤_:=h3.le
  split
  ·have h5:=qg ht (h3.ok (h1.ok h)) (by assumption)
   have h6:=(h5.trans (hb _ (h5.ok (h3.ok (h1.ok h))))).le
   simp only at h6 ⊢;omega
  ·simp only;omega
 rename_i hw
 rw [if_neg hw] at he
 split
 ·have h1:=qg ht h (by assumption)
  have h2:=qay ht _ (h1.ok h)
  have h4:p.at_+1≤_:=(h2.trans (hb _ (h2.ok (h1.ok h)))).le
  simp only;omega
 rename_i hw
 rw [if_neg hw] at he
 split
 ·have h1:=qg ht h (by assumption)
  have h4:p.at_+1≤_:=(hb _ (h1.ok h)).le
  simp only;omega
 rename_i hw
 rw [if_neg hw] at he
 split
 ·have h1:=qg ht h (by assumption)
  have h4:p.at_+1≤_:=(qi ht (h1.ok h) qo).le
  simp only;omega
 rename_i hw
 rw [if_neg hw] at he
 split
 ·have h1:=qg ht h (by assumption)
  have h4:p.at_+1≤_:=(qi ht (h1.ok h) qo).le
  simp only;omega
 rename_i hw
 rw [if_neg hw] at he
 have h1:=qai ht h
 have h2:=qi ht (h1.ok h) sEq
 have h3:=qay ht _ (h2.ok (h1.ok h))
 have h4:=h2.trans (h3.trans (qi ht (h3.ok (h2.ok (h1.ok h))) qo))
 have h5:=qqf (h4.err0 he)
 have h6:=h4.le
 simp only at h6 ⊢;omega
theorem jbc:qgh ts (jn ts):=fun p h he=>by
 have h1:=qi ht h kVar
 have h0:=qld ht p h
 unfold jn at he h0 ⊢
 simp only at he h0 ⊢
 have h2:=qai ht (h1.ok h)
 have h3:=h2
 have h4:=h3.trans (qi ht (h3.ok (h1.ok h)) kOf)
 have h5:=h4.trans (qbf ht (h4.ok (h1.ok h)))
 have key:∀ q,Step ts (must ts p kVar) q→(must ts q qo).err=0→p.at_<(must ts q qo).at_:=fun q hq hqe=>by
  have h6:=hq.trans (qi ht (hq.ok (h1.ok h)) qo)
  have h7:=(qgg (h6.err0 hqe)).2
  have:=h6.le
  omega
 refine key _ ?_ he
 split
 ·have h6:=h5.trans (qg ht (h5.ok (h1.ok h)) (by assumption))
  split
  ·have h7:=h6.trans (qg ht (h6.ok (h1.ok h)) (by assumption))
   exact h7.trans (qbf ht (h7.ok (h1.ok h)))
  ·exact h6.trans (qbf ht (h6.ok (h1.ok h)))
 ·exact h5
theorem jbd (h:AtOk ts p):Step ts (must ts p kVar) (jn ts p).2:=by
 have h0:=(qi ht h kVar).ok h
 unfold jn
 simp only
 have h3:=qai ht h0
 have h4:=h3.trans (qi ht (h3.ok h0) kOf)
 have h5:=h4.trans (qbf ht (h4.ok h0))
 split
 ·have h6:=h5.trans (qg ht (h5.ok h0) (by assumption))
  split
  ·have h7:=h6.trans (qg ht (h6.ok h0) (by assumption))
   have h8:=h7.trans (qbf ht (h7.ok h0))
   exact h8.trans (qi ht (h8.ok h0) qo)
  ·have h8:=h6.trans (qbf ht (h6.ok h0))
   exact h8.trans (qi ht (h8.ok h0) qo)
 ·exact h5.trans (qi ht (h5.ok h0) qo)
theorem jbe (h:0<ts.length):qgh ts (sF ts):=by
 show qgh ts (qc ts ts.length)
 obtain ⟨m,hm⟩:∃ m,ts.length=m+1:=⟨ts.length - 1,by omega⟩
 rw [hm]
 exact jbb ht m
theorem joo:qgh ts (qdi ts):=fun p h he=>by
 have h0:=qi ht h qu
 unfold qdi at he ⊢
 simp only at he ⊢
 have h1:=h0.ok h
 have h3:=qai ht h1
 have h4:Step ts (must ts p qu) (if sees ts (qe ts (must ts p qu)) qfi=true then (numN ts (adv (qe ts (must ts p qu))),numP ts (adv (qe ts (must ts p qu)))) else (1,qe ts (must ts p qu))).2:=by
  split
  ·have h5:=h3.trans (qg ht (h3.ok h1) (by assumption))
   exact h5.trans (qbf ht (h5.ok h1))
  ·exact h3
 have h5:=h4.trans (qi ht (h4.ok h1) sLc)
 have h6:=h5.trans (qnh ht ts.length [] _ (h5.ok h1))
 generalize qbp ts ts.length [] _=V at he h6 ⊢
 have h7:=h6.trans (qij (h6.ok h1) (qgf ht (qik ht) ts.length V.1 _ (qcj (h6.ok h1)).1))
 have h8:=(qgg (h7.err0 he)).2
 have h9:=h7.le
 omega
theorem jbf:qgh ts (itemF ts):=fun p h he=>by
 unfold itemF at he ⊢
 simp only at he ⊢
 split
 ·rename_i hw
  rw [if_pos hw] at he
  exact jbc ht p h he
 rename_i hw
 rw [if_neg hw] at he
 split
 ·rename_i hw
  rw [if_pos hw] at he
  exact joo ht p h he
 rename_i hw
 rw [if_neg hw] at he
 split
 ·have h1:=qg ht h (by assumption)
  have h2:=qai ht (h1.ok h)
  have h3:=h2.trans (qi ht (h2.ok (h1.ok h)) sLb)
  have h4:=h3.trans (qbf ht (h3.ok (h1.ok h)))
  have h5:=h4.trans (qi ht (h4.ok (h1.ok h)) sRb)
  have h6:=h5.trans (qi ht (h5.ok (h1.ok h)) kOf)
  have h7:=h6.trans (qbf ht (h6.ok (h1.ok h)))
  have h8:=h7.trans (qhg ht (h7.ok (h1.ok h)) qhe)
  have h9:=h8.trans (qhg ht (h8.ok (h1.ok h)) qih)
  have h10:p.at_+1≤_:=(h9.trans (qi ht (h9.ok (h1.ok h)) qo)).le
  simp only;omega
 rename_i hw
 rw [if_neg hw] at he
 split
 ·have h1:=qg ht h (by assumption)
  have h2:=qay ht _ (h1.ok h)
  have h4:p.at_+1≤_:=(h2.trans (qi ht (h2.ok (h1.ok h)) qo)).le
  simp only;omega
 rename_i hw
 rw [if_neg hw] at he
 have h1:=qi ht h qla
 have h2:=qi ht (h1.ok h) qo
 have h3:=(qgg (h2.err0 he)).2
 have:=h2.le
 simp only at this ⊢;omega
end
end Pa
end Go.Proofs.YtcfllgdfhfcicaaGreatDoor
end
