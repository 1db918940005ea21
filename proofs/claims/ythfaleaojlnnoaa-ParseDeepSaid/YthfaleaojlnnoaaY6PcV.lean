/- Contracts of the program's parser: processes, items, the program. -/
import Derived.Test.YthfaleaojlnnoaaY6PcU
import Derived.Test.YthfaleaojlnnoaaY62
set_option linter.unusedSimpArgs false
set_option linter.unusedVariables false
namespace Go.Proofs.Ythfaleaojlnnoaa
open List renaming getD_eq_getElem?_getD → zd
open Go Go.Sx Go.RowKit Go.St Pa
set_option maxRecDepth 100000
set_option maxHeartbeats 8000000
section
variable {ts:List Lx.Tok} {p q r g:Ps} {n:Nat}
def wd (d:Int) (p:Ps):Ps:={ p with deep:=d }
theorem qvm (d:Int) (p:Ps) (s:List UInt8):must ts (wd d p) s=wd d (must ts p s):=by
 have e:sees ts (wd d p) s=sees ts p s:=rfl
 unfold must
 rw [e]
 split
 ·rfl
 ·unfold bad
  show (if p.err=0 then _ else _)=_
  split <;> rfl
theorem jog (d:Int) (p:Ps):qd ts (wd d p)=wd d (qd ts p):=by
 have e:qdf ts (wd d p)=qdf ts p:=rfl
 unfold qd
 rw [e]
 split
 ·rfl
 ·unfold bad
  show (if p.err=0 then _ else _)=_
  split <;> rfl
theorem joh (d:Int) (p:Ps):numP ts (wd d p)=wd d (numP ts p):=by
 have e:qcu ts (wd d p)=qcu ts p:=rfl
 unfold numP
 rw [e]
 split
 ·rfl
 ·unfold bad
  show (if p.err=0 then _ else _)=_
  split <;> rfl
theorem joi (d:Int) (p:Ps):jf ts (wd d p)=((jf ts p).1,wd d (jf ts p).2):=by
 have s1:∀ q s,sees ts (wd d q) s=sees ts q s:=fun _ _=>rfl
 have s2:∀ q,adv (wd d q)=wd d (adv q):=fun _=>rfl
 have s3:∀ q,jd ts (wd d q)=jd ts q:=fun _=>rfl
 have s4:∀ q,numN ts (wd d q)=numN ts q:=fun _=>rfl
 have s5:∀ q,tk ts (wd d q)=tk ts q:=fun _=>rfl
 unfold jf
 simp only [qvm,jog,joh,s1,s2,s3,s4,s5]
 split
 ·split <;> simp only [qvm]
 ·simp only [qvm]
theorem jbp (d:Int):∀ (m:Nat) (l:List Tr) (p:Ps),jr ts m l (wd d p)=((jr ts m l p).1,wd d (jr ts m l p).2)
 | 0,l,p=>rfl
 | m+1,l,p=>by
  have e:sees ts (wd d p) kVar=sees ts p kVar:=rfl
  rw [jr,jr,e]
  split
  ·rw [joi]
   exact jbp d m _ _
  ·rfl
def qcb (ts:List Lx.Tok) (q:Ps):List Tr × Ps:=qq ts (sF ts) ts.length (jr ts ts.length [] q).1 (jr ts ts.length [] q).2
theorem jbq (ht:ToksOk ts) (h:AtOk ts r) (hd:r.deep=0):qq ts (sF ts) ts.length (jr ts ts.length [] r).1 (inP ts (jr ts ts.length [] r).2)=qcb ts (inP ts r):=by
 have e1:inP ts r=wd 1 r:=by
  unfold inP wd
  rw [hd,za (by decide)]
  rfl
 have h2:=(qhi ht ts.length [] r h).deep
 have e2:inP ts (jr ts ts.length [] r).2=wd 1 (jr ts ts.length [] r).2:=by
  unfold inP wd
  rw [h2,hd,za (by decide)]
  rfl
 unfold qcb
 rw [e1,e2,jbp]
theorem jbr (ht:ToksOk ts) (h:AtOk ts q):Step ts q (qcb ts q).2:=by
 have h1:=qhi ht ts.length [] q h
 exact h1.trans (qdy ht (qez ht) _ _ _ (h1.ok h))
theorem jbs (he:q.err≠0) (m:Nat) (l:List Tr):jr ts m l q=(l,q):=by
 cases m with
 | zero=>rfl
 | succ m=>rw [jr,za (by rw [qgq he];decide)]
theorem jbt {stat:Ps→Tr × Ps} (he:q.err≠0) (m:Nat) (l:List Tr):qq ts stat m l q=(l,q):=by
 cases m with
 | zero=>rfl
 | succ m=>rw [qq,za he]
theorem qra (he:q.err≠0):(qcb ts q).2=q:=by
 unfold qcb
 rw [jbs he,jbt he]
theorem qqh (hp:0<ts.length) (ht:ToksOk ts):qea ts (sF ts):=by
 unfold sF
 obtain ⟨m,hm⟩:∃ m,ts.length=m+1:=⟨ts.length - 1,by omega⟩
 rw [hm]
 exact qqf ht m
theorem jbu (hc:TC ts) (h:PreC ts ts.length p) (k a:Int) (w:List (List UInt8)) (ns:List Int) :
  MTrip Try.prog 83 [.ptr 1 0,.ptr 3 0] [psc ts p,boxP,brO k (strs w) (ints ns) a .nils,boxB (.ptr 2 0)] ((qcb ts p).2.err == 0) (.tup [])
   [(0,psc ts (qcb ts p).2),(1,boxP),(2,brO k (strs w) (ints ns) a (.own 4 0 0 (qcb ts p).1.length)),(3,boxB (.ptr 2 0)),(4,rowB (qcb ts p).1)] 5 (pfl (qcb ts p).2):=by
 have ht:=hc.ok
 have h2:=ht.len
 have h3:=h.at_.hi
 have h4:=h.at_.lo
 have hgs:=qqh (ts:=ts) (by omega) ht
 unfold qcb
 generalize hV:jr ts ts.length [] p=V
 have tS:=fun (hl:V.1.length≤10000) (hv:PreC ts ts.length V.2)=>jnh hc (qez ht) hgs (jof hc ts.length) hv k a w ns V.1 hl
 generalize hG:qq ts (sF ts) ts.length V.1 V.2=G at *
 refine qdh (T:=tab Try.prog) (C:={}) 600 (fun _=>rfl) Try.func83 rfl (by kernel_rfl) (by kernel_rfl) (fun c0 rdb mpb=>?_)
 (repeat' ((conv=>whnf);first|refine zA ?_|refine zO ?_|refine Ob.auto ?_|refine zD 600 ?_|(apply zB <;> intro hb <;> (try simp [-zd] at hb) <;> try (exfalso;omega))|refine Ob.intro ?_ ?_))
 refine qjl 2 5 54 1 rfl rfl ?_
 ((conv=>whnf);refine qag (fun _=>rfl) 600 1 (fun _:Nat × List Tr × Ps=>[]) (fun g=>[(4,rowB g.2.1),(2,brO k (strs w) (ints ns) a (.own 4 0 0 g.2.1.length)),(0,psc ts g.2.2)]) (fun g=>PreC ts ts.length g.2.2∧jr ts g.1 g.2.1 g.2.2=V∧(ts.length:Int) - g.2.2.at_≤g.1∧g.2.1.length+g.1≤ts.length) (fun g=>g.1) ((ts.length,[],p)) (⟨h,hV,by have:=h.at_.lo;simp only;omega,by simp⟩) qa qa (fun _=>rfl) (by kernel_rfl) ?_;(conv=>whnf))
 rintro ⟨m,l,r⟩ ⟨hP,hj,hkk,hl⟩
 simp only at hP hj hkk hl
 have g1:=hP.at_.hi
 obtain ⟨m,rfl⟩:∃ m',m=m'+1:=⟨m - 1,by omega⟩
 rw [jr] at hj
 (repeat' ((conv=>whnf);first|refine zA ?_|refine zO ?_|refine Ob.auto ?_|refine zD 600 ?_|(apply zB <;> intro hb <;> (try simp [-zd] at hb) <;> try (exfalso;omega))|refine Ob.intro ?_ ?_))
 ((conv=>whnf);refine qj (fun _=>rfl) 600 (qgu hc.kind hP.at_ hP.err (s:=kVar) (by decide +kernel)) qc ⟨Le.refl _,jj rfl,trivial⟩ (by rfl) (by kernel_rfl) ?_)
 (repeat' ((conv=>whnf);first|refine zA ?_|refine zO ?_|refine Ob.auto ?_|refine zD 600 ?_|(apply zB <;> intro hb <;> (try simp [-zd] at hb) <;> try (exfalso;omega))|refine Ob.intro ?_ ?_))
 ·rw [zb hb] at hj
  have hst:=qik ht r hP.at_
  have t1:=jbf hc hP
  rw [RdM] at t1
  have hgn:=qqg ht r hP.at_
  generalize jf ts r=y at hj hst t1 hgn
  cases hkk2:(y.2.err == 0) with
  | false=>
   have hk:=hkk2
   have hz:y.2.err≠0→G.2.err=y.2.err∧G.2.fat=y.2.fat:=fun he=>by
    rw [jbs he] at hj
    subst hj
    rw [jbt he] at hG
    subst hG
    exact ⟨rfl,rfl⟩
   (repeat' ((conv=>whnf);first|refine zA ?_|refine zO ?_|refine Ob.auto ?_|refine zI ?_|refine zD 600 ?_|(refine qh (fun _=>rfl) (by kernel_rfl) 600 ?_)|(apply zB <;> intro hb <;> (try simp [-zd] at hb) <;> try (exfalso;omega))|refine Ob.intro ?_ ?_))
   ((conv=>whnf);refine CallY.mpan 99 [0] (t1) hk (qdr hz hk) (by kernel_rfl) (by kernel_rfl) leA qa (by exact qb rfl) ?_)
   (repeat' ((conv=>whnf);first|refine zO ?_|refine Ob.auto ?_|refine zI ?_|refine zD 600 ?_|(refine qh (fun _=>rfl) (by kernel_rfl) 600 ?_)|(apply zB <;> intro hb <;> (try simp [-zd] at hb) <;> try (exfalso;omega))|refine Ob.intro ?_ ?_))
   ((conv=>whnf);refine AltG.far 11 [3,2,1] (by kernel_rfl) farA (EndG.dead 99 (by rfl)))
  | true=>
   (repeat' ((conv=>whnf);first|refine zA ?_|refine zO ?_|refine Ob.auto ?_|refine zI ?_|refine zD 600 ?_|(refine qh (fun _=>rfl) (by kernel_rfl) 600 ?_)|(apply zB <;> intro hb <;> (try simp [-zd] at hb) <;> try (exfalso;omega))|refine Ob.intro ?_ ?_))
   ((conv=>whnf);refine CallY.trip [0] (t1.trip hkk2) (by kernel_rfl) leA qa (by exact qb rfl) (by exact qb rfl) ?_)
   (repeat' ((conv=>whnf);first|refine zO ?_|refine Ob.auto ?_|refine zI ?_|refine zD 600 ?_|(refine qh (fun _=>rfl) (by kernel_rfl) 600 ?_)|(apply zB <;> intro hb <;> (try simp [-zd] at hb) <;> try (exfalso;omega))|refine Ob.intro ?_ ?_))
   ((conv=>whnf);refine AltG.far 11 [3,2,1] (by kernel_rfl) farA (EndG.go ?_))
   (repeat' ((conv=>whnf);first|refine zA ?_|refine zO ?_|refine Ob.auto ?_|refine zD 600 ?_|(apply zB <;> intro hb <;> (try simp [-zd] at hb) <;> try (exfalso;omega))|refine Ob.intro ?_ ?_))
   have hgn':=hgn (by simpa using hkk2)
   ((conv=>whnf);refine ⟨(m,l++[y.1],y.2),⟨hP.step hst hkk2,hj,by dsimp only;omega,by simp;omega⟩,⟨qa,⟨⟨⟨rfl,rfl,rfl⟩,rfl,by simp,qoc rfl rfl⟩,⟨rfl,Le.refl _,Le.refl _,Le.refl _,Le.refl _,Le.refl _,Le.of_eq (congrArg (AV.own _ _ _) (by simp)),trivial⟩,qa⟩⟩,⟨qa,qa⟩,?_⟩;(first|omega|(dsimp only;omega)|skip))
 ·rw [za (by rw [hb];decide)] at hj
  subst hj
  have t5:=tS (by dsimp only;omega) hP
  dsimp only at t5
  ((conv=>whnf);refine qr (fun _=>rfl) 600 [0,2,4] (t5) (by kernel_rfl) (by kernel_rfl) leA qa (by exact qb rfl) (by exact qb rfl) (by kernel_rfl) (fun hk=>⟨hk,rfl⟩) (fun hok=>?_))
  (repeat' ((conv=>whnf);first|refine zA ?_|refine zO ?_|refine Ob.auto ?_|refine zD 600 ?_|(apply zB <;> intro hb <;> (try simp [-zd] at hb) <;> try (exfalso;omega))|refine Ob.intro ?_ ?_))
  exact ⟨hok,Le.refl _,qa⟩
end
end Go.Proofs.Ythfaleaojlnnoaa
