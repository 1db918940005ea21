/- Contracts of the program's parser: processes, items, the program. -/
import Derived.Test.YthfaleaojlnnoaaY7PcU
import Derived.Test.YthfaleaojlnnoaaY72
set_option linter.unusedSimpArgs false
set_option linter.unusedVariables false
namespace Go.Proofs.Ythfaleaojlnnoaa
open List renaming getD_eq_getElem?_getD → zd
open Go Go.Sx Go.RowKit Go.St Pa
set_option maxRecDepth 100000
set_option maxHeartbeats 8000000
section
variable {ts:List Lx.Tok} {p q r g:Ps} {n:Nat}
def wd (d:Int) (p:Ps):Ps:={ p with deep:=d }
theorem qur (d:Int) (p:Ps) (s:List UInt8):must ts (wd d p) s=wd d (must ts p s):=by
 have e:sees ts (wd d p) s=sees ts p s:=rfl
 unfold must
 rw [e]
 split
 ·rfl
 ·unfold bad
  show (if p.err=0 then _ else _)=_
  split <;> rfl
theorem jnd (d:Int) (p:Ps):qd ts (wd d p)=wd d (qd ts p):=by
 have e:qdq ts (wd d p)=qdq ts p:=rfl
 unfold qd
 rw [e]
 split
 ·rfl
 ·unfold bad
  show (if p.err=0 then _ else _)=_
  split <;> rfl
theorem jne (d:Int) (p:Ps):numP ts (wd d p)=wd d (numP ts p):=by
 have e:qdr ts (wd d p)=qdr ts p:=rfl
 unfold numP
 rw [e]
 split
 ·rfl
 ·unfold bad
  show (if p.err=0 then _ else _)=_
  split <;> rfl
theorem jnf (d:Int) (p:Ps):qah ts (wd d p)=((qah ts p).1,wd d (qah ts p).2):=by
 have s1:∀ q s,sees ts (wd d q) s=sees ts q s:=fun _ _=>rfl
 have s2:∀ q,adv (wd d q)=wd d (adv q):=fun _=>rfl
 have s3:∀ q,jn ts (wd d q)=jn ts q:=fun _=>rfl
 have s4:∀ q,numN ts (wd d q)=numN ts q:=fun _=>rfl
 have s5:∀ q,tk ts (wd d q)=tk ts q:=fun _=>rfl
 unfold qah
 simp only [qur,jnd,jne,s1,s2,s3,s4,s5]
 split
 ·split <;> simp only [qur]
 ·simp only [qur]
theorem jau (d:Int):∀ (m:Nat) (l:List Tr) (p:Ps),qai ts m l (wd d p)=((qai ts m l p).1,wd d (qai ts m l p).2)
 | 0,l,p=>rfl
 | m+1,l,p=>by
  have e:sees ts (wd d p) kVar=sees ts p kVar:=rfl
  rw [qai,qai,e]
  split
  ·rw [jnf]
   exact jau d m _ _
  ·rfl
def qbg (ts:List Lx.Tok) (q:Ps):List Tr × Ps:=jb ts (sF ts) ts.length (qai ts ts.length [] q).1 (qai ts ts.length [] q).2
theorem jav (ht:ToksOk ts) (h:AtOk ts r) (hd:r.deep=0):jb ts (sF ts) ts.length (qai ts ts.length [] r).1 (inP ts (qai ts ts.length [] r).2)=qbg ts (inP ts r):=by
 have e1:inP ts r=wd 1 r:=by
  unfold inP wd
  rw [hd,za (by decide)]
  rfl
 have h2:=(qgr ht ts.length [] r h).deep
 have e2:inP ts (qai ts ts.length [] r).2=wd 1 (qai ts ts.length [] r).2:=by
  unfold inP wd
  rw [h2,hd,za (by decide)]
  rfl
 unfold qbg
 rw [e1,e2,jau]
theorem jaw (ht:ToksOk ts) (h:AtOk ts q):Step ts q (qbg ts q).2:=by
 have h1:=qgr ht ts.length [] q h
 exact h1.trans (qei ht (qhr ht) _ _ _ (h1.ok h))
theorem jax (he:q.err≠0) (m:Nat) (l:List Tr):qai ts m l q=(l,q):=by
 cases m with
 | zero=>rfl
 | succ m=>rw [qai,za (by rw [qnc he];decide)]
theorem jay {stat:Ps→Tr × Ps} (he:q.err≠0) (m:Nat) (l:List Tr):jb ts stat m l q=(l,q):=by
 cases m with
 | zero=>rfl
 | succ m=>rw [jb,za he]
theorem qqe (he:q.err≠0):(qbg ts q).2=q:=by
 unfold qbg
 rw [jax he,jay he]
theorem qzm (hp:0<ts.length) (ht:ToksOk ts):qej ts (sF ts):=by
 unfold sF
 obtain ⟨m,hm⟩:∃ m,ts.length=m+1:=⟨ts.length - 1,by omega⟩
 rw [hm]
 exact qts ht m
theorem jaz (hc:TC ts) (h:PreC ts ts.length p) (k a:Int) (w:List (List UInt8)) (ns:List Int) :
  MTrip Try.prog 83 [.ptr 1 0,.ptr 3 0] [psc ts p,boxP,brO k (strs w) (ints ns) a .nils,boxB (.ptr 2 0)] ((qbg ts p).2.err == 0) (.tup [])
   [(0,psc ts (qbg ts p).2),(1,boxP),(2,brO k (strs w) (ints ns) a (.own 4 0 0 (qbg ts p).1.length)),(3,boxB (.ptr 2 0)),(4,rowB (qbg ts p).1)] 5 (pfl (qbg ts p).2):=by
 have ht:=hc.ok
 have h2:=ht.len
 have h3:=h.at_.hi
 have h4:=h.at_.lo
 have hgs:=qzm (ts:=ts) (by omega) ht
 unfold qbg
 generalize hV:qai ts ts.length [] p=V
 have tS:=fun (hl:V.1.length≤10000) (hv:PreC ts ts.length V.2)=>jme hc (qhr ht) hgs (jnc hc ts.length) hv k a w ns V.1 hl
 generalize hG:jb ts (sF ts) ts.length V.1 V.2=G at *
 refine qcw (T:=tab Try.prog) (C:={}) 600 (fun _=>rfl) Try.func83 rfl (by kernel_rfl) (by kernel_rfl) (fun c0 rdb mpb=>?_)
 (repeat' ((conv=>whnf);first|refine zA ?_|refine zO ?_|refine Ob.auto ?_|refine zD 600 ?_|(apply zB <;> intro hb <;> (try simp [-zd] at hb) <;> try (exfalso;omega))|refine Ob.intro ?_ ?_))
 refine qsx 2 5 54 1 rfl rfl ?_
 ((conv=>whnf);refine qbb (fun _=>rfl) 600 1 (fun _:Nat × List Tr × Ps=>[]) (fun g=>[(4,rowB g.2.1),(2,brO k (strs w) (ints ns) a (.own 4 0 0 g.2.1.length)),(0,psc ts g.2.2)]) (fun g=>PreC ts ts.length g.2.2∧qai ts g.1 g.2.1 g.2.2=V∧(ts.length:Int) - g.2.2.at_≤g.1∧g.2.1.length+g.1≤ts.length) (fun g=>g.1) ((ts.length,[],p)) (⟨h,hV,by have:=h.at_.lo;simp only;omega,by simp⟩) qa qa (fun _=>rfl) (by kernel_rfl) ?_;(conv=>whnf))
 rintro ⟨m,l,r⟩ ⟨hP,hj,hkk,hl⟩
 simp only at hP hj hkk hl
 have g1:=hP.at_.hi
 obtain ⟨m,rfl⟩:∃ m',m=m'+1:=⟨m - 1,by omega⟩
 rw [qai] at hj
 (repeat' ((conv=>whnf);first|refine zA ?_|refine zO ?_|refine Ob.auto ?_|refine zD 600 ?_|(apply zB <;> intro hb <;> (try simp [-zd] at hb) <;> try (exfalso;omega))|refine Ob.intro ?_ ?_))
 ((conv=>whnf);refine ql (fun _=>rfl) 600 (qge hc.kind hP.at_ hP.err (s:=kVar) (by decide +kernel)) qc ⟨Le.refl _,jf rfl,trivial⟩ (by rfl) (by kernel_rfl) ?_)
 (repeat' ((conv=>whnf);first|refine zA ?_|refine zO ?_|refine Ob.auto ?_|refine zD 600 ?_|(apply zB <;> intro hb <;> (try simp [-zd] at hb) <;> try (exfalso;omega))|refine Ob.intro ?_ ?_))
 ·rw [zb hb] at hj
  have hst:=qkw ht r hP.at_
  have t1:=jak hc hP
  rw [RdM] at t1
  have hgn:=qpq ht r hP.at_
  generalize qah ts r=y at hj hst t1 hgn
  cases hkk2:(y.2.err == 0) with
  | false=>
   have hk:=hkk2
   have hz:y.2.err≠0→G.2.err=y.2.err∧G.2.fat=y.2.fat:=fun he=>by
    rw [jax he] at hj
    subst hj
    rw [jay he] at hG
    subst hG
    exact ⟨rfl,rfl⟩
   (repeat' ((conv=>whnf);first|refine zA ?_|refine zO ?_|refine Ob.auto ?_|refine zI ?_|refine zD 600 ?_|(refine qi (fun _=>rfl) (by kernel_rfl) 600 ?_)|(apply zB <;> intro hb <;> (try simp [-zd] at hb) <;> try (exfalso;omega))|refine Ob.intro ?_ ?_))
   ((conv=>whnf);refine CallY.mpan 99 [0] (t1) hk (qde hz hk) (by kernel_rfl) (by kernel_rfl) leA qa (by exact qb rfl) ?_)
   (repeat' ((conv=>whnf);first|refine zO ?_|refine Ob.auto ?_|refine zI ?_|refine zD 600 ?_|(refine qi (fun _=>rfl) (by kernel_rfl) 600 ?_)|(apply zB <;> intro hb <;> (try simp [-zd] at hb) <;> try (exfalso;omega))|refine Ob.intro ?_ ?_))
   ((conv=>whnf);refine AltG.far 11 [3,2,1] (by kernel_rfl) farA (EndG.dead 99 (by rfl)))
  | true=>
   (repeat' ((conv=>whnf);first|refine zA ?_|refine zO ?_|refine Ob.auto ?_|refine zI ?_|refine zD 600 ?_|(refine qi (fun _=>rfl) (by kernel_rfl) 600 ?_)|(apply zB <;> intro hb <;> (try simp [-zd] at hb) <;> try (exfalso;omega))|refine Ob.intro ?_ ?_))
   ((conv=>whnf);refine CallY.trip [0] (t1.trip hkk2) (by kernel_rfl) leA qa (by exact qb rfl) (by exact qb rfl) ?_)
   (repeat' ((conv=>whnf);first|refine zO ?_|refine Ob.auto ?_|refine zI ?_|refine zD 600 ?_|(refine qi (fun _=>rfl) (by kernel_rfl) 600 ?_)|(apply zB <;> intro hb <;> (try simp [-zd] at hb) <;> try (exfalso;omega))|refine Ob.intro ?_ ?_))
   ((conv=>whnf);refine AltG.far 11 [3,2,1] (by kernel_rfl) farA (EndG.go ?_))
   (repeat' ((conv=>whnf);first|refine zA ?_|refine zO ?_|refine Ob.auto ?_|refine zD 600 ?_|(apply zB <;> intro hb <;> (try simp [-zd] at hb) <;> try (exfalso;omega))|refine Ob.intro ?_ ?_))
   have hgn':=hgn (by simpa using hkk2)
   ((conv=>whnf);refine ⟨(m,l++[y.1],y.2),⟨hP.step hst hkk2,hj,by dsimp only;omega,by simp;omega⟩,⟨qa,⟨⟨⟨rfl,rfl,rfl⟩,rfl,by simp,qnl rfl rfl⟩,⟨rfl,Le.refl _,Le.refl _,Le.refl _,Le.refl _,Le.refl _,Le.of_eq (congrArg (AV.own _ _ _) (by simp)),trivial⟩,qa⟩⟩,⟨qa,qa⟩,?_⟩;(first|omega|(dsimp only;omega)|skip))
 ·rw [za (by rw [hb];decide)] at hj
  subst hj
  have t5:=tS (by dsimp only;omega) hP
  dsimp only at t5
  ((conv=>whnf);refine qm (fun _=>rfl) 600 [0,2,4] (t5) (by kernel_rfl) (by kernel_rfl) leA qa (by exact qb rfl) (by exact qb rfl) (by kernel_rfl) (fun hk=>⟨hk,rfl⟩) (fun hok=>?_))
  (repeat' ((conv=>whnf);first|refine zA ?_|refine zO ?_|refine Ob.auto ?_|refine zD 600 ?_|(apply zB <;> intro hb <;> (try simp [-zd] at hb) <;> try (exfalso;omega))|refine Ob.intro ?_ ?_))
  exact ⟨hok,Le.refl _,qa⟩
end
end Go.Proofs.Ythfaleaojlnnoaa
