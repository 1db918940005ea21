/- Contracts of the program's parser: statements up to a brace. -/
import Derived.Test.YthfaleaojlnnoaaY7PcD
import Derived.Test.YthfaleaojlnnoaaY72
set_option linter.unusedSimpArgs false
set_option linter.unusedVariables false
namespace Go.Proofs.Ythfaleaojlnnoaa
open List renaming getD_eq_getElem?_getD → zd
open Go Go.Sx Go.RowKit Go.St Pa
set_option maxRecDepth 100000
set_option maxHeartbeats 4000000
abbrev qgv (l:List Tr):Nat→List AV:=fun i=>[(Tr.pvL l).getD i .nilp]
theorem qnl {l:List Tr} {t:Tr} {n:Nat} {g:Nat→List AV} (hn:n=l.length) (hg:g 0=[t.pv]):∀ j,j<l.length+1→LeL (appF n (qgv l) 1 g j) (qgv (l++[t]) j):=by
 intro j hj
 subst hn
 refine LeL.of_eq ?_
 have e:qgv (l++[t]) j=[((l++[t]).getD j Tr.none).pv]:=congrArg (fun x=>[x]) (Tr.pvL_get (l++[t]) j (by simp;omega))
 rw [e,qyr]
 unfold appF
 by_cases h:j<l.length
 ·rw [zb h,zb h]
  exact congrArg (fun x=>[x]) (Tr.pvL_get l j h)
 ·obtain rfl:j=l.length:=by omega
  rw [za h,zb (by omega),za h,zb rfl,xy]
  exact hg
section
variable {ts:List Lx.Tok} {p q r:Ps} {n:Nat}
theorem jmd (hc:TC ts) {stat:Ps→Tr × Ps} (hr:Runs ts stat) (hg:qej ts stat) (hs:∀ q,PreC ts n q→RdM ts 99 stat q) (h:PreC ts n p) (k a:Int) :
  MTrip Try.prog 85 [.ptr 0 0,.ptr 1 0] [psc ts p,.box 78 [iv k,.nils,.nils,.nils,iv a,.nils]] ((jb ts stat ts.length [] p).2.err == 0) (.tup [])
   [(0,psc ts (jb ts stat ts.length [] p).2),(1,.box 78 [iv k,.nils,.nils,.nils,iv a,.own 2 0 0 (jb ts stat ts.length [] p).1.length]),(2,.row [] 54 1 0 (jb ts stat ts.length [] p).1.length (qgv (jb ts stat ts.length [] p).1))] 3 (pfl (jb ts stat ts.length [] p).2):=by
 have ht:=hc.ok
 have h2:=ht.len
 generalize hG:jb ts stat ts.length [] p=G
 refine qcw (T:=tab Try.prog) (C:={}) 600 (fun _=>rfl) Try.func85 rfl (by kernel_rfl) (by kernel_rfl) (fun c0 rdb mpb=>?_)
 (repeat' ((conv=>whnf);first|refine zA ?_|refine zO ?_|refine Ob.auto ?_|refine zD 600 ?_|(apply zB <;> intro hb <;> (try simp [-zd] at hb) <;> try (exfalso;omega))|refine Ob.intro ?_ ?_))
 refine qsx 1 5 54 1 rfl rfl ?_
 ((conv=>whnf);refine qbb (fun _=>rfl) 600 1 (fun _:Nat × List Tr × Ps=>[]) (fun g=>[(2,.row [] 54 1 0 g.2.1.length (qgv g.2.1)),(1,.box 78 [iv k,.nils,.nils,.nils,iv a,.own 2 0 0 g.2.1.length]),(0,psc ts g.2.2)]) (fun g=>PreC ts n g.2.2∧jb ts stat g.1 g.2.1 g.2.2=G∧(ts.length:Int) - g.2.2.at_≤g.1∧g.2.1.length+g.1≤ts.length) (fun g=>g.1) ((ts.length,[],p)) (⟨h,hG,by have:=h.at_.lo;simp only;omega,by simp⟩) qa qa (fun _=>rfl) (by kernel_rfl) ?_;(conv=>whnf))
 rintro ⟨m,l,r⟩ ⟨hP,hj,hk,hl⟩
 simp only at hP hj hk hl
 have g1:=hP.at_.hi
 obtain ⟨m,rfl⟩:∃ m',m=m'+1:=⟨m - 1,by omega⟩
 rw [jb,zb hP.err] at hj
 (repeat' ((conv=>whnf);first|refine zA ?_|refine zO ?_|refine Ob.auto ?_|refine zD 600 ?_|(apply zB <;> intro hb <;> (try simp [-zd] at hb) <;> try (exfalso;omega))|refine Ob.intro ?_ ?_))
 ((conv=>whnf);refine ql (fun _=>rfl) 600 (qge hc.kind hP.at_ hP.err (s:=sRc) (by decide +kernel)) qc ⟨Le.refl _,jf rfl,trivial⟩ (by rfl) (by kernel_rfl) ?_)
 (repeat' ((conv=>whnf);first|refine zA ?_|refine zO ?_|refine Ob.auto ?_|refine zD 600 ?_|(apply zB <;> intro hb <;> (try simp [-zd] at hb) <;> try (exfalso;omega))|refine Ob.intro ?_ ?_))
 ·rw [za (by rw [hb];decide)] at hj
  have hst:=hr r hP.at_
  have t1:=hs r hP
  rw [RdM] at t1
  have hgn:=hg r hP.at_
  generalize stat r=y at hj hst t1 hgn
  cases hkk:(y.2.err == 0) with
  | false=>
   have hk:=hkk
   have hz:y.2.err≠0→G.2.err=y.2.err∧G.2.fat=y.2.fat:=fun he=>by
    rw [← hj]
    cases m with
    | zero=>exact ⟨rfl,rfl⟩
    | succ m=>rw [jb,za he];exact ⟨rfl,rfl⟩
   (repeat' ((conv=>whnf);first|refine zA ?_|refine zO ?_|refine Ob.auto ?_|refine zI ?_|refine zD 600 ?_|(refine qi (fun _=>rfl) (by kernel_rfl) 600 ?_)|(apply zB <;> intro hb <;> (try simp [-zd] at hb) <;> try (exfalso;omega))|refine Ob.intro ?_ ?_))
   ((conv=>whnf);refine CallY.mpan 99 [0] (t1) hk (qde hz hk) (by kernel_rfl) (by kernel_rfl) leA qa (by exact qb rfl) ?_)
   (repeat' ((conv=>whnf);first|refine zO ?_|refine Ob.auto ?_|refine zI ?_|refine zD 600 ?_|(refine qi (fun _=>rfl) (by kernel_rfl) 600 ?_)|(apply zB <;> intro hb <;> (try simp [-zd] at hb) <;> try (exfalso;omega))|refine Ob.intro ?_ ?_))
   ((conv=>whnf);refine AltG.far 11 [1] (by kernel_rfl) farA (EndG.dead 99 (by rfl)))
  | true=>
   (repeat' ((conv=>whnf);first|refine zA ?_|refine zO ?_|refine Ob.auto ?_|refine zI ?_|refine zD 600 ?_|(refine qi (fun _=>rfl) (by kernel_rfl) 600 ?_)|(apply zB <;> intro hb <;> (try simp [-zd] at hb) <;> try (exfalso;omega))|refine Ob.intro ?_ ?_))
   ((conv=>whnf);refine CallY.trip [0] (t1.trip hkk) (by kernel_rfl) leA qa (by exact qb rfl) (by exact qb rfl) ?_)
   (repeat' ((conv=>whnf);first|refine zO ?_|refine Ob.auto ?_|refine zI ?_|refine zD 600 ?_|(refine qi (fun _=>rfl) (by kernel_rfl) 600 ?_)|(apply zB <;> intro hb <;> (try simp [-zd] at hb) <;> try (exfalso;omega))|refine Ob.intro ?_ ?_))
   ((conv=>whnf);refine AltG.far 11 [1] (by kernel_rfl) farA (EndG.go ?_))
   (repeat' ((conv=>whnf);first|refine zA ?_|refine zO ?_|refine Ob.auto ?_|refine zD 600 ?_|(apply zB <;> intro hb <;> (try simp [-zd] at hb) <;> try (exfalso;omega))|refine Ob.intro ?_ ?_))
   have hgn':=hgn (by simpa using hkk)
   ((conv=>whnf);refine ⟨(m,l++[y.1],y.2),⟨hP.step hst hkk,hj,by dsimp only;omega,by simp;omega⟩,⟨qa,⟨⟨⟨rfl,rfl,rfl⟩,rfl,by simp,qnl rfl rfl⟩,⟨rfl,Le.refl _,Le.refl _,Le.refl _,Le.refl _,Le.refl _,Le.of_eq (congrArg (AV.own _ _ _) (by simp)),trivial⟩,qa⟩⟩,⟨qa,qa⟩,?_⟩;(first|omega|(dsimp only;omega)|skip))
 ·rw [zb hb] at hj
  have e1:must ts r sRc=adv r:=zb hb
  have t1:=qad hc hP (s:=sRc) (by decide +kernel)
  rw [e1] at t1
  (((conv=>whnf);refine jr frzA ?_);(conv=>whnf);refine qm (fun _=>rfl) 600 [0] (t1) (by kernel_rfl) (by kernel_rfl) ⟨Le.refl _,jf rfl,trivial⟩ qa (by exact qb rfl) (by exact qb rfl) (by kernel_rfl) (fun hk=>by have:=qbw hP.err;rw [this] at hk;cases hk) (fun hok=>?_))
  (repeat' ((conv=>whnf);first|refine zA ?_|refine zO ?_|refine Ob.auto ?_|refine zD 600 ?_|(apply zB <;> intro hb <;> (try simp [-zd] at hb) <;> try (exfalso;omega))|refine Ob.intro ?_ ?_))
  subst hj
  exact ⟨hok,Le.refl _,qa⟩
theorem jme (hc:TC ts) {stat:Ps→Tr × Ps} (hr:Runs ts stat) (hg:qej ts stat) (hs:∀ q,PreC ts n q→RdM ts 99 stat q) (h:PreC ts n p) (k a:Int) (w:List (List UInt8)) (ns:List Int) (l0:List Tr) (hl0:l0.length≤10000) :
  MTrip Try.prog 85 [.ptr 0 0,.ptr 1 0] [psc ts p,.box 78 [iv k,strs w,ints ns,.nils,iv a,.own 2 0 0 l0.length],.row [] 54 1 0 l0.length (qgv l0)] ((jb ts stat ts.length l0 p).2.err == 0) (.tup [])
   [(0,psc ts (jb ts stat ts.length l0 p).2),(1,.box 78 [iv k,strs w,ints ns,.nils,iv a,.own 2 0 0 (jb ts stat ts.length l0 p).1.length]),(2,.row [] 54 1 0 (jb ts stat ts.length l0 p).1.length (qgv (jb ts stat ts.length l0 p).1))] 3 (pfl (jb ts stat ts.length l0 p).2):=by
 have ht:=hc.ok
 have h2:=ht.len
 generalize hG:jb ts stat ts.length l0 p=G
 refine qcw (T:=tab Try.prog) (C:={}) 600 (fun _=>rfl) Try.func85 rfl (by kernel_rfl) (by kernel_rfl) (fun c0 rdb mpb=>?_)
 (repeat' ((conv=>whnf);first|refine zA ?_|refine zO ?_|refine Ob.auto ?_|refine zD 600 ?_|(apply zB <;> intro hb <;> (try simp [-zd] at hb) <;> try (exfalso;omega))|refine Ob.intro ?_ ?_))
 ((conv=>whnf);refine qbb (fun _=>rfl) 600 1 (fun _:Nat × List Tr × Ps=>[]) (fun g=>[(2,.row [] 54 1 0 g.2.1.length (qgv g.2.1)),(1,.box 78 [iv k,strs w,ints ns,.nils,iv a,.own 2 0 0 g.2.1.length]),(0,psc ts g.2.2)]) (fun g=>PreC ts n g.2.2∧jb ts stat g.1 g.2.1 g.2.2=G∧(ts.length:Int) - g.2.2.at_≤g.1∧g.2.1.length+g.1≤l0.length+ts.length) (fun g=>g.1) ((ts.length,l0,p)) (⟨h,hG,by have:=h.at_.lo;simp only;omega,by simp⟩) qa qa (fun _=>rfl) (by kernel_rfl) ?_;(conv=>whnf))
 rintro ⟨m,l,r⟩ ⟨hP,hj,hk,hl⟩
 simp only at hP hj hk hl
 have g1:=hP.at_.hi
 obtain ⟨m,rfl⟩:∃ m',m=m'+1:=⟨m - 1,by omega⟩
 rw [jb,zb hP.err] at hj
 (repeat' ((conv=>whnf);first|refine zA ?_|refine zO ?_|refine Ob.auto ?_|refine zD 600 ?_|(apply zB <;> intro hb <;> (try simp [-zd] at hb) <;> try (exfalso;omega))|refine Ob.intro ?_ ?_))
 ((conv=>whnf);refine ql (fun _=>rfl) 600 (qge hc.kind hP.at_ hP.err (s:=sRc) (by decide +kernel)) qc ⟨Le.refl _,jf rfl,trivial⟩ (by rfl) (by kernel_rfl) ?_)
 (repeat' ((conv=>whnf);first|refine zA ?_|refine zO ?_|refine Ob.auto ?_|refine zD 600 ?_|(apply zB <;> intro hb <;> (try simp [-zd] at hb) <;> try (exfalso;omega))|refine Ob.intro ?_ ?_))
 ·rw [za (by rw [hb];decide)] at hj
  have hst:=hr r hP.at_
  have t1:=hs r hP
  rw [RdM] at t1
  have hgn:=hg r hP.at_
  generalize stat r=y at hj hst t1 hgn
  cases hkk:(y.2.err == 0) with
  | false=>
   have hk:=hkk
   have hz:y.2.err≠0→G.2.err=y.2.err∧G.2.fat=y.2.fat:=fun he=>by
    rw [← hj]
    cases m with
    | zero=>exact ⟨rfl,rfl⟩
    | succ m=>rw [jb,za he];exact ⟨rfl,rfl⟩
   (repeat' ((conv=>whnf);first|refine zA ?_|refine zO ?_|refine Ob.auto ?_|refine zI ?_|refine zD 600 ?_|(refine qi (fun _=>rfl) (by kernel_rfl) 600 ?_)|(apply zB <;> intro hb <;> (try simp [-zd] at hb) <;> try (exfalso;omega))|refine Ob.intro ?_ ?_))
   ((conv=>whnf);refine CallY.mpan 99 [0] (t1) hk (qde hz hk) (by kernel_rfl) (by kernel_rfl) leA qa (by exact qb rfl) ?_)
   (repeat' ((conv=>whnf);first|refine zO ?_|refine Ob.auto ?_|refine zI ?_|refine zD 600 ?_|(refine qi (fun _=>rfl) (by kernel_rfl) 600 ?_)|(apply zB <;> intro hb <;> (try simp [-zd] at hb) <;> try (exfalso;omega))|refine Ob.intro ?_ ?_))
   ((conv=>whnf);refine AltG.far 11 [1] (by kernel_rfl) farA (EndG.dead 99 (by rfl)))
  | true=>
   (repeat' ((conv=>whnf);first|refine zA ?_|refine zO ?_|refine Ob.auto ?_|refine zI ?_|refine zD 600 ?_|(refine qi (fun _=>rfl) (by kernel_rfl) 600 ?_)|(apply zB <;> intro hb <;> (try simp [-zd] at hb) <;> try (exfalso;omega))|refine Ob.intro ?_ ?_))
   ((conv=>whnf);refine CallY.trip [0] (t1.trip hkk) (by kernel_rfl) leA qa (by exact qb rfl) (by exact qb rfl) ?_)
   (repeat' ((conv=>whnf);first|refine zO ?_|refine Ob.auto ?_|refine zI ?_|refine zD 600 ?_|(refine qi (fun _=>rfl) (by kernel_rfl) 600 ?_)|(apply zB <;> intro hb <;> (try simp [-zd] at hb) <;> try (exfalso;omega))|refine Ob.intro ?_ ?_))
   ((conv=>whnf);refine AltG.far 11 [1] (by kernel_rfl) farA (EndG.go ?_))
   (repeat' ((conv=>whnf);first|refine zA ?_|refine zO ?_|refine Ob.auto ?_|refine zD 600 ?_|(apply zB <;> intro hb <;> (try simp [-zd] at hb) <;> try (exfalso;omega))|refine Ob.intro ?_ ?_))
   have hgn':=hgn (by simpa using hkk)
   ((conv=>whnf);refine ⟨(m,l++[y.1],y.2),⟨hP.step hst hkk,hj,by dsimp only;omega,by simp;omega⟩,⟨qa,⟨⟨⟨rfl,rfl,rfl⟩,rfl,by simp,qnl rfl rfl⟩,⟨rfl,Le.refl _,Le.refl _,Le.refl _,Le.refl _,Le.refl _,Le.of_eq (congrArg (AV.own _ _ _) (by simp)),trivial⟩,qa⟩⟩,⟨qa,qa⟩,?_⟩;(first|omega|(dsimp only;omega)|skip))
 ·rw [zb hb] at hj
  have e1:must ts r sRc=adv r:=zb hb
  have t1:=qad hc hP (s:=sRc) (by decide +kernel)
  rw [e1] at t1
  (((conv=>whnf);refine jr frzA ?_);(conv=>whnf);refine qm (fun _=>rfl) 600 [0] (t1) (by kernel_rfl) (by kernel_rfl) ⟨Le.refl _,jf rfl,trivial⟩ qa (by exact qb rfl) (by exact qb rfl) (by kernel_rfl) (fun hk=>by have:=qbw hP.err;rw [this] at hk;cases hk) (fun hok=>?_))
  (repeat' ((conv=>whnf);first|refine zA ?_|refine zO ?_|refine Ob.auto ?_|refine zD 600 ?_|(apply zB <;> intro hb <;> (try simp [-zd] at hb) <;> try (exfalso;omega))|refine Ob.intro ?_ ?_))
  subst hj
  exact ⟨hok,Le.refl _,qa⟩
end
end Go.Proofs.Ythfaleaojlnnoaa
