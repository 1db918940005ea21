/- The document's parser in plain Lean: a tree has no more nodes than tokens are read. -/
import Derived.Test.YthfaleaojlnnoaaY17
import Derived.Test.YthfaleaojlnnoaaY12
set_option linter.unusedSimpArgs false
set_option linter.unusedVariables false
namespace Go.Proofs.Ythfaleaojlnnoaa
namespace Pa
open Go Go.Sx
theorem Tr.size_mk (k:Int) (w:List (List UInt8)) (ns:List Int) (a:Int) (l:List Tr):(Tr.mk k w ns a l).size=1+Tr.sizeL l:=by rw [Tr.size]
theorem Tr.sizeL_snoc:∀ (l:List Tr) (t:Tr),Tr.sizeL (l++[t])=Tr.sizeL l+t.size
 | [],t=>by simp [Tr.sizeL]
 | x::r,t=>by rw [zab,Tr.sizeL,Tr.sizeL_snoc r t,Tr.sizeL];omega
theorem Tr.sizeL_one (t:Tr):Tr.sizeL [t]=t.size:=by simp [Tr.sizeL]
theorem Tr.sizeL_two (t u:Tr):Tr.sizeL [t,u]=t.size+u.size:=by simp [Tr.sizeL]
theorem Tr.sizeL_three (t u v:Tr):Tr.sizeL [t,u,v]=t.size+(u.size+v.size):=by simp [Tr.sizeL]
theorem qzg (sg:Int) (a b:Tr):(binT sg a b).size=1+(a.size+b.size):=by unfold binT;rw [Tr.size_mk,Tr.sizeL_two]
abbrev Fit (ts:List Lx.Tok) (n:Nat) (f:Ps→Tr × Ps):Prop:=∀ p,AtOk ts p→(ts.length:Int)≤p.at_+n→(f p).2.err=0→((f p).1.size:Int)+p.at_≤(f p).2.at_
section
variable {ts:List Lx.Tok} {p q r:Ps} {m:Nat}
variable (ht:ToksOk ts)
include ht
theorem qzh {f:Ps→Tr × Ps} (hf:Runs ts f) (hF:Fit ts m f) {c:Ps→Bool} {sg:Ps→Int} (hc:∀ p,c p=true→∃ s,sees ts p s=true) :
  ∀ (n:Nat) (a:Tr) (p:Ps),AtOk ts p→(ts.length:Int)≤p.at_+m→(qbq f c sg n a p).2.err=0→((qbq f c sg n a p).1.size:Int)+p.at_≤a.size+(qbq f c sg n a p).2.at_
 | 0,a,p,_,_,_=>by rw [qbq];exact zm _
 | n+1,a,p,h,hl,he=>by
  rw [qbq] at he ⊢
  split
  ·rename_i hcp
   rw [zb hcp] at he
   obtain ⟨s,hs⟩:=hc p hcp
   have h1:=qg ht h hs
   have h2:=hf _ (h1.ok h)
   have h3:=qfl ht hf hc (sg:=sg) n (binT (sg p) a (f (adv p)).1) _ (h2.ok (h1.ok h))
   have e1:(adv p).at_=p.at_+1:=rfl
   have h4:=hF _ (h1.ok h) (by omega) (h3.err0 he)
   have h6:=h2.le
   have h5:=qzh hf hF hc (sg:=sg) n (binT (sg p) a (f (adv p)).1) _ (h2.ok (h1.ok h)) (by omega) he
   rw [qzg] at h5
   omega
  ·exact zm _
theorem qpd {f:Ps→Tr × Ps} (hf:Runs ts f) (hF:Fit ts m f) {c:Ps→Bool} {sg:Ps→Int} (hc:∀ p,c p=true→∃ s,sees ts p s=true) (n:Nat) :
  Fit ts m (fun p=>qbq f c sg n (f p).1 (f p).2):=fun p h hl he=>by
 have h1:=hf p h
 have h2:=qfl ht hf hc (sg:=sg) n (f p).1 _ (h1.ok h)
 have h3:=hF p h hl (h2.err0 he)
 have h4:=h1.le
 have h5:=qzh ht hf hF hc (sg:=sg) n (f p).1 _ (h1.ok h) (by omega) he
 simp only at h5 ⊢
 omega
theorem qzi {f:Ps→Tr × Ps} (hf:Runs ts f) (hF:Fit ts m f) (s:List UInt8) (sg:Int):Fit ts m (qgz ts f s sg):=fun p h hl he=>by
 have h1:=hf p h
 unfold qgz at he ⊢
 split
 ·rename_i hs
  rw [zb hs] at he
  have h2:=qg ht (h1.ok h) hs
  have h3:=hf _ (h2.ok (h1.ok h))
  have e1:(adv (f p).2).at_=(f p).2.at_+1:=rfl
  have h4:=hF p h hl (h2.err0 (h3.err0 he))
  have h5:=h1.le
  have h6:=hF _ (h2.ok (h1.ok h)) (by omega) he
  simp only
  rw [qzg]
  omega
 ·rename_i hs
  rw [za hs] at he
  exact hF p h hl he
section
variable {part:Ps→Tr × Ps} (hp:Runs ts part) (hP:Fit ts m part)
include hp hP
theorem jlb:Fit ts m (qie ts part):=qpd ht hp hP (fun _=>qmd) _
theorem jlc:Fit ts m (sumF ts part):=qpd ht (qjt ht hp) (jlb ht hp hP) (fun _=>qme) _
theorem jld:Fit ts m (qmb ts part):=qzi ht (qoj ht hp) (jlc ht hp hP) _ _
theorem jle:Fit ts m (qif ts part):=qzi ht (qok ht hp) (jld ht hp hP) _ _
theorem jlf:Fit ts m (andF ts part):=qpd ht (qju ht hp) (jle ht hp hP) (fun _ h=>⟨_,h⟩) _
theorem qzj:Fit ts m (qbn ts part):=qpd ht (qjv ht hp) (jlf ht hp hP) (fun _ h=>⟨_,h⟩) _
end
theorem qtg:∀ n,Fit ts n (jb ts n)
 | 0=>fun p h hl _=>by have:=h.hi;omega
 | n+1=>fun p h hl he=>by
  unfold jb at he ⊢
  simp only at he ⊢
  split
  ·rename_i hs
   rw [zb hs] at he
   have:=qxq he
   simp only [Tr.size_mk,Tr.sizeL] at this ⊢
   omega
  rename_i hs
  rw [za hs] at he
  split
  ·rename_i hs
   rw [zb hs] at he
   have:=qmh he
   have e1:(adv p).at_=p.at_+1:=rfl
   simp only [Tr.size_mk,Tr.sizeL] at this ⊢
   omega
  rename_i hs
  rw [za hs] at he
  split
  ·rename_i hs
   rw [zb hs] at he
   have h1:Step ts p (adv p):=by rcases hs with hs|hs <;> exact qg ht h hs
   have h2:=jq (h1.ok h)
   have e1:(adv p).at_=p.at_+1:=rfl
   have h3:=qda ht n _ h2.1
   simp only [Tr.size_mk]
   have he':(ifOk (jb ts n) (inP ts (adv p))).2.err=0:=he
   unfold ifOk at he' ⊢
   split
   ·rename_i hi
    rw [zb hi] at he'
    have h4:=qtg n _ h2.1 (by omega) he'
    simp only [Tr.sizeL_one]
    have e2:(outP (jb ts n (inP ts (adv p))).2).at_=(jb ts n (inP ts (adv p))).2.at_:=rfl
    omega
   ·simp only [Tr.sizeL]
    have e2:(outP (inP ts (adv p))).at_=(inP ts (adv p)).at_:=rfl
    omega
  rename_i hs
  rw [za hs] at he
  split
  ·rename_i hs
   rw [zb hs] at he
   have h1:=qg ht h hs
   have h2:=jq (h1.ok h)
   have e1:(adv p).at_=p.at_+1:=rfl
   have h3:Step ts (adv p) (outP (if (inP ts (adv p)).err=0 then (qbn ts (jb ts n) (inP ts (adv p))).2 else inP ts (adv p))):=by
    refine qem (h1.ok h) ?_
    split
    ·exact qjw ht (qda ht n) _ h2.1
    ·exact h2.1.refl
   have h4:=qe ht (h3.ok (h1.ok h)) sRp
   have h5:=h4.err0 he
   have h6:=h4.le
   split
   ·rename_i hi
    rw [zb hi] at h5 h6
    have h7:=qzj ht (qda ht n) (qtg n) _ h2.1 (by omega) h5
    have e2:(outP (qbn ts (jb ts n) (inP ts (adv p))).2).at_=(qbn ts (jb ts n) (inP ts (adv p))).2.at_:=rfl
    simp only at h6 ⊢
    omega
   ·rename_i hi
    rw [za hi] at h5
    exact absurd h5 hi
  ·rename_i hs
   rw [za hs] at he
   have:=qmh he
   simp only [Tr.size_mk,Tr.sizeL] at this ⊢
   omega
theorem qil (h:AtOk ts p) (he:(eF ts p).2.err=0):((eF ts p).1.size:Int)+p.at_≤(eF ts p).2.at_:=
 qzj ht (qda ht _) (qtg ht _) p h (by have:=h.lo;omega) he
theorem qth {stat:Ps→Tr × Ps} (hs:Runs ts stat) (hS:Fit ts m stat):∀ (n:Nat) (l:List Tr) (p:Ps),AtOk ts p→(ts.length:Int)≤p.at_+m→(jc ts stat n l p).2.err=0→(Tr.sizeL (jc ts stat n l p).1:Int)+p.at_≤Tr.sizeL l+(jc ts stat n l p).2.at_
 | 0,l,p,_,_,_=>by rw [jc];exact zm _
 | n+1,l,p,h,hl,he=>by
  rw [jc] at he ⊢
  by_cases h0:p.err=0
  ·rw [zb h0] at he ⊢
   by_cases hb:sees ts p sRc=true
   ·rw [zb hb]
    have e1:(adv p).at_=p.at_+1:=rfl
    simp only;omega
   ·rw [za hb] at he ⊢
    have h1:=hs p h
    have h2:=qdy ht hs n (l++[(stat p).1]) _ (h1.ok h)
    have h3:=hS p h hl (h2.err0 he)
    have h4:=h1.le
    have h5:=qth hs hS n (l++[(stat p).1]) _ (h1.ok h) (by omega) he
    rw [Tr.sizeL_snoc] at h5
    omega
  ·rw [za h0]
   exact zm _
theorem jlg {stat:Ps→Tr × Ps} (hs:Runs ts stat) (hS:Fit ts m stat) (h:AtOk ts p) (hl:(ts.length:Int)≤p.at_+m+1) (he:(qw ts stat p).2.err=0):((qw ts stat p).1.size:Int)+p.at_≤(qw ts stat p).2.at_:=by
 have h1:=qe ht h sLc
 have h0:=jq (h1.ok h)
 have h2:=qem (h1.ok h) (qdy ht hs ts.length [] _ h0.1)
 have h3:=(qfm (h2.err0 he)).2
 have h4:=qth ht hs hS ts.length [] _ h0.1 (by omega) he
 unfold qw
 simp only [Tr.size_mk]
 have e2:(outP (jc ts stat ts.length [] (inP ts (must ts p sLc))).2).at_=(jc ts stat ts.length [] (inP ts (must ts p sLc))).2.at_:=rfl
 have e3:Tr.sizeL []=0:=rfl
 omega
theorem qzk {blk:Ps→Tr × Ps} (hb:Runs ts blk) (hB:Fit ts m blk):∀ (n:Nat) (l:List Tr) (p:Ps),AtOk ts p→(ts.length:Int)≤p.at_+m→(orL ts blk n l p).2.err=0→(Tr.sizeL (orL ts blk n l p).1:Int)+p.at_≤Tr.sizeL l+(orL ts blk n l p).2.at_
 | 0,l,p,_,_,_=>by rw [orL];exact zm _
 | n+1,l,p,h,hl,he=>by
  rw [orL] at he ⊢
  split
  ·rename_i hs
   rw [zb hs] at he
   have h1:=qg ht h hs
   have h2:=hb _ (h1.ok h)
   have h3:=qih ht hb n (l++[(blk (adv p)).1]) _ (h2.ok (h1.ok h))
   have e1:(adv p).at_=p.at_+1:=rfl
   have h4:=hB _ (h1.ok h) (by omega) (h3.err0 he)
   have h6:=h2.le
   have h5:=qzk hb hB n (l++[(blk (adv p)).1]) _ (h2.ok (h1.ok h)) (by omega) he
   rw [Tr.sizeL_snoc] at h5
   omega
  ·exact zm _
theorem jlh {blk:Ps→Tr × Ps} (hb:Runs ts blk) (hB:Fit ts m blk) (a i:Int):Fit ts m (qca ts blk a i):=fun p h hl he=>by
 unfold qca at he ⊢
 split
 ·rename_i hs
  rw [zb hs] at he
  have h1:=qg ht h hs
  have h2:=jj ht (h1.ok h)
  have h3:=jj ht (h2.ok (h1.ok h))
  have h4:=h2.trans (h3.trans (qe ht (h3.ok (h2.ok (h1.ok h))) qi))
  have:p.at_+1≤_:=h4.le
  simp only [Tr.size_mk,Tr.sizeL];omega
 ·rename_i hs
  rw [za hs] at he
  split
  ·rename_i hw
   rw [zb hw] at he
   have h1:=qg ht h hw
   have h2:=qam ht _ (h1.ok h)
   have h4:=qe ht (h2.ok (h1.ok h)) qi
   have h5:=qil ht (h1.ok h) (h4.err0 he)
   have h6:=h4.le
   have e1:(adv p).at_=p.at_+1:=rfl
   simp only [Tr.size_mk,Tr.sizeL_one];omega
  ·rename_i hw
   rw [za hw] at he
   have h1:=qe ht h jf
   have h2:=hb _ (h1.ok h)
   have h3:=qih ht hb ts.length [(blk (must ts p jf)).1] _ (h2.ok (h1.ok h))
   have h4:=(qfm (h2.err0 (h3.err0 he))).2
   have h5:=hB _ (h1.ok h) (by omega) (h3.err0 he)
   have h7:=h2.le
   have h6:=qzk ht hb hB ts.length [(blk (must ts p jf)).1] _ (h2.ok (h1.ok h)) (by omega) he
   rw [Tr.sizeL_one] at h6
   simp only [Tr.size_mk] at h6 ⊢;omega
theorem qzl:∀ n,Fit ts n (qf ts n)
 | 0=>fun p h hl _=>by have:=h.hi;omega
 | n+1=>fun p h hl he=>by
  have hb:=qga ht (qdq ht n)
  have hB:∀ q,AtOk ts q→(ts.length:Int)≤q.at_+n+1→(qw ts (qf ts n) q).2.err=0→((qw ts (qf ts n) q).1.size:Int)+q.at_≤(qw ts (qf ts n) q).2.at_:=fun q hq hlq heq=>jlg ht (qdq ht n) (qzl n) hq hlq heq
  unfold qf at he ⊢
  simp only at he ⊢
  split
  ·rename_i hw
   rw [zb hw] at he
   have h1:=qcq ht h jy
   have h2:=h1.le
   have:=jlh ht hb (m:=n+1) (fun q hq hlq heq=>hB q hq (by omega) heq) _ _ _ (h1.ok h) (by omega) he
   omega
  rename_i hw
  rw [za hw] at he
  split
  ·rename_i hw
   rw [zb hw] at he
   have h1:=qg ht h hw
   have h2:=jj ht (h1.ok h)
   have h3:=qam ht _ (h2.ok (h1.ok h))
   have h4:=qe ht (h3.ok (h2.ok (h1.ok h))) qi
   have h5:=qil ht (h2.ok (h1.ok h)) (h4.err0 he)
   have h6:=h4.le
   have h7:p.at_+1≤_:=h2.le
   simp only [Tr.size_mk,Tr.sizeL_one];omega
  rename_i hw
  rw [za hw] at he
  split
  ·rename_i hw
   rw [zb hw] at he
   have h1:=qg ht h hw
   have h2:=qam ht _ (h1.ok h)
   have h3:=hb _ (h2.ok (h1.ok h))
   have e1:(adv p).at_=p.at_+1:=rfl
   have hl2:=h2.le
   have hl3:=h3.le
   split
   ·rename_i hx
    rw [zb hx] at he
    have h5:=qg ht (h3.ok (h2.ok (h1.ok h))) hx
    have h6:=hb _ (h5.ok (h3.ok (h2.ok (h1.ok h))))
    have h7:=h5.err0 (h6.err0 he)
    have h8:=qil ht (h1.ok h) (h3.err0 h7)
    have h9:=hB _ (h2.ok (h1.ok h)) (by omega) h7
    have e2:(adv (qw ts (qf ts n) (eF ts (adv p)).2).2).at_=(qw ts (qf ts n) (eF ts (adv p)).2).2.at_+1:=rfl
    have h10:=hB _ (h5.ok (h3.ok (h2.ok (h1.ok h)))) (by omega) he
    simp only [Tr.size_mk,Tr.sizeL_three];omega
   ·rename_i hx
    rw [za hx] at he
    have h8:=qil ht (h1.ok h) (h3.err0 he)
    have h9:=hB _ (h2.ok (h1.ok h)) (by omega) he
    simp only [Tr.size_mk,Tr.sizeL_two];omega
  rename_i hw
  rw [za hw] at he
  split
  ·rename_i hw
   rw [zb hw] at he
   have h1:=qg ht h hw
   have h2:=qam ht _ (h1.ok h)
   have h3:=hb _ (h2.ok (h1.ok h))
   have e1:(adv p).at_=p.at_+1:=rfl
   have hl2:=h2.le
   have h8:=qil ht (h1.ok h) (h3.err0 he)
   have h9:=hB _ (h2.ok (h1.ok h)) (by omega) he
   simp only [Tr.size_mk,Tr.sizeL_two];omega
  rename_i hw
  rw [za hw] at he
  split
  ·rename_i hw
   rw [zb hw] at he
   have h1:=qg ht h hw
   have e1:(adv p).at_=p.at_+1:=rfl
   have h9:=hB _ (h1.ok h) (by omega) he
   simp only [Tr.size_mk,Tr.sizeL_one];omega
  rename_i hw
  rw [za hw] at he
  split
  ·have h1:=qg ht h (by assumption)
   have h4:p.at_+1≤_:=(qe ht (h1.ok h) qi).le
   simp only [Tr.size_mk,Tr.sizeL];omega
  rename_i hw
  rw [za hw] at he
  split
  ·have h1:=qg ht h (by assumption)
   have h4:p.at_+1≤_:=(qe ht (h1.ok h) qi).le
   simp only [Tr.size_mk,Tr.sizeL];omega
  rename_i hw
  rw [za hw] at he
  have h1:=jj ht h
  have h2:=qe ht (h1.ok h) sEq
  have h3:=qam ht _ (h2.ok (h1.ok h))
  have h4:=qe ht (h3.ok (h2.ok (h1.ok h))) qi
  have h5:=qmh (h2.err0 (h3.err0 (h4.err0 he)))
  have h6:=h4.le
  have h7:=h2.le
  have h8:=qil ht (h2.ok (h1.ok h)) (h4.err0 he)
  simp only [Tr.size_mk,Tr.sizeL_one];omega
theorem fit_s:Fit ts ts.length (sF ts):=qzl ht _
theorem qzm (h:AtOk ts p) (he:(qae ts p).2.err=0):((qae ts p).1.size:Int)+p.at_≤(qae ts p).2.at_:=by
 have h1:=qom ht p h he
 have h2:(qae ts p).1.size=1:=by unfold qae;simp only [Tr.size_mk,Tr.sizeL]
 omega
theorem qzn:∀ (n:Nat) (l:List Tr) (p:Ps),AtOk ts p→(qaf ts n l p).2.err=0→(Tr.sizeL (qaf ts n l p).1:Int)+p.at_≤Tr.sizeL l+(qaf ts n l p).2.at_
 | 0,l,p,_,_=>by rw [qaf];exact zm _
 | n+1,l,p,h,he=>by
  rw [qaf] at he ⊢
  split
  ·rename_i hs
   rw [zb hs] at he
   have h1:=qjx ht _ h
   have h2:=qgb ht n (l++[(qae ts p).1]) _ (h1.ok h)
   have h3:=qzm ht h (h2.err0 he)
   have h5:=qzn n (l++[(qae ts p).1]) _ (h1.ok h) he
   rw [Tr.sizeL_snoc] at h5
   omega
  ·exact zm _
theorem jli (h:AtOk ts p) (he:(qbr ts p).2.err=0):((qbr ts p).1.size:Int)+p.at_≤(qbr ts p).2.at_:=by
 have h0:=qe ht h qm
 unfold qbr at he ⊢
 simp only at he ⊢
 have h1:=h0.ok h
 have h3:=jj ht h1
 have h4:Step ts (must ts p qm) (if sees ts (qd ts (must ts p qm)) qbg=true then (numN ts (adv (qd ts (must ts p qm))),numP ts (adv (qd ts (must ts p qm)))) else (1,qd ts (must ts p qm))).2:=by
  split
  ·have h5:=h3.trans (qg ht (h3.ok h1) (by assumption))
   exact h5.trans (qap ht (h5.ok h1))
  ·exact h3
 have h5:=h4.trans (qe ht (h4.ok h1) sLc)
 generalize (must ts (if sees ts (qd ts (must ts p qm)) qbg=true then (numN ts (adv (qd ts (must ts p qm))),numP ts (adv (qd ts (must ts p qm)))) else (1,qd ts (must ts p qm))).2 sLc)=R at he h5 ⊢
 have h6:=qgb ht ts.length [] R (h5.ok h1)
 have h7:=fun he=>qzn ht ts.length [] R (h5.ok h1) he
 generalize qaf ts ts.length [] R=V at he h6 h7 ⊢
 have h8:=jq (h6.ok (h5.ok h1))
 have h9:=qem (h6.ok (h5.ok h1)) (qdy ht (qha ht) ts.length V.1 _ h8.1)
 have h10:=h7 (h9.err0 he)
 have hlo:=h8.1.lo
 have h11:=qth ht (qha ht) (fit_s ht) ts.length V.1 _ h8.1 (by omega) he
 have h12:=(qfm (h5.err0 (h6.err0 (h9.err0 he)))).2
 have h13:=h5.le
 have e3:Tr.sizeL []=0:=rfl
 have e2:(outP (jc ts (sF ts) ts.length V.1 (inP ts V.2)).2).at_=(jc ts (sF ts) ts.length V.1 (inP ts V.2)).2.at_:=rfl
 simp only [Tr.size_mk]
 omega
theorem jlj (h:AtOk ts p) (he:(qat ts p).2.err=0):((qat ts p).1.size:Int)+p.at_≤(qat ts p).2.at_:=by
 have hg:=qsm ht p h he
 unfold qat at he hg ⊢
 simp only at he hg ⊢
 split
 ·rename_i hw
  rw [zb hw] at he
  exact qzm ht h he
 rename_i hw
 rw [za hw] at he hg
 split
 ·rename_i hw
  rw [zb hw] at he
  exact jli ht h he
 rename_i hw
 rw [za hw] at he hg
 split
 ·rename_i hw
  rw [zb hw] at he hg
  simp only [Tr.size_mk,Tr.sizeL] at hg ⊢;omega
 rename_i hw
 rw [za hw] at he hg
 split
 ·rename_i hw
  rw [zb hw] at he
  have h1:=qg ht h hw
  have h2:=qam ht _ (h1.ok h)
  have h3:=qe ht (h2.ok (h1.ok h)) qi
  have h4:=qil ht (h1.ok h) (h3.err0 he)
  have h5:=h3.le
  have e1:(adv p).at_=p.at_+1:=rfl
  simp only [Tr.size_mk,Tr.sizeL_one];omega
 rename_i hw
 rw [za hw] at he hg
 simp only [Tr.size_mk,Tr.sizeL] at hg ⊢;omega
theorem qzo:∀ (n:Nat) (l:List Tr) (p:Ps),AtOk ts p→(qci ts n l p).2.err=0→(Tr.sizeL (qci ts n l p).1:Int)+p.at_≤Tr.sizeL l+(qci ts n l p).2.at_
 | 0,l,p,_,_=>by rw [qci];exact zm _
 | n+1,l,p,h,he=>by
  rw [qci] at he ⊢
  split
  ·rename_i hs
   rw [zb hs] at he
   have h1:=qol ht _ h
   have h2:=qmf ht n (l++[(qat ts p).1]) _ (h1.ok h)
   have h3:=jlj ht h (h2.err0 he)
   have h5:=qzo n (l++[(qat ts p).1]) _ (h1.ok h) he
   rw [Tr.sizeL_snoc] at h5
   omega
  ·exact zm _
theorem jlk (h:AtOk ts p) (he:(qad ts p).2.err=0):((qad ts p).1.size:Int)≤1+ts.length:=by
 have h1:=qzo ht ts.length [] p h he
 have h2:=((qmf ht ts.length [] p h).ok h).hi
 have h3:=h.lo
 have e3:Tr.sizeL []=0:=rfl
 unfold qad
 simp only [Tr.size_mk]
 omega
end
end Pa
end Go.Proofs.Ythfaleaojlnnoaa
