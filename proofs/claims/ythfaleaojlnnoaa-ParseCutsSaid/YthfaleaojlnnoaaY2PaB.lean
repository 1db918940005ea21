/- The document's parser in plain Lean: a tree has no more nodes than tokens are read. -/
import Derived.Test.YthfaleaojlnnoaaY210
import Derived.Test.YthfaleaojlnnoaaY22
set_option linter.unusedSimpArgs false
set_option linter.unusedVariables false
namespace Go.Proofs.Ythfaleaojlnnoaa
namespace Pa
open Go Go.Sx
theorem Tr.size_mk (k:Int) (w:List (List UInt8)) (ns:List Int) (a:Int) (l:List Tr):(Tr.mk k w ns a l).size=1+Tr.sizeL l:=by rw [Tr.size]
theorem Tr.sizeL_snoc:∀ (l:List Tr) (t:Tr),Tr.sizeL (l++[t])=Tr.sizeL l+t.size
 | [],t=>by simp [Tr.sizeL]
 | x::r,t=>by rw [zag,Tr.sizeL,Tr.sizeL_snoc r t,Tr.sizeL];omega
theorem Tr.sizeL_one (t:Tr):Tr.sizeL [t]=t.size:=by simp [Tr.sizeL]
theorem Tr.sizeL_two (t u:Tr):Tr.sizeL [t,u]=t.size+u.size:=by simp [Tr.sizeL]
theorem Tr.sizeL_three (t u v:Tr):Tr.sizeL [t,u,v]=t.size+(u.size+v.size):=by simp [Tr.sizeL]
theorem jbl (sg:Int) (a b:Tr):(binT sg a b).size=1+(a.size+b.size):=by unfold binT;rw [Tr.size_mk,Tr.sizeL_two]
abbrev Fit (ts:List Lx.Tok) (n:Nat) (f:Ps→Tr × Ps):Prop:=∀ p,AtOk ts p→(ts.length:Int)≤p.at_+n→(f p).2.err=0→((f p).1.size:Int)+p.at_≤(f p).2.at_
section
variable {ts:List Lx.Tok} {p q r:Ps} {m:Nat}
variable (ht:ToksOk ts)
include ht
theorem jbm {f:Ps→Tr × Ps} (hf:Runs ts f) (hF:Fit ts m f) {c:Ps→Bool} {sg:Ps→Int} (hc:∀ p,c p=true→∃ s,sees ts p s=true) :
  ∀ (n:Nat) (a:Tr) (p:Ps),AtOk ts p→(ts.length:Int)≤p.at_+m→(qae f c sg n a p).2.err=0→((qae f c sg n a p).1.size:Int)+p.at_≤a.size+(qae f c sg n a p).2.at_
 | 0,a,p,_,_,_=>by rw [qae];exact zn _
 | n+1,a,p,h,hl,he=>by
  rw [qae] at he ⊢
  split
  ·rename_i hcp
   rw [zb hcp] at he
   obtain ⟨s,hs⟩:=hc p hcp
   have h1:=qg ht h hs
   have h2:=hf _ (h1.ok h)
   have h3:=qgo ht hf hc (sg:=sg) n (binT (sg p) a (f (adv p)).1) _ (h2.ok (h1.ok h))
   have e1:(adv p).at_=p.at_+1:=rfl
   have h4:=hF _ (h1.ok h) (by omega) (h3.err0 he)
   have h6:=h2.le
   have h5:=jbm hf hF hc (sg:=sg) n (binT (sg p) a (f (adv p)).1) _ (h2.ok (h1.ok h)) (by omega) he
   rw [jbl] at h5
   omega
  ·exact zn _
theorem qqt {f:Ps→Tr × Ps} (hf:Runs ts f) (hF:Fit ts m f) {c:Ps→Bool} {sg:Ps→Int} (hc:∀ p,c p=true→∃ s,sees ts p s=true) (n:Nat) :
  Fit ts m (fun p=>qae f c sg n (f p).1 (f p).2):=fun p h hl he=>by
 have h1:=hf p h
 have h2:=qgo ht hf hc (sg:=sg) n (f p).1 _ (h1.ok h)
 have h3:=hF p h hl (h2.err0 he)
 have h4:=h1.le
 have h5:=jbm ht hf hF hc (sg:=sg) n (f p).1 _ (h1.ok h) (by omega) he
 simp only at h5 ⊢
 omega
theorem jbn {f:Ps→Tr × Ps} (hf:Runs ts f) (hF:Fit ts m f) (s:List UInt8) (sg:Int):Fit ts m (qig ts f s sg):=fun p h hl he=>by
 have h1:=hf p h
 unfold qig at he ⊢
 split
 ·rename_i hs
  rw [zb hs] at he
  have h2:=qg ht (h1.ok h) hs
  have h3:=hf _ (h2.ok (h1.ok h))
  have e1:(adv (f p).2).at_=(f p).2.at_+1:=rfl
  have h4:=hF p h hl (h2.err0 (h3.err0 he))
  have h5:=h1.le
  have h6:=hF _ (h2.ok (h1.ok h)) (by omega) he
  simp only
  rw [jbl]
  omega
 ·rename_i hs
  rw [za hs] at he
  exact hF p h hl he
section
variable {part:Ps→Tr × Ps} (hp:Runs ts part) (hP:Fit ts m part)
include hp hP
theorem jnz:Fit ts m (qcu ts part):=qqt ht hp hP (fun _=>qni) _
theorem joa:Fit ts m (sumF ts part):=qqt ht (qjk ht hp) (jnz ht hp hP) (fun _=>qnj) _
theorem job:Fit ts m (qcs ts part):=jbn ht (qnk ht hp) (joa ht hp hP) _ _
theorem joc:Fit ts m (qdm ts part):=jbn ht (qnl ht hp) (job ht hp hP) _ _
theorem jod:Fit ts m (andF ts part):=qqt ht (qjl ht hp) (joc ht hp hP) (fun _ h=>⟨_,h⟩) _
theorem jbo:Fit ts m (qbj ts part):=qqt ht (qjm ht hp) (jod ht hp hP) (fun _ h=>⟨_,h⟩) _
end
theorem qvc:∀ n,Fit ts n (qy ts n)
 | 0=>fun p h hl _=>by have:=h.hi;omega
 | n+1=>fun p h hl he=>by
  unfold qy at he ⊢
  simp only at he ⊢
  split
  ·rename_i hs
   rw [zb hs] at he
   have:=qzo he
   simp only [Tr.size_mk,Tr.sizeL] at this ⊢
   omega
  rename_i hs
  rw [za hs] at he
  split
  ·rename_i hs
   rw [zb hs] at he
   have:=qno he
   have e1:(adv p).at_=p.at_+1:=rfl
   simp only [Tr.size_mk,Tr.sizeL] at this ⊢
   omega
  rename_i hs
  rw [za hs] at he
  split
  ·rename_i hs
   rw [zb hs] at he
   have h1:Step ts p (adv p):=by rcases hs with hs|hs <;> exact qg ht h hs
   have h2:=jn (h1.ok h)
   have e1:(adv p).at_=p.at_+1:=rfl
   have h3:=qda ht n _ h2.1
   simp only [Tr.size_mk]
   have he':(ifOk (qy ts n) (inP ts (adv p))).2.err=0:=he
   unfold ifOk at he' ⊢
   split
   ·rename_i hi
    rw [zb hi] at he'
    have h4:=qvc n _ h2.1 (by omega) he'
    simp only [Tr.sizeL_one]
    have e2:(outP (qy ts n (inP ts (adv p))).2).at_=(qy ts n (inP ts (adv p))).2.at_:=rfl
    omega
   ·simp only [Tr.sizeL]
    have e2:(outP (inP ts (adv p))).at_=(inP ts (adv p)).at_:=rfl
    omega
  rename_i hs
  rw [za hs] at he
  split
  ·rename_i hs
   rw [zb hs] at he
   have h1:=qg ht h hs
   have h2:=jn (h1.ok h)
   have e1:(adv p).at_=p.at_+1:=rfl
   have h3:Step ts (adv p) (outP (if (inP ts (adv p)).err=0 then (qbj ts (qy ts n) (inP ts (adv p))).2 else inP ts (adv p))):=by
    refine qfr (h1.ok h) ?_
    split
    ·exact qjn ht (qda ht n) _ h2.1
    ·exact h2.1.refl
   have h4:=qf ht (h3.ok (h1.ok h)) sRp
   have h5:=h4.err0 he
   have h6:=h4.le
   split
   ·rename_i hi
    rw [zb hi] at h5 h6
    have h7:=jbo ht (qda ht n) (qvc n) _ h2.1 (by omega) h5
    have e2:(outP (qbj ts (qy ts n) (inP ts (adv p))).2).at_=(qbj ts (qy ts n) (inP ts (adv p))).2.at_:=rfl
    simp only at h6 ⊢
    omega
   ·rename_i hi
    rw [za hi] at h5
    exact absurd h5 hi
  ·rename_i hs
   rw [za hs] at he
   have:=qno he
   simp only [Tr.size_mk,Tr.sizeL] at this ⊢
   omega
theorem qjv (h:AtOk ts p) (he:(eF ts p).2.err=0):((eF ts p).1.size:Int)+p.at_≤(eF ts p).2.at_:=
 jbo ht (qda ht _) (qvc ht _) p h (by have:=h.lo;omega) he
theorem qvd {stat:Ps→Tr × Ps} (hs:Runs ts stat) (hS:Fit ts m stat):∀ (n:Nat) (l:List Tr) (p:Ps),AtOk ts p→(ts.length:Int)≤p.at_+m→(qq ts stat n l p).2.err=0→(Tr.sizeL (qq ts stat n l p).1:Int)+p.at_≤Tr.sizeL l+(qq ts stat n l p).2.at_
 | 0,l,p,_,_,_=>by rw [qq];exact zn _
 | n+1,l,p,h,hl,he=>by
  rw [qq] at he ⊢
  by_cases h0:p.err=0
  ·rw [zb h0] at he ⊢
   by_cases hb:sees ts p sRc=true
   ·rw [zb hb]
    have e1:(adv p).at_=p.at_+1:=rfl
    simp only;omega
   ·rw [za hb] at he ⊢
    have h1:=hs p h
    have h2:=qdy ht hs n (l++[(stat p).1]) _ (h1.ok h)
    have h3:=hS p h hl (h2.err0 he)
    have h4:=h1.le
    have h5:=qvd hs hS n (l++[(stat p).1]) _ (h1.ok h) (by omega) he
    rw [Tr.sizeL_snoc] at h5
    omega
  ·rw [za h0]
   exact zn _
theorem joe {stat:Ps→Tr × Ps} (hs:Runs ts stat) (hS:Fit ts m stat) (h:AtOk ts p) (hl:(ts.length:Int)≤p.at_+m+1) (he:(qj ts stat p).2.err=0):((qj ts stat p).1.size:Int)+p.at_≤(qj ts stat p).2.at_:=by
 have h1:=qf ht h sLc
 have h0:=jn (h1.ok h)
 have h2:=qfr (h1.ok h) (qdy ht hs ts.length [] _ h0.1)
 have h3:=(qeq (h2.err0 he)).2
 have h4:=qvd ht hs hS ts.length [] _ h0.1 (by omega) he
 unfold qj
 simp only [Tr.size_mk]
 have e2:(outP (qq ts stat ts.length [] (inP ts (must ts p sLc))).2).at_=(qq ts stat ts.length [] (inP ts (must ts p sLc))).2.at_:=rfl
 have e3:Tr.sizeL []=0:=rfl
 omega
theorem jbp {blk:Ps→Tr × Ps} (hb:Runs ts blk) (hB:Fit ts m blk):∀ (n:Nat) (l:List Tr) (p:Ps),AtOk ts p→(ts.length:Int)≤p.at_+m→(orL ts blk n l p).2.err=0→(Tr.sizeL (orL ts blk n l p).1:Int)+p.at_≤Tr.sizeL l+(orL ts blk n l p).2.at_
 | 0,l,p,_,_,_=>by rw [orL];exact zn _
 | n+1,l,p,h,hl,he=>by
  rw [orL] at he ⊢
  split
  ·rename_i hs
   rw [zb hs] at he
   have h1:=qg ht h hs
   have h2:=hb _ (h1.ok h)
   have h3:=qjo ht hb n (l++[(blk (adv p)).1]) _ (h2.ok (h1.ok h))
   have e1:(adv p).at_=p.at_+1:=rfl
   have h4:=hB _ (h1.ok h) (by omega) (h3.err0 he)
   have h6:=h2.le
   have h5:=jbp hb hB n (l++[(blk (adv p)).1]) _ (h2.ok (h1.ok h)) (by omega) he
   rw [Tr.sizeL_snoc] at h5
   omega
  ·exact zn _
theorem jof {blk:Ps→Tr × Ps} (hb:Runs ts blk) (hB:Fit ts m blk) (a i:Int):Fit ts m (qbf ts blk a i):=fun p h hl he=>by
 unfold qbf at he ⊢
 split
 ·rename_i hs
  rw [zb hs] at he
  have h1:=qg ht h hs
  have h2:=jh ht (h1.ok h)
  have h3:=jh ht (h2.ok (h1.ok h))
  have h4:=h2.trans (h3.trans (qf ht (h3.ok (h2.ok (h1.ok h))) qh))
  have:p.at_+1≤_:=h4.le
  simp only [Tr.size_mk,Tr.sizeL];omega
 ·rename_i hs
  rw [za hs] at he
  split
  ·rename_i hw
   rw [zb hw] at he
   have h1:=qg ht h hw
   have h2:=qaf ht _ (h1.ok h)
   have h4:=qf ht (h2.ok (h1.ok h)) qh
   have h5:=qjv ht (h1.ok h) (h4.err0 he)
   have h6:=h4.le
   have e1:(adv p).at_=p.at_+1:=rfl
   simp only [Tr.size_mk,Tr.sizeL_one];omega
  ·rename_i hw
   rw [za hw] at he
   have h1:=qf ht h qp
   have h2:=hb _ (h1.ok h)
   have h3:=qjo ht hb ts.length [(blk (must ts p qp)).1] _ (h2.ok (h1.ok h))
   have h4:=(qeq (h2.err0 (h3.err0 he))).2
   have h5:=hB _ (h1.ok h) (by omega) (h3.err0 he)
   have h7:=h2.le
   have h6:=jbp ht hb hB ts.length [(blk (must ts p qp)).1] _ (h2.ok (h1.ok h)) (by omega) he
   rw [Tr.sizeL_one] at h6
   simp only [Tr.size_mk] at h6 ⊢;omega
theorem jbq:∀ n,Fit ts n (qe ts n)
 | 0=>fun p h hl _=>by have:=h.hi;omega
 | n+1=>fun p h hl he=>by
  have hb:=qgp ht (qdz ht n)
  have hB:∀ q,AtOk ts q→(ts.length:Int)≤q.at_+n+1→(qj ts (qe ts n) q).2.err=0→((qj ts (qe ts n) q).1.size:Int)+q.at_≤(qj ts (qe ts n) q).2.at_:=fun q hq hlq heq=>joe ht (qdz ht n) (jbq n) hq hlq heq
  unfold qe at he ⊢
  simp only at he ⊢
  split
  ·rename_i hw
   rw [zb hw] at he
   have h1:=qcz ht h jq
   have h2:=h1.le
   have:=jof ht hb (m:=n+1) (fun q hq hlq heq=>hB q hq (by omega) heq) _ _ _ (h1.ok h) (by omega) he
   omega
  rename_i hw
  rw [za hw] at he
  split
  ·rename_i hw
   rw [zb hw] at he
   have h1:=qg ht h hw
   have h2:=jh ht (h1.ok h)
   have h3:=qaf ht _ (h2.ok (h1.ok h))
   have h4:=qf ht (h3.ok (h2.ok (h1.ok h))) qh
   have h5:=qjv ht (h2.ok (h1.ok h)) (h4.err0 he)
   have h6:=h4.le
   have h7:p.at_+1≤_:=h2.le
   simp only [Tr.size_mk,Tr.sizeL_one];omega
  rename_i hw
  rw [za hw] at he
  split
  ·rename_i hw
   rw [zb hw] at he
   have h1:=qg ht h hw
   have h2:=qaf ht _ (h1.ok h)
   have h3:=hb _ (h2.ok (h1.ok h))
   have e1:(adv p).at_=p.at_+1:=rfl
   have hl2:=h2.le
   have hl3:=h3.le
   split
   ·rename_i hx
    rw [zb hx] at he
    have h5:=qg ht (h3.ok (h2.ok (h1.ok h))) hx
    have h6:=hb _ (h5.ok (h3.ok (h2.ok (h1.ok h))))
    have h7:=h5.err0 (h6.err0 he)
    have h8:=qjv ht (h1.ok h) (h3.err0 h7)
    have h9:=hB _ (h2.ok (h1.ok h)) (by omega) h7
    have e2:(adv (qj ts (qe ts n) (eF ts (adv p)).2).2).at_=(qj ts (qe ts n) (eF ts (adv p)).2).2.at_+1:=rfl
    have h10:=hB _ (h5.ok (h3.ok (h2.ok (h1.ok h)))) (by omega) he
    simp only [Tr.size_mk,Tr.sizeL_three];omega
   ·rename_i hx
    rw [za hx] at he
    have h8:=qjv ht (h1.ok h) (h3.err0 he)
    have h9:=hB _ (h2.ok (h1.ok h)) (by omega) he
    simp only [Tr.size_mk,Tr.sizeL_two];omega
  rename_i hw
  rw [za hw] at he
  split
  ·rename_i hw
   rw [zb hw] at he
   have h1:=qg ht h hw
   have h2:=qaf ht _ (h1.ok h)
   have h3:=hb _ (h2.ok (h1.ok h))
   have e1:(adv p).at_=p.at_+1:=rfl
   have hl2:=h2.le
   have h8:=qjv ht (h1.ok h) (h3.err0 he)
   have h9:=hB _ (h2.ok (h1.ok h)) (by omega) he
   simp only [Tr.size_mk,Tr.sizeL_two];omega
  rename_i hw
  rw [za hw] at he
  split
  ·rename_i hw
   rw [zb hw] at he
   have h1:=qg ht h hw
   have e1:(adv p).at_=p.at_+1:=rfl
   have h9:=hB _ (h1.ok h) (by omega) he
   simp only [Tr.size_mk,Tr.sizeL_one];omega
  rename_i hw
  rw [za hw] at he
  split
  ·have h1:=qg ht h (by assumption)
   have h4:p.at_+1≤_:=(qf ht (h1.ok h) qh).le
   simp only [Tr.size_mk,Tr.sizeL];omega
  rename_i hw
  rw [za hw] at he
  split
  ·have h1:=qg ht h (by assumption)
   have h4:p.at_+1≤_:=(qf ht (h1.ok h) qh).le
   simp only [Tr.size_mk,Tr.sizeL];omega
  rename_i hw
  rw [za hw] at he
  have h1:=jh ht h
  have h2:=qf ht (h1.ok h) sEq
  have h3:=qaf ht _ (h2.ok (h1.ok h))
  have h4:=qf ht (h3.ok (h2.ok (h1.ok h))) qh
  have h5:=qno (h2.err0 (h3.err0 (h4.err0 he)))
  have h6:=h4.le
  have h7:=h2.le
  have h8:=qjv ht (h2.ok (h1.ok h)) (h4.err0 he)
  simp only [Tr.size_mk,Tr.sizeL_one];omega
theorem fit_s:Fit ts ts.length (sF ts):=jbq ht _
theorem jbr (h:AtOk ts p) (he:(jg ts p).2.err=0):((jg ts p).1.size:Int)+p.at_≤(jg ts p).2.at_:=by
 have h1:=qpy ht p h he
 have h2:(jg ts p).1.size=1:=by unfold jg;simp only [Tr.size_mk,Tr.sizeL]
 omega
theorem jbs:∀ (n:Nat) (l:List Tr) (p:Ps),AtOk ts p→(jr ts n l p).2.err=0→(Tr.sizeL (jr ts n l p).1:Int)+p.at_≤Tr.sizeL l+(jr ts n l p).2.at_
 | 0,l,p,_,_=>by rw [jr];exact zn _
 | n+1,l,p,h,he=>by
  rw [jr] at he ⊢
  split
  ·rename_i hs
   rw [zb hs] at he
   have h1:=qih ht _ h
   have h2:=qhf ht n (l++[(jg ts p).1]) _ (h1.ok h)
   have h3:=jbr ht h (h2.err0 he)
   have h5:=jbs n (l++[(jg ts p).1]) _ (h1.ok h) he
   rw [Tr.sizeL_snoc] at h5
   omega
  ·exact zn _
theorem jog (h:AtOk ts p) (he:(qbk ts p).2.err=0):((qbk ts p).1.size:Int)+p.at_≤(qbk ts p).2.at_:=by
 have h0:=qf ht h qk
 unfold qbk at he ⊢
 simp only at he ⊢
 have h1:=h0.ok h
 have h3:=jh ht h1
 have h4:Step ts (must ts p qk) (if sees ts (qc ts (must ts p qk)) qbi=true then (numN ts (adv (qc ts (must ts p qk))),numP ts (adv (qc ts (must ts p qk)))) else (1,qc ts (must ts p qk))).2:=by
  split
  ·have h5:=h3.trans (qg ht (h3.ok h1) (by assumption))
   exact h5.trans (jx ht (h5.ok h1))
  ·exact h3
 have h5:=h4.trans (qf ht (h4.ok h1) sLc)
 generalize (must ts (if sees ts (qc ts (must ts p qk)) qbi=true then (numN ts (adv (qc ts (must ts p qk))),numP ts (adv (qc ts (must ts p qk)))) else (1,qc ts (must ts p qk))).2 sLc)=R at he h5 ⊢
 have h6:=qhf ht ts.length [] R (h5.ok h1)
 have h7:=fun he=>jbs ht ts.length [] R (h5.ok h1) he
 generalize jr ts ts.length [] R=V at he h6 h7 ⊢
 have h8:=jn (h6.ok (h5.ok h1))
 have h9:=qfr (h6.ok (h5.ok h1)) (qdy ht (qfa ht) ts.length V.1 _ h8.1)
 have h10:=h7 (h9.err0 he)
 have hlo:=h8.1.lo
 have h11:=qvd ht (qfa ht) (fit_s ht) ts.length V.1 _ h8.1 (by omega) he
 have h12:=(qeq (h5.err0 (h6.err0 (h9.err0 he)))).2
 have h13:=h5.le
 have e3:Tr.sizeL []=0:=rfl
 have e2:(outP (qq ts (sF ts) ts.length V.1 (inP ts V.2)).2).at_=(qq ts (sF ts) ts.length V.1 (inP ts V.2)).2.at_:=rfl
 simp only [Tr.size_mk]
 omega
theorem joh (h:AtOk ts p) (he:(jt ts p).2.err=0):((jt ts p).1.size:Int)+p.at_≤(jt ts p).2.at_:=by
 have hg:=qqa ht p h he
 unfold jt at he hg ⊢
 simp only at he hg ⊢
 split
 ·rename_i hw
  rw [zb hw] at he
  exact jbr ht h he
 rename_i hw
 rw [za hw] at he hg
 split
 ·rename_i hw
  rw [zb hw] at he
  exact jog ht h he
 rename_i hw
 rw [za hw] at he hg
 split
 ·rename_i hw
  rw [zb hw] at he hg
  simp only [Tr.size_mk,Tr.sizeL] at hg ⊢;omega
 rename_i hw
 rw [za hw] at he hg
 split
 ·rename_i hw
  rw [zb hw] at he
  have h1:=qg ht h hw
  have h2:=qaf ht _ (h1.ok h)
  have h3:=qf ht (h2.ok (h1.ok h)) qh
  have h4:=qjv ht (h1.ok h) (h3.err0 he)
  have h5:=h3.le
  have e1:(adv p).at_=p.at_+1:=rfl
  simp only [Tr.size_mk,Tr.sizeL_one];omega
 rename_i hw
 rw [za hw] at he hg
 simp only [Tr.size_mk,Tr.sizeL] at hg ⊢;omega
theorem jbt:∀ (n:Nat) (l:List Tr) (p:Ps),AtOk ts p→(qca ts n l p).2.err=0→(Tr.sizeL (qca ts n l p).1:Int)+p.at_≤Tr.sizeL l+(qca ts n l p).2.at_
 | 0,l,p,_,_=>by rw [qca];exact zn _
 | n+1,l,p,h,he=>by
  rw [qca] at he ⊢
  split
  ·rename_i hs
   rw [zb hs] at he
   have h1:=qnm ht _ h
   have h2:=qle ht n (l++[(jt ts p).1]) _ (h1.ok h)
   have h3:=joh ht h (h2.err0 he)
   have h5:=jbt n (l++[(jt ts p).1]) _ (h1.ok h) he
   rw [Tr.sizeL_snoc] at h5
   omega
  ·exact zn _
theorem jbu (h:AtOk ts p) (he:(jk ts p).2.err=0):((jk ts p).1.size:Int)≤1+ts.length:=by
 have h1:=jbt ht ts.length [] p h he
 have h2:=((qle ht ts.length [] p h).ok h).hi
 have h3:=h.lo
 have e3:Tr.sizeL []=0:=rfl
 unfold jk
 simp only [Tr.size_mk]
 omega
end
end Pa
end Go.Proofs.Ythfaleaojlnnoaa
