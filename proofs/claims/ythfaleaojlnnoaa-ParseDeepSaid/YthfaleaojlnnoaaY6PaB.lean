/- The document's parser in plain Lean: a tree has no more nodes than tokens are read. -/
import Derived.Test.YthfaleaojlnnoaaY610
import Derived.Test.YthfaleaojlnnoaaY62
set_option linter.unusedSimpArgs false
set_option linter.unusedVariables false
namespace Go.Proofs.Ythfaleaojlnnoaa
namespace Pa
open Go Go.Sx
theorem Tr.size_mk (k:Int) (w:List (List UInt8)) (ns:List Int) (a:Int) (l:List Tr):(Tr.mk k w ns a l).size=1+Tr.sizeL l:=by rw [Tr.size]
theorem Tr.sizeL_snoc:∀ (l:List Tr) (t:Tr),Tr.sizeL (l++[t])=Tr.sizeL l+t.size
 | [],t=>by simp [Tr.sizeL]
 | x::r,t=>by rw [xw,Tr.sizeL,Tr.sizeL_snoc r t,Tr.sizeL];omega
theorem Tr.sizeL_one (t:Tr):Tr.sizeL [t]=t.size:=by simp [Tr.sizeL]
theorem Tr.sizeL_two (t u:Tr):Tr.sizeL [t,u]=t.size+u.size:=by simp [Tr.sizeL]
theorem Tr.sizeL_three (t u v:Tr):Tr.sizeL [t,u,v]=t.size+(u.size+v.size):=by simp [Tr.sizeL]
theorem jby (sg:Int) (a b:Tr):(binT sg a b).size=1+(a.size+b.size):=by unfold binT;rw [Tr.size_mk,Tr.sizeL_two]
abbrev Fit (ts:List Lx.Tok) (n:Nat) (f:Ps→Tr × Ps):Prop:=∀ p,AtOk ts p→(ts.length:Int)≤p.at_+n→(f p).2.err=0→((f p).1.size:Int)+p.at_≤(f p).2.at_
section
variable {ts:List Lx.Tok} {p q r:Ps} {m:Nat}
variable (ht:ToksOk ts)
include ht
theorem jbz {f:Ps→Tr × Ps} (hf:Runs ts f) (hF:Fit ts m f) {c:Ps→Bool} {sg:Ps→Int} (hc:∀ p,c p=true→∃ s,sees ts p s=true) :
  ∀ (n:Nat) (a:Tr) (p:Ps),AtOk ts p→(ts.length:Int)≤p.at_+m→(jv f c sg n a p).2.err=0→((jv f c sg n a p).1.size:Int)+p.at_≤a.size+(jv f c sg n a p).2.at_
 | 0,a,p,_,_,_=>by rw [jv];exact zm _
 | n+1,a,p,h,hl,he=>by
  rw [jv] at he ⊢
  split
  ·rename_i hcp
   rw [zb hcp] at he
   obtain ⟨s,hs⟩:=hc p hcp
   have h1:=qg ht h hs
   have h2:=hf _ (h1.ok h)
   have h3:=qgr ht hf hc (sg:=sg) n (binT (sg p) a (f (adv p)).1) _ (h2.ok (h1.ok h))
   have e1:(adv p).at_=p.at_+1:=rfl
   have h4:=hF _ (h1.ok h) (by omega) (h3.err0 he)
   have h6:=h2.le
   have h5:=jbz hf hF hc (sg:=sg) n (binT (sg p) a (f (adv p)).1) _ (h2.ok (h1.ok h)) (by omega) he
   rw [jby] at h5
   omega
  ·exact zm _
theorem qrc {f:Ps→Tr × Ps} (hf:Runs ts f) (hF:Fit ts m f) {c:Ps→Bool} {sg:Ps→Int} (hc:∀ p,c p=true→∃ s,sees ts p s=true) (n:Nat) :
  Fit ts m (fun p=>jv f c sg n (f p).1 (f p).2):=fun p h hl he=>by
 have h1:=hf p h
 have h2:=qgr ht hf hc (sg:=sg) n (f p).1 _ (h1.ok h)
 have h3:=hF p h hl (h2.err0 he)
 have h4:=h1.le
 have h5:=jbz ht hf hF hc (sg:=sg) n (f p).1 _ (h1.ok h) (by omega) he
 simp only at h5 ⊢
 omega
theorem jca {f:Ps→Tr × Ps} (hf:Runs ts f) (hF:Fit ts m f) (s:List UInt8) (sg:Int):Fit ts m (qgp ts f s sg):=fun p h hl he=>by
 have h1:=hf p h
 unfold qgp at he ⊢
 split
 ·rename_i hs
  rw [zb hs] at he
  have h2:=qg ht (h1.ok h) hs
  have h3:=hf _ (h2.ok (h1.ok h))
  have e1:(adv (f p).2).at_=(f p).2.at_+1:=rfl
  have h4:=hF p h hl (h2.err0 (h3.err0 he))
  have h5:=h1.le
  have h6:=hF _ (h2.ok (h1.ok h)) (by omega) he
  simp only
  rw [jby]
  omega
 ·rename_i hs
  rw [za hs] at he
  exact hF p h hl he
section
variable {part:Ps→Tr × Ps} (hp:Runs ts part) (hP:Fit ts m part)
include hp hP
theorem jot:Fit ts m (qco ts part):=qrc ht hp hP (fun _=>qnp) _
theorem jou:Fit ts m (sumF ts part):=qrc ht (qjq ht hp) (jot ht hp hP) (fun _=>qnq) _
theorem jov:Fit ts m (qck ts part):=jca ht (qnr ht hp) (jou ht hp hP) _ _
theorem jow:Fit ts m (qcy ts part):=jca ht (qns ht hp) (jov ht hp hP) _ _
theorem jox:Fit ts m (andF ts part):=qrc ht (qjr ht hp) (jow ht hp hP) (fun _ h=>⟨_,h⟩) _
theorem jcb:Fit ts m (qal ts part):=qrc ht (qjs ht hp) (jox ht hp hP) (fun _ h=>⟨_,h⟩) _
end
theorem qvn:∀ n,Fit ts n (qo ts n)
 | 0=>fun p h hl _=>by have:=h.hi;omega
 | n+1=>fun p h hl he=>by
  unfold qo at he ⊢
  simp only at he ⊢
  split
  ·rename_i hs
   rw [zb hs] at he
   have:=jab he
   simp only [Tr.size_mk,Tr.sizeL] at this ⊢
   omega
  rename_i hs
  rw [za hs] at he
  split
  ·rename_i hs
   rw [zb hs] at he
   have:=qnw he
   have e1:(adv p).at_=p.at_+1:=rfl
   simp only [Tr.size_mk,Tr.sizeL] at this ⊢
   omega
  rename_i hs
  rw [za hs] at he
  split
  ·rename_i hs
   rw [zb hs] at he
   have h1:Step ts p (adv p):=by rcases hs with hs|hs <;> exact qg ht h hs
   have h2:=jn (h1.ok h)
   have e1:(adv p).at_=p.at_+1:=rfl
   have h3:=qda ht n _ h2.1
   simp only [Tr.size_mk]
   have he':(ifOk (qo ts n) (inP ts (adv p))).2.err=0:=he
   unfold ifOk at he' ⊢
   split
   ·rename_i hi
    rw [zb hi] at he'
    have h4:=qvn n _ h2.1 (by omega) he'
    simp only [Tr.sizeL_one]
    have e2:(outP (qo ts n (inP ts (adv p))).2).at_=(qo ts n (inP ts (adv p))).2.at_:=rfl
    omega
   ·simp only [Tr.sizeL]
    have e2:(outP (inP ts (adv p))).at_=(inP ts (adv p)).at_:=rfl
    omega
  rename_i hs
  rw [za hs] at he
  split
  ·rename_i hs
   rw [zb hs] at he
   have h1:=qg ht h hs
   have h2:=jn (h1.ok h)
   have e1:(adv p).at_=p.at_+1:=rfl
   have h3:Step ts (adv p) (outP (if (inP ts (adv p)).err=0 then (qal ts (qo ts n) (inP ts (adv p))).2 else inP ts (adv p))):=by
    refine qfq (h1.ok h) ?_
    split
    ·exact qjt ht (qda ht n) _ h2.1
    ·exact h2.1.refl
   have h4:=qf ht (h3.ok (h1.ok h)) sRp
   have h5:=h4.err0 he
   have h6:=h4.le
   split
   ·rename_i hi
    rw [zb hi] at h5 h6
    have h7:=jcb ht (qda ht n) (qvn n) _ h2.1 (by omega) h5
    have e2:(outP (qal ts (qo ts n) (inP ts (adv p))).2).at_=(qal ts (qo ts n) (inP ts (adv p))).2.at_:=rfl
    simp only at h6 ⊢
    omega
   ·rename_i hi
    rw [za hi] at h5
    exact absurd h5 hi
  ·rename_i hs
   rw [za hs] at he
   have:=qnw he
   simp only [Tr.size_mk,Tr.sizeL] at this ⊢
   omega
theorem qkb (h:AtOk ts p) (he:(eF ts p).2.err=0):((eF ts p).1.size:Int)+p.at_≤(eF ts p).2.at_:=
 jcb ht (qda ht _) (qvn ht _) p h (by have:=h.lo;omega) he
theorem qvo {stat:Ps→Tr × Ps} (hs:Runs ts stat) (hS:Fit ts m stat):∀ (n:Nat) (l:List Tr) (p:Ps),AtOk ts p→(ts.length:Int)≤p.at_+m→(qq ts stat n l p).2.err=0→(Tr.sizeL (qq ts stat n l p).1:Int)+p.at_≤Tr.sizeL l+(qq ts stat n l p).2.at_
 | 0,l,p,_,_,_=>by rw [qq];exact zm _
 | n+1,l,p,h,hl,he=>by
  rw [qq] at he ⊢
  by_cases h0:p.err=0
  ·rw [zb h0] at he ⊢
   by_cases hb:sees ts p sRc=true
   ·rw [zb hb]
    have e1:(adv p).at_=p.at_+1:=rfl
    simp only;omega
   ·rw [za hb] at he ⊢
    have h1:=hs p h
    have h2:=qdy ht hs n (l++[(stat p).1]) _ (h1.ok h)
    have h3:=hS p h hl (h2.err0 he)
    have h4:=h1.le
    have h5:=qvo hs hS n (l++[(stat p).1]) _ (h1.ok h) (by omega) he
    rw [Tr.sizeL_snoc] at h5
    omega
  ·rw [za h0]
   exact zm _
theorem joy {stat:Ps→Tr × Ps} (hs:Runs ts stat) (hS:Fit ts m stat) (h:AtOk ts p) (hl:(ts.length:Int)≤p.at_+m+1) (he:(qi ts stat p).2.err=0):((qi ts stat p).1.size:Int)+p.at_≤(qi ts stat p).2.at_:=by
 have h1:=qf ht h sLc
 have h0:=jn (h1.ok h)
 have h2:=qfq (h1.ok h) (qdy ht hs ts.length [] _ h0.1)
 have h3:=(qer (h2.err0 he)).2
 have h4:=qvo ht hs hS ts.length [] _ h0.1 (by omega) he
 unfold qi
 simp only [Tr.size_mk]
 have e2:(outP (qq ts stat ts.length [] (inP ts (must ts p sLc))).2).at_=(qq ts stat ts.length [] (inP ts (must ts p sLc))).2.at_:=rfl
 have e3:Tr.sizeL []=0:=rfl
 omega
theorem jcc {blk:Ps→Tr × Ps} (hb:Runs ts blk) (hB:Fit ts m blk):∀ (n:Nat) (l:List Tr) (p:Ps),AtOk ts p→(ts.length:Int)≤p.at_+m→(orL ts blk n l p).2.err=0→(Tr.sizeL (orL ts blk n l p).1:Int)+p.at_≤Tr.sizeL l+(orL ts blk n l p).2.at_
 | 0,l,p,_,_,_=>by rw [orL];exact zm _
 | n+1,l,p,h,hl,he=>by
  rw [orL] at he ⊢
  split
  ·rename_i hs
   rw [zb hs] at he
   have h1:=qg ht h hs
   have h2:=hb _ (h1.ok h)
   have h3:=qju ht hb n (l++[(blk (adv p)).1]) _ (h2.ok (h1.ok h))
   have e1:(adv p).at_=p.at_+1:=rfl
   have h4:=hB _ (h1.ok h) (by omega) (h3.err0 he)
   have h6:=h2.le
   have h5:=jcc hb hB n (l++[(blk (adv p)).1]) _ (h2.ok (h1.ok h)) (by omega) he
   rw [Tr.sizeL_snoc] at h5
   omega
  ·exact zm _
theorem joz {blk:Ps→Tr × Ps} (hb:Runs ts blk) (hB:Fit ts m blk) (a i:Int):Fit ts m (qbh ts blk a i):=fun p h hl he=>by
 unfold qbh at he ⊢
 split
 ·rename_i hs
  rw [zb hs] at he
  have h1:=qg ht h hs
  have h2:=jh ht (h1.ok h)
  have h3:=jh ht (h2.ok (h1.ok h))
  have h4:=h2.trans (h3.trans (qf ht (h3.ok (h2.ok (h1.ok h))) sSemi))
  have:p.at_+1≤_:=h4.le
  simp only [Tr.size_mk,Tr.sizeL];omega
 ·rename_i hs
  rw [za hs] at he
  split
  ·rename_i hw
   rw [zb hw] at he
   have h1:=qg ht h hw
   have h2:=qae ht _ (h1.ok h)
   have h4:=qf ht (h2.ok (h1.ok h)) sSemi
   have h5:=qkb ht (h1.ok h) (h4.err0 he)
   have h6:=h4.le
   have e1:(adv p).at_=p.at_+1:=rfl
   simp only [Tr.size_mk,Tr.sizeL_one];omega
  ·rename_i hw
   rw [za hw] at he
   have h1:=qf ht h qp
   have h2:=hb _ (h1.ok h)
   have h3:=qju ht hb ts.length [(blk (must ts p qp)).1] _ (h2.ok (h1.ok h))
   have h4:=(qer (h2.err0 (h3.err0 he))).2
   have h5:=hB _ (h1.ok h) (by omega) (h3.err0 he)
   have h7:=h2.le
   have h6:=jcc ht hb hB ts.length [(blk (must ts p qp)).1] _ (h2.ok (h1.ok h)) (by omega) he
   rw [Tr.sizeL_one] at h6
   simp only [Tr.size_mk] at h6 ⊢;omega
theorem jcd:∀ n,Fit ts n (qe ts n)
 | 0=>fun p h hl _=>by have:=h.hi;omega
 | n+1=>fun p h hl he=>by
  have hb:=qgs ht (qdz ht n)
  have hB:∀ q,AtOk ts q→(ts.length:Int)≤q.at_+n+1→(qi ts (qe ts n) q).2.err=0→((qi ts (qe ts n) q).1.size:Int)+q.at_≤(qi ts (qe ts n) q).2.at_:=fun q hq hlq heq=>joy ht (qdz ht n) (jcd n) hq hlq heq
  unfold qe at he ⊢
  simp only at he ⊢
  split
  ·rename_i hw
   rw [zb hw] at he
   have h1:=qcz ht h jq
   have h2:=h1.le
   have:=joz ht hb (m:=n+1) (fun q hq hlq heq=>hB q hq (by omega) heq) _ _ _ (h1.ok h) (by omega) he
   omega
  rename_i hw
  rw [za hw] at he
  split
  ·rename_i hw
   rw [zb hw] at he
   have h1:=qg ht h hw
   have h2:=jh ht (h1.ok h)
   have h3:=qae ht _ (h2.ok (h1.ok h))
   have h4:=qf ht (h3.ok (h2.ok (h1.ok h))) sSemi
   have h5:=qkb ht (h2.ok (h1.ok h)) (h4.err0 he)
   have h6:=h4.le
   have h7:p.at_+1≤_:=h2.le
   simp only [Tr.size_mk,Tr.sizeL_one];omega
  rename_i hw
  rw [za hw] at he
  split
  ·rename_i hw
   rw [zb hw] at he
   have h1:=qg ht h hw
   have h2:=qae ht _ (h1.ok h)
   have h3:=hb _ (h2.ok (h1.ok h))
   have e1:(adv p).at_=p.at_+1:=rfl
   have hl2:=h2.le
   have hl3:=h3.le
   split
   ·rename_i hx
    rw [zb hx] at he
    have h5:=qg ht (h3.ok (h2.ok (h1.ok h))) hx
    have h6:=hb _ (h5.ok (h3.ok (h2.ok (h1.ok h))))
    have h7:=h5.err0 (h6.err0 he)
    have h8:=qkb ht (h1.ok h) (h3.err0 h7)
    have h9:=hB _ (h2.ok (h1.ok h)) (by omega) h7
    have e2:(adv (qi ts (qe ts n) (eF ts (adv p)).2).2).at_=(qi ts (qe ts n) (eF ts (adv p)).2).2.at_+1:=rfl
    have h10:=hB _ (h5.ok (h3.ok (h2.ok (h1.ok h)))) (by omega) he
    simp only [Tr.size_mk,Tr.sizeL_three];omega
   ·rename_i hx
    rw [za hx] at he
    have h8:=qkb ht (h1.ok h) (h3.err0 he)
    have h9:=hB _ (h2.ok (h1.ok h)) (by omega) he
    simp only [Tr.size_mk,Tr.sizeL_two];omega
  rename_i hw
  rw [za hw] at he
  split
  ·rename_i hw
   rw [zb hw] at he
   have h1:=qg ht h hw
   have h2:=qae ht _ (h1.ok h)
   have h3:=hb _ (h2.ok (h1.ok h))
   have e1:(adv p).at_=p.at_+1:=rfl
   have hl2:=h2.le
   have h8:=qkb ht (h1.ok h) (h3.err0 he)
   have h9:=hB _ (h2.ok (h1.ok h)) (by omega) he
   simp only [Tr.size_mk,Tr.sizeL_two];omega
  rename_i hw
  rw [za hw] at he
  split
  ·rename_i hw
   rw [zb hw] at he
   have h1:=qg ht h hw
   have e1:(adv p).at_=p.at_+1:=rfl
   have h9:=hB _ (h1.ok h) (by omega) he
   simp only [Tr.size_mk,Tr.sizeL_one];omega
  rename_i hw
  rw [za hw] at he
  split
  ·have h1:=qg ht h (by assumption)
   have h4:p.at_+1≤_:=(qf ht (h1.ok h) sSemi).le
   simp only [Tr.size_mk,Tr.sizeL];omega
  rename_i hw
  rw [za hw] at he
  split
  ·have h1:=qg ht h (by assumption)
   have h4:p.at_+1≤_:=(qf ht (h1.ok h) sSemi).le
   simp only [Tr.size_mk,Tr.sizeL];omega
  rename_i hw
  rw [za hw] at he
  have h1:=jh ht h
  have h2:=qf ht (h1.ok h) sEq
  have h3:=qae ht _ (h2.ok (h1.ok h))
  have h4:=qf ht (h3.ok (h2.ok (h1.ok h))) sSemi
  have h5:=qnw (h2.err0 (h3.err0 (h4.err0 he)))
  have h6:=h4.le
  have h7:=h2.le
  have h8:=qkb ht (h2.ok (h1.ok h)) (h4.err0 he)
  simp only [Tr.size_mk,Tr.sizeL_one];omega
theorem fit_s:Fit ts ts.length (sF ts):=jcd ht _
theorem jce (h:AtOk ts p) (he:(jf ts p).2.err=0):((jf ts p).1.size:Int)+p.at_≤(jf ts p).2.at_:=by
 have h1:=qqg ht p h he
 have h2:(jf ts p).1.size=1:=by unfold jf;simp only [Tr.size_mk,Tr.sizeL]
 omega
theorem jcf:∀ (n:Nat) (l:List Tr) (p:Ps),AtOk ts p→(jr ts n l p).2.err=0→(Tr.sizeL (jr ts n l p).1:Int)+p.at_≤Tr.sizeL l+(jr ts n l p).2.at_
 | 0,l,p,_,_=>by rw [jr];exact zm _
 | n+1,l,p,h,he=>by
  rw [jr] at he ⊢
  split
  ·rename_i hs
   rw [zb hs] at he
   have h1:=qik ht _ h
   have h2:=qhi ht n (l++[(jf ts p).1]) _ (h1.ok h)
   have h3:=jce ht h (h2.err0 he)
   have h5:=jcf n (l++[(jf ts p).1]) _ (h1.ok h) he
   rw [Tr.sizeL_snoc] at h5
   omega
  ·exact zm _
theorem jpa (h:AtOk ts p) (he:(qbk ts p).2.err=0):((qbk ts p).1.size:Int)+p.at_≤(qbk ts p).2.at_:=by
 have h0:=qf ht h qk
 unfold qbk at he ⊢
 simp only at he ⊢
 have h1:=h0.ok h
 have h3:=jh ht h1
 have h4:Step ts (must ts p qk) (if sees ts (qd ts (must ts p qk)) qbg=true then (numN ts (adv (qd ts (must ts p qk))),numP ts (adv (qd ts (must ts p qk)))) else (1,qd ts (must ts p qk))).2:=by
  split
  ·have h5:=h3.trans (qg ht (h3.ok h1) (by assumption))
   exact h5.trans (jx ht (h5.ok h1))
  ·exact h3
 have h5:=h4.trans (qf ht (h4.ok h1) sLc)
 generalize (must ts (if sees ts (qd ts (must ts p qk)) qbg=true then (numN ts (adv (qd ts (must ts p qk))),numP ts (adv (qd ts (must ts p qk)))) else (1,qd ts (must ts p qk))).2 sLc)=R at he h5 ⊢
 have h6:=qhi ht ts.length [] R (h5.ok h1)
 have h7:=fun he=>jcf ht ts.length [] R (h5.ok h1) he
 generalize jr ts ts.length [] R=V at he h6 h7 ⊢
 have h8:=jn (h6.ok (h5.ok h1))
 have h9:=qfq (h6.ok (h5.ok h1)) (qdy ht (qez ht) ts.length V.1 _ h8.1)
 have h10:=h7 (h9.err0 he)
 have hlo:=h8.1.lo
 have h11:=qvo ht (qez ht) (fit_s ht) ts.length V.1 _ h8.1 (by omega) he
 have h12:=(qer (h5.err0 (h6.err0 (h9.err0 he)))).2
 have h13:=h5.le
 have e3:Tr.sizeL []=0:=rfl
 have e2:(outP (qq ts (sF ts) ts.length V.1 (inP ts V.2)).2).at_=(qq ts (sF ts) ts.length V.1 (inP ts V.2)).2.at_:=rfl
 simp only [Tr.size_mk]
 omega
theorem jpb (h:AtOk ts p) (he:(jg ts p).2.err=0):((jg ts p).1.size:Int)+p.at_≤(jg ts p).2.at_:=by
 have hg:=qqi ht p h he
 unfold jg at he hg ⊢
 simp only at he hg ⊢
 split
 ·rename_i hw
  rw [zb hw] at he
  exact jce ht h he
 rename_i hw
 rw [za hw] at he hg
 split
 ·rename_i hw
  rw [zb hw] at he
  exact jpa ht h he
 rename_i hw
 rw [za hw] at he hg
 split
 ·rename_i hw
  rw [zb hw] at he hg
  simp only [Tr.size_mk,Tr.sizeL] at hg ⊢;omega
 rename_i hw
 rw [za hw] at he hg
 split
 ·rename_i hw
  rw [zb hw] at he
  have h1:=qg ht h hw
  have h2:=qae ht _ (h1.ok h)
  have h3:=qf ht (h2.ok (h1.ok h)) sSemi
  have h4:=qkb ht (h1.ok h) (h3.err0 he)
  have h5:=h3.le
  have e1:(adv p).at_=p.at_+1:=rfl
  simp only [Tr.size_mk,Tr.sizeL_one];omega
 rename_i hw
 rw [za hw] at he hg
 simp only [Tr.size_mk,Tr.sizeL] at hg ⊢;omega
theorem jcg:∀ (n:Nat) (l:List Tr) (p:Ps),AtOk ts p→(qau ts n l p).2.err=0→(Tr.sizeL (qau ts n l p).1:Int)+p.at_≤Tr.sizeL l+(qau ts n l p).2.at_
 | 0,l,p,_,_=>by rw [qau];exact zm _
 | n+1,l,p,h,he=>by
  rw [qau] at he ⊢
  split
  ·rename_i hs
   rw [zb hs] at he
   have h1:=qnt ht _ h
   have h2:=qnu ht n (l++[(jg ts p).1]) _ (h1.ok h)
   have h3:=jpb ht h (h2.err0 he)
   have h5:=jcg n (l++[(jg ts p).1]) _ (h1.ok h) he
   rw [Tr.sizeL_snoc] at h5
   omega
  ·exact zm _
theorem jch (h:AtOk ts p) (he:(jk ts p).2.err=0):((jk ts p).1.size:Int)≤1+ts.length:=by
 have h1:=jcg ht ts.length [] p h he
 have h2:=((qnu ht ts.length [] p h).ok h).hi
 have h3:=h.lo
 have e3:Tr.sizeL []=0:=rfl
 unfold jk
 simp only [Tr.size_mk]
 omega
end
end Pa
end Go.Proofs.Ythfaleaojlnnoaa
