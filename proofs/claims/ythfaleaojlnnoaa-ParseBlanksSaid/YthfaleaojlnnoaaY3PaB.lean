/- The document's parser in plain Lean: a tree has no more nodes than tokens are read. -/
import Derived.Test.YthfaleaojlnnoaaY39
import Derived.Test.YthfaleaojlnnoaaY32
set_option linter.unusedSimpArgs false
set_option linter.unusedVariables false
namespace Go.Proofs.Ythfaleaojlnnoaa
namespace Pa
open Go Go.Sx
theorem Tr.size_mk (k:Int) (w:List (List UInt8)) (ns:List Int) (a:Int) (l:List Tr):(Tr.mk k w ns a l).size=1+Tr.sizeL l:=by rw [Tr.size]
theorem Tr.sizeL_snoc:∀ (l:List Tr) (t:Tr),Tr.sizeL (l++[t])=Tr.sizeL l+t.size
 | [],t=>by simp [Tr.sizeL]
 | x::r,t=>by rw [xk,Tr.sizeL,Tr.sizeL_snoc r t,Tr.sizeL];omega
theorem Tr.sizeL_one (t:Tr):Tr.sizeL [t]=t.size:=by simp [Tr.sizeL]
theorem Tr.sizeL_two (t u:Tr):Tr.sizeL [t,u]=t.size+u.size:=by simp [Tr.sizeL]
theorem Tr.sizeL_three (t u v:Tr):Tr.sizeL [t,u,v]=t.size+(u.size+v.size):=by simp [Tr.sizeL]
theorem jag (sg:Int) (a b:Tr):(binT sg a b).size=1+(a.size+b.size):=by unfold binT;rw [Tr.size_mk,Tr.sizeL_two]
abbrev Fit (ts:List Lx.Tok) (n:Nat) (f:Ps→Tr × Ps):Prop:=∀ p,AtOk ts p→(ts.length:Int)≤p.at_+n→(f p).2.err=0→((f p).1.size:Int)+p.at_≤(f p).2.at_
section
variable {ts:List Lx.Tok} {p q r:Ps} {m:Nat}
variable (ht:ToksOk ts)
include ht
theorem jah {f:Ps→Tr × Ps} (hf:Runs ts f) (hF:Fit ts m f) {c:Ps→Bool} {sg:Ps→Int} (hc:∀ p,c p=true→∃ s,sees ts p s=true) :
  ∀ (n:Nat) (a:Tr) (p:Ps),AtOk ts p→(ts.length:Int)≤p.at_+m→(qav f c sg n a p).2.err=0→((qav f c sg n a p).1.size:Int)+p.at_≤a.size+(qav f c sg n a p).2.at_
 | 0,a,p,_,_,_=>by rw [qav];exact zp _
 | n+1,a,p,h,hl,he=>by
  rw [qav] at he ⊢
  split
  ·rename_i hcp
   rw [zb hcp] at he
   obtain ⟨s,hs⟩:=hc p hcp
   have h1:=qg ht h hs
   have h2:=hf _ (h1.ok h)
   have h3:=qfv ht hf hc (sg:=sg) n (binT (sg p) a (f (adv p)).1) _ (h2.ok (h1.ok h))
   have e1:(adv p).at_=p.at_+1:=rfl
   have h4:=hF _ (h1.ok h) (by omega) (h3.err0 he)
   have h6:=h2.le
   have h5:=jah hf hF hc (sg:=sg) n (binT (sg p) a (f (adv p)).1) _ (h2.ok (h1.ok h)) (by omega) he
   rw [jag] at h5
   omega
  ·exact zp _
theorem qpy {f:Ps→Tr × Ps} (hf:Runs ts f) (hF:Fit ts m f) {c:Ps→Bool} {sg:Ps→Int} (hc:∀ p,c p=true→∃ s,sees ts p s=true) (n:Nat) :
  Fit ts m (fun p=>qav f c sg n (f p).1 (f p).2):=fun p h hl he=>by
 have h1:=hf p h
 have h2:=qfv ht hf hc (sg:=sg) n (f p).1 _ (h1.ok h)
 have h3:=hF p h hl (h2.err0 he)
 have h4:=h1.le
 have h5:=jah ht hf hF hc (sg:=sg) n (f p).1 _ (h1.ok h) (by omega) he
 simp only at h5 ⊢
 omega
theorem jai {f:Ps→Tr × Ps} (hf:Runs ts f) (hF:Fit ts m f) (s:List UInt8) (sg:Int):Fit ts m (qet ts f s sg):=fun p h hl he=>by
 have h1:=hf p h
 unfold qet at he ⊢
 split
 ·rename_i hs
  rw [zb hs] at he
  have h2:=qg ht (h1.ok h) hs
  have h3:=hf _ (h2.ok (h1.ok h))
  have e1:(adv (f p).2).at_=(f p).2.at_+1:=rfl
  have h4:=hF p h hl (h2.err0 (h3.err0 he))
  have h5:=h1.le
  have h6:=hF _ (h2.ok (h1.ok h)) (by omega) he
  simp only
  rw [jag]
  omega
 ·rename_i hs
  rw [za hs] at he
  exact hF p h hl he
section
variable {part:Ps→Tr × Ps} (hp:Runs ts part) (hP:Fit ts m part)
include hp hP
theorem jmz:Fit ts m (qfu ts part):=qpy ht hp hP (fun _=>qmr) _
theorem jna:Fit ts m (sumF ts part):=qpy ht (qkk ht hp) (jmz ht hp hP) (fun _=>qms) _
theorem jnb:Fit ts m (qir ts part):=jai ht (qpd ht hp) (jna ht hp hP) _ _
theorem jnc:Fit ts m (qgl ts part):=jai ht (qpe ht hp) (jnb ht hp hP) _ _
theorem jnd:Fit ts m (andF ts part):=qpy ht (qkl ht hp) (jnc ht hp hP) (fun _ h=>⟨_,h⟩) _
theorem jaj:Fit ts m (qba ts part):=qpy ht (qkm ht hp) (jnd ht hp hP) (fun _ h=>⟨_,h⟩) _
end
theorem qud:∀ n,Fit ts n (jc ts n)
 | 0=>fun p h hl _=>by have:=h.hi;omega
 | n+1=>fun p h hl he=>by
  unfold jc at he ⊢
  simp only at he ⊢
  split
  ·rename_i hs
   rw [zb hs] at he
   have:=qyr he
   simp only [Tr.size_mk,Tr.sizeL] at this ⊢
   omega
  rename_i hs
  rw [za hs] at he
  split
  ·rename_i hs
   rw [zb hs] at he
   have:=qmv he
   have e1:(adv p).at_=p.at_+1:=rfl
   simp only [Tr.size_mk,Tr.sizeL] at this ⊢
   omega
  rename_i hs
  rw [za hs] at he
  split
  ·rename_i hs
   rw [zb hs] at he
   have h1:Step ts p (adv p):=by rcases hs with hs|hs <;> exact qg ht h hs
   have h2:=ju (h1.ok h)
   have e1:(adv p).at_=p.at_+1:=rfl
   have h3:=qdk ht n _ h2.1
   simp only [Tr.size_mk]
   have he':(ifOk (jc ts n) (inP ts (adv p))).2.err=0:=he
   unfold ifOk at he' ⊢
   split
   ·rename_i hi
    rw [zb hi] at he'
    have h4:=qud n _ h2.1 (by omega) he'
    simp only [Tr.sizeL_one]
    have e2:(outP (jc ts n (inP ts (adv p))).2).at_=(jc ts n (inP ts (adv p))).2.at_:=rfl
    omega
   ·simp only [Tr.sizeL]
    have e2:(outP (inP ts (adv p))).at_=(inP ts (adv p)).at_:=rfl
    omega
  rename_i hs
  rw [za hs] at he
  split
  ·rename_i hs
   rw [zb hs] at he
   have h1:=qg ht h hs
   have h2:=ju (h1.ok h)
   have e1:(adv p).at_=p.at_+1:=rfl
   have h3:Step ts (adv p) (outP (if (inP ts (adv p)).err=0 then (qba ts (jc ts n) (inP ts (adv p))).2 else inP ts (adv p))):=by
    refine qeu (h1.ok h) ?_
    split
    ·exact qkn ht (qdk ht n) _ h2.1
    ·exact h2.1.refl
   have h4:=qe ht (h3.ok (h1.ok h)) sRp
   have h5:=h4.err0 he
   have h6:=h4.le
   split
   ·rename_i hi
    rw [zb hi] at h5 h6
    have h7:=jaj ht (qdk ht n) (qud n) _ h2.1 (by omega) h5
    have e2:(outP (qba ts (jc ts n) (inP ts (adv p))).2).at_=(qba ts (jc ts n) (inP ts (adv p))).2.at_:=rfl
    simp only at h6 ⊢
    omega
   ·rename_i hi
    rw [za hi] at h5
    exact absurd h5 hi
  ·rename_i hs
   rw [za hs] at he
   have:=qmv he
   simp only [Tr.size_mk,Tr.sizeL] at this ⊢
   omega
theorem qiy (h:AtOk ts p) (he:(eF ts p).2.err=0):((eF ts p).1.size:Int)+p.at_≤(eF ts p).2.at_:=
 jaj ht (qdk ht _) (qud ht _) p h (by have:=h.lo;omega) he
theorem que {stat:Ps→Tr × Ps} (hs:Runs ts stat) (hS:Fit ts m stat):∀ (n:Nat) (l:List Tr) (p:Ps),AtOk ts p→(ts.length:Int)≤p.at_+m→(jb ts stat n l p).2.err=0→(Tr.sizeL (jb ts stat n l p).1:Int)+p.at_≤Tr.sizeL l+(jb ts stat n l p).2.at_
 | 0,l,p,_,_,_=>by rw [jb];exact zp _
 | n+1,l,p,h,hl,he=>by
  rw [jb] at he ⊢
  by_cases h0:p.err=0
  ·rw [zb h0] at he ⊢
   by_cases hb:sees ts p sRc=true
   ·rw [zb hb]
    have e1:(adv p).at_=p.at_+1:=rfl
    simp only;omega
   ·rw [za hb] at he ⊢
    have h1:=hs p h
    have h2:=qeg ht hs n (l++[(stat p).1]) _ (h1.ok h)
    have h3:=hS p h hl (h2.err0 he)
    have h4:=h1.le
    have h5:=que hs hS n (l++[(stat p).1]) _ (h1.ok h) (by omega) he
    rw [Tr.sizeL_snoc] at h5
    omega
  ·rw [za h0]
   exact zp _
theorem jne {stat:Ps→Tr × Ps} (hs:Runs ts stat) (hS:Fit ts m stat) (h:AtOk ts p) (hl:(ts.length:Int)≤p.at_+m+1) (he:(qr ts stat p).2.err=0):((qr ts stat p).1.size:Int)+p.at_≤(qr ts stat p).2.at_:=by
 have h1:=qe ht h sLc
 have h0:=ju (h1.ok h)
 have h2:=qeu (h1.ok h) (qeg ht hs ts.length [] _ h0.1)
 have h3:=(qfw (h2.err0 he)).2
 have h4:=que ht hs hS ts.length [] _ h0.1 (by omega) he
 unfold qr
 simp only [Tr.size_mk]
 have e2:(outP (jb ts stat ts.length [] (inP ts (must ts p sLc))).2).at_=(jb ts stat ts.length [] (inP ts (must ts p sLc))).2.at_:=rfl
 have e3:Tr.sizeL []=0:=rfl
 omega
theorem jak {blk:Ps→Tr × Ps} (hb:Runs ts blk) (hB:Fit ts m blk):∀ (n:Nat) (l:List Tr) (p:Ps),AtOk ts p→(ts.length:Int)≤p.at_+m→(orL ts blk n l p).2.err=0→(Tr.sizeL (orL ts blk n l p).1:Int)+p.at_≤Tr.sizeL l+(orL ts blk n l p).2.at_
 | 0,l,p,_,_,_=>by rw [orL];exact zp _
 | n+1,l,p,h,hl,he=>by
  rw [orL] at he ⊢
  split
  ·rename_i hs
   rw [zb hs] at he
   have h1:=qg ht h hs
   have h2:=hb _ (h1.ok h)
   have h3:=qit ht hb n (l++[(blk (adv p)).1]) _ (h2.ok (h1.ok h))
   have e1:(adv p).at_=p.at_+1:=rfl
   have h4:=hB _ (h1.ok h) (by omega) (h3.err0 he)
   have h6:=h2.le
   have h5:=jak hb hB n (l++[(blk (adv p)).1]) _ (h2.ok (h1.ok h)) (by omega) he
   rw [Tr.sizeL_snoc] at h5
   omega
  ·exact zp _
theorem jnf {blk:Ps→Tr × Ps} (hb:Runs ts blk) (hB:Fit ts m blk) (a i:Int):Fit ts m (qbo ts blk a i):=fun p h hl he=>by
 unfold qbo at he ⊢
 split
 ·rename_i hs
  rw [zb hs] at he
  have h1:=qg ht h hs
  have h2:=jm ht (h1.ok h)
  have h3:=jm ht (h2.ok (h1.ok h))
  have h4:=h2.trans (h3.trans (qe ht (h3.ok (h2.ok (h1.ok h))) qi))
  have:p.at_+1≤_:=h4.le
  simp only [Tr.size_mk,Tr.sizeL];omega
 ·rename_i hs
  rw [za hs] at he
  split
  ·rename_i hw
   rw [zb hw] at he
   have h1:=qg ht h hw
   have h2:=qap ht _ (h1.ok h)
   have h4:=qe ht (h2.ok (h1.ok h)) qi
   have h5:=qiy ht (h1.ok h) (h4.err0 he)
   have h6:=h4.le
   have e1:(adv p).at_=p.at_+1:=rfl
   simp only [Tr.size_mk,Tr.sizeL_one];omega
  ·rename_i hw
   rw [za hw] at he
   have h1:=qe ht h jf
   have h2:=hb _ (h1.ok h)
   have h3:=qit ht hb ts.length [(blk (must ts p jf)).1] _ (h2.ok (h1.ok h))
   have h4:=(qfw (h2.err0 (h3.err0 he))).2
   have h5:=hB _ (h1.ok h) (by omega) (h3.err0 he)
   have h7:=h2.le
   have h6:=jak ht hb hB ts.length [(blk (must ts p jf)).1] _ (h2.ok (h1.ok h)) (by omega) he
   rw [Tr.sizeL_one] at h6
   simp only [Tr.size_mk] at h6 ⊢;omega
theorem jal:∀ n,Fit ts n (qf ts n)
 | 0=>fun p h hl _=>by have:=h.hi;omega
 | n+1=>fun p h hl he=>by
  have hb:=qgm ht (qdz ht n)
  have hB:∀ q,AtOk ts q→(ts.length:Int)≤q.at_+n+1→(qr ts (qf ts n) q).2.err=0→((qr ts (qf ts n) q).1.size:Int)+q.at_≤(qr ts (qf ts n) q).2.at_:=fun q hq hlq heq=>jne ht (qdz ht n) (jal n) hq hlq heq
  unfold qf at he ⊢
  simp only at he ⊢
  split
  ·rename_i hw
   rw [zb hw] at he
   have h1:=qcz ht h qac
   have h2:=h1.le
   have:=jnf ht hb (m:=n+1) (fun q hq hlq heq=>hB q hq (by omega) heq) _ _ _ (h1.ok h) (by omega) he
   omega
  rename_i hw
  rw [za hw] at he
  split
  ·rename_i hw
   rw [zb hw] at he
   have h1:=qg ht h hw
   have h2:=jm ht (h1.ok h)
   have h3:=qap ht _ (h2.ok (h1.ok h))
   have h4:=qe ht (h3.ok (h2.ok (h1.ok h))) qi
   have h5:=qiy ht (h2.ok (h1.ok h)) (h4.err0 he)
   have h6:=h4.le
   have h7:p.at_+1≤_:=h2.le
   simp only [Tr.size_mk,Tr.sizeL_one];omega
  rename_i hw
  rw [za hw] at he
  split
  ·rename_i hw
   rw [zb hw] at he
   have h1:=qg ht h hw
   have h2:=qap ht _ (h1.ok h)
   have h3:=hb _ (h2.ok (h1.ok h))
   have e1:(adv p).at_=p.at_+1:=rfl
   have hl2:=h2.le
   have hl3:=h3.le
   split
   ·rename_i hx
    rw [zb hx] at he
    have h5:=qg ht (h3.ok (h2.ok (h1.ok h))) hx
    have h6:=hb _ (h5.ok (h3.ok (h2.ok (h1.ok h))))
    have h7:=h5.err0 (h6.err0 he)
    have h8:=qiy ht (h1.ok h) (h3.err0 h7)
    have h9:=hB _ (h2.ok (h1.ok h)) (by omega) h7
    have e2:(adv (qr ts (qf ts n) (eF ts (adv p)).2).2).at_=(qr ts (qf ts n) (eF ts (adv p)).2).2.at_+1:=rfl
    have h10:=hB _ (h5.ok (h3.ok (h2.ok (h1.ok h)))) (by omega) he
    simp only [Tr.size_mk,Tr.sizeL_three];omega
   ·rename_i hx
    rw [za hx] at he
    have h8:=qiy ht (h1.ok h) (h3.err0 he)
    have h9:=hB _ (h2.ok (h1.ok h)) (by omega) he
    simp only [Tr.size_mk,Tr.sizeL_two];omega
  rename_i hw
  rw [za hw] at he
  split
  ·rename_i hw
   rw [zb hw] at he
   have h1:=qg ht h hw
   have h2:=qap ht _ (h1.ok h)
   have h3:=hb _ (h2.ok (h1.ok h))
   have e1:(adv p).at_=p.at_+1:=rfl
   have hl2:=h2.le
   have h8:=qiy ht (h1.ok h) (h3.err0 he)
   have h9:=hB _ (h2.ok (h1.ok h)) (by omega) he
   simp only [Tr.size_mk,Tr.sizeL_two];omega
  rename_i hw
  rw [za hw] at he
  split
  ·rename_i hw
   rw [zb hw] at he
   have h1:=qg ht h hw
   have e1:(adv p).at_=p.at_+1:=rfl
   have h9:=hB _ (h1.ok h) (by omega) he
   simp only [Tr.size_mk,Tr.sizeL_one];omega
  rename_i hw
  rw [za hw] at he
  split
  ·have h1:=qg ht h (by assumption)
   have h4:p.at_+1≤_:=(qe ht (h1.ok h) qi).le
   simp only [Tr.size_mk,Tr.sizeL];omega
  rename_i hw
  rw [za hw] at he
  split
  ·have h1:=qg ht h (by assumption)
   have h4:p.at_+1≤_:=(qe ht (h1.ok h) qi).le
   simp only [Tr.size_mk,Tr.sizeL];omega
  rename_i hw
  rw [za hw] at he
  have h1:=jm ht h
  have h2:=qe ht (h1.ok h) sEq
  have h3:=qap ht _ (h2.ok (h1.ok h))
  have h4:=qe ht (h3.ok (h2.ok (h1.ok h))) qi
  have h5:=qmv (h2.err0 (h3.err0 (h4.err0 he)))
  have h6:=h4.le
  have h7:=h2.le
  have h8:=qiy ht (h2.ok (h1.ok h)) (h4.err0 he)
  simp only [Tr.size_mk,Tr.sizeL_one];omega
theorem fit_s:Fit ts ts.length (sF ts):=jal ht _
theorem jam (h:AtOk ts p) (he:(jt ts p).2.err=0):((jt ts p).1.size:Int)+p.at_≤(jt ts p).2.at_:=by
 have h1:=qph ht p h he
 have h2:(jt ts p).1.size=1:=by unfold jt;simp only [Tr.size_mk,Tr.sizeL]
 omega
theorem jan:∀ (n:Nat) (l:List Tr) (p:Ps),AtOk ts p→(jn ts n l p).2.err=0→(Tr.sizeL (jn ts n l p).1:Int)+p.at_≤Tr.sizeL l+(jn ts n l p).2.at_
 | 0,l,p,_,_=>by rw [jn];exact zp _
 | n+1,l,p,h,he=>by
  rw [jn] at he ⊢
  split
  ·rename_i hs
   rw [zb hs] at he
   have h1:=qko ht _ h
   have h2:=qgn ht n (l++[(jt ts p).1]) _ (h1.ok h)
   have h3:=jam ht h (h2.err0 he)
   have h5:=jan n (l++[(jt ts p).1]) _ (h1.ok h) he
   rw [Tr.sizeL_snoc] at h5
   omega
  ·exact zp _
theorem jng (h:AtOk ts p) (he:(qbg ts p).2.err=0):((qbg ts p).1.size:Int)+p.at_≤(qbg ts p).2.at_:=by
 have h0:=qe ht h qn
 unfold qbg at he ⊢
 simp only at he ⊢
 have h1:=h0.ok h
 have h3:=jm ht h1
 have h4:Step ts (must ts p qn) (if sees ts (qd ts (must ts p qn)) qbn=true then (numN ts (adv (qd ts (must ts p qn))),numP ts (adv (qd ts (must ts p qn)))) else (1,qd ts (must ts p qn))).2:=by
  split
  ·have h5:=h3.trans (qg ht (h3.ok h1) (by assumption))
   exact h5.trans (qas ht (h5.ok h1))
  ·exact h3
 have h5:=h4.trans (qe ht (h4.ok h1) sLc)
 generalize (must ts (if sees ts (qd ts (must ts p qn)) qbn=true then (numN ts (adv (qd ts (must ts p qn))),numP ts (adv (qd ts (must ts p qn)))) else (1,qd ts (must ts p qn))).2 sLc)=R at he h5 ⊢
 have h6:=qgn ht ts.length [] R (h5.ok h1)
 have h7:=fun he=>jan ht ts.length [] R (h5.ok h1) he
 generalize jn ts ts.length [] R=V at he h6 h7 ⊢
 have h8:=ju (h6.ok (h5.ok h1))
 have h9:=qeu (h6.ok (h5.ok h1)) (qeg ht (qhl ht) ts.length V.1 _ h8.1)
 have h10:=h7 (h9.err0 he)
 have hlo:=h8.1.lo
 have h11:=que ht (qhl ht) (fit_s ht) ts.length V.1 _ h8.1 (by omega) he
 have h12:=(qfw (h5.err0 (h6.err0 (h9.err0 he)))).2
 have h13:=h5.le
 have e3:Tr.sizeL []=0:=rfl
 have e2:(outP (jb ts (sF ts) ts.length V.1 (inP ts V.2)).2).at_=(jb ts (sF ts) ts.length V.1 (inP ts V.2)).2.at_:=rfl
 simp only [Tr.size_mk]
 omega
theorem jnh (h:AtOk ts p) (he:(qaj ts p).2.err=0):((qaj ts p).1.size:Int)+p.at_≤(qaj ts p).2.at_:=by
 have hg:=qtj ht p h he
 unfold qaj at he hg ⊢
 simp only at he hg ⊢
 split
 ·rename_i hw
  rw [zb hw] at he
  exact jam ht h he
 rename_i hw
 rw [za hw] at he hg
 split
 ·rename_i hw
  rw [zb hw] at he
  exact jng ht h he
 rename_i hw
 rw [za hw] at he hg
 split
 ·rename_i hw
  rw [zb hw] at he hg
  simp only [Tr.size_mk,Tr.sizeL] at hg ⊢;omega
 rename_i hw
 rw [za hw] at he hg
 split
 ·rename_i hw
  rw [zb hw] at he
  have h1:=qg ht h hw
  have h2:=qap ht _ (h1.ok h)
  have h3:=qe ht (h2.ok (h1.ok h)) qi
  have h4:=qiy ht (h1.ok h) (h3.err0 he)
  have h5:=h3.le
  have e1:(adv p).at_=p.at_+1:=rfl
  simp only [Tr.size_mk,Tr.sizeL_one];omega
 rename_i hw
 rw [za hw] at he hg
 simp only [Tr.size_mk,Tr.sizeL] at hg ⊢;omega
theorem jao:∀ (n:Nat) (l:List Tr) (p:Ps),AtOk ts p→(qbh ts n l p).2.err=0→(Tr.sizeL (qbh ts n l p).1:Int)+p.at_≤Tr.sizeL l+(qbh ts n l p).2.at_
 | 0,l,p,_,_=>by rw [qbh];exact zp _
 | n+1,l,p,h,he=>by
  rw [qbh] at he ⊢
  split
  ·rename_i hs
   rw [zb hs] at he
   have h1:=qpf ht _ h
   have h2:=qmt ht n (l++[(qaj ts p).1]) _ (h1.ok h)
   have h3:=jnh ht h (h2.err0 he)
   have h5:=jao n (l++[(qaj ts p).1]) _ (h1.ok h) he
   rw [Tr.sizeL_snoc] at h5
   omega
  ·exact zp _
theorem jni (h:AtOk ts p) (he:(jj ts p).2.err=0):((jj ts p).1.size:Int)≤1+ts.length:=by
 have h1:=jao ht ts.length [] p h he
 have h2:=((qmt ht ts.length [] p h).ok h).hi
 have h3:=h.lo
 have e3:Tr.sizeL []=0:=rfl
 unfold jj
 simp only [Tr.size_mk]
 omega
end
end Pa
end Go.Proofs.Ythfaleaojlnnoaa
