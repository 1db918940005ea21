/- The document's parser in plain Lean: a tree has no more nodes than tokens are read. -/
import Derived.Test.YthfaleaojlnnoaaY58
import Derived.Test.YthfaleaojlnnoaaY52
set_option linter.unusedSimpArgs false
set_option linter.unusedVariables false
namespace Go.Proofs.Ythfaleaojlnnoaa
namespace Pa
open Go Go.Sx
theorem Tr.size_mk (k:Int) (w:List (List UInt8)) (ns:List Int) (a:Int) (l:List Tr):(Tr.mk k w ns a l).size=1+Tr.sizeL l:=by rw [Tr.size]
theorem Tr.sizeL_snoc:∀ (l:List Tr) (t:Tr),Tr.sizeL (l++[t])=Tr.sizeL l+t.size
 | [],t=>by simp [Tr.sizeL]
 | x::r,t=>by rw [xl,Tr.sizeL,Tr.sizeL_snoc r t,Tr.sizeL];omega
theorem Tr.sizeL_one (t:Tr):Tr.sizeL [t]=t.size:=by simp [Tr.sizeL]
theorem Tr.sizeL_two (t u:Tr):Tr.sizeL [t,u]=t.size+u.size:=by simp [Tr.sizeL]
theorem Tr.sizeL_three (t u v:Tr):Tr.sizeL [t,u,v]=t.size+(u.size+v.size):=by simp [Tr.sizeL]
theorem jdd (sg:Int) (a b:Tr):(binT sg a b).size=1+(a.size+b.size):=by unfold binT;rw [Tr.size_mk,Tr.sizeL_two]
abbrev Fit (ts:List Lx.Tok) (n:Nat) (f:Ps→Tr × Ps):Prop:=∀ p,AtOk ts p→(ts.length:Int)≤p.at_+n→(f p).2.err=0→((f p).1.size:Int)+p.at_≤(f p).2.at_
section
variable {ts:List Lx.Tok} {p q r:Ps} {m:Nat}
variable (ht:ToksOk ts)
include ht
theorem jde {f:Ps→Tr × Ps} (hf:Runs ts f) (hF:Fit ts m f) {c:Ps→Bool} {sg:Ps→Int} (hc:∀ p,c p=true→∃ s,sees ts p s=true) :
  ∀ (n:Nat) (a:Tr) (p:Ps),AtOk ts p→(ts.length:Int)≤p.at_+m→(js f c sg n a p).2.err=0→((js f c sg n a p).1.size:Int)+p.at_≤a.size+(js f c sg n a p).2.at_
 | 0,a,p,_,_,_=>by rw [js];exact zp _
 | n+1,a,p,h,hl,he=>by
  rw [js] at he ⊢
  split
  ·rename_i hcp
   rw [zf hcp] at he
   obtain ⟨s,hs⟩:=hc p hcp
   have h1:=qf ht h hs
   have h2:=hf _ (h1.ok h)
   have h3:=qec ht hf hc (sg:=sg) n (binT (sg p) a (f (adv p)).1) _ (h2.ok (h1.ok h))
   have e1:(adv p).at_=p.at_+1:=rfl
   have h4:=hF _ (h1.ok h) (by omega) (h3.err0 he)
   have h6:=h2.le
   have h5:=jde hf hF hc (sg:=sg) n (binT (sg p) a (f (adv p)).1) _ (h2.ok (h1.ok h)) (by omega) he
   rw [jdd] at h5
   omega
  ·exact zp _
theorem qrw {f:Ps→Tr × Ps} (hf:Runs ts f) (hF:Fit ts m f) {c:Ps→Bool} {sg:Ps→Int} (hc:∀ p,c p=true→∃ s,sees ts p s=true) (n:Nat) :
  Fit ts m (fun p=>js f c sg n (f p).1 (f p).2):=fun p h hl he=>by
 have h1:=hf p h
 have h2:=qec ht hf hc (sg:=sg) n (f p).1 _ (h1.ok h)
 have h3:=hF p h hl (h2.err0 he)
 have h4:=h1.le
 have h5:=jde ht hf hF hc (sg:=sg) n (f p).1 _ (h1.ok h) (by omega) he
 simp only at h5 ⊢
 omega
theorem jdf {f:Ps→Tr × Ps} (hf:Runs ts f) (hF:Fit ts m f) (s:List UInt8) (sg:Int):Fit ts m (qek ts f s sg):=fun p h hl he=>by
 have h1:=hf p h
 unfold qek at he ⊢
 split
 ·rename_i hs
  rw [zf hs] at he
  have h2:=qf ht (h1.ok h) hs
  have h3:=hf _ (h2.ok (h1.ok h))
  have e1:(adv (f p).2).at_=(f p).2.at_+1:=rfl
  have h4:=hF p h hl (h2.err0 (h3.err0 he))
  have h5:=h1.le
  have h6:=hF _ (h2.ok (h1.ok h)) (by omega) he
  simp only
  rw [jdd]
  omega
 ·rename_i hs
  rw [ze hs] at he
  exact hF p h hl he
section
variable {part:Ps→Tr × Ps} (hp:Runs ts part) (hP:Fit ts m part)
include hp hP
theorem jqv:Fit ts m (qbm ts part):=qrw ht hp hP (fun _=>qke) _
theorem jqw:Fit ts m (sumF ts part):=qrw ht (qiu ht hp) (jqv ht hp hP) (fun _=>qkf) _
theorem jqx:Fit ts m (qch ts part):=jdf ht (qmc ht hp) (jqw ht hp hP) _ _
theorem jqy:Fit ts m (qcp ts part):=jdf ht (qmd ht hp) (jqx ht hp hP) _ _
theorem jqz:Fit ts m (andF ts part):=qrw ht (qiv ht hp) (jqy ht hp hP) (fun _ h=>⟨_,h⟩) _
theorem jdg:Fit ts m (qal ts part):=qrw ht (qiw ht hp) (jqz ht hp hP) (fun _ h=>⟨_,h⟩) _
end
theorem qwm:∀ n,Fit ts n (qr ts n)
 | 0=>fun p h hl _=>by have:=h.hi;omega
 | n+1=>fun p h hl he=>by
  unfold qr at he ⊢
  simp only at he ⊢
  split
  ·rename_i hs
   rw [zf hs] at he
   have:=jbf he
   simp only [Tr.size_mk,Tr.sizeL] at this ⊢
   omega
  rename_i hs
  rw [ze hs] at he
  split
  ·rename_i hs
   rw [zf hs] at he
   have:=qoq he
   have e1:(adv p).at_=p.at_+1:=rfl
   simp only [Tr.size_mk,Tr.sizeL] at this ⊢
   omega
  rename_i hs
  rw [ze hs] at he
  split
  ·rename_i hs
   rw [zf hs] at he
   have h1:Step ts p (adv p):=by rcases hs with hs|hs <;> exact qf ht h hs
   have h2:=jo (h1.ok h)
   have e1:(adv p).at_=p.at_+1:=rfl
   have h3:=qcq ht n _ h2.1
   simp only [Tr.size_mk]
   have he':(ifOk (qr ts n) (inP ts (adv p))).2.err=0:=he
   unfold ifOk at he' ⊢
   split
   ·rename_i hi
    rw [zf hi] at he'
    have h4:=qwm n _ h2.1 (by omega) he'
    simp only [Tr.sizeL_one]
    have e2:(outP (qr ts n (inP ts (adv p))).2).at_=(qr ts n (inP ts (adv p))).2.at_:=rfl
    omega
   ·simp only [Tr.sizeL]
    have e2:(outP (inP ts (adv p))).at_=(inP ts (adv p)).at_:=rfl
    omega
  rename_i hs
  rw [ze hs] at he
  split
  ·rename_i hs
   rw [zf hs] at he
   have h1:=qf ht h hs
   have h2:=jo (h1.ok h)
   have e1:(adv p).at_=p.at_+1:=rfl
   have h3:Step ts (adv p) (outP (if (inP ts (adv p)).err=0 then (qal ts (qr ts n) (inP ts (adv p))).2 else inP ts (adv p))):=by
    refine qfl (h1.ok h) ?_
    split
    ·exact qix ht (qcq ht n) _ h2.1
    ·exact h2.1.refl
   have h4:=qg ht (h3.ok (h1.ok h)) sRp
   have h5:=h4.err0 he
   have h6:=h4.le
   split
   ·rename_i hi
    rw [zf hi] at h5 h6
    have h7:=jdg ht (qcq ht n) (qwm n) _ h2.1 (by omega) h5
    have e2:(outP (qal ts (qr ts n) (inP ts (adv p))).2).at_=(qal ts (qr ts n) (inP ts (adv p))).2.at_:=rfl
    simp only at h6 ⊢
    omega
   ·rename_i hi
    rw [ze hi] at h5
    exact absurd h5 hi
  ·rename_i hs
   rw [ze hs] at he
   have:=qoq he
   simp only [Tr.size_mk,Tr.sizeL] at this ⊢
   omega
theorem qko (h:AtOk ts p) (he:(eF ts p).2.err=0):((eF ts p).1.size:Int)+p.at_≤(eF ts p).2.at_:=
 jdg ht (qcq ht _) (qwm ht _) p h (by have:=h.lo;omega) he
theorem qwn {stat:Ps→Tr × Ps} (hs:Runs ts stat) (hS:Fit ts m stat):∀ (n:Nat) (l:List Tr) (p:Ps),AtOk ts p→(ts.length:Int)≤p.at_+m→(ql ts stat n l p).2.err=0→(Tr.sizeL (ql ts stat n l p).1:Int)+p.at_≤Tr.sizeL l+(ql ts stat n l p).2.at_
 | 0,l,p,_,_,_=>by rw [ql];exact zp _
 | n+1,l,p,h,hl,he=>by
  rw [ql] at he ⊢
  by_cases h0:p.err=0
  ·rw [zf h0] at he ⊢
   by_cases hb:sees ts p sRc=true
   ·rw [zf hb]
    have e1:(adv p).at_=p.at_+1:=rfl
    simp only;omega
   ·rw [ze hb] at he ⊢
    have h1:=hs p h
    have h2:=qdf ht hs n (l++[(stat p).1]) _ (h1.ok h)
    have h3:=hS p h hl (h2.err0 he)
    have h4:=h1.le
    have h5:=qwn hs hS n (l++[(stat p).1]) _ (h1.ok h) (by omega) he
    rw [Tr.sizeL_snoc] at h5
    omega
  ·rw [ze h0]
   exact zp _
theorem jra {stat:Ps→Tr × Ps} (hs:Runs ts stat) (hS:Fit ts m stat) (h:AtOk ts p) (hl:(ts.length:Int)≤p.at_+m+1) (he:(qi ts stat p).2.err=0):((qi ts stat p).1.size:Int)+p.at_≤(qi ts stat p).2.at_:=by
 have h1:=qg ht h sLc
 have h0:=jo (h1.ok h)
 have h2:=qfl (h1.ok h) (qdf ht hs ts.length [] _ h0.1)
 have h3:=(qev (h2.err0 he)).2
 have h4:=qwn ht hs hS ts.length [] _ h0.1 (by omega) he
 unfold qi
 simp only [Tr.size_mk]
 have e2:(outP (ql ts stat ts.length [] (inP ts (must ts p sLc))).2).at_=(ql ts stat ts.length [] (inP ts (must ts p sLc))).2.at_:=rfl
 have e3:Tr.sizeL []=0:=rfl
 omega
theorem jdh {blk:Ps→Tr × Ps} (hb:Runs ts blk) (hB:Fit ts m blk):∀ (n:Nat) (l:List Tr) (p:Ps),AtOk ts p→(ts.length:Int)≤p.at_+m→(orL ts blk n l p).2.err=0→(Tr.sizeL (orL ts blk n l p).1:Int)+p.at_≤Tr.sizeL l+(orL ts blk n l p).2.at_
 | 0,l,p,_,_,_=>by rw [orL];exact zp _
 | n+1,l,p,h,hl,he=>by
  rw [orL] at he ⊢
  split
  ·rename_i hs
   rw [zf hs] at he
   have h1:=qf ht h hs
   have h2:=hb _ (h1.ok h)
   have h3:=qhb ht hb n (l++[(blk (adv p)).1]) _ (h2.ok (h1.ok h))
   have e1:(adv p).at_=p.at_+1:=rfl
   have h4:=hB _ (h1.ok h) (by omega) (h3.err0 he)
   have h6:=h2.le
   have h5:=jdh hb hB n (l++[(blk (adv p)).1]) _ (h2.ok (h1.ok h)) (by omega) he
   rw [Tr.sizeL_snoc] at h5
   omega
  ·exact zp _
theorem jrb {blk:Ps→Tr × Ps} (hb:Runs ts blk) (hB:Fit ts m blk) (a i:Int):Fit ts m (qam ts blk a i):=fun p h hl he=>by
 unfold qam at he ⊢
 split
 ·rename_i hs
  rw [zf hs] at he
  have h1:=qf ht h hs
  have h2:=jj ht (h1.ok h)
  have h3:=jj ht (h2.ok (h1.ok h))
  have h4:=h2.trans (h3.trans (qg ht (h3.ok (h2.ok (h1.ok h))) qj))
  have:p.at_+1≤_:=h4.le
  simp only [Tr.size_mk,Tr.sizeL];omega
 ·rename_i hs
  rw [ze hs] at he
  split
  ·rename_i hw
   rw [zf hw] at he
   have h1:=qf ht h hw
   have h2:=jz ht _ (h1.ok h)
   have h4:=qg ht (h2.ok (h1.ok h)) qj
   have h5:=qko ht (h1.ok h) (h4.err0 he)
   have h6:=h4.le
   have e1:(adv p).at_=p.at_+1:=rfl
   simp only [Tr.size_mk,Tr.sizeL_one];omega
  ·rename_i hw
   rw [ze hw] at he
   have h1:=qg ht h qp
   have h2:=hb _ (h1.ok h)
   have h3:=qhb ht hb ts.length [(blk (must ts p qp)).1] _ (h2.ok (h1.ok h))
   have h4:=(qev (h2.err0 (h3.err0 he))).2
   have h5:=hB _ (h1.ok h) (by omega) (h3.err0 he)
   have h7:=h2.le
   have h6:=jdh ht hb hB ts.length [(blk (must ts p qp)).1] _ (h2.ok (h1.ok h)) (by omega) he
   rw [Tr.sizeL_one] at h6
   simp only [Tr.size_mk] at h6 ⊢;omega
theorem jdi:∀ n,Fit ts n (qd ts n)
 | 0=>fun p h hl _=>by have:=h.hi;omega
 | n+1=>fun p h hl he=>by
  have hb:=qgd ht (qdr ht n)
  have hB:∀ q,AtOk ts q→(ts.length:Int)≤q.at_+n+1→(qi ts (qd ts n) q).2.err=0→((qi ts (qd ts n) q).1.size:Int)+q.at_≤(qi ts (qd ts n) q).2.at_:=fun q hq hlq heq=>jra ht (qdr ht n) (jdi n) hq hlq heq
  unfold qd at he ⊢
  simp only at he ⊢
  split
  ·rename_i hw
   rw [zf hw] at he
   have h1:=qcy ht h jq
   have h2:=h1.le
   have:=jrb ht hb (m:=n+1) (fun q hq hlq heq=>hB q hq (by omega) heq) _ _ _ (h1.ok h) (by omega) he
   omega
  rename_i hw
  rw [ze hw] at he
  split
  ·rename_i hw
   rw [zf hw] at he
   have h1:=qf ht h hw
   have h2:=jj ht (h1.ok h)
   have h3:=jz ht _ (h2.ok (h1.ok h))
   have h4:=qg ht (h3.ok (h2.ok (h1.ok h))) qj
   have h5:=qko ht (h2.ok (h1.ok h)) (h4.err0 he)
   have h6:=h4.le
   have h7:p.at_+1≤_:=h2.le
   simp only [Tr.size_mk,Tr.sizeL_one];omega
  rename_i hw
  rw [ze hw] at he
  split
  ·rename_i hw
   rw [zf hw] at he
   have h1:=qf ht h hw
   have h2:=jz ht _ (h1.ok h)
   have h3:=hb _ (h2.ok (h1.ok h))
   have e1:(adv p).at_=p.at_+1:=rfl
   have hl2:=h2.le
   have hl3:=h3.le
   split
   ·rename_i hx
    rw [zf hx] at he
    have h5:=qf ht (h3.ok (h2.ok (h1.ok h))) hx
    have h6:=hb _ (h5.ok (h3.ok (h2.ok (h1.ok h))))
    have h7:=h5.err0 (h6.err0 he)
    have h8:=qko ht (h1.ok h) (h3.err0 h7)
    have h9:=hB _ (h2.ok (h1.ok h)) (by omega) h7
    have e2:(adv (qi ts (qd ts n) (eF ts (adv p)).2).2).at_=(qi ts (qd ts n) (eF ts (adv p)).2).2.at_+1:=rfl
    have h10:=hB _ (h5.ok (h3.ok (h2.ok (h1.ok h)))) (by omega) he
    simp only [Tr.size_mk,Tr.sizeL_three];omega
   ·rename_i hx
    rw [ze hx] at he
    have h8:=qko ht (h1.ok h) (h3.err0 he)
    have h9:=hB _ (h2.ok (h1.ok h)) (by omega) he
    simp only [Tr.size_mk,Tr.sizeL_two];omega
  rename_i hw
  rw [ze hw] at he
  split
  ·rename_i hw
   rw [zf hw] at he
   have h1:=qf ht h hw
   have h2:=jz ht _ (h1.ok h)
   have h3:=hb _ (h2.ok (h1.ok h))
   have e1:(adv p).at_=p.at_+1:=rfl
   have hl2:=h2.le
   have h8:=qko ht (h1.ok h) (h3.err0 he)
   have h9:=hB _ (h2.ok (h1.ok h)) (by omega) he
   simp only [Tr.size_mk,Tr.sizeL_two];omega
  rename_i hw
  rw [ze hw] at he
  split
  ·rename_i hw
   rw [zf hw] at he
   have h1:=qf ht h hw
   have e1:(adv p).at_=p.at_+1:=rfl
   have h9:=hB _ (h1.ok h) (by omega) he
   simp only [Tr.size_mk,Tr.sizeL_one];omega
  rename_i hw
  rw [ze hw] at he
  split
  ·have h1:=qf ht h (by assumption)
   have h4:p.at_+1≤_:=(qg ht (h1.ok h) qj).le
   simp only [Tr.size_mk,Tr.sizeL];omega
  rename_i hw
  rw [ze hw] at he
  split
  ·have h1:=qf ht h (by assumption)
   have h4:p.at_+1≤_:=(qg ht (h1.ok h) qj).le
   simp only [Tr.size_mk,Tr.sizeL];omega
  rename_i hw
  rw [ze hw] at he
  have h1:=jj ht h
  have h2:=qg ht (h1.ok h) sEq
  have h3:=jz ht _ (h2.ok (h1.ok h))
  have h4:=qg ht (h3.ok (h2.ok (h1.ok h))) qj
  have h5:=qoq (h2.err0 (h3.err0 (h4.err0 he)))
  have h6:=h4.le
  have h7:=h2.le
  have h8:=qko ht (h2.ok (h1.ok h)) (h4.err0 he)
  simp only [Tr.size_mk,Tr.sizeL_one];omega
theorem fit_s:Fit ts ts.length (sF ts):=jdi ht _
theorem jdj (h:AtOk ts p) (he:(jh ts p).2.err=0):((jh ts p).1.size:Int)+p.at_≤(jh ts p).2.at_:=by
 have h1:=qmf ht p h he
 have h2:(jh ts p).1.size=1:=by unfold jh;simp only [Tr.size_mk,Tr.sizeL]
 omega
theorem jdk:∀ (n:Nat) (l:List Tr) (p:Ps),AtOk ts p→(jg ts n l p).2.err=0→(Tr.sizeL (jg ts n l p).1:Int)+p.at_≤Tr.sizeL l+(jg ts n l p).2.at_
 | 0,l,p,_,_=>by rw [jg];exact zp _
 | n+1,l,p,h,he=>by
  rw [jg] at he ⊢
  split
  ·rename_i hs
   rw [zf hs] at he
   have h1:=qhc ht _ h
   have h2:=qfm ht n (l++[(jh ts p).1]) _ (h1.ok h)
   have h3:=jdj ht h (h2.err0 he)
   have h5:=jdk n (l++[(jh ts p).1]) _ (h1.ok h) he
   rw [Tr.sizeL_snoc] at h5
   omega
  ·exact zp _
theorem jrc (h:AtOk ts p) (he:(qar ts p).2.err=0):((qar ts p).1.size:Int)+p.at_≤(qar ts p).2.at_:=by
 have h0:=qg ht h qh
 unfold qar at he ⊢
 simp only at he ⊢
 have h1:=h0.ok h
 have h3:=jj ht h1
 have h4:Step ts (must ts p qh) (if sees ts (qc ts (must ts p qh)) qai=true then (numN ts (adv (qc ts (must ts p qh))),numP ts (adv (qc ts (must ts p qh)))) else (1,qc ts (must ts p qh))).2:=by
  split
  ·have h5:=h3.trans (qf ht (h3.ok h1) (by assumption))
   exact h5.trans (jt ht (h5.ok h1))
  ·exact h3
 have h5:=h4.trans (qg ht (h4.ok h1) sLc)
 generalize (must ts (if sees ts (qc ts (must ts p qh)) qai=true then (numN ts (adv (qc ts (must ts p qh))),numP ts (adv (qc ts (must ts p qh)))) else (1,qc ts (must ts p qh))).2 sLc)=R at he h5 ⊢
 have h6:=qfm ht ts.length [] R (h5.ok h1)
 have h7:=fun he=>jdk ht ts.length [] R (h5.ok h1) he
 generalize jg ts ts.length [] R=V at he h6 h7 ⊢
 have h8:=jo (h6.ok (h5.ok h1))
 have h9:=qfl (h6.ok (h5.ok h1)) (qdf ht (qel ht) ts.length V.1 _ h8.1)
 have h10:=h7 (h9.err0 he)
 have hlo:=h8.1.lo
 have h11:=qwn ht (qel ht) (fit_s ht) ts.length V.1 _ h8.1 (by omega) he
 have h12:=(qev (h5.err0 (h6.err0 (h9.err0 he)))).2
 have h13:=h5.le
 have e3:Tr.sizeL []=0:=rfl
 have e2:(outP (ql ts (sF ts) ts.length V.1 (inP ts V.2)).2).at_=(ql ts (sF ts) ts.length V.1 (inP ts V.2)).2.at_:=rfl
 simp only [Tr.size_mk]
 omega
theorem jrd (h:AtOk ts p) (he:(jm ts p).2.err=0):((jm ts p).1.size:Int)+p.at_≤(jm ts p).2.at_:=by
 have hg:=qkk ht p h he
 unfold jm at he hg ⊢
 simp only at he hg ⊢
 split
 ·rename_i hw
  rw [zf hw] at he
  exact jdj ht h he
 rename_i hw
 rw [ze hw] at he hg
 split
 ·rename_i hw
  rw [zf hw] at he
  exact jrc ht h he
 rename_i hw
 rw [ze hw] at he hg
 split
 ·rename_i hw
  rw [zf hw] at he hg
  simp only [Tr.size_mk,Tr.sizeL] at hg ⊢;omega
 rename_i hw
 rw [ze hw] at he hg
 split
 ·rename_i hw
  rw [zf hw] at he
  have h1:=qf ht h hw
  have h2:=jz ht _ (h1.ok h)
  have h3:=qg ht (h2.ok (h1.ok h)) qj
  have h4:=qko ht (h1.ok h) (h3.err0 he)
  have h5:=h3.le
  have e1:(adv p).at_=p.at_+1:=rfl
  simp only [Tr.size_mk,Tr.sizeL_one];omega
 rename_i hw
 rw [ze hw] at he hg
 simp only [Tr.size_mk,Tr.sizeL] at hg ⊢;omega
theorem jdl:∀ (n:Nat) (l:List Tr) (p:Ps),AtOk ts p→(jd ts n l p).2.err=0→(Tr.sizeL (jd ts n l p).1:Int)+p.at_≤Tr.sizeL l+(jd ts n l p).2.at_
 | 0,l,p,_,_=>by rw [jd];exact zp _
 | n+1,l,p,h,he=>by
  rw [jd] at he ⊢
  split
  ·rename_i hs
   rw [zf hs] at he
   have h1:=qiy ht _ h
   have h2:=qkg ht n (l++[(jm ts p).1]) _ (h1.ok h)
   have h3:=jrd ht h (h2.err0 he)
   have h5:=jdl n (l++[(jm ts p).1]) _ (h1.ok h) he
   rw [Tr.sizeL_snoc] at h5
   omega
  ·exact zp _
theorem jdm (h:AtOk ts p) (he:(ji ts p).2.err=0):((ji ts p).1.size:Int)≤1+ts.length:=by
 have h1:=jdl ht ts.length [] p h he
 have h2:=((qkg ht ts.length [] p h).ok h).hi
 have h3:=h.lo
 have e3:Tr.sizeL []=0:=rfl
 unfold ji
 simp only [Tr.size_mk]
 omega
end
end Pa
end Go.Proofs.Ythfaleaojlnnoaa
