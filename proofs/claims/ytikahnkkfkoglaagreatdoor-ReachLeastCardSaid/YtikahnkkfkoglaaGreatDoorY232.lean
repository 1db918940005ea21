/- Some texts of the library, one behind the other. -/
import Derived.Test.YtikahnkkfkoglaaGreatDoorY226
import Derived.Test.YtikahnkkfkoglaaGreatDoorY223
import Derived.Test.YtikahnkkfkoglaaGreatDoorY2PaL
import Derived.Test.YtikahnkkfkoglaaGreatDoorY224
import Derived.Test.YtikahnkkfkoglaaGreatDoorY22
set_option linter.unusedSimpArgs false
set_option linter.unusedVariables false
section
namespace Go.Proofs.YtikahnkkfkoglaaGreatDoor
namespace Pa
open Go Go.Sx
theorem Tr.size_mk (k:Int) (w:List (List UInt8)) (ns:List Int) (a:Int) (l:List Tr):(Tr.mk k w ns a l).size=1+Tr.sizeL l:=by rw [Tr.size]
theorem Tr.sizeL_snoc:∀ (l:List Tr) (t:Tr),Tr.sizeL (l++[t])=Tr.sizeL l+t.size
 | [],t=>by simp [Tr.sizeL]
 | x::r,t=>by rw [zac,Tr.sizeL,Tr.sizeL_snoc r t,Tr.sizeL];omega
theorem Tr.sizeL_one (t:Tr):Tr.sizeL [t]=t.size:=by simp [Tr.sizeL]
theorem Tr.sizeL_two (t u:Tr):Tr.sizeL [t,u]=t.size+u.size:=by simp [Tr.sizeL]
theorem Tr.sizeL_three (t u v:Tr):Tr.sizeL [t,u,v]=t.size+(u.size+v.size):=by simp [Tr.sizeL]
theorem jgw (sg:Int) (a b:Tr):(binT sg a b).size=1+(a.size+b.size):=by unfold binT;rw [Tr.size_mk,Tr.sizeL_two]
abbrev Fit (ts:List Lx.Tok) (n:Nat) (f:Ps→Tr × Ps):Prop:=∀ p,AtOk ts p→(ts.length:Int)≤p.at_+n→(f p).2.err=0→((f p).1.size:Int)+p.at_≤(f p).2.at_
section
variable {ts:List Lx.Tok} {p q r:Ps} {m:Nat}
variable (ht:ToksOk ts)
include ht
theorem jgx {f:Ps→Tr × Ps} (hf:Runs ts f) (hF:Fit ts m f) {c:Ps→Bool} {sg:Ps→Int} (hc:∀ p,c p=true→∃ s,sees ts p s=true) :
  ∀ (n:Nat) (a:Tr) (p:Ps),AtOk ts p→(ts.length:Int)≤p.at_+m→(qaz f c sg n a p).2.err=0→((qaz f c sg n a p).1.size:Int)+p.at_≤a.size+(qaz f c sg n a p).2.at_
 | 0,a,p,_,_,_=>by rw [qaz];exact xb _
 | n+1,a,p,h,hl,he=>by
  rw [qaz] at he ⊢
  split
  ·rename_i hcp
   rw [zb hcp] at he
   obtain ⟨s,hs⟩:=hc p hcp
   have h1:=qh ht h hs
   have h2:=hf _ (h1.ok h)
   have h3:=qlc ht hf hc (sg:=sg) n (binT (sg p) a (f (adv p)).1) _ (h2.ok (h1.ok h))
   have e1:(adv p).at_=p.at_+1:=rfl
   have h4:=hF _ (h1.ok h) (by omega) (h3.err0 he)
   have h6:=h2.le
   have h5:=jgx hf hF hc (sg:=sg) n (binT (sg p) a (f (adv p)).1) _ (h2.ok (h1.ok h)) (by omega) he
   rw [jgw] at h5
   omega
  ·exact xb _
theorem qtt {f:Ps→Tr × Ps} (hf:Runs ts f) (hF:Fit ts m f) {c:Ps→Bool} {sg:Ps→Int} (hc:∀ p,c p=true→∃ s,sees ts p s=true) (n:Nat) :
  Fit ts m (fun p=>qaz f c sg n (f p).1 (f p).2):=fun p h hl he=>by
 have h1:=hf p h
 have h2:=qlc ht hf hc (sg:=sg) n (f p).1 _ (h1.ok h)
 have h3:=hF p h hl (h2.err0 he)
 have h4:=h1.le
 have h5:=jgx ht hf hF hc (sg:=sg) n (f p).1 _ (h1.ok h) (by omega) he
 simp only at h5 ⊢
 omega
theorem jgy {f:Ps→Tr × Ps} (hf:Runs ts f) (hF:Fit ts m f) (s:List UInt8) (sg:Int):Fit ts m (qmx ts f s sg):=fun p h hl he=>by
 have h1:=hf p h
 unfold qmx at he ⊢
 split
 ·rename_i hs
  rw [zb hs] at he
  have h2:=qh ht (h1.ok h) hs
  have h3:=hf _ (h2.ok (h1.ok h))
  have e1:(adv (f p).2).at_=(f p).2.at_+1:=rfl
  have h4:=hF p h hl (h2.err0 (h3.err0 he))
  have h5:=h1.le
  have h6:=hF _ (h2.ok (h1.ok h)) (by omega) he
  simp only
  rw [jgw]
  omega
 ·rename_i hs
  rw [za hs] at he
  exact hF p h hl he
section
variable {part:Ps→Tr × Ps} (hp:Runs ts part) (hP:Fit ts m part)
include hp hP
theorem jux:Fit ts m (qcp ts part):=qtt ht hp hP (fun _=>jft) _
theorem juy:Fit ts m (sumF ts part):=qtt ht (qqd ht hp) (jux ht hp hP) (fun _=>jfu) _
theorem juz:Fit ts m (qck ts part):=jgy ht (qxt ht hp) (juy ht hp hP) _ _
theorem jva:Fit ts m (qdu ts part):=jgy ht (qxu ht hp) (juz ht hp hP) _ _
theorem jvb:Fit ts m (andF ts part):=qtt ht (qqe ht hp) (jva ht hp hP) (fun _ h=>⟨_,h⟩) _
theorem jgz:Fit ts m (qeh ts part):=qtt ht (qqf ht hp) (jvb ht hp hP) (fun _ h=>⟨_,h⟩) _
end
theorem qyl:∀ n,Fit ts n (qas ts n)
 | 0=>fun p h hl _=>by have:=h.hi;omega
 | n+1=>fun p h hl he=>by
  unfold qas at he ⊢
  simp only at he ⊢
  split
  ·rename_i hs
   rw [zb hs] at he
   have:=juc he
   simp only [Tr.size_mk,Tr.sizeL] at this ⊢
   omega
  rename_i hs
  rw [za hs] at he
  split
  ·rename_i hs
   rw [zb hs] at he
   have:=qtr he
   have e1:(adv p).at_=p.at_+1:=rfl
   simp only [Tr.size_mk,Tr.sizeL] at this ⊢
   omega
  rename_i hs
  rw [za hs] at he
  split
  ·rename_i hs
   rw [zb hs] at he
   have h1:Step ts p (adv p):=by rcases hs with hs|hs <;> exact qh ht h hs
   have h2:=qcz (h1.ok h)
   have e1:(adv p).at_=p.at_+1:=rfl
   have h3:=qgf ht n _ h2.1
   simp only [Tr.size_mk]
   have he':(ifOk (qas ts n) (inP ts (adv p))).2.err=0:=he
   unfold ifOk at he' ⊢
   split
   ·rename_i hi
    rw [zb hi] at he'
    have h4:=qyl n _ h2.1 (by omega) he'
    simp only [Tr.sizeL_one]
    have e2:(outP (qas ts n (inP ts (adv p))).2).at_=(qas ts n (inP ts (adv p))).2.at_:=rfl
    omega
   ·simp only [Tr.sizeL]
    have e2:(outP (inP ts (adv p))).at_=(inP ts (adv p)).at_:=rfl
    omega
  rename_i hs
  rw [za hs] at he
  split
  ·rename_i hs
   rw [zb hs] at he
   have h1:=qh ht h hs
   have h2:=qcz (h1.ok h)
   have e1:(adv p).at_=p.at_+1:=rfl
   have h3:Step ts (adv p) (outP (if (inP ts (adv p)).err=0 then (qeh ts (qas ts n) (inP ts (adv p))).2 else inP ts (adv p))):=by
    refine qjp (h1.ok h) ?_
    split
    ·exact qtn ht (qgf ht n) _ h2.1
    ·exact h2.1.refl
   have h4:=qn ht (h3.ok (h1.ok h)) sRp
   have h5:=h4.err0 he
   have h6:=h4.le
   split
   ·rename_i hi
    rw [zb hi] at h5 h6
    have h7:=jgz ht (qgf ht n) (qyl n) _ h2.1 (by omega) h5
    have e2:(outP (qeh ts (qas ts n) (inP ts (adv p))).2).at_=(qeh ts (qas ts n) (inP ts (adv p))).2.at_:=rfl
    simp only at h6 ⊢
    omega
   ·rename_i hi
    rw [za hi] at h5
    exact absurd h5 hi
  ·rename_i hs
   rw [za hs] at he
   have:=qtr he
   simp only [Tr.size_mk,Tr.sizeL] at this ⊢
   omega
theorem qlh (h:AtOk ts p) (he:(eF ts p).2.err=0):((eF ts p).1.size:Int)+p.at_≤(eF ts p).2.at_:=
 jgz ht (qgf ht _) (qyl ht _) p h (by have:=h.lo;omega) he
theorem qym {stat:Ps→Tr × Ps} (hs:Runs ts stat) (hS:Fit ts m stat):∀ (n:Nat) (l:List Tr) (p:Ps),AtOk ts p→(ts.length:Int)≤p.at_+m→(jp ts stat n l p).2.err=0→(Tr.sizeL (jp ts stat n l p).1:Int)+p.at_≤Tr.sizeL l+(jp ts stat n l p).2.at_
 | 0,l,p,_,_,_=>by rw [jp];exact xb _
 | n+1,l,p,h,hl,he=>by
  rw [jp] at he ⊢
  by_cases h0:p.err=0
  ·rw [zb h0] at he ⊢
   by_cases hb:sees ts p sRc=true
   ·rw [zb hb]
    have e1:(adv p).at_=p.at_+1:=rfl
    simp only;omega
   ·rw [za hb] at he ⊢
    have h1:=hs p h
    have h2:=qhh ht hs n (l++[(stat p).1]) _ (h1.ok h)
    have h3:=hS p h hl (h2.err0 he)
    have h4:=h1.le
    have h5:=qym hs hS n (l++[(stat p).1]) _ (h1.ok h) (by omega) he
    rw [Tr.sizeL_snoc] at h5
    omega
  ·rw [za h0]
   exact xb _
theorem jvc {stat:Ps→Tr × Ps} (hs:Runs ts stat) (hS:Fit ts m stat) (h:AtOk ts p) (hl:(ts.length:Int)≤p.at_+m+1) (he:(qy ts stat p).2.err=0):((qy ts stat p).1.size:Int)+p.at_≤(qy ts stat p).2.at_:=by
 have h1:=qn ht h sLc
 have h0:=qcz (h1.ok h)
 have h2:=qjp (h1.ok h) (qhh ht hs ts.length [] _ h0.1)
 have h3:=(qhi (h2.err0 he)).2
 have h4:=qym ht hs hS ts.length [] _ h0.1 (by omega) he
 unfold qy
 simp only [Tr.size_mk]
 have e2:(outP (jp ts stat ts.length [] (inP ts (must ts p sLc))).2).at_=(jp ts stat ts.length [] (inP ts (must ts p sLc))).2.at_:=rfl
 have e3:Tr.sizeL []=0:=rfl
 omega
theorem jha {blk:Ps→Tr × Ps} (hb:Runs ts blk) (hB:Fit ts m blk):∀ (n:Nat) (l:List Tr) (p:Ps),AtOk ts p→(ts.length:Int)≤p.at_+m→(orL ts blk n l p).2.err=0→(Tr.sizeL (orL ts blk n l p).1:Int)+p.at_≤Tr.sizeL l+(orL ts blk n l p).2.at_
 | 0,l,p,_,_,_=>by rw [orL];exact xb _
 | n+1,l,p,h,hl,he=>by
  rw [orL] at he ⊢
  split
  ·rename_i hs
   rw [zb hs] at he
   have h1:=qh ht h hs
   have h2:=hb _ (h1.ok h)
   have h3:=qqg ht hb n (l++[(blk (adv p)).1]) _ (h2.ok (h1.ok h))
   have e1:(adv p).at_=p.at_+1:=rfl
   have h4:=hB _ (h1.ok h) (by omega) (h3.err0 he)
   have h6:=h2.le
   have h5:=jha hb hB n (l++[(blk (adv p)).1]) _ (h2.ok (h1.ok h)) (by omega) he
   rw [Tr.sizeL_snoc] at h5
   omega
  ·exact xb _
theorem jvd {blk:Ps→Tr × Ps} (hb:Runs ts blk) (hB:Fit ts m blk) (a i:Int):Fit ts m (qdv ts blk a i):=fun p h hl he=>by
 unfold qdv at he ⊢
 split
 ·rename_i hs
  rw [zb hs] at he
  have h1:=qh ht h hs
  have h2:=qav ht (h1.ok h)
  have h3:=qav ht (h2.ok (h1.ok h))
  have h4:=h2.trans (h3.trans (qn ht (h3.ok (h2.ok (h1.ok h))) qx))
  have:p.at_+1≤_:=h4.le
  simp only [Tr.size_mk,Tr.sizeL];omega
 ·rename_i hs
  rw [za hs] at he
  split
  ·rename_i hw
   rw [zb hw] at he
   have h1:=qh ht h hw
   have h2:=qbo ht _ (h1.ok h)
   have h4:=qn ht (h2.ok (h1.ok h)) qx
   have h5:=qlh ht (h1.ok h) (h4.err0 he)
   have h6:=h4.le
   have e1:(adv p).at_=p.at_+1:=rfl
   simp only [Tr.size_mk,Tr.sizeL_one];omega
  ·rename_i hw
   rw [za hw] at he
   have h1:=qn ht h jk
   have h2:=hb _ (h1.ok h)
   have h3:=qqg ht hb ts.length [(blk (must ts p jk)).1] _ (h2.ok (h1.ok h))
   have h4:=(qhi (h2.err0 (h3.err0 he))).2
   have h5:=hB _ (h1.ok h) (by omega) (h3.err0 he)
   have h7:=h2.le
   have h6:=jha ht hb hB ts.length [(blk (must ts p jk)).1] _ (h2.ok (h1.ok h)) (by omega) he
   rw [Tr.sizeL_one] at h6
   simp only [Tr.size_mk] at h6 ⊢;omega
theorem jhb:∀ n,Fit ts n (qe ts n)
 | 0=>fun p h hl _=>by have:=h.hi;omega
 | n+1=>fun p h hl he=>by
  have hb:=qto ht (qld ht n)
  have hB:∀ q,AtOk ts q→(ts.length:Int)≤q.at_+n+1→(qy ts (qe ts n) q).2.err=0→((qy ts (qe ts n) q).1.size:Int)+q.at_≤(qy ts (qe ts n) q).2.at_:=fun q hq hlq heq=>jvc ht (qld ht n) (jhb n) hq hlq heq
  unfold qe at he ⊢
  simp only at he ⊢
  split
  ·rename_i hw
   rw [zb hw] at he
   have h1:=qig ht h qef
   have h2:=h1.le
   have:=jvd ht hb (m:=n+1) (fun q hq hlq heq=>hB q hq (by omega) heq) _ _ _ (h1.ok h) (by omega) he
   omega
  rename_i hw
  rw [za hw] at he
  split
  ·rename_i hw
   rw [zb hw] at he
   have h1:=qh ht h hw
   have h2:=qav ht (h1.ok h)
   have h3:=qbo ht _ (h2.ok (h1.ok h))
   have h4:=qn ht (h3.ok (h2.ok (h1.ok h))) qx
   have h5:=qlh ht (h2.ok (h1.ok h)) (h4.err0 he)
   have h6:=h4.le
   have h7:p.at_+1≤_:=h2.le
   simp only [Tr.size_mk,Tr.sizeL_one];omega
  rename_i hw
  rw [za hw] at he
  split
  ·rename_i hw
   rw [zb hw] at he
   have h1:=qh ht h hw
   have h2:=qbo ht _ (h1.ok h)
   have h3:=hb _ (h2.ok (h1.ok h))
   have e1:(adv p).at_=p.at_+1:=rfl
   have hl2:=h2.le
   have hl3:=h3.le
   split
   ·rename_i hx
    rw [zb hx] at he
    have h5:=qh ht (h3.ok (h2.ok (h1.ok h))) hx
    have h6:=hb _ (h5.ok (h3.ok (h2.ok (h1.ok h))))
    have h7:=h5.err0 (h6.err0 he)
    have h8:=qlh ht (h1.ok h) (h3.err0 h7)
    have h9:=hB _ (h2.ok (h1.ok h)) (by omega) h7
    have e2:(adv (qy ts (qe ts n) (eF ts (adv p)).2).2).at_=(qy ts (qe ts n) (eF ts (adv p)).2).2.at_+1:=rfl
    have h10:=hB _ (h5.ok (h3.ok (h2.ok (h1.ok h)))) (by omega) he
    simp only [Tr.size_mk,Tr.sizeL_three];omega
   ·rename_i hx
    rw [za hx] at he
    have h8:=qlh ht (h1.ok h) (h3.err0 he)
    have h9:=hB _ (h2.ok (h1.ok h)) (by omega) he
    simp only [Tr.size_mk,Tr.sizeL_two];omega
  rename_i hw
  rw [za hw] at he
  split
  ·rename_i hw
   rw [zb hw] at he
   have h1:=qh ht h hw
   have h2:=qbo ht _ (h1.ok h)
   have h3:=hb _ (h2.ok (h1.ok h))
   have e1:(adv p).at_=p.at_+1:=rfl
   have hl2:=h2.le
   have h8:=qlh ht (h1.ok h) (h3.err0 he)
   have h9:=hB _ (h2.ok (h1.ok h)) (by omega) he
   simp only [Tr.size_mk,Tr.sizeL_two];omega
  rename_i hw
  rw [za hw] at he
  split
  ·rename_i hw
   rw [zb hw] at he
   have h1:=qh ht h hw
   have e1:(adv p).at_=p.at_+1:=rfl
   have h9:=hB _ (h1.ok h) (by omega) he
   simp only [Tr.size_mk,Tr.sizeL_one];omega
  rename_i hw
  rw [za hw] at he
  split
  ·have h1:=qh ht h (by assumption)
   have h4:p.at_+1≤_:=(qn ht (h1.ok h) qx).le
   simp only [Tr.size_mk,Tr.sizeL];omega
  rename_i hw
  rw [za hw] at he
  split
  ·have h1:=qh ht h (by assumption)
   have h4:p.at_+1≤_:=(qn ht (h1.ok h) qx).le
   simp only [Tr.size_mk,Tr.sizeL];omega
  rename_i hw
  rw [za hw] at he
  have h1:=qav ht h
  have h2:=qn ht (h1.ok h) sEq
  have h3:=qbo ht _ (h2.ok (h1.ok h))
  have h4:=qn ht (h3.ok (h2.ok (h1.ok h))) qx
  have h5:=qtr (h2.err0 (h3.err0 (h4.err0 he)))
  have h6:=h4.le
  have h7:=h2.le
  have h8:=qlh ht (h2.ok (h1.ok h)) (h4.err0 he)
  simp only [Tr.size_mk,Tr.sizeL_one];omega
theorem fit_s:Fit ts ts.length (sF ts):=jhb ht _
theorem jhc (h:AtOk ts p) (he:(jz ts p).2.err=0):((jz ts p).1.size:Int)+p.at_≤(jz ts p).2.at_:=by
 have h1:=jgg ht p h he
 have h2:(jz ts p).1.size=1:=by unfold jz;simp only [Tr.size_mk,Tr.sizeL]
 omega
theorem jhd:∀ (n:Nat) (l:List Tr) (p:Ps),AtOk ts p→(qcd ts n l p).2.err=0→(Tr.sizeL (qcd ts n l p).1:Int)+p.at_≤Tr.sizeL l+(qcd ts n l p).2.at_
 | 0,l,p,_,_=>by rw [qcd];exact xb _
 | n+1,l,p,h,he=>by
  rw [qcd] at he ⊢
  split
  ·rename_i hs
   rw [zb hs] at he
   have h1:=qmz ht _ h
   have h2:=qqh ht n (l++[(jz ts p).1]) _ (h1.ok h)
   have h3:=jhc ht h (h2.err0 he)
   have h5:=jhd n (l++[(jz ts p).1]) _ (h1.ok h) he
   rw [Tr.sizeL_snoc] at h5
   omega
  ·exact xb _
theorem jve (h:AtOk ts p) (he:(qdw ts p).2.err=0):((qdw ts p).1.size:Int)+p.at_≤(qdw ts p).2.at_:=by
 have h0:=qn ht h jd
 unfold qdw at he ⊢
 simp only at he ⊢
 have h1:=h0.ok h
 have h3:=qav ht h1
 have h4:Step ts (must ts p jd) (if sees ts (qf ts (must ts p jd)) qge=true then (numN ts (adv (qf ts (must ts p jd))),numP ts (adv (qf ts (must ts p jd)))) else (1,qf ts (must ts p jd))).2:=by
  split
  ·have h5:=h3.trans (qh ht (h3.ok h1) (by assumption))
   exact h5.trans (qbr ht (h5.ok h1))
  ·exact h3
 have h5:=h4.trans (qn ht (h4.ok h1) sLc)
 generalize (must ts (if sees ts (qf ts (must ts p jd)) qge=true then (numN ts (adv (qf ts (must ts p jd))),numP ts (adv (qf ts (must ts p jd)))) else (1,qf ts (must ts p jd))).2 sLc)=R at he h5 ⊢
 have h6:=qqh ht ts.length [] R (h5.ok h1)
 have h7:=fun he=>jhd ht ts.length [] R (h5.ok h1) he
 generalize qcd ts ts.length [] R=V at he h6 h7 ⊢
 have h8:=qcz (h6.ok (h5.ok h1))
 have h9:=qjp (h6.ok (h5.ok h1)) (qhh ht (qjq ht) ts.length V.1 _ h8.1)
 have h10:=h7 (h9.err0 he)
 have hlo:=h8.1.lo
 have h11:=qym ht (qjq ht) (fit_s ht) ts.length V.1 _ h8.1 (by omega) he
 have h12:=(qhi (h5.err0 (h6.err0 (h9.err0 he)))).2
 have h13:=h5.le
 have e3:Tr.sizeL []=0:=rfl
 have e2:(outP (jp ts (sF ts) ts.length V.1 (inP ts V.2)).2).at_=(jp ts (sF ts) ts.length V.1 (inP ts V.2)).2.at_:=rfl
 simp only [Tr.size_mk]
 omega
theorem jvf (h:AtOk ts p) (he:(itemF ts p).2.err=0):((itemF ts p).1.size:Int)+p.at_≤(itemF ts p).2.at_:=by
 have hg:=jgj ht p h he
 unfold itemF at he hg ⊢
 simp only at he hg ⊢
 split
 ·rename_i hw
  rw [zb hw] at he
  exact jhc ht h he
 rename_i hw
 rw [za hw] at he hg
 split
 ·rename_i hw
  rw [zb hw] at he
  exact jve ht h he
 rename_i hw
 rw [za hw] at he hg
 split
 ·rename_i hw
  rw [zb hw] at he hg
  simp only [Tr.size_mk,Tr.sizeL] at hg ⊢;omega
 rename_i hw
 rw [za hw] at he hg
 split
 ·rename_i hw
  rw [zb hw] at he
  have h1:=qh ht h hw
  have h2:=qbo ht _ (h1.ok h)
  have h3:=qn ht (h2.ok (h1.ok h)) qx
  have h4:=qlh ht (h1.ok h) (h3.err0 he)
  have h5:=h3.le
  have e1:(adv p).at_=p.at_+1:=rfl
  simp only [Tr.size_mk,Tr.sizeL_one];omega
 rename_i hw
 rw [za hw] at he hg
 simp only [Tr.size_mk,Tr.sizeL] at hg ⊢;omega
theorem jhe:∀ (n:Nat) (l:List Tr) (p:Ps),AtOk ts p→(qdx ts n l p).2.err=0→(Tr.sizeL (qdx ts n l p).1:Int)+p.at_≤Tr.sizeL l+(qdx ts n l p).2.at_
 | 0,l,p,_,_=>by rw [qdx];exact xb _
 | n+1,l,p,h,he=>by
  rw [qdx] at he ⊢
  split
  ·rename_i hs
   rw [zb hs] at he
   have h1:=qxv ht _ h
   have h2:=qxw ht n (l++[(itemF ts p).1]) _ (h1.ok h)
   have h3:=jvf ht h (h2.err0 he)
   have h5:=jhe n (l++[(itemF ts p).1]) _ (h1.ok h) he
   rw [Tr.sizeL_snoc] at h5
   omega
  ·exact xb _
theorem jvg (h:AtOk ts p) (he:(qcy ts p).2.err=0):((qcy ts p).1.size:Int)≤1+ts.length:=by
 have h1:=jhe ht ts.length [] p h he
 have h2:=((qxw ht ts.length [] p h).ok h).hi
 have h3:=h.lo
 have e3:Tr.sizeL []=0:=rfl
 unfold qcy
 simp only [Tr.size_mk]
 omega
end
end Pa
end Go.Proofs.YtikahnkkfkoglaaGreatDoor
end
section
namespace Go.Proofs.YtikahnkkfkoglaaGreatDoor
namespace Pa
open Go Go.Sx
theorem jvh:∀ b:UInt8,Lx.digB b=true→48≤b.toNat∧b.toNat≤57:=by
 have h:∀ b:Fin 256,Lx.digB (UInt8.ofNat b)=true→48≤b.val∧b.val≤57:=by decide +kernel
 intro b hb
 have:=h ⟨b.toNat,b.toNat_lt⟩
 simp only [UInt8.ofNat_toNat] at this
 exact this hb
theorem jhf (p:UInt8→Bool):∀ l:List UInt8,∀ b∈l.take (Lx.spanN p l),p b=true
 | [],b,h=>by simp at h
 | x::r,b,h=>by
  rw [Lx.spanN] at h
  split at h
  ·rename_i hx
   rw [Nat.add_comm,List.take_succ_cons] at h
   rcases List.mem_cons.1 h with rfl|h
   ·exact hx
   ·exact jhf p r b h
  ·simp at h
theorem jvi (l:List UInt8):Lx.firstK l≠3:=by
 unfold Lx.firstK
 split
 ·decide
 ·split
  ·decide
  ·split <;> decide
theorem jvj {l:List UInt8} (h:Lx.firstK l=1) (h0:Lx.firstN l≠0):(l.take (Lx.firstN l)).length≤6∧∀ b∈l.take (Lx.firstN l),48≤b.toNat∧b.toNat≤57:=by
 cases l with
 | nil=>simp [Lx.firstK] at h
 | cons x r=>
  unfold Lx.firstK at h
  unfold Lx.firstN at h0 ⊢
  simp only at h h0 ⊢
  split at h
  ·simp at h
  ·rename_i h2
   rw [za h2] at h0 ⊢
   split at h
   ·rename_i h3
    rw [zb h3] at h0 ⊢
    split at h0
    ·exact absurd rfl h0
    ·rename_i h6
     rw [za h6]
     refine ⟨?_,fun b hb=>jvh b (jhf _ _ b hb)⟩
     rw [xc];omega
   ·simp at h
theorem jvk:∀ (n:Nat) (l:List UInt8) (p:Nat) (ts:List Lx.Tok),l.length≤n→Lx.lexR l p=.ok ts→
  ∃ pre e,ts=pre++[⟨3,[],e⟩]∧(∀ t∈pre,t.kind≠3∧(t.kind=1→t.s.length≤6∧∀ b∈t.s,48≤b.toNat∧b.toNat≤57))∧pre.length≤l.length:=by
 intro n
 induction n with
 | zero=>
  intro l p ts hl h
  obtain rfl:l=[]:=List.length_eq_zero_iff.1 (by omega)
  rw [Lx.lexR_nil] at h
  cases h
  exact ⟨[],_,rfl,fun t ht=>by simp at ht,zl _⟩
 | succ n ih=>
  intro l p ts hl h
  cases l with
  | nil=>
   rw [Lx.lexR_nil] at h
   cases h
   exact ⟨[],_,rfl,fun t ht=>by simp at ht,zl _⟩
  | cons b r=>
   have hr:r.length≤n:=by simpa using hl
   rw [Lx.lexR_cons] at h
   split at h
   ·obtain ⟨pre,e,h1,h2,h3⟩:=ih r _ ts hr h
    exact ⟨pre,e,h1,h2,by simp;omega⟩
   split at h
   ·obtain ⟨pre,e,h1,h2,h3⟩:=ih (r.drop (Lx.lineN r)) _ ts (by rw [xj];omega) h
    exact ⟨pre,e,h1,h2,by rw [xj] at h3;simp;omega⟩
   split at h
   ·cases h
   ·rename_i h0
    cases hx:Lx.lexR (r.drop (Lx.firstN (b::r) - 1)) (p+Lx.firstN (b::r)) with
    | error e=>rw [hx] at h;cases h
    | ok ts'=>
     rw [hx] at h
     cases h
     obtain ⟨pre,e,h1,h2,h3⟩:=ih (r.drop (Lx.firstN (b::r) - 1)) _ ts' (by rw [xj];omega) hx
     refine ⟨⟨Lx.firstK (b::r),(b::r).take (Lx.firstN (b::r)),p⟩::pre,e,by rw [h1];rfl,fun t ht=>?_,by rw [xj] at h3;simp;omega⟩
     rcases List.mem_cons.1 ht with rfl|ht
     ·exact ⟨jvi (b::r),fun hk=>jvj (l:=b::r) hk h0⟩
     ·exact h2 t ht
theorem jvl {s:List UInt8} (h:(Lx.lexAll s).2.1=0):ToksOk (Lx.lexAll s).1∧0<(Lx.lexAll s).1.length:=by
 unfold Lx.lexAll at h ⊢
 split at h
 ·simp at h
 rename_i hs
 rw [za hs]
 split at h
 ·rename_i ts hts
  obtain ⟨pre,e,h1,h2,h3⟩:=jvk _ s 0 ts (zl _) hts
  simp only
  subst h1
  refine ⟨⟨by simp;omega,fun i hi=>?_,fun t ht hk=>?_⟩,by simp⟩
  ·rw [List.getD_eq_getElem?_getD]
   by_cases hip:i<pre.length
   ·rw [zy hip,ze hip]
    have:=(h2 _ (zaa hip)).1
    simp only [zag,zg,zz]
    constructor
    ·intro h;exact absurd h this
    ·intro h;omega
   ·have:i=pre.length:=by simp at hi;omega
    subst this
    rw [zx (zl _),zai]
    simp
  ·rcases List.mem_append.1 ht with ht|ht
   ·exact (h2 t ht).2 hk
   ·rw [zw] at ht
    subst ht
    simp at hk
 ·simp at h
end Pa
end Go.Proofs.YtikahnkkfkoglaaGreatDoor
end
section
namespace Go.Proofs.YtikahnkkfkoglaaGreatDoor
open List renaming getD_eq_getElem?_getD → zd
open Go Go.Sx Go.RowKit Go.St Pa
set_option maxRecDepth 100000
set_option maxHeartbeats 8000000
theorem jvm (s:List UInt8) (hs:s.length≤1000000):Con Tryz.prog 15 [.str s] (jte (qqc s)):=by
 refine zK {} 300 Tryz.func15 (fun c0 rdb=>?_)
 (repeat' ((conv=>whnf);first|refine zO ?_|refine Ob.auto ?_|refine zC 300 (jtu s hs) ?_|refine zD 300 ?_|(apply zB <;> intro hb <;> (try simp [-zd] at hb) <;> try (exfalso;omega))))
 ·have he:(Lx.lexAll s).2.1≠0:=by assumption
  have e:qqc s=([],(Lx.lexAll s).2):=zb he
  rw [e]
  exact Le.tup ⟨Le.nils _ _,Le.refl _,trivial⟩
 have he:(Lx.lexAll s).2.1=0:=by assumption
 obtain ⟨ht,h0⟩:=jvl he
 have e:qqc s=qqb (Lx.lexAll s).1:=za (by rw [he];decide)
 rw [e]
 generalize hts:(Lx.lexAll s).1=ts at ht h0 ⊢
 have hP:Pre ts ts.length ⟨0,0,0,0⟩:=⟨⟨xb _,by simp only;omega⟩,by simp,by simp⟩
 ((conv=>whnf);refine zT 300 [2] (jun ht hP) qa ?_)
 (repeat' ((conv=>whnf);first|refine zO ?_|refine Ob.auto ?_|refine zD 300 ?_|(apply zB <;> intro hb <;> (try simp [-zd] at hb) <;> try (exfalso;omega))))
 ·have hn:(qcy ts ⟨0,0,0,0⟩).2.err≠0:=by assumption
  have e:qqb ts=([],((qcy ts ⟨0,0,0,0⟩).2.err,(qcy ts ⟨0,0,0,0⟩).2.fat)):=zb hn
  rw [e]
  exact Le.tup ⟨Le.nils _ _,Le.refl _,trivial⟩
 have hn:(qcy ts ⟨0,0,0,0⟩).2.err=0:=by assumption
 have hsz:(qcy ts ⟨0,0,0,0⟩).1.size≤100000:=by
  have:=jvg ht hP.at_ hn
  have:=ht.len
  omega
 have e2:qqb ts=if 800<(layT 0 (qcy ts ⟨0,0,0,0⟩).1).length then ([],(12,0)) else if 0≤deepT (qcy ts ⟨0,0,0,0⟩).1 1 then ([],(12,deepT (qcy ts ⟨0,0,0,0⟩).1 1)) else (layT 0 (qcy ts ⟨0,0,0,0⟩).1,(0,0)):=za (fun h=>h hn)
 rw [e2]
 generalize (qcy ts ⟨0,0,0,0⟩).1=t at hsz ⊢
 (conv=>whnf)
 refine qgq (fun _=>rfl) 300 [] (juw t hsz) (by kernel_rfl) leA trivial (by exact qb rfl) (rowsM _) (by kernel_rfl) ?_
 (repeat' ((conv=>whnf);first|refine Ob.auto ?_|refine zC 300 (jup _ t 1 (zl _) hsz (by decide) (by decide)) ?_|(apply zB <;> intro hb <;> (try simp [-zd] at hb) <;> try (exfalso;omega))|refine Ob.intro ?_ ?_|fail))
 ·have hb8:800<(layT 0 t).length:=by omega
  rw [zb hb8]
  exact Le.tup ⟨Le.nils _ _,Le.refl _,trivial⟩
 ·have hb8:¬ 800<(layT 0 t).length:=by omega
  rw [za hb8,zb (by assumption)]
  exact Le.tup ⟨Le.nils _ _,Le.refl _,trivial⟩
 ·exact ⟨⟨trivial,⟨rfl,rfl⟩,fun k hk=>⟨trivial,trivial,trivial,⟨hk,⟨rfl,rfl⟩,trivial⟩,trivial,trivial⟩⟩,⟨trivial,trivial,trivial⟩,trivial⟩
 ·have hb8:¬ 800<(layT 0 t).length:=by omega
  rw [za hb8,za (by omega)]
  refine Le.tup ⟨Le.slcL rfl (fun k hk=>?_),Le.refl _,trivial⟩
  exact ⟨Le.refl _,Le.refl _,Le.refl _,Le.refl _,Le.refl _,trivial⟩
end Go.Proofs.YtikahnkkfkoglaaGreatDoor
end
section
namespace Go.Proofs.YtikahnkkfkoglaaGreatDoor
open Go Go.Sx Go.RowKit Go.St
set_option maxRecDepth 100000
set_option maxHeartbeats 4000000
theorem jvn (l:List Nd) (n:Nd) (hn:NdSz n) (hk:∀ k∈n.kids,0≤k∧k<l.length):Con Tryz.prog 42 [jx l,.agg n.cells] (.bool (nodeB l n)):=by
 have hl:=hn.lk
 refine zK {} 600 Tryz.func42 (fun c0 rdb=>?_)
 (repeat' ((conv=>whnf);first|refine Ob.auto ?_|(refine Ob.intro (by ((intro h;refine ⟨h,?_⟩;simp only [zf,numsB,xu] at h;omega))) ?_)|refine zC 600 (jga n hn _) ?_|refine zG 600 (fun hg=>jfz n hn _ _) ?_|refine zG 600 (fun hg=>jgb l n hn hk 0 (by omega) _ _) ?_|refine zG 600 (fun hg=>jtr l n hn hk _ _ _ (by omega)) ?_|refine zG 600 (fun hg=>qxy _ _ _) ?_|(apply zB <;> intro hb <;> (try simp [-List.getD_eq_getElem?_getD] at hb) <;> try (exfalso;omega))))
 all_goals first
  | (refine Le.of_eq (congrArg AV.bool ?_);rw [nodeB];((repeat (first|rw [zb (by omega)]|rw [za (by omega)])) <;> rfl))
  | skip
 ((conv=>whnf);refine qm (fun _=>rfl) 600 1 (fun i:Nat=>[(6,iv i)]) (fun _=>[]) (fun i=>i≤n.kids.length∧∀ j,j<i→kidK l n j=2) (fun i=>n.kids.length - i) (0) (⟨by omega,fun j hj=>absurd hj (zh j)⟩) qa qa (fun _=>rfl) (by kernel_rfl) ?_;(conv=>whnf))
 intro i hi
 (repeat' ((conv=>whnf);first|refine Ob.auto ?_|(refine jai (fun _=>rfl) 600 (fun hg=>qxz l n i (by omega) (by first|omega|(have:=zm hg;omega)) hk) (by rfl) qz (by kernel_rfl) ?_)|refine zC 600 (jga n hn _) ?_|refine zG 600 (fun hg=>jfz n hn _ _) ?_|refine zG 600 (fun hg=>jgb l n hn hk i (by omega) _ _) ?_|(apply zB <;> intro hb <;> (try simp [-List.getD_eq_getElem?_getD] at hb) <;> try (exfalso;omega))))
 ·((conv=>whnf);refine ⟨i+1,⟨by omega,qaf hi.2 hb.2⟩,⟨qa,qa⟩,⟨qa,qa⟩,?_⟩;(first|omega|(dsimp only;omega)|skip))
 ·rename_i h3
  refine Le.of_eq (congrArg AV.bool ?_)
  rw [nodeB,za (by omega),za (by omega),za (by omega),zb (by omega),jch l n i hi.1 hi.2 (by omega)]
end Go.Proofs.YtikahnkkfkoglaaGreatDoor
end
