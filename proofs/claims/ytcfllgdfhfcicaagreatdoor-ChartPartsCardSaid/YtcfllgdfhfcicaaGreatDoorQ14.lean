/- Some texts of the library, one behind the other. -/
import Derived.Test.YtcfllgdfhfcicaaGreatDoorQ9
import Derived.Test.YtcfllgdfhfcicaaGreatDoorQ5
import Derived.Test.YtcfllgdfhfcicaaGreatDoorQPaL
import Derived.Test.YtcfllgdfhfcicaaGreatDoorQ7
import Derived.Test.YtcfllgdfhfcicaaGreatDoorQ2
set_option linter.unusedSimpArgs false
set_option linter.unusedVariables false
section
namespace Go.Proofs.YtcfllgdfhfcicaaGreatDoor
namespace Pa
open Go Go.Sx
theorem Tr.size_mk (k:Int) (w:List (List UInt8)) (ns:List Int) (a:Int) (l:List Tr):(Tr.mk k w ns a l).size=1+Tr.sizeL l:=by rw [Tr.size]
theorem Tr.sizeL_snoc:∀ (l:List Tr) (t:Tr),Tr.sizeL (l++[t])=Tr.sizeL l+t.size
 | [],t=>by simp [Tr.sizeL]
 | x::r,t=>by rw [zaj,Tr.sizeL,Tr.sizeL_snoc r t,Tr.sizeL];omega
theorem Tr.sizeL_one (t:Tr):Tr.sizeL [t]=t.size:=by simp [Tr.sizeL]
theorem Tr.sizeL_two (t u:Tr):Tr.sizeL [t,u]=t.size+u.size:=by simp [Tr.sizeL]
theorem Tr.sizeL_three (t u v:Tr):Tr.sizeL [t,u,v]=t.size+(u.size+v.size):=by simp [Tr.sizeL]
theorem jdl (sg:Int) (a b:Tr):(binT sg a b).size=1+(a.size+b.size):=by unfold binT;rw [Tr.size_mk,Tr.sizeL_two]
abbrev Fit (ts:List Lx.Tok) (n:Nat) (f:Ps→Tr × Ps):Prop:=∀ p,AtOk ts p→(ts.length:Int)≤p.at_+n→(f p).2.err=0→((f p).1.size:Int)+p.at_≤(f p).2.at_
section
variable {ts:List Lx.Tok} {p q r:Ps} {m:Nat}
variable (ht:ToksOk ts)
include ht
theorem jdm {f:Ps→Tr × Ps} (hf:Runs ts f) (hF:Fit ts m f) {c:Ps→Bool} {sg:Ps→Int} (hc:∀ p,c p=true→∃ s,sees ts p s=true) :
  ∀ (n:Nat) (a:Tr) (p:Ps),AtOk ts p→(ts.length:Int)≤p.at_+m→(qav f c sg n a p).2.err=0→((qav f c sg n a p).1.size:Int)+p.at_≤a.size+(qav f c sg n a p).2.at_
 | 0,a,p,_,_,_=>by rw [qav];exact xi _
 | n+1,a,p,h,hl,he=>by
  rw [qav] at he ⊢
  split
  ·rename_i hcp
   rw [zb hcp] at he
   obtain ⟨s,hs⟩:=hc p hcp
   have h1:=qh ht h hs
   have h2:=hf _ (h1.ok h)
   have h3:=qkm ht hf hc (sg:=sg) n (binT (sg p) a (f (adv p)).1) _ (h2.ok (h1.ok h))
   have e1:(adv p).at_=p.at_+1:=rfl
   have h4:=hF _ (h1.ok h) (by omega) (h3.err0 he)
   have h6:=h2.le
   have h5:=jdm hf hF hc (sg:=sg) n (binT (sg p) a (f (adv p)).1) _ (h2.ok (h1.ok h)) (by omega) he
   rw [jdl] at h5
   omega
  ·exact xi _
theorem qrr {f:Ps→Tr × Ps} (hf:Runs ts f) (hF:Fit ts m f) {c:Ps→Bool} {sg:Ps→Int} (hc:∀ p,c p=true→∃ s,sees ts p s=true) (n:Nat) :
  Fit ts m (fun p=>qav f c sg n (f p).1 (f p).2):=fun p h hl he=>by
 have h1:=hf p h
 have h2:=qkm ht hf hc (sg:=sg) n (f p).1 _ (h1.ok h)
 have h3:=hF p h hl (h2.err0 he)
 have h4:=h1.le
 have h5:=jdm ht hf hF hc (sg:=sg) n (f p).1 _ (h1.ok h) (by omega) he
 simp only at h5 ⊢
 omega
theorem jdn {f:Ps→Tr × Ps} (hf:Runs ts f) (hF:Fit ts m f) (s:List UInt8) (sg:Int):Fit ts m (qmb ts f s sg):=fun p h hl he=>by
 have h1:=hf p h
 unfold qmb at he ⊢
 split
 ·rename_i hs
  rw [zb hs] at he
  have h2:=qh ht (h1.ok h) hs
  have h3:=hf _ (h2.ok (h1.ok h))
  have e1:(adv (f p).2).at_=(f p).2.at_+1:=rfl
  have h4:=hF p h hl (h2.err0 (h3.err0 he))
  have h5:=h1.le
  have h6:=hF _ (h2.ok (h1.ok h)) (by omega) he
  simp only
  rw [jdl]
  omega
 ·rename_i hs
  rw [za hs] at he
  exact hF p h hl he
section
variable {part:Ps→Tr × Ps} (hp:Runs ts part) (hP:Fit ts m part)
include hp hP
theorem jrl:Fit ts m (qcn ts part):=qrr ht hp hP (fun _=>jcf) _
theorem jrm:Fit ts m (sumF ts part):=qrr ht (qoe ht hp) (jrl ht hp hP) (fun _=>jcg) _
theorem jrn:Fit ts m (qch ts part):=jdn ht (qvo ht hp) (jrm ht hp hP) _ _
theorem jro:Fit ts m (qdv ts part):=jdn ht (qvp ht hp) (jrn ht hp hP) _ _
theorem jrp:Fit ts m (andF ts part):=qrr ht (qof ht hp) (jro ht hp hP) (fun _ h=>⟨_,h⟩) _
theorem jdo:Fit ts m (qei ts part):=qrr ht (qog ht hp) (jrp ht hp hP) (fun _ h=>⟨_,h⟩) _
end
theorem qwg:∀ n,Fit ts n (qao ts n)
 | 0=>fun p h hl _=>by have:=h.hi;omega
 | n+1=>fun p h hl he=>by
  unfold qao at he ⊢
  simp only at he ⊢
  split
  ·rename_i hs
   rw [zb hs] at he
   have:=jqq he
   simp only [Tr.size_mk,Tr.sizeL] at this ⊢
   omega
  rename_i hs
  rw [za hs] at he
  split
  ·rename_i hs
   rw [zb hs] at he
   have:=qrp he
   have e1:(adv p).at_=p.at_+1:=rfl
   simp only [Tr.size_mk,Tr.sizeL] at this ⊢
   omega
  rename_i hs
  rw [za hs] at he
  split
  ·rename_i hs
   rw [zb hs] at he
   have h1:Step ts p (adv p):=by rcases hs with hs|hs <;> exact qh ht h hs
   have h2:=qda (h1.ok h)
   have e1:(adv p).at_=p.at_+1:=rfl
   have h3:=qfw ht n _ h2.1
   simp only [Tr.size_mk]
   have he':(ifOk (qao ts n) (inP ts (adv p))).2.err=0:=he
   unfold ifOk at he' ⊢
   split
   ·rename_i hi
    rw [zb hi] at he'
    have h4:=qwg n _ h2.1 (by omega) he'
    simp only [Tr.sizeL_one]
    have e2:(outP (qao ts n (inP ts (adv p))).2).at_=(qao ts n (inP ts (adv p))).2.at_:=rfl
    omega
   ·simp only [Tr.sizeL]
    have e2:(outP (inP ts (adv p))).at_=(inP ts (adv p)).at_:=rfl
    omega
  rename_i hs
  rw [za hs] at he
  split
  ·rename_i hs
   rw [zb hs] at he
   have h1:=qh ht h hs
   have h2:=qda (h1.ok h)
   have e1:(adv p).at_=p.at_+1:=rfl
   have h3:Step ts (adv p) (outP (if (inP ts (adv p)).err=0 then (qei ts (qao ts n) (inP ts (adv p))).2 else inP ts (adv p))):=by
    refine qjd (h1.ok h) ?_
    split
    ·exact qrl ht (qfw ht n) _ h2.1
    ·exact h2.1.refl
   have h4:=ql ht (h3.ok (h1.ok h)) sRp
   have h5:=h4.err0 he
   have h6:=h4.le
   split
   ·rename_i hi
    rw [zb hi] at h5 h6
    have h7:=jdo ht (qfw ht n) (qwg n) _ h2.1 (by omega) h5
    have e2:(outP (qei ts (qao ts n) (inP ts (adv p))).2).at_=(qei ts (qao ts n) (inP ts (adv p))).2.at_:=rfl
    simp only at h6 ⊢
    omega
   ·rename_i hi
    rw [za hi] at h5
    exact absurd h5 hi
  ·rename_i hs
   rw [za hs] at he
   have:=qrp he
   simp only [Tr.size_mk,Tr.sizeL] at this ⊢
   omega
theorem qkr (h:AtOk ts p) (he:(eF ts p).2.err=0):((eF ts p).1.size:Int)+p.at_≤(eF ts p).2.at_:=
 jdo ht (qfw ht _) (qwg ht _) p h (by have:=h.lo;omega) he
theorem qwh {stat:Ps→Tr × Ps} (hs:Runs ts stat) (hS:Fit ts m stat):∀ (n:Nat) (l:List Tr) (p:Ps),AtOk ts p→(ts.length:Int)≤p.at_+m→(jk ts stat n l p).2.err=0→(Tr.sizeL (jk ts stat n l p).1:Int)+p.at_≤Tr.sizeL l+(jk ts stat n l p).2.at_
 | 0,l,p,_,_,_=>by rw [jk];exact xi _
 | n+1,l,p,h,hl,he=>by
  rw [jk] at he ⊢
  by_cases h0:p.err=0
  ·rw [zb h0] at he ⊢
   by_cases hb:sees ts p sRc=true
   ·rw [zb hb]
    have e1:(adv p).at_=p.at_+1:=rfl
    simp only;omega
   ·rw [za hb] at he ⊢
    have h1:=hs p h
    have h2:=qha ht hs n (l++[(stat p).1]) _ (h1.ok h)
    have h3:=hS p h hl (h2.err0 he)
    have h4:=h1.le
    have h5:=qwh hs hS n (l++[(stat p).1]) _ (h1.ok h) (by omega) he
    rw [Tr.sizeL_snoc] at h5
    omega
  ·rw [za h0]
   exact xi _
theorem jrq {stat:Ps→Tr × Ps} (hs:Runs ts stat) (hS:Fit ts m stat) (h:AtOk ts p) (hl:(ts.length:Int)≤p.at_+m+1) (he:(qr ts stat p).2.err=0):((qr ts stat p).1.size:Int)+p.at_≤(qr ts stat p).2.at_:=by
 have h1:=ql ht h sLc
 have h0:=qda (h1.ok h)
 have h2:=qjd (h1.ok h) (qha ht hs ts.length [] _ h0.1)
 have h3:=(qhb (h2.err0 he)).2
 have h4:=qwh ht hs hS ts.length [] _ h0.1 (by omega) he
 unfold qr
 simp only [Tr.size_mk]
 have e2:(outP (jk ts stat ts.length [] (inP ts (must ts p sLc))).2).at_=(jk ts stat ts.length [] (inP ts (must ts p sLc))).2.at_:=rfl
 have e3:Tr.sizeL []=0:=rfl
 omega
theorem jdp {blk:Ps→Tr × Ps} (hb:Runs ts blk) (hB:Fit ts m blk):∀ (n:Nat) (l:List Tr) (p:Ps),AtOk ts p→(ts.length:Int)≤p.at_+m→(orL ts blk n l p).2.err=0→(Tr.sizeL (orL ts blk n l p).1:Int)+p.at_≤Tr.sizeL l+(orL ts blk n l p).2.at_
 | 0,l,p,_,_,_=>by rw [orL];exact xi _
 | n+1,l,p,h,hl,he=>by
  rw [orL] at he ⊢
  split
  ·rename_i hs
   rw [zb hs] at he
   have h1:=qh ht h hs
   have h2:=hb _ (h1.ok h)
   have h3:=qoh ht hb n (l++[(blk (adv p)).1]) _ (h2.ok (h1.ok h))
   have e1:(adv p).at_=p.at_+1:=rfl
   have h4:=hB _ (h1.ok h) (by omega) (h3.err0 he)
   have h6:=h2.le
   have h5:=jdp hb hB n (l++[(blk (adv p)).1]) _ (h2.ok (h1.ok h)) (by omega) he
   rw [Tr.sizeL_snoc] at h5
   omega
  ·exact xi _
theorem jrr {blk:Ps→Tr × Ps} (hb:Runs ts blk) (hB:Fit ts m blk) (a i:Int):Fit ts m (qdw ts blk a i):=fun p h hl he=>by
 unfold qdw at he ⊢
 split
 ·rename_i hs
  rw [zb hs] at he
  have h1:=qh ht h hs
  have h2:=qar ht (h1.ok h)
  have h3:=qar ht (h2.ok (h1.ok h))
  have h4:=h2.trans (h3.trans (ql ht (h3.ok (h2.ok (h1.ok h))) qq))
  have:p.at_+1≤_:=h4.le
  simp only [Tr.size_mk,Tr.sizeL];omega
 ·rename_i hs
  rw [za hs] at he
  split
  ·rename_i hw
   rw [zb hw] at he
   have h1:=qh ht h hw
   have h2:=qbi ht _ (h1.ok h)
   have h4:=ql ht (h2.ok (h1.ok h)) qq
   have h5:=qkr ht (h1.ok h) (h4.err0 he)
   have h6:=h4.le
   have e1:(adv p).at_=p.at_+1:=rfl
   simp only [Tr.size_mk,Tr.sizeL_one];omega
  ·rename_i hw
   rw [za hw] at he
   have h1:=ql ht h jd
   have h2:=hb _ (h1.ok h)
   have h3:=qoh ht hb ts.length [(blk (must ts p jd)).1] _ (h2.ok (h1.ok h))
   have h4:=(qhb (h2.err0 (h3.err0 he))).2
   have h5:=hB _ (h1.ok h) (by omega) (h3.err0 he)
   have h7:=h2.le
   have h6:=jdp ht hb hB ts.length [(blk (must ts p jd)).1] _ (h2.ok (h1.ok h)) (by omega) he
   rw [Tr.sizeL_one] at h6
   simp only [Tr.size_mk] at h6 ⊢;omega
theorem jdq:∀ n,Fit ts n (qc ts n)
 | 0=>fun p h hl _=>by have:=h.hi;omega
 | n+1=>fun p h hl he=>by
  have hb:=qrm ht (qkn ht n)
  have hB:∀ q,AtOk ts q→(ts.length:Int)≤q.at_+n+1→(qr ts (qc ts n) q).2.err=0→((qr ts (qc ts n) q).1.size:Int)+q.at_≤(qr ts (qc ts n) q).2.at_:=fun q hq hlq heq=>jrq ht (qkn ht n) (jdq n) hq hlq heq
  unfold qc at he ⊢
  simp only at he ⊢
  split
  ·rename_i hw
   rw [zb hw] at he
   have h1:=qhy ht h qeg
   have h2:=h1.le
   have:=jrr ht hb (m:=n+1) (fun q hq hlq heq=>hB q hq (by omega) heq) _ _ _ (h1.ok h) (by omega) he
   omega
  rename_i hw
  rw [za hw] at he
  split
  ·rename_i hw
   rw [zb hw] at he
   have h1:=qh ht h hw
   have h2:=qar ht (h1.ok h)
   have h3:=qbi ht _ (h2.ok (h1.ok h))
   have h4:=ql ht (h3.ok (h2.ok (h1.ok h))) qq
   have h5:=qkr ht (h2.ok (h1.ok h)) (h4.err0 he)
   have h6:=h4.le
   have h7:p.at_+1≤_:=h2.le
   simp only [Tr.size_mk,Tr.sizeL_one];omega
  rename_i hw
  rw [za hw] at he
  split
  ·rename_i hw
   rw [zb hw] at he
   have h1:=qh ht h hw
   have h2:=qbi ht _ (h1.ok h)
   have h3:=hb _ (h2.ok (h1.ok h))
   have e1:(adv p).at_=p.at_+1:=rfl
   have hl2:=h2.le
   have hl3:=h3.le
   split
   ·rename_i hx
    rw [zb hx] at he
    have h5:=qh ht (h3.ok (h2.ok (h1.ok h))) hx
    have h6:=hb _ (h5.ok (h3.ok (h2.ok (h1.ok h))))
    have h7:=h5.err0 (h6.err0 he)
    have h8:=qkr ht (h1.ok h) (h3.err0 h7)
    have h9:=hB _ (h2.ok (h1.ok h)) (by omega) h7
    have e2:(adv (qr ts (qc ts n) (eF ts (adv p)).2).2).at_=(qr ts (qc ts n) (eF ts (adv p)).2).2.at_+1:=rfl
    have h10:=hB _ (h5.ok (h3.ok (h2.ok (h1.ok h)))) (by omega) he
    simp only [Tr.size_mk,Tr.sizeL_three];omega
   ·rename_i hx
    rw [za hx] at he
    have h8:=qkr ht (h1.ok h) (h3.err0 he)
    have h9:=hB _ (h2.ok (h1.ok h)) (by omega) he
    simp only [Tr.size_mk,Tr.sizeL_two];omega
  rename_i hw
  rw [za hw] at he
  split
  ·rename_i hw
   rw [zb hw] at he
   have h1:=qh ht h hw
   have h2:=qbi ht _ (h1.ok h)
   have h3:=hb _ (h2.ok (h1.ok h))
   have e1:(adv p).at_=p.at_+1:=rfl
   have hl2:=h2.le
   have h8:=qkr ht (h1.ok h) (h3.err0 he)
   have h9:=hB _ (h2.ok (h1.ok h)) (by omega) he
   simp only [Tr.size_mk,Tr.sizeL_two];omega
  rename_i hw
  rw [za hw] at he
  split
  ·rename_i hw
   rw [zb hw] at he
   have h1:=qh ht h hw
   have e1:(adv p).at_=p.at_+1:=rfl
   have h9:=hB _ (h1.ok h) (by omega) he
   simp only [Tr.size_mk,Tr.sizeL_one];omega
  rename_i hw
  rw [za hw] at he
  split
  ·have h1:=qh ht h (by assumption)
   have h4:p.at_+1≤_:=(ql ht (h1.ok h) qq).le
   simp only [Tr.size_mk,Tr.sizeL];omega
  rename_i hw
  rw [za hw] at he
  split
  ·have h1:=qh ht h (by assumption)
   have h4:p.at_+1≤_:=(ql ht (h1.ok h) qq).le
   simp only [Tr.size_mk,Tr.sizeL];omega
  rename_i hw
  rw [za hw] at he
  have h1:=qar ht h
  have h2:=ql ht (h1.ok h) sEq
  have h3:=qbi ht _ (h2.ok (h1.ok h))
  have h4:=ql ht (h3.ok (h2.ok (h1.ok h))) qq
  have h5:=qrp (h2.err0 (h3.err0 (h4.err0 he)))
  have h6:=h4.le
  have h7:=h2.le
  have h8:=qkr ht (h2.ok (h1.ok h)) (h4.err0 he)
  simp only [Tr.size_mk,Tr.sizeL_one];omega
theorem fit_s:Fit ts ts.length (sF ts):=jdq ht _
theorem jdr (h:AtOk ts p) (he:(ju ts p).2.err=0):((ju ts p).1.size:Int)+p.at_≤(ju ts p).2.at_:=by
 have h1:=jcs ht p h he
 have h2:(ju ts p).1.size=1:=by unfold ju;simp only [Tr.size_mk,Tr.sizeL]
 omega
theorem jds:∀ (n:Nat) (l:List Tr) (p:Ps),AtOk ts p→(qbw ts n l p).2.err=0→(Tr.sizeL (qbw ts n l p).1:Int)+p.at_≤Tr.sizeL l+(qbw ts n l p).2.at_
 | 0,l,p,_,_=>by rw [qbw];exact xi _
 | n+1,l,p,h,he=>by
  rw [qbw] at he ⊢
  split
  ·rename_i hs
   rw [zb hs] at he
   have h1:=qmd ht _ h
   have h2:=qoi ht n (l++[(ju ts p).1]) _ (h1.ok h)
   have h3:=jdr ht h (h2.err0 he)
   have h5:=jds n (l++[(ju ts p).1]) _ (h1.ok h) he
   rw [Tr.sizeL_snoc] at h5
   omega
  ·exact xi _
theorem jrs (h:AtOk ts p) (he:(qdx ts p).2.err=0):((qdx ts p).1.size:Int)+p.at_≤(qdx ts p).2.at_:=by
 have h0:=ql ht h qy
 unfold qdx at he ⊢
 simp only at he ⊢
 have h1:=h0.ok h
 have h3:=qar ht h1
 have h4:Step ts (must ts p qy) (if sees ts (qf ts (must ts p qy)) qfv=true then (numN ts (adv (qf ts (must ts p qy))),numP ts (adv (qf ts (must ts p qy)))) else (1,qf ts (must ts p qy))).2:=by
  split
  ·have h5:=h3.trans (qh ht (h3.ok h1) (by assumption))
   exact h5.trans (qbo ht (h5.ok h1))
  ·exact h3
 have h5:=h4.trans (ql ht (h4.ok h1) sLc)
 generalize (must ts (if sees ts (qf ts (must ts p qy)) qfv=true then (numN ts (adv (qf ts (must ts p qy))),numP ts (adv (qf ts (must ts p qy)))) else (1,qf ts (must ts p qy))).2 sLc)=R at he h5 ⊢
 have h6:=qoi ht ts.length [] R (h5.ok h1)
 have h7:=fun he=>jds ht ts.length [] R (h5.ok h1) he
 generalize qbw ts ts.length [] R=V at he h6 h7 ⊢
 have h8:=qda (h6.ok (h5.ok h1))
 have h9:=qjd (h6.ok (h5.ok h1)) (qha ht (qje ht) ts.length V.1 _ h8.1)
 have h10:=h7 (h9.err0 he)
 have hlo:=h8.1.lo
 have h11:=qwh ht (qje ht) (fit_s ht) ts.length V.1 _ h8.1 (by omega) he
 have h12:=(qhb (h5.err0 (h6.err0 (h9.err0 he)))).2
 have h13:=h5.le
 have e3:Tr.sizeL []=0:=rfl
 have e2:(outP (jk ts (sF ts) ts.length V.1 (inP ts V.2)).2).at_=(jk ts (sF ts) ts.length V.1 (inP ts V.2)).2.at_:=rfl
 simp only [Tr.size_mk]
 omega
theorem jrt (h:AtOk ts p) (he:(itemF ts p).2.err=0):((itemF ts p).1.size:Int)+p.at_≤(itemF ts p).2.at_:=by
 have hg:=jcv ht p h he
 unfold itemF at he hg ⊢
 simp only at he hg ⊢
 split
 ·rename_i hw
  rw [zb hw] at he
  exact jdr ht h he
 rename_i hw
 rw [za hw] at he hg
 split
 ·rename_i hw
  rw [zb hw] at he
  exact jrs ht h he
 rename_i hw
 rw [za hw] at he hg
 split
 ·rename_i hw
  rw [zb hw] at he hg
  simp only [Tr.size_mk,Tr.sizeL] at hg ⊢;omega
 rename_i hw
 rw [za hw] at he hg
 split
 ·rename_i hw
  rw [zb hw] at he
  have h1:=qh ht h hw
  have h2:=qbi ht _ (h1.ok h)
  have h3:=ql ht (h2.ok (h1.ok h)) qq
  have h4:=qkr ht (h1.ok h) (h3.err0 he)
  have h5:=h3.le
  have e1:(adv p).at_=p.at_+1:=rfl
  simp only [Tr.size_mk,Tr.sizeL_one];omega
 rename_i hw
 rw [za hw] at he hg
 simp only [Tr.size_mk,Tr.sizeL] at hg ⊢;omega
theorem jdt:∀ (n:Nat) (l:List Tr) (p:Ps),AtOk ts p→(qdy ts n l p).2.err=0→(Tr.sizeL (qdy ts n l p).1:Int)+p.at_≤Tr.sizeL l+(qdy ts n l p).2.at_
 | 0,l,p,_,_=>by rw [qdy];exact xi _
 | n+1,l,p,h,he=>by
  rw [qdy] at he ⊢
  split
  ·rename_i hs
   rw [zb hs] at he
   have h1:=qvq ht _ h
   have h2:=qvr ht n (l++[(itemF ts p).1]) _ (h1.ok h)
   have h3:=jrt ht h (h2.err0 he)
   have h5:=jdt n (l++[(itemF ts p).1]) _ (h1.ok h) he
   rw [Tr.sizeL_snoc] at h5
   omega
  ·exact xi _
theorem jru (h:AtOk ts p) (he:(qcz ts p).2.err=0):((qcz ts p).1.size:Int)≤1+ts.length:=by
 have h1:=jdt ht ts.length [] p h he
 have h2:=((qvr ht ts.length [] p h).ok h).hi
 have h3:=h.lo
 have e3:Tr.sizeL []=0:=rfl
 unfold qcz
 simp only [Tr.size_mk]
 omega
end
end Pa
end Go.Proofs.YtcfllgdfhfcicaaGreatDoor
end
section
namespace Go.Proofs.YtcfllgdfhfcicaaGreatDoor
namespace Pa
open Go Go.Sx
theorem jrv:∀ b:UInt8,Lx.digB b=true→48≤b.toNat∧b.toNat≤57:=by
 have h:∀ b:Fin 256,Lx.digB (UInt8.ofNat b)=true→48≤b.val∧b.val≤57:=by decide +kernel
 intro b hb
 have:=h ⟨b.toNat,b.toNat_lt⟩
 simp only [UInt8.ofNat_toNat] at this
 exact this hb
theorem jdu (p:UInt8→Bool):∀ l:List UInt8,∀ b∈l.take (Lx.spanN p l),p b=true
 | [],b,h=>by simp at h
 | x::r,b,h=>by
  rw [Lx.spanN] at h
  split at h
  ·rename_i hx
   rw [Nat.add_comm,List.take_succ_cons] at h
   rcases List.mem_cons.1 h with rfl|h
   ·exact hx
   ·exact jdu p r b h
  ·simp at h
theorem jrw (l:List UInt8):Lx.firstK l≠3:=by
 unfold Lx.firstK
 split
 ·decide
 ·split
  ·decide
  ·split <;> decide
theorem jrx {l:List UInt8} (h:Lx.firstK l=1) (h0:Lx.firstN l≠0):(l.take (Lx.firstN l)).length≤6∧∀ b∈l.take (Lx.firstN l),48≤b.toNat∧b.toNat≤57:=by
 cases l with
 | nil=>simp [Lx.firstK] at h
 | cons x r=>
  unfold Lx.firstK at h
  unfold Lx.firstN at h0 ⊢
  simp only at h h0 ⊢
  split at h
  ·simp at h
  ·rename_i h2
   rw [za h2] at h0 ⊢
   split at h
   ·rename_i h3
    rw [zb h3] at h0 ⊢
    split at h0
    ·exact absurd rfl h0
    ·rename_i h6
     rw [za h6]
     refine ⟨?_,fun b hb=>jrv b (jdu _ _ b hb)⟩
     rw [zw];omega
   ·simp at h
theorem jry:∀ (n:Nat) (l:List UInt8) (p:Nat) (ts:List Lx.Tok),l.length≤n→Lx.lexR l p=.ok ts→
  ∃ pre e,ts=pre++[⟨3,[],e⟩]∧(∀ t∈pre,t.kind≠3∧(t.kind=1→t.s.length≤6∧∀ b∈t.s,48≤b.toNat∧b.toNat≤57))∧pre.length≤l.length:=by
 intro n
 induction n with
 | zero=>
  intro l p ts hl h
  obtain rfl:l=[]:=List.length_eq_zero_iff.1 (by omega)
  rw [Lx.lexR_nil] at h
  cases h
  exact ⟨[],_,rfl,fun t ht=>by simp at ht,zk _⟩
 | succ n ih=>
  intro l p ts hl h
  cases l with
  | nil=>
   rw [Lx.lexR_nil] at h
   cases h
   exact ⟨[],_,rfl,fun t ht=>by simp at ht,zk _⟩
  | cons b r=>
   have hr:r.length≤n:=by simpa using hl
   rw [Lx.lexR_cons] at h
   split at h
   ·obtain ⟨pre,e,h1,h2,h3⟩:=ih r _ ts hr h
    exact ⟨pre,e,h1,h2,by simp;omega⟩
   split at h
   ·obtain ⟨pre,e,h1,h2,h3⟩:=ih (r.drop (Lx.lineN r)) _ ts (by rw [xf];omega) h
    exact ⟨pre,e,h1,h2,by rw [xf] at h3;simp;omega⟩
   split at h
   ·cases h
   ·rename_i h0
    cases hx:Lx.lexR (r.drop (Lx.firstN (b::r) - 1)) (p+Lx.firstN (b::r)) with
    | error e=>rw [hx] at h;cases h
    | ok ts'=>
     rw [hx] at h
     cases h
     obtain ⟨pre,e,h1,h2,h3⟩:=ih (r.drop (Lx.firstN (b::r) - 1)) _ ts' (by rw [xf];omega) hx
     refine ⟨⟨Lx.firstK (b::r),(b::r).take (Lx.firstN (b::r)),p⟩::pre,e,by rw [h1];rfl,fun t ht=>?_,by rw [xf] at h3;simp;omega⟩
     rcases List.mem_cons.1 ht with rfl|ht
     ·exact ⟨jrw (b::r),fun hk=>jrx (l:=b::r) hk h0⟩
     ·exact h2 t ht
theorem jrz {s:List UInt8} (h:(Lx.lexAll s).2.1=0):ToksOk (Lx.lexAll s).1∧0<(Lx.lexAll s).1.length:=by
 unfold Lx.lexAll at h ⊢
 split at h
 ·simp at h
 rename_i hs
 rw [za hs]
 split at h
 ·rename_i ts hts
  obtain ⟨pre,e,h1,h2,h3⟩:=jry _ s 0 ts (zk _) hts
  simp only
  subst h1
  refine ⟨⟨by simp;omega,fun i hi=>?_,fun t ht hk=>?_⟩,by simp⟩
  ·rw [List.getD_eq_getElem?_getD]
   by_cases hip:i<pre.length
   ·rw [zz hip,ze hip]
    have:=(h2 _ (zao hip)).1
    simp only [zae,zg,zq]
    constructor
    ·intro h;exact absurd h this
    ·intro h;omega
   ·have:i=pre.length:=by simp at hi;omega
    subst this
    rw [zt (zk _),xv]
    simp
  ·rcases List.mem_append.1 ht with ht|ht
   ·exact (h2 t ht).2 hk
   ·rw [zm] at ht
    subst ht
    simp at hk
 ·simp at h
end Pa
end Go.Proofs.YtcfllgdfhfcicaaGreatDoor
end
section
namespace Go.Proofs.YtcfllgdfhfcicaaGreatDoor
open List renaming getD_eq_getElem?_getD → zd
open Go Go.Sx Go.RowKit Go.St Pa
set_option maxRecDepth 100000
set_option maxHeartbeats 8000000
theorem jsa (s:List UInt8) (hs:s.length≤1000000):Con Tryz.prog 19 [.str s] (jpv (qod s)):=by
 refine zK {} 300 Tryz.func19 (fun c0 rdb=>?_)
 (repeat' ((conv=>whnf);first|refine zO ?_|refine Ob.auto ?_|refine zC 300 (jqi s hs) ?_|refine zD 300 ?_|(apply zB <;> intro hb <;> (try simp [-zd] at hb) <;> try (exfalso;omega))))
 ·have he:(Lx.lexAll s).2.1≠0:=by assumption
  have e:qod s=([],(Lx.lexAll s).2):=zb he
  rw [e]
  exact Le.tup ⟨Le.nils _ _,Le.refl _,trivial⟩
 have he:(Lx.lexAll s).2.1=0:=by assumption
 obtain ⟨ht,h0⟩:=jrz he
 have e:qod s=qoc (Lx.lexAll s).1:=za (by rw [he];decide)
 rw [e]
 generalize hts:(Lx.lexAll s).1=ts at ht h0 ⊢
 have hP:Pre ts ts.length ⟨0,0,0,0⟩:=⟨⟨xi _,by simp only;omega⟩,by simp,by simp⟩
 ((conv=>whnf);refine zT 300 [2] (jrb ht hP) qa ?_)
 (repeat' ((conv=>whnf);first|refine zO ?_|refine Ob.auto ?_|refine zD 300 ?_|(apply zB <;> intro hb <;> (try simp [-zd] at hb) <;> try (exfalso;omega))))
 ·have hn:(qcz ts ⟨0,0,0,0⟩).2.err≠0:=by assumption
  have e:qoc ts=([],((qcz ts ⟨0,0,0,0⟩).2.err,(qcz ts ⟨0,0,0,0⟩).2.fat)):=zb hn
  rw [e]
  exact Le.tup ⟨Le.nils _ _,Le.refl _,trivial⟩
 have hn:(qcz ts ⟨0,0,0,0⟩).2.err=0:=by assumption
 have hsz:(qcz ts ⟨0,0,0,0⟩).1.size≤100000:=by
  have:=jru ht hP.at_ hn
  have:=ht.len
  omega
 have e2:qoc ts=if 800<(layT 0 (qcz ts ⟨0,0,0,0⟩).1).length then ([],(12,0)) else if 0≤deepT (qcz ts ⟨0,0,0,0⟩).1 1 then ([],(12,deepT (qcz ts ⟨0,0,0,0⟩).1 1)) else (layT 0 (qcz ts ⟨0,0,0,0⟩).1,(0,0)):=za (fun h=>h hn)
 rw [e2]
 generalize (qcz ts ⟨0,0,0,0⟩).1=t at hsz ⊢
 (conv=>whnf)
 refine qcx (fun _=>rfl) 300 [] (jrk t hsz) (by kernel_rfl) leA trivial (by exact qb rfl) (rowsM _) (by kernel_rfl) ?_
 (repeat' ((conv=>whnf);first|refine Ob.auto ?_|refine zC 300 (jrd _ t 1 (zk _) hsz (by decide) (by decide)) ?_|(apply zB <;> intro hb <;> (try simp [-zd] at hb) <;> try (exfalso;omega))|refine Ob.intro ?_ ?_|fail))
 ·have hb8:800<(layT 0 t).length:=by omega
  rw [zb hb8]
  exact Le.tup ⟨Le.nils _ _,Le.refl _,trivial⟩
 ·have hb8:¬ 800<(layT 0 t).length:=by omega
  rw [za hb8,zb (by assumption)]
  exact Le.tup ⟨Le.nils _ _,Le.refl _,trivial⟩
 ·exact ⟨⟨trivial,⟨rfl,rfl⟩,fun k hk=>⟨trivial,trivial,trivial,⟨hk,⟨rfl,rfl⟩,trivial⟩,trivial,trivial⟩⟩,⟨trivial,trivial,trivial⟩,trivial⟩
 ·have hb8:¬ 800<(layT 0 t).length:=by omega
  rw [za hb8,za (by omega)]
  refine Le.tup ⟨Le.slcL rfl (fun k hk=>?_),Le.refl _,trivial⟩
  exact ⟨Le.refl _,Le.refl _,Le.refl _,Le.refl _,Le.refl _,trivial⟩
end Go.Proofs.YtcfllgdfhfcicaaGreatDoor
end
section
namespace Go.Proofs.YtcfllgdfhfcicaaGreatDoor
namespace Pa
open Go Go.Sx
def lexF:Nat→List UInt8→Nat→Except Nat (List Lx.Tok)
 | 0,_,p=>.error p
 | _+1,[],p=>.ok [⟨3,[],p⟩]
 | n+1,b::r,p=>if Lx.blankB b then lexF n r (p+1) else if Lx.slash2 (b::r) then lexF n (r.drop (Lx.lineN r)) (p+1+Lx.lineN r) else if Lx.firstN (b::r)=0 then .error p
  else (lexF n (r.drop (Lx.firstN (b::r) - 1)) (p+Lx.firstN (b::r))).map (⟨Lx.firstK (b::r),(b::r).take (Lx.firstN (b::r)),p⟩::·)
theorem qrs:∀ (n:Nat) (l:List UInt8) (p:Nat),l.length<n→lexF n l p=Lx.lexR l p
 | 0,_,_,h=>absurd h (zh _)
 | n+1,[],p,_=>by rw [Lx.lexR_nil];rfl
 | n+1,b::r,p,h=>by
  have hr:r.length<n:=by simpa using h
  rw [Lx.lexR_cons,lexF,qrs n r _ hr,qrs n (r.drop (Lx.lineN r)) _ (by rw [xf];omega),qrs n (r.drop (Lx.firstN (b::r) - 1)) _ (by rw [xf];omega)]
def qwi (s:List UInt8):List Nd × (Int × Int):=
 match lexF (s.length+1) s 0 with
 | .ok ts=>qoc ts
 | .error p=>([],(10,p))
theorem jsb {s:List UInt8} {r:List Nd × (Int × Int)} (h:qwi s=r) (hs:s.length≤4000):qod s=r:=by
 unfold qwi at h
 rw [qrs _ _ _ (zba _)] at h
 have hn:¬ 4000<s.length:=by omega
 unfold qod Lx.lexAll
 split at h
 ·rename_i ts hts
  rw [hts,za hn]
  exact h
 ·rename_i p hp
  rw [hp,za hn]
  exact h
end Pa
end Go.Proofs.YtcfllgdfhfcicaaGreatDoor
end
