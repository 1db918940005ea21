/- Some texts of the library, one behind the other. -/
import Derived.Test.YtikahnkkfkoglaaGreatDoorY128
import Derived.Test.YtikahnkkfkoglaaGreatDoorY1Pa2
import Derived.Test.YtikahnkkfkoglaaGreatDoorY12
set_option linter.unusedSimpArgs false
set_option linter.unusedVariables false
section
namespace Go.Proofs.YtikahnkkfkoglaaGreatDoor
namespace Pa
open Go Go.Sx
theorem Tr.size_mk (k:Int) (w:List (List UInt8)) (ns:List Int) (a:Int) (l:List Tr):(Tr.mk k w ns a l).size=1+Tr.sizeL l:=by rw [Tr.size]
theorem Tr.sizeL_snoc:∀ (l:List Tr) (t:Tr),Tr.sizeL (l++[t])=Tr.sizeL l+t.size
 | [],t=>by simp [Tr.sizeL]
 | x::r,t=>by rw [zak,Tr.sizeL,Tr.sizeL_snoc r t,Tr.sizeL];omega
theorem Tr.sizeL_one (t:Tr):Tr.sizeL [t]=t.size:=by simp [Tr.sizeL]
theorem Tr.sizeL_two (t u:Tr):Tr.sizeL [t,u]=t.size+u.size:=by simp [Tr.sizeL]
theorem Tr.sizeL_three (t u v:Tr):Tr.sizeL [t,u,v]=t.size+(u.size+v.size):=by simp [Tr.sizeL]
theorem jez (sg:Int) (a b:Tr):(binT sg a b).size=1+(a.size+b.size):=by unfold binT;rw [Tr.size_mk,Tr.sizeL_two]
abbrev Fit (ts:List Lx.Tok) (n:Nat) (f:Ps→Tr × Ps):Prop:=∀ p,AtOk ts p→(ts.length:Int)≤p.at_+n→(f p).2.err=0→((f p).1.size:Int)+p.at_≤(f p).2.at_
section
variable {ts:List Lx.Tok} {p q r:Ps} {m:Nat}
variable (ht:ToksOk ts)
include ht
theorem jfa {f:Ps→Tr × Ps} (hf:Runs ts f) (hF:Fit ts m f) {c:Ps→Bool} {sg:Ps→Int} (hc:∀ p,c p=true→∃ s,sees ts p s=true) :
  ∀ (n:Nat) (a:Tr) (p:Ps),AtOk ts p→(ts.length:Int)≤p.at_+m→(qau f c sg n a p).2.err=0→((qau f c sg n a p).1.size:Int)+p.at_≤a.size+(qau f c sg n a p).2.at_
 | 0,a,p,_,_,_=>by rw [qau];exact zw _
 | n+1,a,p,h,hl,he=>by
  rw [qau] at he ⊢
  split
  ·rename_i hcp
   rw [zb hcp] at he
   obtain ⟨s,hs⟩:=hc p hcp
   have h1:=qh ht h hs
   have h2:=hf _ (h1.ok h)
   have h3:=qkf ht hf hc (sg:=sg) n (binT (sg p) a (f (adv p)).1) _ (h2.ok (h1.ok h))
   have e1:(adv p).at_=p.at_+1:=rfl
   have h4:=hF _ (h1.ok h) (by omega) (h3.err0 he)
   have h6:=h2.le
   have h5:=jfa hf hF hc (sg:=sg) n (binT (sg p) a (f (adv p)).1) _ (h2.ok (h1.ok h)) (by omega) he
   rw [jez] at h5
   omega
  ·exact zw _
theorem qsj {f:Ps→Tr × Ps} (hf:Runs ts f) (hF:Fit ts m f) {c:Ps→Bool} {sg:Ps→Int} (hc:∀ p,c p=true→∃ s,sees ts p s=true) (n:Nat) :
  Fit ts m (fun p=>qau f c sg n (f p).1 (f p).2):=fun p h hl he=>by
 have h1:=hf p h
 have h2:=qkf ht hf hc (sg:=sg) n (f p).1 _ (h1.ok h)
 have h3:=hF p h hl (h2.err0 he)
 have h4:=h1.le
 have h5:=jfa ht hf hF hc (sg:=sg) n (f p).1 _ (h1.ok h) (by omega) he
 simp only at h5 ⊢
 omega
theorem jfb {f:Ps→Tr × Ps} (hf:Runs ts f) (hF:Fit ts m f) (s:List UInt8) (sg:Int):Fit ts m (qlu ts f s sg):=fun p h hl he=>by
 have h1:=hf p h
 unfold qlu at he ⊢
 split
 ·rename_i hs
  rw [zb hs] at he
  have h2:=qh ht (h1.ok h) hs
  have h3:=hf _ (h2.ok (h1.ok h))
  have e1:(adv (f p).2).at_=(f p).2.at_+1:=rfl
  have h4:=hF p h hl (h2.err0 (h3.err0 he))
  have h5:=h1.le
  have h6:=hF _ (h2.ok (h1.ok h)) (by omega) he
  simp only
  rw [jez]
  omega
 ·rename_i hs
  rw [za hs] at he
  exact hF p h hl he
section
variable {part:Ps→Tr × Ps} (hp:Runs ts part) (hP:Fit ts m part)
include hp hP
theorem jsk:Fit ts m (qci ts part):=qsj ht hp hP (fun _=>jdw) _
theorem jsl:Fit ts m (sumF ts part):=qsj ht (qos ht hp) (jsk ht hp hP) (fun _=>jdx) _
theorem jsm:Fit ts m (qcd ts part):=jfb ht (qwk ht hp) (jsl ht hp hP) _ _
theorem jsn:Fit ts m (qdm ts part):=jfb ht (qwl ht hp) (jsm ht hp hP) _ _
theorem jso:Fit ts m (andF ts part):=qsj ht (qot ht hp) (jsn ht hp hP) (fun _ h=>⟨_,h⟩) _
theorem jfc:Fit ts m (qea ts part):=qsj ht (qou ht hp) (jso ht hp hP) (fun _ h=>⟨_,h⟩) _
end
theorem qxc:∀ n,Fit ts n (qap ts n)
 | 0=>fun p h hl _=>by have:=h.hi;omega
 | n+1=>fun p h hl he=>by
  unfold qap at he ⊢
  simp only at he ⊢
  split
  ·rename_i hs
   rw [zb hs] at he
   have:=jrq he
   simp only [Tr.size_mk,Tr.sizeL] at this ⊢
   omega
  rename_i hs
  rw [za hs] at he
  split
  ·rename_i hs
   rw [zb hs] at he
   have:=qsh he
   have e1:(adv p).at_=p.at_+1:=rfl
   simp only [Tr.size_mk,Tr.sizeL] at this ⊢
   omega
  rename_i hs
  rw [za hs] at he
  split
  ·rename_i hs
   rw [zb hs] at he
   have h1:Step ts p (adv p):=by rcases hs with hs|hs <;> exact qh ht h hs
   have h2:=qct (h1.ok h)
   have e1:(adv p).at_=p.at_+1:=rfl
   have h3:=qfu ht n _ h2.1
   simp only [Tr.size_mk]
   have he':(ifOk (qap ts n) (inP ts (adv p))).2.err=0:=he
   unfold ifOk at he' ⊢
   split
   ·rename_i hi
    rw [zb hi] at he'
    have h4:=qxc n _ h2.1 (by omega) he'
    simp only [Tr.sizeL_one]
    have e2:(outP (qap ts n (inP ts (adv p))).2).at_=(qap ts n (inP ts (adv p))).2.at_:=rfl
    omega
   ·simp only [Tr.sizeL]
    have e2:(outP (inP ts (adv p))).at_=(inP ts (adv p)).at_:=rfl
    omega
  rename_i hs
  rw [za hs] at he
  split
  ·rename_i hs
   rw [zb hs] at he
   have h1:=qh ht h hs
   have h2:=qct (h1.ok h)
   have e1:(adv p).at_=p.at_+1:=rfl
   have h3:Step ts (adv p) (outP (if (inP ts (adv p)).err=0 then (qea ts (qap ts n) (inP ts (adv p))).2 else inP ts (adv p))):=by
    refine qiu (h1.ok h) ?_
    split
    ·exact qsd ht (qfu ht n) _ h2.1
    ·exact h2.1.refl
   have h4:=qk ht (h3.ok (h1.ok h)) sRp
   have h5:=h4.err0 he
   have h6:=h4.le
   split
   ·rename_i hi
    rw [zb hi] at h5 h6
    have h7:=jfc ht (qfu ht n) (qxc n) _ h2.1 (by omega) h5
    have e2:(outP (qea ts (qap ts n) (inP ts (adv p))).2).at_=(qea ts (qap ts n) (inP ts (adv p))).2.at_:=rfl
    simp only at h6 ⊢
    omega
   ·rename_i hi
    rw [za hi] at h5
    exact absurd h5 hi
  ·rename_i hs
   rw [za hs] at he
   have:=qsh he
   simp only [Tr.size_mk,Tr.sizeL] at this ⊢
   omega
theorem qkk (h:AtOk ts p) (he:(eF ts p).2.err=0):((eF ts p).1.size:Int)+p.at_≤(eF ts p).2.at_:=
 jfc ht (qfu ht _) (qxc ht _) p h (by have:=h.lo;omega) he
theorem qxd {stat:Ps→Tr × Ps} (hs:Runs ts stat) (hS:Fit ts m stat):∀ (n:Nat) (l:List Tr) (p:Ps),AtOk ts p→(ts.length:Int)≤p.at_+m→(jh ts stat n l p).2.err=0→(Tr.sizeL (jh ts stat n l p).1:Int)+p.at_≤Tr.sizeL l+(jh ts stat n l p).2.at_
 | 0,l,p,_,_,_=>by rw [jh];exact zw _
 | n+1,l,p,h,hl,he=>by
  rw [jh] at he ⊢
  by_cases h0:p.err=0
  ·rw [zb h0] at he ⊢
   by_cases hb:sees ts p sRc=true
   ·rw [zb hb]
    have e1:(adv p).at_=p.at_+1:=rfl
    simp only;omega
   ·rw [za hb] at he ⊢
    have h1:=hs p h
    have h2:=qgp ht hs n (l++[(stat p).1]) _ (h1.ok h)
    have h3:=hS p h hl (h2.err0 he)
    have h4:=h1.le
    have h5:=qxd hs hS n (l++[(stat p).1]) _ (h1.ok h) (by omega) he
    rw [Tr.sizeL_snoc] at h5
    omega
  ·rw [za h0]
   exact zw _
theorem jsp {stat:Ps→Tr × Ps} (hs:Runs ts stat) (hS:Fit ts m stat) (h:AtOk ts p) (hl:(ts.length:Int)≤p.at_+m+1) (he:(qr ts stat p).2.err=0):((qr ts stat p).1.size:Int)+p.at_≤(qr ts stat p).2.at_:=by
 have h1:=qk ht h sLc
 have h0:=qct (h1.ok h)
 have h2:=qiu (h1.ok h) (qgp ht hs ts.length [] _ h0.1)
 have h3:=(qgq (h2.err0 he)).2
 have h4:=qxd ht hs hS ts.length [] _ h0.1 (by omega) he
 unfold qr
 simp only [Tr.size_mk]
 have e2:(outP (jh ts stat ts.length [] (inP ts (must ts p sLc))).2).at_=(jh ts stat ts.length [] (inP ts (must ts p sLc))).2.at_:=rfl
 have e3:Tr.sizeL []=0:=rfl
 omega
theorem jfd {blk:Ps→Tr × Ps} (hb:Runs ts blk) (hB:Fit ts m blk):∀ (n:Nat) (l:List Tr) (p:Ps),AtOk ts p→(ts.length:Int)≤p.at_+m→(orL ts blk n l p).2.err=0→(Tr.sizeL (orL ts blk n l p).1:Int)+p.at_≤Tr.sizeL l+(orL ts blk n l p).2.at_
 | 0,l,p,_,_,_=>by rw [orL];exact zw _
 | n+1,l,p,h,hl,he=>by
  rw [orL] at he ⊢
  split
  ·rename_i hs
   rw [zb hs] at he
   have h1:=qh ht h hs
   have h2:=hb _ (h1.ok h)
   have h3:=qov ht hb n (l++[(blk (adv p)).1]) _ (h2.ok (h1.ok h))
   have e1:(adv p).at_=p.at_+1:=rfl
   have h4:=hB _ (h1.ok h) (by omega) (h3.err0 he)
   have h6:=h2.le
   have h5:=jfd hb hB n (l++[(blk (adv p)).1]) _ (h2.ok (h1.ok h)) (by omega) he
   rw [Tr.sizeL_snoc] at h5
   omega
  ·exact zw _
theorem jsq {blk:Ps→Tr × Ps} (hb:Runs ts blk) (hB:Fit ts m blk) (a i:Int):Fit ts m (qdn ts blk a i):=fun p h hl he=>by
 unfold qdn at he ⊢
 split
 ·rename_i hs
  rw [zb hs] at he
  have h1:=qh ht h hs
  have h2:=qar ht (h1.ok h)
  have h3:=qar ht (h2.ok (h1.ok h))
  have h4:=h2.trans (h3.trans (qk ht (h3.ok (h2.ok (h1.ok h))) qq))
  have:p.at_+1≤_:=h4.le
  simp only [Tr.size_mk,Tr.sizeL];omega
 ·rename_i hs
  rw [za hs] at he
  split
  ·rename_i hw
   rw [zb hw] at he
   have h1:=qh ht h hw
   have h2:=qbj ht _ (h1.ok h)
   have h4:=qk ht (h2.ok (h1.ok h)) qq
   have h5:=qkk ht (h1.ok h) (h4.err0 he)
   have h6:=h4.le
   have e1:(adv p).at_=p.at_+1:=rfl
   simp only [Tr.size_mk,Tr.sizeL_one];omega
  ·rename_i hw
   rw [za hw] at he
   have h1:=qk ht h je
   have h2:=hb _ (h1.ok h)
   have h3:=qov ht hb ts.length [(blk (must ts p je)).1] _ (h2.ok (h1.ok h))
   have h4:=(qgq (h2.err0 (h3.err0 he))).2
   have h5:=hB _ (h1.ok h) (by omega) (h3.err0 he)
   have h7:=h2.le
   have h6:=jfd ht hb hB ts.length [(blk (must ts p je)).1] _ (h2.ok (h1.ok h)) (by omega) he
   rw [Tr.sizeL_one] at h6
   simp only [Tr.size_mk] at h6 ⊢;omega
theorem jfe:∀ n,Fit ts n (qd ts n)
 | 0=>fun p h hl _=>by have:=h.hi;omega
 | n+1=>fun p h hl he=>by
  have hb:=qse ht (qkg ht n)
  have hB:∀ q,AtOk ts q→(ts.length:Int)≤q.at_+n+1→(qr ts (qd ts n) q).2.err=0→((qr ts (qd ts n) q).1.size:Int)+q.at_≤(qr ts (qd ts n) q).2.at_:=fun q hq hlq heq=>jsp ht (qkg ht n) (jfe n) hq hlq heq
  unfold qd at he ⊢
  simp only at he ⊢
  split
  ·rename_i hw
   rw [zb hw] at he
   have h1:=qhp ht h qdy
   have h2:=h1.le
   have:=jsq ht hb (m:=n+1) (fun q hq hlq heq=>hB q hq (by omega) heq) _ _ _ (h1.ok h) (by omega) he
   omega
  rename_i hw
  rw [za hw] at he
  split
  ·rename_i hw
   rw [zb hw] at he
   have h1:=qh ht h hw
   have h2:=qar ht (h1.ok h)
   have h3:=qbj ht _ (h2.ok (h1.ok h))
   have h4:=qk ht (h3.ok (h2.ok (h1.ok h))) qq
   have h5:=qkk ht (h2.ok (h1.ok h)) (h4.err0 he)
   have h6:=h4.le
   have h7:p.at_+1≤_:=h2.le
   simp only [Tr.size_mk,Tr.sizeL_one];omega
  rename_i hw
  rw [za hw] at he
  split
  ·rename_i hw
   rw [zb hw] at he
   have h1:=qh ht h hw
   have h2:=qbj ht _ (h1.ok h)
   have h3:=hb _ (h2.ok (h1.ok h))
   have e1:(adv p).at_=p.at_+1:=rfl
   have hl2:=h2.le
   have hl3:=h3.le
   split
   ·rename_i hx
    rw [zb hx] at he
    have h5:=qh ht (h3.ok (h2.ok (h1.ok h))) hx
    have h6:=hb _ (h5.ok (h3.ok (h2.ok (h1.ok h))))
    have h7:=h5.err0 (h6.err0 he)
    have h8:=qkk ht (h1.ok h) (h3.err0 h7)
    have h9:=hB _ (h2.ok (h1.ok h)) (by omega) h7
    have e2:(adv (qr ts (qd ts n) (eF ts (adv p)).2).2).at_=(qr ts (qd ts n) (eF ts (adv p)).2).2.at_+1:=rfl
    have h10:=hB _ (h5.ok (h3.ok (h2.ok (h1.ok h)))) (by omega) he
    simp only [Tr.size_mk,Tr.sizeL_three];omega
   ·rename_i hx
    rw [za hx] at he
    have h8:=qkk ht (h1.ok h) (h3.err0 he)
    have h9:=hB _ (h2.ok (h1.ok h)) (by omega) he
    simp only [Tr.size_mk,Tr.sizeL_two];omega
  rename_i hw
  rw [za hw] at he
  split
  ·rename_i hw
   rw [zb hw] at he
   have h1:=qh ht h hw
   have h2:=qbj ht _ (h1.ok h)
   have h3:=hb _ (h2.ok (h1.ok h))
   have e1:(adv p).at_=p.at_+1:=rfl
   have hl2:=h2.le
   have h8:=qkk ht (h1.ok h) (h3.err0 he)
   have h9:=hB _ (h2.ok (h1.ok h)) (by omega) he
   simp only [Tr.size_mk,Tr.sizeL_two];omega
  rename_i hw
  rw [za hw] at he
  split
  ·rename_i hw
   rw [zb hw] at he
   have h1:=qh ht h hw
   have e1:(adv p).at_=p.at_+1:=rfl
   have h9:=hB _ (h1.ok h) (by omega) he
   simp only [Tr.size_mk,Tr.sizeL_one];omega
  rename_i hw
  rw [za hw] at he
  split
  ·have h1:=qh ht h (by assumption)
   have h4:p.at_+1≤_:=(qk ht (h1.ok h) qq).le
   simp only [Tr.size_mk,Tr.sizeL];omega
  rename_i hw
  rw [za hw] at he
  split
  ·have h1:=qh ht h (by assumption)
   have h4:p.at_+1≤_:=(qk ht (h1.ok h) qq).le
   simp only [Tr.size_mk,Tr.sizeL];omega
  rename_i hw
  rw [za hw] at he
  have h1:=qar ht h
  have h2:=qk ht (h1.ok h) sEq
  have h3:=qbj ht _ (h2.ok (h1.ok h))
  have h4:=qk ht (h3.ok (h2.ok (h1.ok h))) qq
  have h5:=qsh (h2.err0 (h3.err0 (h4.err0 he)))
  have h6:=h4.le
  have h7:=h2.le
  have h8:=qkk ht (h2.ok (h1.ok h)) (h4.err0 he)
  simp only [Tr.size_mk,Tr.sizeL_one];omega
theorem fit_s:Fit ts ts.length (sF ts):=jfe ht _
theorem jff (h:AtOk ts p) (he:(ju ts p).2.err=0):((ju ts p).1.size:Int)+p.at_≤(ju ts p).2.at_:=by
 have h1:=jej ht p h he
 have h2:(ju ts p).1.size=1:=by unfold ju;simp only [Tr.size_mk,Tr.sizeL]
 omega
theorem jfg:∀ (n:Nat) (l:List Tr) (p:Ps),AtOk ts p→(qbu ts n l p).2.err=0→(Tr.sizeL (qbu ts n l p).1:Int)+p.at_≤Tr.sizeL l+(qbu ts n l p).2.at_
 | 0,l,p,_,_=>by rw [qbu];exact zw _
 | n+1,l,p,h,he=>by
  rw [qbu] at he ⊢
  split
  ·rename_i hs
   rw [zb hs] at he
   have h1:=qlw ht _ h
   have h2:=qow ht n (l++[(ju ts p).1]) _ (h1.ok h)
   have h3:=jff ht h (h2.err0 he)
   have h5:=jfg n (l++[(ju ts p).1]) _ (h1.ok h) he
   rw [Tr.sizeL_snoc] at h5
   omega
  ·exact zw _
theorem jsr (h:AtOk ts p) (he:(qdo ts p).2.err=0):((qdo ts p).1.size:Int)+p.at_≤(qdo ts p).2.at_:=by
 have h0:=qk ht h qy
 unfold qdo at he ⊢
 simp only at he ⊢
 have h1:=h0.ok h
 have h3:=qar ht h1
 have h4:Step ts (must ts p qy) (if sees ts (qf ts (must ts p qy)) qft=true then (numN ts (adv (qf ts (must ts p qy))),numP ts (adv (qf ts (must ts p qy)))) else (1,qf ts (must ts p qy))).2:=by
  split
  ·have h5:=h3.trans (qh ht (h3.ok h1) (by assumption))
   exact h5.trans (qbm ht (h5.ok h1))
  ·exact h3
 have h5:=h4.trans (qk ht (h4.ok h1) sLc)
 generalize (must ts (if sees ts (qf ts (must ts p qy)) qft=true then (numN ts (adv (qf ts (must ts p qy))),numP ts (adv (qf ts (must ts p qy)))) else (1,qf ts (must ts p qy))).2 sLc)=R at he h5 ⊢
 have h6:=qow ht ts.length [] R (h5.ok h1)
 have h7:=fun he=>jfg ht ts.length [] R (h5.ok h1) he
 generalize qbu ts ts.length [] R=V at he h6 h7 ⊢
 have h8:=qct (h6.ok (h5.ok h1))
 have h9:=qiu (h6.ok (h5.ok h1)) (qgp ht (qiv ht) ts.length V.1 _ h8.1)
 have h10:=h7 (h9.err0 he)
 have hlo:=h8.1.lo
 have h11:=qxd ht (qiv ht) (fit_s ht) ts.length V.1 _ h8.1 (by omega) he
 have h12:=(qgq (h5.err0 (h6.err0 (h9.err0 he)))).2
 have h13:=h5.le
 have e3:Tr.sizeL []=0:=rfl
 have e2:(outP (jh ts (sF ts) ts.length V.1 (inP ts V.2)).2).at_=(jh ts (sF ts) ts.length V.1 (inP ts V.2)).2.at_:=rfl
 simp only [Tr.size_mk]
 omega
theorem jss (h:AtOk ts p) (he:(itemF ts p).2.err=0):((itemF ts p).1.size:Int)+p.at_≤(itemF ts p).2.at_:=by
 have hg:=jem ht p h he
 unfold itemF at he hg ⊢
 simp only at he hg ⊢
 split
 ·rename_i hw
  rw [zb hw] at he
  exact jff ht h he
 rename_i hw
 rw [za hw] at he hg
 split
 ·rename_i hw
  rw [zb hw] at he
  exact jsr ht h he
 rename_i hw
 rw [za hw] at he hg
 split
 ·rename_i hw
  rw [zb hw] at he hg
  simp only [Tr.size_mk,Tr.sizeL] at hg ⊢;omega
 rename_i hw
 rw [za hw] at he hg
 split
 ·rename_i hw
  rw [zb hw] at he
  have h1:=qh ht h hw
  have h2:=qbj ht _ (h1.ok h)
  have h3:=qk ht (h2.ok (h1.ok h)) qq
  have h4:=qkk ht (h1.ok h) (h3.err0 he)
  have h5:=h3.le
  have e1:(adv p).at_=p.at_+1:=rfl
  simp only [Tr.size_mk,Tr.sizeL_one];omega
 rename_i hw
 rw [za hw] at he hg
 simp only [Tr.size_mk,Tr.sizeL] at hg ⊢;omega
theorem jfh:∀ (n:Nat) (l:List Tr) (p:Ps),AtOk ts p→(qdp ts n l p).2.err=0→(Tr.sizeL (qdp ts n l p).1:Int)+p.at_≤Tr.sizeL l+(qdp ts n l p).2.at_
 | 0,l,p,_,_=>by rw [qdp];exact zw _
 | n+1,l,p,h,he=>by
  rw [qdp] at he ⊢
  split
  ·rename_i hs
   rw [zb hs] at he
   have h1:=qwm ht _ h
   have h2:=qwn ht n (l++[(itemF ts p).1]) _ (h1.ok h)
   have h3:=jss ht h (h2.err0 he)
   have h5:=jfh n (l++[(itemF ts p).1]) _ (h1.ok h) he
   rw [Tr.sizeL_snoc] at h5
   omega
  ·exact zw _
theorem jst (h:AtOk ts p) (he:(qcs ts p).2.err=0):((qcs ts p).1.size:Int)≤1+ts.length:=by
 have h1:=jfh ht ts.length [] p h he
 have h2:=((qwn ht ts.length [] p h).ok h).hi
 have h3:=h.lo
 have e3:Tr.sizeL []=0:=rfl
 unfold qcs
 simp only [Tr.size_mk]
 omega
end
end Pa
end Go.Proofs.YtikahnkkfkoglaaGreatDoor
end
section
namespace Go.Proofs.YtikahnkkfkoglaaGreatDoor
namespace Pa
open Go Go.Sx
theorem jsu:∀ b:UInt8,Lx.digB b=true→48≤b.toNat∧b.toNat≤57:=by
 have h:∀ b:Fin 256,Lx.digB (UInt8.ofNat b)=true→48≤b.val∧b.val≤57:=by decide +kernel
 intro b hb
 have:=h ⟨b.toNat,b.toNat_lt⟩
 simp only [UInt8.ofNat_toNat] at this
 exact this hb
theorem jfi (p:UInt8→Bool):∀ l:List UInt8,∀ b∈l.take (Lx.spanN p l),p b=true
 | [],b,h=>by simp at h
 | x::r,b,h=>by
  rw [Lx.spanN] at h
  split at h
  ·rename_i hx
   rw [Nat.add_comm,List.take_succ_cons] at h
   rcases List.mem_cons.1 h with rfl|h
   ·exact hx
   ·exact jfi p r b h
  ·simp at h
theorem jsv (l:List UInt8):Lx.firstK l≠3:=by
 unfold Lx.firstK
 split
 ·decide
 ·split
  ·decide
  ·split <;> decide
theorem jsw {l:List UInt8} (h:Lx.firstK l=1) (h0:Lx.firstN l≠0):(l.take (Lx.firstN l)).length≤6∧∀ b∈l.take (Lx.firstN l),48≤b.toNat∧b.toNat≤57:=by
 cases l with
 | nil=>simp [Lx.firstK] at h
 | cons x r=>
  unfold Lx.firstK at h
  unfold Lx.firstN at h0 ⊢
  simp only at h h0 ⊢
  split at h
  ·simp at h
  ·rename_i h2
   rw [za h2] at h0 ⊢
   split at h
   ·rename_i h3
    rw [zb h3] at h0 ⊢
    split at h0
    ·exact absurd rfl h0
    ·rename_i h6
     rw [za h6]
     refine ⟨?_,fun b hb=>jsu b (jfi _ _ b hb)⟩
     rw [xa];omega
   ·simp at h
theorem jsx:∀ (n:Nat) (l:List UInt8) (p:Nat) (ts:List Lx.Tok),l.length≤n→Lx.lexR l p=.ok ts→
  ∃ pre e,ts=pre++[⟨3,[],e⟩]∧(∀ t∈pre,t.kind≠3∧(t.kind=1→t.s.length≤6∧∀ b∈t.s,48≤b.toNat∧b.toNat≤57))∧pre.length≤l.length:=by
 intro n
 induction n with
 | zero=>
  intro l p ts hl h
  obtain rfl:l=[]:=List.length_eq_zero_iff.1 (by omega)
  rw [Lx.lexR_nil] at h
  cases h
  exact ⟨[],_,rfl,fun t ht=>by simp at ht,zi _⟩
 | succ n ih=>
  intro l p ts hl h
  cases l with
  | nil=>
   rw [Lx.lexR_nil] at h
   cases h
   exact ⟨[],_,rfl,fun t ht=>by simp at ht,zi _⟩
  | cons b r=>
   have hr:r.length≤n:=by simpa using hl
   rw [Lx.lexR_cons] at h
   split at h
   ·obtain ⟨pre,e,h1,h2,h3⟩:=ih r _ ts hr h
    exact ⟨pre,e,h1,h2,by simp;omega⟩
   split at h
   ·obtain ⟨pre,e,h1,h2,h3⟩:=ih (r.drop (Lx.lineN r)) _ ts (by rw [xg];omega) h
    exact ⟨pre,e,h1,h2,by rw [xg] at h3;simp;omega⟩
   split at h
   ·cases h
   ·rename_i h0
    cases hx:Lx.lexR (r.drop (Lx.firstN (b::r) - 1)) (p+Lx.firstN (b::r)) with
    | error e=>rw [hx] at h;cases h
    | ok ts'=>
     rw [hx] at h
     cases h
     obtain ⟨pre,e,h1,h2,h3⟩:=ih (r.drop (Lx.firstN (b::r) - 1)) _ ts' (by rw [xg];omega) hx
     refine ⟨⟨Lx.firstK (b::r),(b::r).take (Lx.firstN (b::r)),p⟩::pre,e,by rw [h1];rfl,fun t ht=>?_,by rw [xg] at h3;simp;omega⟩
     rcases List.mem_cons.1 ht with rfl|ht
     ·exact ⟨jsv (b::r),fun hk=>jsw (l:=b::r) hk h0⟩
     ·exact h2 t ht
theorem jsy {s:List UInt8} (h:(Lx.lexAll s).2.1=0):ToksOk (Lx.lexAll s).1∧0<(Lx.lexAll s).1.length:=by
 unfold Lx.lexAll at h ⊢
 split at h
 ·simp at h
 rename_i hs
 rw [za hs]
 split at h
 ·rename_i ts hts
  obtain ⟨pre,e,h1,h2,h3⟩:=jsx _ s 0 ts (zi _) hts
  simp only
  subst h1
  refine ⟨⟨by simp;omega,fun i hi=>?_,fun t ht hk=>?_⟩,by simp⟩
  ·rw [List.getD_eq_getElem?_getD]
   by_cases hip:i<pre.length
   ·rw [zr hip,ze hip]
    have:=(h2 _ (xt hip)).1
    simp only [zaj,zg,xf]
    constructor
    ·intro h;exact absurd h this
    ·intro h;omega
   ·have:i=pre.length:=by simp at hi;omega
    subst this
    rw [zp (zi _),zar]
    simp
  ·rcases List.mem_append.1 ht with ht|ht
   ·exact (h2 t ht).2 hk
   ·rw [zq] at ht
    subst ht
    simp at hk
 ·simp at h
end Pa
end Go.Proofs.YtikahnkkfkoglaaGreatDoor
end
