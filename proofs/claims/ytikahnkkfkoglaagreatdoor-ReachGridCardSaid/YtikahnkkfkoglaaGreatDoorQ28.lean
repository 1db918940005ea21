/- Some texts of the library, one behind the other. -/
import Derived.Test.YtikahnkkfkoglaaGreatDoorQ22
import Derived.Test.YtikahnkkfkoglaaGreatDoorQ18
import Derived.Test.YtikahnkkfkoglaaGreatDoorQ2
set_option linter.unusedSimpArgs false
set_option linter.unusedVariables false
section
namespace Go.Proofs.YtikahnkkfkoglaaGreatDoor
namespace Pa
open Go Go.Sx
theorem Tr.size_mk (k:Int) (w:List (List UInt8)) (ns:List Int) (a:Int) (l:List Tr):(Tr.mk k w ns a l).size=1+Tr.sizeL l:=by rw [Tr.size]
theorem Tr.sizeL_snoc:∀ (l:List Tr) (t:Tr),Tr.sizeL (l++[t])=Tr.sizeL l+t.size
 | [],t=>by simp [Tr.sizeL]
 | x::r,t=>by rw [zag,Tr.sizeL,Tr.sizeL_snoc r t,Tr.sizeL];omega
theorem Tr.sizeL_one (t:Tr):Tr.sizeL [t]=t.size:=by simp [Tr.sizeL]
theorem Tr.sizeL_two (t u:Tr):Tr.sizeL [t,u]=t.size+u.size:=by simp [Tr.sizeL]
theorem Tr.sizeL_three (t u v:Tr):Tr.sizeL [t,u,v]=t.size+(u.size+v.size):=by simp [Tr.sizeL]
theorem jgr (sg:Int) (a b:Tr):(binT sg a b).size=1+(a.size+b.size):=by unfold binT;rw [Tr.size_mk,Tr.sizeL_two]
abbrev Fit (ts:List Lx.Tok) (n:Nat) (f:Ps→Tr × Ps):Prop:=∀ p,AtOk ts p→(ts.length:Int)≤p.at_+n→(f p).2.err=0→((f p).1.size:Int)+p.at_≤(f p).2.at_
section
variable {ts:List Lx.Tok} {p q r:Ps} {m:Nat}
variable (ht:ToksOk ts)
include ht
theorem jgs {f:Ps→Tr × Ps} (hf:Runs ts f) (hF:Fit ts m f) {c:Ps→Bool} {sg:Ps→Int} (hc:∀ p,c p=true→∃ s,sees ts p s=true) :
  ∀ (n:Nat) (a:Tr) (p:Ps),AtOk ts p→(ts.length:Int)≤p.at_+m→(qat f c sg n a p).2.err=0→((qat f c sg n a p).1.size:Int)+p.at_≤a.size+(qat f c sg n a p).2.at_
 | 0,a,p,_,_,_=>by rw [qat];exact xa _
 | n+1,a,p,h,hl,he=>by
  rw [qat] at he ⊢
  split
  ·rename_i hcp
   rw [zb hcp] at he
   obtain ⟨s,hs⟩:=hc p hcp
   have h1:=qh ht h hs
   have h2:=hf _ (h1.ok h)
   have h3:=qkm ht hf hc (sg:=sg) n (binT (sg p) a (f (adv p)).1) _ (h2.ok (h1.ok h))
   have e1:(adv p).at_=p.at_+1:=rfl
   have h4:=hF _ (h1.ok h) (by omega) (h3.err0 he)
   have h6:=h2.le
   have h5:=jgs hf hF hc (sg:=sg) n (binT (sg p) a (f (adv p)).1) _ (h2.ok (h1.ok h)) (by omega) he
   rw [jgr] at h5
   omega
  ·exact xa _
theorem qsg {f:Ps→Tr × Ps} (hf:Runs ts f) (hF:Fit ts m f) {c:Ps→Bool} {sg:Ps→Int} (hc:∀ p,c p=true→∃ s,sees ts p s=true) (n:Nat) :
  Fit ts m (fun p=>qat f c sg n (f p).1 (f p).2):=fun p h hl he=>by
 have h1:=hf p h
 have h2:=qkm ht hf hc (sg:=sg) n (f p).1 _ (h1.ok h)
 have h3:=hF p h hl (h2.err0 he)
 have h4:=h1.le
 have h5:=jgs ht hf hF hc (sg:=sg) n (f p).1 _ (h1.ok h) (by omega) he
 simp only at h5 ⊢
 omega
theorem jgt {f:Ps→Tr × Ps} (hf:Runs ts f) (hF:Fit ts m f) (s:List UInt8) (sg:Int):Fit ts m (qly ts f s sg):=fun p h hl he=>by
 have h1:=hf p h
 unfold qly at he ⊢
 split
 ·rename_i hs
  rw [zb hs] at he
  have h2:=qh ht (h1.ok h) hs
  have h3:=hf _ (h2.ok (h1.ok h))
  have e1:(adv (f p).2).at_=(f p).2.at_+1:=rfl
  have h4:=hF p h hl (h2.err0 (h3.err0 he))
  have h5:=h1.le
  have h6:=hF _ (h2.ok (h1.ok h)) (by omega) he
  simp only
  rw [jgr]
  omega
 ·rename_i hs
  rw [za hs] at he
  exact hF p h hl he
section
variable {part:Ps→Tr × Ps} (hp:Runs ts part) (hP:Fit ts m part)
include hp hP
theorem jth:Fit ts m (qcg ts part):=qsg ht hp hP (fun _=>jfr) _
theorem jti:Fit ts m (sumF ts part):=qsg ht (qov ht hp) (jth ht hp hP) (fun _=>jfs) _
theorem jtj:Fit ts m (qcd ts part):=jgt ht (qwv ht hp) (jti ht hp hP) _ _
theorem jtk:Fit ts m (qdl ts part):=jgt ht (qww ht hp) (jtj ht hp hP) _ _
theorem jtl:Fit ts m (andF ts part):=qsg ht (qow ht hp) (jtk ht hp hP) (fun _ h=>⟨_,h⟩) _
theorem jgu:Fit ts m (qdz ts part):=qsg ht (qox ht hp) (jtl ht hp hP) (fun _ h=>⟨_,h⟩) _
end
theorem qxl:∀ n,Fit ts n (qam ts n)
 | 0=>fun p h hl _=>by have:=h.hi;omega
 | n+1=>fun p h hl he=>by
  unfold qam at he ⊢
  simp only at he ⊢
  split
  ·rename_i hs
   rw [zb hs] at he
   have:=jsm he
   simp only [Tr.size_mk,Tr.sizeL] at this ⊢
   omega
  rename_i hs
  rw [za hs] at he
  split
  ·rename_i hs
   rw [zb hs] at he
   have:=qse he
   have e1:(adv p).at_=p.at_+1:=rfl
   simp only [Tr.size_mk,Tr.sizeL] at this ⊢
   omega
  rename_i hs
  rw [za hs] at he
  split
  ·rename_i hs
   rw [zb hs] at he
   have h1:Step ts p (adv p):=by rcases hs with hs|hs <;> exact qh ht h hs
   have h2:=qcs (h1.ok h)
   have e1:(adv p).at_=p.at_+1:=rfl
   have h3:=qfz ht n _ h2.1
   simp only [Tr.size_mk]
   have he':(ifOk (qam ts n) (inP ts (adv p))).2.err=0:=he
   unfold ifOk at he' ⊢
   split
   ·rename_i hi
    rw [zb hi] at he'
    have h4:=qxl n _ h2.1 (by omega) he'
    simp only [Tr.sizeL_one]
    have e2:(outP (qam ts n (inP ts (adv p))).2).at_=(qam ts n (inP ts (adv p))).2.at_:=rfl
    omega
   ·simp only [Tr.sizeL]
    have e2:(outP (inP ts (adv p))).at_=(inP ts (adv p)).at_:=rfl
    omega
  rename_i hs
  rw [za hs] at he
  split
  ·rename_i hs
   rw [zb hs] at he
   have h1:=qh ht h hs
   have h2:=qcs (h1.ok h)
   have e1:(adv p).at_=p.at_+1:=rfl
   have h3:Step ts (adv p) (outP (if (inP ts (adv p)).err=0 then (qdz ts (qam ts n) (inP ts (adv p))).2 else inP ts (adv p))):=by
    refine qjh (h1.ok h) ?_
    split
    ·exact qsa ht (qfz ht n) _ h2.1
    ·exact h2.1.refl
   have h4:=qk ht (h3.ok (h1.ok h)) sRp
   have h5:=h4.err0 he
   have h6:=h4.le
   split
   ·rename_i hi
    rw [zb hi] at h5 h6
    have h7:=jgu ht (qfz ht n) (qxl n) _ h2.1 (by omega) h5
    have e2:(outP (qdz ts (qam ts n) (inP ts (adv p))).2).at_=(qdz ts (qam ts n) (inP ts (adv p))).2.at_:=rfl
    simp only at h6 ⊢
    omega
   ·rename_i hi
    rw [za hi] at h5
    exact absurd h5 hi
  ·rename_i hs
   rw [za hs] at he
   have:=qse he
   simp only [Tr.size_mk,Tr.sizeL] at this ⊢
   omega
theorem qkr (h:AtOk ts p) (he:(eF ts p).2.err=0):((eF ts p).1.size:Int)+p.at_≤(eF ts p).2.at_:=
 jgu ht (qfz ht _) (qxl ht _) p h (by have:=h.lo;omega) he
theorem qxm {stat:Ps→Tr × Ps} (hs:Runs ts stat) (hS:Fit ts m stat):∀ (n:Nat) (l:List Tr) (p:Ps),AtOk ts p→(ts.length:Int)≤p.at_+m→(jk ts stat n l p).2.err=0→(Tr.sizeL (jk ts stat n l p).1:Int)+p.at_≤Tr.sizeL l+(jk ts stat n l p).2.at_
 | 0,l,p,_,_,_=>by rw [jk];exact xa _
 | n+1,l,p,h,hl,he=>by
  rw [jk] at he ⊢
  by_cases h0:p.err=0
  ·rw [zb h0] at he ⊢
   by_cases hb:sees ts p sRc=true
   ·rw [zb hb]
    have e1:(adv p).at_=p.at_+1:=rfl
    simp only;omega
   ·rw [za hb] at he ⊢
    have h1:=hs p h
    have h2:=qgt ht hs n (l++[(stat p).1]) _ (h1.ok h)
    have h3:=hS p h hl (h2.err0 he)
    have h4:=h1.le
    have h5:=qxm hs hS n (l++[(stat p).1]) _ (h1.ok h) (by omega) he
    rw [Tr.sizeL_snoc] at h5
    omega
  ·rw [za h0]
   exact xa _
theorem jtm {stat:Ps→Tr × Ps} (hs:Runs ts stat) (hS:Fit ts m stat) (h:AtOk ts p) (hl:(ts.length:Int)≤p.at_+m+1) (he:(qq ts stat p).2.err=0):((qq ts stat p).1.size:Int)+p.at_≤(qq ts stat p).2.at_:=by
 have h1:=qk ht h sLc
 have h0:=qcs (h1.ok h)
 have h2:=qjh (h1.ok h) (qgt ht hs ts.length [] _ h0.1)
 have h3:=(qgu (h2.err0 he)).2
 have h4:=qxm ht hs hS ts.length [] _ h0.1 (by omega) he
 unfold qq
 simp only [Tr.size_mk]
 have e2:(outP (jk ts stat ts.length [] (inP ts (must ts p sLc))).2).at_=(jk ts stat ts.length [] (inP ts (must ts p sLc))).2.at_:=rfl
 have e3:Tr.sizeL []=0:=rfl
 omega
theorem jgv {blk:Ps→Tr × Ps} (hb:Runs ts blk) (hB:Fit ts m blk):∀ (n:Nat) (l:List Tr) (p:Ps),AtOk ts p→(ts.length:Int)≤p.at_+m→(orL ts blk n l p).2.err=0→(Tr.sizeL (orL ts blk n l p).1:Int)+p.at_≤Tr.sizeL l+(orL ts blk n l p).2.at_
 | 0,l,p,_,_,_=>by rw [orL];exact xa _
 | n+1,l,p,h,hl,he=>by
  rw [orL] at he ⊢
  split
  ·rename_i hs
   rw [zb hs] at he
   have h1:=qh ht h hs
   have h2:=hb _ (h1.ok h)
   have h3:=qoy ht hb n (l++[(blk (adv p)).1]) _ (h2.ok (h1.ok h))
   have e1:(adv p).at_=p.at_+1:=rfl
   have h4:=hB _ (h1.ok h) (by omega) (h3.err0 he)
   have h6:=h2.le
   have h5:=jgv hb hB n (l++[(blk (adv p)).1]) _ (h2.ok (h1.ok h)) (by omega) he
   rw [Tr.sizeL_snoc] at h5
   omega
  ·exact xa _
theorem jtn {blk:Ps→Tr × Ps} (hb:Runs ts blk) (hB:Fit ts m blk) (a i:Int):Fit ts m (qdm ts blk a i):=fun p h hl he=>by
 unfold qdm at he ⊢
 split
 ·rename_i hs
  rw [zb hs] at he
  have h1:=qh ht h hs
  have h2:=qaq ht (h1.ok h)
  have h3:=qaq ht (h2.ok (h1.ok h))
  have h4:=h2.trans (h3.trans (qk ht (h3.ok (h2.ok (h1.ok h))) qp))
  have:p.at_+1≤_:=h4.le
  simp only [Tr.size_mk,Tr.sizeL];omega
 ·rename_i hs
  rw [za hs] at he
  split
  ·rename_i hw
   rw [zb hw] at he
   have h1:=qh ht h hw
   have h2:=qbj ht _ (h1.ok h)
   have h4:=qk ht (h2.ok (h1.ok h)) qp
   have h5:=qkr ht (h1.ok h) (h4.err0 he)
   have h6:=h4.le
   have e1:(adv p).at_=p.at_+1:=rfl
   simp only [Tr.size_mk,Tr.sizeL_one];omega
  ·rename_i hw
   rw [za hw] at he
   have h1:=qk ht h jg
   have h2:=hb _ (h1.ok h)
   have h3:=qoy ht hb ts.length [(blk (must ts p jg)).1] _ (h2.ok (h1.ok h))
   have h4:=(qgu (h2.err0 (h3.err0 he))).2
   have h5:=hB _ (h1.ok h) (by omega) (h3.err0 he)
   have h7:=h2.le
   have h6:=jgv ht hb hB ts.length [(blk (must ts p jg)).1] _ (h2.ok (h1.ok h)) (by omega) he
   rw [Tr.sizeL_one] at h6
   simp only [Tr.size_mk] at h6 ⊢;omega
theorem jgw:∀ n,Fit ts n (qd ts n)
 | 0=>fun p h hl _=>by have:=h.hi;omega
 | n+1=>fun p h hl he=>by
  have hb:=qsb ht (qkn ht n)
  have hB:∀ q,AtOk ts q→(ts.length:Int)≤q.at_+n+1→(qq ts (qd ts n) q).2.err=0→((qq ts (qd ts n) q).1.size:Int)+q.at_≤(qq ts (qd ts n) q).2.at_:=fun q hq hlq heq=>jtm ht (qkn ht n) (jgw n) hq hlq heq
  unfold qd at he ⊢
  simp only at he ⊢
  split
  ·rename_i hw
   rw [zb hw] at he
   have h1:=qhs ht h qdx
   have h2:=h1.le
   have:=jtn ht hb (m:=n+1) (fun q hq hlq heq=>hB q hq (by omega) heq) _ _ _ (h1.ok h) (by omega) he
   omega
  rename_i hw
  rw [za hw] at he
  split
  ·rename_i hw
   rw [zb hw] at he
   have h1:=qh ht h hw
   have h2:=qaq ht (h1.ok h)
   have h3:=qbj ht _ (h2.ok (h1.ok h))
   have h4:=qk ht (h3.ok (h2.ok (h1.ok h))) qp
   have h5:=qkr ht (h2.ok (h1.ok h)) (h4.err0 he)
   have h6:=h4.le
   have h7:p.at_+1≤_:=h2.le
   simp only [Tr.size_mk,Tr.sizeL_one];omega
  rename_i hw
  rw [za hw] at he
  split
  ·rename_i hw
   rw [zb hw] at he
   have h1:=qh ht h hw
   have h2:=qbj ht _ (h1.ok h)
   have h3:=hb _ (h2.ok (h1.ok h))
   have e1:(adv p).at_=p.at_+1:=rfl
   have hl2:=h2.le
   have hl3:=h3.le
   split
   ·rename_i hx
    rw [zb hx] at he
    have h5:=qh ht (h3.ok (h2.ok (h1.ok h))) hx
    have h6:=hb _ (h5.ok (h3.ok (h2.ok (h1.ok h))))
    have h7:=h5.err0 (h6.err0 he)
    have h8:=qkr ht (h1.ok h) (h3.err0 h7)
    have h9:=hB _ (h2.ok (h1.ok h)) (by omega) h7
    have e2:(adv (qq ts (qd ts n) (eF ts (adv p)).2).2).at_=(qq ts (qd ts n) (eF ts (adv p)).2).2.at_+1:=rfl
    have h10:=hB _ (h5.ok (h3.ok (h2.ok (h1.ok h)))) (by omega) he
    simp only [Tr.size_mk,Tr.sizeL_three];omega
   ·rename_i hx
    rw [za hx] at he
    have h8:=qkr ht (h1.ok h) (h3.err0 he)
    have h9:=hB _ (h2.ok (h1.ok h)) (by omega) he
    simp only [Tr.size_mk,Tr.sizeL_two];omega
  rename_i hw
  rw [za hw] at he
  split
  ·rename_i hw
   rw [zb hw] at he
   have h1:=qh ht h hw
   have h2:=qbj ht _ (h1.ok h)
   have h3:=hb _ (h2.ok (h1.ok h))
   have e1:(adv p).at_=p.at_+1:=rfl
   have hl2:=h2.le
   have h8:=qkr ht (h1.ok h) (h3.err0 he)
   have h9:=hB _ (h2.ok (h1.ok h)) (by omega) he
   simp only [Tr.size_mk,Tr.sizeL_two];omega
  rename_i hw
  rw [za hw] at he
  split
  ·rename_i hw
   rw [zb hw] at he
   have h1:=qh ht h hw
   have e1:(adv p).at_=p.at_+1:=rfl
   have h9:=hB _ (h1.ok h) (by omega) he
   simp only [Tr.size_mk,Tr.sizeL_one];omega
  rename_i hw
  rw [za hw] at he
  split
  ·have h1:=qh ht h (by assumption)
   have h4:p.at_+1≤_:=(qk ht (h1.ok h) qp).le
   simp only [Tr.size_mk,Tr.sizeL];omega
  rename_i hw
  rw [za hw] at he
  split
  ·have h1:=qh ht h (by assumption)
   have h4:p.at_+1≤_:=(qk ht (h1.ok h) qp).le
   simp only [Tr.size_mk,Tr.sizeL];omega
  rename_i hw
  rw [za hw] at he
  have h1:=qaq ht h
  have h2:=qk ht (h1.ok h) sEq
  have h3:=qbj ht _ (h2.ok (h1.ok h))
  have h4:=qk ht (h3.ok (h2.ok (h1.ok h))) qp
  have h5:=qse (h2.err0 (h3.err0 (h4.err0 he)))
  have h6:=h4.le
  have h7:=h2.le
  have h8:=qkr ht (h2.ok (h1.ok h)) (h4.err0 he)
  simp only [Tr.size_mk,Tr.sizeL_one];omega
theorem fit_s:Fit ts ts.length (sF ts):=jgw ht _
theorem jgx (h:AtOk ts p) (he:(jv ts p).2.err=0):((jv ts p).1.size:Int)+p.at_≤(jv ts p).2.at_:=by
 have h1:=jga ht p h he
 have h2:(jv ts p).1.size=1:=by unfold jv;simp only [Tr.size_mk,Tr.sizeL]
 omega
theorem jgy:∀ (n:Nat) (l:List Tr) (p:Ps),AtOk ts p→(qbw ts n l p).2.err=0→(Tr.sizeL (qbw ts n l p).1:Int)+p.at_≤Tr.sizeL l+(qbw ts n l p).2.at_
 | 0,l,p,_,_=>by rw [qbw];exact xa _
 | n+1,l,p,h,he=>by
  rw [qbw] at he ⊢
  split
  ·rename_i hs
   rw [zb hs] at he
   have h1:=qmi ht _ h
   have h2:=qoz ht n (l++[(jv ts p).1]) _ (h1.ok h)
   have h3:=jgx ht h (h2.err0 he)
   have h5:=jgy n (l++[(jv ts p).1]) _ (h1.ok h) he
   rw [Tr.sizeL_snoc] at h5
   omega
  ·exact xa _
theorem jto (h:AtOk ts p) (he:(qdn ts p).2.err=0):((qdn ts p).1.size:Int)+p.at_≤(qdn ts p).2.at_:=by
 have h0:=qk ht h qy
 unfold qdn at he ⊢
 simp only at he ⊢
 have h1:=h0.ok h
 have h3:=qaq ht h1
 have h4:Step ts (must ts p qy) (if sees ts (qf ts (must ts p qy)) qft=true then (numN ts (adv (qf ts (must ts p qy))),numP ts (adv (qf ts (must ts p qy)))) else (1,qf ts (must ts p qy))).2:=by
  split
  ·have h5:=h3.trans (qh ht (h3.ok h1) (by assumption))
   exact h5.trans (qbp ht (h5.ok h1))
  ·exact h3
 have h5:=h4.trans (qk ht (h4.ok h1) sLc)
 generalize (must ts (if sees ts (qf ts (must ts p qy)) qft=true then (numN ts (adv (qf ts (must ts p qy))),numP ts (adv (qf ts (must ts p qy)))) else (1,qf ts (must ts p qy))).2 sLc)=R at he h5 ⊢
 have h6:=qoz ht ts.length [] R (h5.ok h1)
 have h7:=fun he=>jgy ht ts.length [] R (h5.ok h1) he
 generalize qbw ts ts.length [] R=V at he h6 h7 ⊢
 have h8:=qcs (h6.ok (h5.ok h1))
 have h9:=qjh (h6.ok (h5.ok h1)) (qgt ht (qji ht) ts.length V.1 _ h8.1)
 have h10:=h7 (h9.err0 he)
 have hlo:=h8.1.lo
 have h11:=qxm ht (qji ht) (fit_s ht) ts.length V.1 _ h8.1 (by omega) he
 have h12:=(qgu (h5.err0 (h6.err0 (h9.err0 he)))).2
 have h13:=h5.le
 have e3:Tr.sizeL []=0:=rfl
 have e2:(outP (jk ts (sF ts) ts.length V.1 (inP ts V.2)).2).at_=(jk ts (sF ts) ts.length V.1 (inP ts V.2)).2.at_:=rfl
 simp only [Tr.size_mk]
 omega
theorem jtp (h:AtOk ts p) (he:(itemF ts p).2.err=0):((itemF ts p).1.size:Int)+p.at_≤(itemF ts p).2.at_:=by
 have hg:=jgd ht p h he
 unfold itemF at he hg ⊢
 simp only at he hg ⊢
 split
 ·rename_i hw
  rw [zb hw] at he
  exact jgx ht h he
 rename_i hw
 rw [za hw] at he hg
 split
 ·rename_i hw
  rw [zb hw] at he
  exact jto ht h he
 rename_i hw
 rw [za hw] at he hg
 split
 ·rename_i hw
  rw [zb hw] at he hg
  simp only [Tr.size_mk,Tr.sizeL] at hg ⊢;omega
 rename_i hw
 rw [za hw] at he hg
 split
 ·rename_i hw
  rw [zb hw] at he
  have h1:=qh ht h hw
  have h2:=qbj ht _ (h1.ok h)
  have h3:=qk ht (h2.ok (h1.ok h)) qp
  have h4:=qkr ht (h1.ok h) (h3.err0 he)
  have h5:=h3.le
  have e1:(adv p).at_=p.at_+1:=rfl
  simp only [Tr.size_mk,Tr.sizeL_one];omega
 rename_i hw
 rw [za hw] at he hg
 simp only [Tr.size_mk,Tr.sizeL] at hg ⊢;omega
theorem jgz:∀ (n:Nat) (l:List Tr) (p:Ps),AtOk ts p→(qdo ts n l p).2.err=0→(Tr.sizeL (qdo ts n l p).1:Int)+p.at_≤Tr.sizeL l+(qdo ts n l p).2.at_
 | 0,l,p,_,_=>by rw [qdo];exact xa _
 | n+1,l,p,h,he=>by
  rw [qdo] at he ⊢
  split
  ·rename_i hs
   rw [zb hs] at he
   have h1:=qwx ht _ h
   have h2:=qwy ht n (l++[(itemF ts p).1]) _ (h1.ok h)
   have h3:=jtp ht h (h2.err0 he)
   have h5:=jgz n (l++[(itemF ts p).1]) _ (h1.ok h) he
   rw [Tr.sizeL_snoc] at h5
   omega
  ·exact xa _
theorem jtq (h:AtOk ts p) (he:(qco ts p).2.err=0):((qco ts p).1.size:Int)≤1+ts.length:=by
 have h1:=jgz ht ts.length [] p h he
 have h2:=((qwy ht ts.length [] p h).ok h).hi
 have h3:=h.lo
 have e3:Tr.sizeL []=0:=rfl
 unfold qco
 simp only [Tr.size_mk]
 omega
end
end Pa
end Go.Proofs.YtikahnkkfkoglaaGreatDoor
end
section
namespace Go.Proofs.YtikahnkkfkoglaaGreatDoor
namespace Pa
open Go Go.Sx
theorem jtr:∀ b:UInt8,Lx.digB b=true→48≤b.toNat∧b.toNat≤57:=by
 have h:∀ b:Fin 256,Lx.digB (UInt8.ofNat b)=true→48≤b.val∧b.val≤57:=by decide +kernel
 intro b hb
 have:=h ⟨b.toNat,b.toNat_lt⟩
 simp only [UInt8.ofNat_toNat] at this
 exact this hb
theorem jha (p:UInt8→Bool):∀ l:List UInt8,∀ b∈l.take (Lx.spanN p l),p b=true
 | [],b,h=>by simp at h
 | x::r,b,h=>by
  rw [Lx.spanN] at h
  split at h
  ·rename_i hx
   rw [Nat.add_comm,List.take_succ_cons] at h
   rcases List.mem_cons.1 h with rfl|h
   ·exact hx
   ·exact jha p r b h
  ·simp at h
theorem jts (l:List UInt8):Lx.firstK l≠3:=by
 unfold Lx.firstK
 split
 ·decide
 ·split
  ·decide
  ·split <;> decide
theorem jtt {l:List UInt8} (h:Lx.firstK l=1) (h0:Lx.firstN l≠0):(l.take (Lx.firstN l)).length≤6∧∀ b∈l.take (Lx.firstN l),48≤b.toNat∧b.toNat≤57:=by
 cases l with
 | nil=>simp [Lx.firstK] at h
 | cons x r=>
  unfold Lx.firstK at h
  unfold Lx.firstN at h0 ⊢
  simp only at h h0 ⊢
  split at h
  ·simp at h
  ·rename_i h2
   rw [za h2] at h0 ⊢
   split at h
   ·rename_i h3
    rw [zb h3] at h0 ⊢
    split at h0
    ·exact absurd rfl h0
    ·rename_i h6
     rw [za h6]
     refine ⟨?_,fun b hb=>jtr b (jha _ _ b hb)⟩
     rw [xb];omega
   ·simp at h
theorem jtu:∀ (n:Nat) (l:List UInt8) (p:Nat) (ts:List Lx.Tok),l.length≤n→Lx.lexR l p=.ok ts→
  ∃ pre e,ts=pre++[⟨3,[],e⟩]∧(∀ t∈pre,t.kind≠3∧(t.kind=1→t.s.length≤6∧∀ b∈t.s,48≤b.toNat∧b.toNat≤57))∧pre.length≤l.length:=by
 intro n
 induction n with
 | zero=>
  intro l p ts hl h
  obtain rfl:l=[]:=List.length_eq_zero_iff.1 (by omega)
  rw [Lx.lexR_nil] at h
  cases h
  exact ⟨[],_,rfl,fun t ht=>by simp at ht,zl _⟩
 | succ n ih=>
  intro l p ts hl h
  cases l with
  | nil=>
   rw [Lx.lexR_nil] at h
   cases h
   exact ⟨[],_,rfl,fun t ht=>by simp at ht,zl _⟩
  | cons b r=>
   have hr:r.length≤n:=by simpa using hl
   rw [Lx.lexR_cons] at h
   split at h
   ·obtain ⟨pre,e,h1,h2,h3⟩:=ih r _ ts hr h
    exact ⟨pre,e,h1,h2,by simp;omega⟩
   split at h
   ·obtain ⟨pre,e,h1,h2,h3⟩:=ih (r.drop (Lx.lineN r)) _ ts (by rw [xd];omega) h
    exact ⟨pre,e,h1,h2,by rw [xd] at h3;simp;omega⟩
   split at h
   ·cases h
   ·rename_i h0
    cases hx:Lx.lexR (r.drop (Lx.firstN (b::r) - 1)) (p+Lx.firstN (b::r)) with
    | error e=>rw [hx] at h;cases h
    | ok ts'=>
     rw [hx] at h
     cases h
     obtain ⟨pre,e,h1,h2,h3⟩:=ih (r.drop (Lx.firstN (b::r) - 1)) _ ts' (by rw [xd];omega) hx
     refine ⟨⟨Lx.firstK (b::r),(b::r).take (Lx.firstN (b::r)),p⟩::pre,e,by rw [h1];rfl,fun t ht=>?_,by rw [xd] at h3;simp;omega⟩
     rcases List.mem_cons.1 ht with rfl|ht
     ·exact ⟨jts (b::r),fun hk=>jtt (l:=b::r) hk h0⟩
     ·exact h2 t ht
theorem jtv {s:List UInt8} (h:(Lx.lexAll s).2.1=0):ToksOk (Lx.lexAll s).1∧0<(Lx.lexAll s).1.length:=by
 unfold Lx.lexAll at h ⊢
 split at h
 ·simp at h
 rename_i hs
 rw [za hs]
 split at h
 ·rename_i ts hts
  obtain ⟨pre,e,h1,h2,h3⟩:=jtu _ s 0 ts (zl _) hts
  simp only
  subst h1
  refine ⟨⟨by simp;omega,fun i hi=>?_,fun t ht hk=>?_⟩,by simp⟩
  ·rw [List.getD_eq_getElem?_getD]
   by_cases hip:i<pre.length
   ·rw [zr hip,ze hip]
    have:=(h2 _ (xt hip)).1
    simp only [zaf,zg,xl]
    constructor
    ·intro h;exact absurd h this
    ·intro h;omega
   ·have:i=pre.length:=by simp at hi;omega
    subst this
    rw [zp (zl _),zan]
    simp
  ·rcases List.mem_append.1 ht with ht|ht
   ·exact (h2 t ht).2 hk
   ·rw [zq] at ht
    subst ht
    simp at hk
 ·simp at h
end Pa
end Go.Proofs.YtikahnkkfkoglaaGreatDoor
end
