/- The document's parser in plain Lean: a tree has no more nodes than tokens are read. -/
import Derived.Test.YthfaleaojlnnoaaY78
import Derived.Test.YthfaleaojlnnoaaY72
set_option linter.unusedSimpArgs false
set_option linter.unusedVariables false
namespace Go.Proofs.Ythfaleaojlnnoaa
namespace Pa
open Go Go.Sx
theorem Tr.size_mk (k:Int) (w:List (List UInt8)) (ns:List Int) (a:Int) (l:List Tr):(Tr.mk k w ns a l).size=1+Tr.sizeL l:=by rw [Tr.size]
theorem Tr.sizeL_snoc:∀ (l:List Tr) (t:Tr),Tr.sizeL (l++[t])=Tr.sizeL l+t.size
 | [],t=>by simp [Tr.sizeL]
 | x::r,t=>by rw [zac,Tr.sizeL,Tr.sizeL_snoc r t,Tr.sizeL];omega
theorem Tr.sizeL_one (t:Tr):Tr.sizeL [t]=t.size:=by simp [Tr.sizeL]
theorem Tr.sizeL_two (t u:Tr):Tr.sizeL [t,u]=t.size+u.size:=by simp [Tr.sizeL]
theorem Tr.sizeL_three (t u v:Tr):Tr.sizeL [t,u,v]=t.size+(u.size+v.size):=by simp [Tr.sizeL]
theorem jbd (sg:Int) (a b:Tr):(binT sg a b).size=1+(a.size+b.size):=by unfold binT;rw [Tr.size_mk,Tr.sizeL_two]
abbrev Fit (ts:List Lx.Tok) (n:Nat) (f:Ps→Tr × Ps):Prop:=∀ p,AtOk ts p→(ts.length:Int)≤p.at_+n→(f p).2.err=0→((f p).1.size:Int)+p.at_≤(f p).2.at_
section
variable {ts:List Lx.Tok} {p q r:Ps} {m:Nat}
variable (ht:ToksOk ts)
include ht
theorem jbe {f:Ps→Tr × Ps} (hf:Runs ts f) (hF:Fit ts m f) {c:Ps→Bool} {sg:Ps→Int} (hc:∀ p,c p=true→∃ s,sees ts p s=true) :
  ∀ (n:Nat) (a:Tr) (p:Ps),AtOk ts p→(ts.length:Int)≤p.at_+m→(qbt f c sg n a p).2.err=0→((qbt f c sg n a p).1.size:Int)+p.at_≤a.size+(qbt f c sg n a p).2.at_
 | 0,a,p,_,_,_=>by rw [qbt];exact zk _
 | n+1,a,p,h,hl,he=>by
  rw [qbt] at he ⊢
  split
  ·rename_i hcp
   rw [zb hcp] at he
   obtain ⟨s,hs⟩:=hc p hcp
   have h1:=qh ht h hs
   have h2:=hf _ (h1.ok h)
   have h3:=qgb ht hf hc (sg:=sg) n (binT (sg p) a (f (adv p)).1) _ (h2.ok (h1.ok h))
   have e1:(adv p).at_=p.at_+1:=rfl
   have h4:=hF _ (h1.ok h) (by omega) (h3.err0 he)
   have h6:=h2.le
   have h5:=jbe hf hF hc (sg:=sg) n (binT (sg p) a (f (adv p)).1) _ (h2.ok (h1.ok h)) (by omega) he
   rw [jbd] at h5
   omega
  ·exact zk _
theorem qqg {f:Ps→Tr × Ps} (hf:Runs ts f) (hF:Fit ts m f) {c:Ps→Bool} {sg:Ps→Int} (hc:∀ p,c p=true→∃ s,sees ts p s=true) (n:Nat) :
  Fit ts m (fun p=>qbt f c sg n (f p).1 (f p).2):=fun p h hl he=>by
 have h1:=hf p h
 have h2:=qgb ht hf hc (sg:=sg) n (f p).1 _ (h1.ok h)
 have h3:=hF p h hl (h2.err0 he)
 have h4:=h1.le
 have h5:=jbe ht hf hF hc (sg:=sg) n (f p).1 _ (h1.ok h) (by omega) he
 simp only at h5 ⊢
 omega
theorem jbf {f:Ps→Tr × Ps} (hf:Runs ts f) (hF:Fit ts m f) (s:List UInt8) (sg:Int):Fit ts m (qhp ts f s sg):=fun p h hl he=>by
 have h1:=hf p h
 unfold qhp at he ⊢
 split
 ·rename_i hs
  rw [zb hs] at he
  have h2:=qh ht (h1.ok h) hs
  have h3:=hf _ (h2.ok (h1.ok h))
  have e1:(adv (f p).2).at_=(f p).2.at_+1:=rfl
  have h4:=hF p h hl (h2.err0 (h3.err0 he))
  have h5:=h1.le
  have h6:=hF _ (h2.ok (h1.ok h)) (by omega) he
  simp only
  rw [jbd]
  omega
 ·rename_i hs
  rw [za hs] at he
  exact hF p h hl he
section
variable {part:Ps→Tr × Ps} (hp:Runs ts part) (hP:Fit ts m part)
include hp hP
theorem jnq:Fit ts m (qiz ts part):=qqg ht hp hP (fun _=>qnd) _
theorem jnr:Fit ts m (sumF ts part):=qqg ht (qks ht hp) (jnq ht hp hP) (fun _=>qne) _
theorem jns:Fit ts m (qnb ts part):=jbf ht (qpn ht hp) (jnr ht hp hP) _ _
theorem jnt:Fit ts m (qja ts part):=jbf ht (qpo ht hp) (jns ht hp hP) _ _
theorem jnu:Fit ts m (andF ts part):=qqg ht (qkt ht hp) (jnt ht hp hP) (fun _ h=>⟨_,h⟩) _
theorem jbg:Fit ts m (qbr ts part):=qqg ht (qku ht hp) (jnu ht hp hP) (fun _ h=>⟨_,h⟩) _
end
theorem qus:∀ n,Fit ts n (ja ts n)
 | 0=>fun p h hl _=>by have:=h.hi;omega
 | n+1=>fun p h hl he=>by
  unfold ja at he ⊢
  simp only at he ⊢
  split
  ·rename_i hs
   rw [zb hs] at he
   have:=qzl he
   simp only [Tr.size_mk,Tr.sizeL] at this ⊢
   omega
  rename_i hs
  rw [za hs] at he
  split
  ·rename_i hs
   rw [zb hs] at he
   have:=qnh he
   have e1:(adv p).at_=p.at_+1:=rfl
   simp only [Tr.size_mk,Tr.sizeL] at this ⊢
   omega
  rename_i hs
  rw [za hs] at he
  split
  ·rename_i hs
   rw [zb hs] at he
   have h1:Step ts p (adv p):=by rcases hs with hs|hs <;> exact qh ht h hs
   have h2:=jt (h1.ok h)
   have e1:(adv p).at_=p.at_+1:=rfl
   have h3:=qdl ht n _ h2.1
   simp only [Tr.size_mk]
   have he':(ifOk (ja ts n) (inP ts (adv p))).2.err=0:=he
   unfold ifOk at he' ⊢
   split
   ·rename_i hi
    rw [zb hi] at he'
    have h4:=qus n _ h2.1 (by omega) he'
    simp only [Tr.sizeL_one]
    have e2:(outP (ja ts n (inP ts (adv p))).2).at_=(ja ts n (inP ts (adv p))).2.at_:=rfl
    omega
   ·simp only [Tr.sizeL]
    have e2:(outP (inP ts (adv p))).at_=(inP ts (adv p)).at_:=rfl
    omega
  rename_i hs
  rw [za hs] at he
  split
  ·rename_i hs
   rw [zb hs] at he
   have h1:=qh ht h hs
   have h2:=jt (h1.ok h)
   have e1:(adv p).at_=p.at_+1:=rfl
   have h3:Step ts (adv p) (outP (if (inP ts (adv p)).err=0 then (qbr ts (ja ts n) (inP ts (adv p))).2 else inP ts (adv p))):=by
    refine qfc (h1.ok h) ?_
    split
    ·exact qkv ht (qdl ht n) _ h2.1
    ·exact h2.1.refl
   have h4:=qe ht (h3.ok (h1.ok h)) sRp
   have h5:=h4.err0 he
   have h6:=h4.le
   split
   ·rename_i hi
    rw [zb hi] at h5 h6
    have h7:=jbg ht (qdl ht n) (qus n) _ h2.1 (by omega) h5
    have e2:(outP (qbr ts (ja ts n) (inP ts (adv p))).2).at_=(qbr ts (ja ts n) (inP ts (adv p))).2.at_:=rfl
    simp only at h6 ⊢
    omega
   ·rename_i hi
    rw [za hi] at h5
    exact absurd h5 hi
  ·rename_i hs
   rw [za hs] at he
   have:=qnh he
   simp only [Tr.size_mk,Tr.sizeL] at this ⊢
   omega
theorem qji (h:AtOk ts p) (he:(eF ts p).2.err=0):((eF ts p).1.size:Int)+p.at_≤(eF ts p).2.at_:=
 jbg ht (qdl ht _) (qus ht _) p h (by have:=h.lo;omega) he
theorem qut {stat:Ps→Tr × Ps} (hs:Runs ts stat) (hS:Fit ts m stat):∀ (n:Nat) (l:List Tr) (p:Ps),AtOk ts p→(ts.length:Int)≤p.at_+m→(jb ts stat n l p).2.err=0→(Tr.sizeL (jb ts stat n l p).1:Int)+p.at_≤Tr.sizeL l+(jb ts stat n l p).2.at_
 | 0,l,p,_,_,_=>by rw [jb];exact zk _
 | n+1,l,p,h,hl,he=>by
  rw [jb] at he ⊢
  by_cases h0:p.err=0
  ·rw [zb h0] at he ⊢
   by_cases hb:sees ts p sRc=true
   ·rw [zb hb]
    have e1:(adv p).at_=p.at_+1:=rfl
    simp only;omega
   ·rw [za hb] at he ⊢
    have h1:=hs p h
    have h2:=qei ht hs n (l++[(stat p).1]) _ (h1.ok h)
    have h3:=hS p h hl (h2.err0 he)
    have h4:=h1.le
    have h5:=qut hs hS n (l++[(stat p).1]) _ (h1.ok h) (by omega) he
    rw [Tr.sizeL_snoc] at h5
    omega
  ·rw [za h0]
   exact zk _
theorem jnv {stat:Ps→Tr × Ps} (hs:Runs ts stat) (hS:Fit ts m stat) (h:AtOk ts p) (hl:(ts.length:Int)≤p.at_+m+1) (he:(qw ts stat p).2.err=0):((qw ts stat p).1.size:Int)+p.at_≤(qw ts stat p).2.at_:=by
 have h1:=qe ht h sLc
 have h0:=jt (h1.ok h)
 have h2:=qfc (h1.ok h) (qei ht hs ts.length [] _ h0.1)
 have h3:=(qgc (h2.err0 he)).2
 have h4:=qut ht hs hS ts.length [] _ h0.1 (by omega) he
 unfold qw
 simp only [Tr.size_mk]
 have e2:(outP (jb ts stat ts.length [] (inP ts (must ts p sLc))).2).at_=(jb ts stat ts.length [] (inP ts (must ts p sLc))).2.at_:=rfl
 have e3:Tr.sizeL []=0:=rfl
 omega
theorem jbh {blk:Ps→Tr × Ps} (hb:Runs ts blk) (hB:Fit ts m blk):∀ (n:Nat) (l:List Tr) (p:Ps),AtOk ts p→(ts.length:Int)≤p.at_+m→(orL ts blk n l p).2.err=0→(Tr.sizeL (orL ts blk n l p).1:Int)+p.at_≤Tr.sizeL l+(orL ts blk n l p).2.at_
 | 0,l,p,_,_,_=>by rw [orL];exact zk _
 | n+1,l,p,h,hl,he=>by
  rw [orL] at he ⊢
  split
  ·rename_i hs
   rw [zb hs] at he
   have h1:=qh ht h hs
   have h2:=hb _ (h1.ok h)
   have h3:=qjc ht hb n (l++[(blk (adv p)).1]) _ (h2.ok (h1.ok h))
   have e1:(adv p).at_=p.at_+1:=rfl
   have h4:=hB _ (h1.ok h) (by omega) (h3.err0 he)
   have h6:=h2.le
   have h5:=jbh hb hB n (l++[(blk (adv p)).1]) _ (h2.ok (h1.ok h)) (by omega) he
   rw [Tr.sizeL_snoc] at h5
   omega
  ·exact zk _
theorem jnw {blk:Ps→Tr × Ps} (hb:Runs ts blk) (hB:Fit ts m blk) (a i:Int):Fit ts m (qce ts blk a i):=fun p h hl he=>by
 unfold qce at he ⊢
 split
 ·rename_i hs
  rw [zb hs] at he
  have h1:=qh ht h hs
  have h2:=jl ht (h1.ok h)
  have h3:=jl ht (h2.ok (h1.ok h))
  have h4:=h2.trans (h3.trans (qe ht (h3.ok (h2.ok (h1.ok h))) qj))
  have:p.at_+1≤_:=h4.le
  simp only [Tr.size_mk,Tr.sizeL];omega
 ·rename_i hs
  rw [za hs] at he
  split
  ·rename_i hw
   rw [zb hw] at he
   have h1:=qh ht h hw
   have h2:=qas ht _ (h1.ok h)
   have h4:=qe ht (h2.ok (h1.ok h)) qj
   have h5:=qji ht (h1.ok h) (h4.err0 he)
   have h6:=h4.le
   have e1:(adv p).at_=p.at_+1:=rfl
   simp only [Tr.size_mk,Tr.sizeL_one];omega
  ·rename_i hw
   rw [za hw] at he
   have h1:=qe ht h ji
   have h2:=hb _ (h1.ok h)
   have h3:=qjc ht hb ts.length [(blk (must ts p ji)).1] _ (h2.ok (h1.ok h))
   have h4:=(qgc (h2.err0 (h3.err0 he))).2
   have h5:=hB _ (h1.ok h) (by omega) (h3.err0 he)
   have h7:=h2.le
   have h6:=jbh ht hb hB ts.length [(blk (must ts p ji)).1] _ (h2.ok (h1.ok h)) (by omega) he
   rw [Tr.sizeL_one] at h6
   simp only [Tr.size_mk] at h6 ⊢;omega
theorem jbi:∀ n,Fit ts n (qf ts n)
 | 0=>fun p h hl _=>by have:=h.hi;omega
 | n+1=>fun p h hl he=>by
  have hb:=qgq ht (qeb ht n)
  have hB:∀ q,AtOk ts q→(ts.length:Int)≤q.at_+n+1→(qw ts (qf ts n) q).2.err=0→((qw ts (qf ts n) q).1.size:Int)+q.at_≤(qw ts (qf ts n) q).2.at_:=fun q hq hlq heq=>jnv ht (qeb ht n) (jbi n) hq hlq heq
  unfold qf at he ⊢
  simp only at he ⊢
  split
  ·rename_i hw
   rw [zb hw] at he
   have h1:=qdb ht h qab
   have h2:=h1.le
   have:=jnw ht hb (m:=n+1) (fun q hq hlq heq=>hB q hq (by omega) heq) _ _ _ (h1.ok h) (by omega) he
   omega
  rename_i hw
  rw [za hw] at he
  split
  ·rename_i hw
   rw [zb hw] at he
   have h1:=qh ht h hw
   have h2:=jl ht (h1.ok h)
   have h3:=qas ht _ (h2.ok (h1.ok h))
   have h4:=qe ht (h3.ok (h2.ok (h1.ok h))) qj
   have h5:=qji ht (h2.ok (h1.ok h)) (h4.err0 he)
   have h6:=h4.le
   have h7:p.at_+1≤_:=h2.le
   simp only [Tr.size_mk,Tr.sizeL_one];omega
  rename_i hw
  rw [za hw] at he
  split
  ·rename_i hw
   rw [zb hw] at he
   have h1:=qh ht h hw
   have h2:=qas ht _ (h1.ok h)
   have h3:=hb _ (h2.ok (h1.ok h))
   have e1:(adv p).at_=p.at_+1:=rfl
   have hl2:=h2.le
   have hl3:=h3.le
   split
   ·rename_i hx
    rw [zb hx] at he
    have h5:=qh ht (h3.ok (h2.ok (h1.ok h))) hx
    have h6:=hb _ (h5.ok (h3.ok (h2.ok (h1.ok h))))
    have h7:=h5.err0 (h6.err0 he)
    have h8:=qji ht (h1.ok h) (h3.err0 h7)
    have h9:=hB _ (h2.ok (h1.ok h)) (by omega) h7
    have e2:(adv (qw ts (qf ts n) (eF ts (adv p)).2).2).at_=(qw ts (qf ts n) (eF ts (adv p)).2).2.at_+1:=rfl
    have h10:=hB _ (h5.ok (h3.ok (h2.ok (h1.ok h)))) (by omega) he
    simp only [Tr.size_mk,Tr.sizeL_three];omega
   ·rename_i hx
    rw [za hx] at he
    have h8:=qji ht (h1.ok h) (h3.err0 he)
    have h9:=hB _ (h2.ok (h1.ok h)) (by omega) he
    simp only [Tr.size_mk,Tr.sizeL_two];omega
  rename_i hw
  rw [za hw] at he
  split
  ·rename_i hw
   rw [zb hw] at he
   have h1:=qh ht h hw
   have h2:=qas ht _ (h1.ok h)
   have h3:=hb _ (h2.ok (h1.ok h))
   have e1:(adv p).at_=p.at_+1:=rfl
   have hl2:=h2.le
   have h8:=qji ht (h1.ok h) (h3.err0 he)
   have h9:=hB _ (h2.ok (h1.ok h)) (by omega) he
   simp only [Tr.size_mk,Tr.sizeL_two];omega
  rename_i hw
  rw [za hw] at he
  split
  ·rename_i hw
   rw [zb hw] at he
   have h1:=qh ht h hw
   have e1:(adv p).at_=p.at_+1:=rfl
   have h9:=hB _ (h1.ok h) (by omega) he
   simp only [Tr.size_mk,Tr.sizeL_one];omega
  rename_i hw
  rw [za hw] at he
  split
  ·have h1:=qh ht h (by assumption)
   have h4:p.at_+1≤_:=(qe ht (h1.ok h) qj).le
   simp only [Tr.size_mk,Tr.sizeL];omega
  rename_i hw
  rw [za hw] at he
  split
  ·have h1:=qh ht h (by assumption)
   have h4:p.at_+1≤_:=(qe ht (h1.ok h) qj).le
   simp only [Tr.size_mk,Tr.sizeL];omega
  rename_i hw
  rw [za hw] at he
  have h1:=jl ht h
  have h2:=qe ht (h1.ok h) sEq
  have h3:=qas ht _ (h2.ok (h1.ok h))
  have h4:=qe ht (h3.ok (h2.ok (h1.ok h))) qj
  have h5:=qnh (h2.err0 (h3.err0 (h4.err0 he)))
  have h6:=h4.le
  have h7:=h2.le
  have h8:=qji ht (h2.ok (h1.ok h)) (h4.err0 he)
  simp only [Tr.size_mk,Tr.sizeL_one];omega
theorem fit_s:Fit ts ts.length (sF ts):=jbi ht _
theorem jbj (h:AtOk ts p) (he:(qah ts p).2.err=0):((qah ts p).1.size:Int)+p.at_≤(qah ts p).2.at_:=by
 have h1:=qpq ht p h he
 have h2:(qah ts p).1.size=1:=by unfold qah;simp only [Tr.size_mk,Tr.sizeL]
 omega
theorem jbk:∀ (n:Nat) (l:List Tr) (p:Ps),AtOk ts p→(qai ts n l p).2.err=0→(Tr.sizeL (qai ts n l p).1:Int)+p.at_≤Tr.sizeL l+(qai ts n l p).2.at_
 | 0,l,p,_,_=>by rw [qai];exact zk _
 | n+1,l,p,h,he=>by
  rw [qai] at he ⊢
  split
  ·rename_i hs
   rw [zb hs] at he
   have h1:=qkw ht _ h
   have h2:=qgr ht n (l++[(qah ts p).1]) _ (h1.ok h)
   have h3:=jbj ht h (h2.err0 he)
   have h5:=jbk n (l++[(qah ts p).1]) _ (h1.ok h) he
   rw [Tr.sizeL_snoc] at h5
   omega
  ·exact zk _
theorem jnx (h:AtOk ts p) (he:(qbu ts p).2.err=0):((qbu ts p).1.size:Int)+p.at_≤(qbu ts p).2.at_:=by
 have h0:=qe ht h qo
 unfold qbu at he ⊢
 simp only at he ⊢
 have h1:=h0.ok h
 have h3:=jl ht h1
 have h4:Step ts (must ts p qo) (if sees ts (qd ts (must ts p qo)) qbl=true then (numN ts (adv (qd ts (must ts p qo))),numP ts (adv (qd ts (must ts p qo)))) else (1,qd ts (must ts p qo))).2:=by
  split
  ·have h5:=h3.trans (qh ht (h3.ok h1) (by assumption))
   exact h5.trans (qav ht (h5.ok h1))
  ·exact h3
 have h5:=h4.trans (qe ht (h4.ok h1) sLc)
 generalize (must ts (if sees ts (qd ts (must ts p qo)) qbl=true then (numN ts (adv (qd ts (must ts p qo))),numP ts (adv (qd ts (must ts p qo)))) else (1,qd ts (must ts p qo))).2 sLc)=R at he h5 ⊢
 have h6:=qgr ht ts.length [] R (h5.ok h1)
 have h7:=fun he=>jbk ht ts.length [] R (h5.ok h1) he
 generalize qai ts ts.length [] R=V at he h6 h7 ⊢
 have h8:=jt (h6.ok (h5.ok h1))
 have h9:=qfc (h6.ok (h5.ok h1)) (qei ht (qhr ht) ts.length V.1 _ h8.1)
 have h10:=h7 (h9.err0 he)
 have hlo:=h8.1.lo
 have h11:=qut ht (qhr ht) (fit_s ht) ts.length V.1 _ h8.1 (by omega) he
 have h12:=(qgc (h5.err0 (h6.err0 (h9.err0 he)))).2
 have h13:=h5.le
 have e3:Tr.sizeL []=0:=rfl
 have e2:(outP (jb ts (sF ts) ts.length V.1 (inP ts V.2)).2).at_=(jb ts (sF ts) ts.length V.1 (inP ts V.2)).2.at_:=rfl
 simp only [Tr.size_mk]
 omega
theorem jny (h:AtOk ts p) (he:(qax ts p).2.err=0):((qax ts p).1.size:Int)+p.at_≤(qax ts p).2.at_:=by
 have hg:=qtt ht p h he
 unfold qax at he hg ⊢
 simp only at he hg ⊢
 split
 ·rename_i hw
  rw [zb hw] at he
  exact jbj ht h he
 rename_i hw
 rw [za hw] at he hg
 split
 ·rename_i hw
  rw [zb hw] at he
  exact jnx ht h he
 rename_i hw
 rw [za hw] at he hg
 split
 ·rename_i hw
  rw [zb hw] at he hg
  simp only [Tr.size_mk,Tr.sizeL] at hg ⊢;omega
 rename_i hw
 rw [za hw] at he hg
 split
 ·rename_i hw
  rw [zb hw] at he
  have h1:=qh ht h hw
  have h2:=qas ht _ (h1.ok h)
  have h3:=qe ht (h2.ok (h1.ok h)) qj
  have h4:=qji ht (h1.ok h) (h3.err0 he)
  have h5:=h3.le
  have e1:(adv p).at_=p.at_+1:=rfl
  simp only [Tr.size_mk,Tr.sizeL_one];omega
 rename_i hw
 rw [za hw] at he hg
 simp only [Tr.size_mk,Tr.sizeL] at hg ⊢;omega
theorem jbl:∀ (n:Nat) (l:List Tr) (p:Ps),AtOk ts p→(qcp ts n l p).2.err=0→(Tr.sizeL (qcp ts n l p).1:Int)+p.at_≤Tr.sizeL l+(qcp ts n l p).2.at_
 | 0,l,p,_,_=>by rw [qcp];exact zk _
 | n+1,l,p,h,he=>by
  rw [qcp] at he ⊢
  split
  ·rename_i hs
   rw [zb hs] at he
   have h1:=qpp ht _ h
   have h2:=qnf ht n (l++[(qax ts p).1]) _ (h1.ok h)
   have h3:=jny ht h (h2.err0 he)
   have h5:=jbl n (l++[(qax ts p).1]) _ (h1.ok h) he
   rw [Tr.sizeL_snoc] at h5
   omega
  ·exact zk _
theorem jnz (h:AtOk ts p) (he:(qaj ts p).2.err=0):((qaj ts p).1.size:Int)≤1+ts.length:=by
 have h1:=jbl ht ts.length [] p h he
 have h2:=((qnf ht ts.length [] p h).ok h).hi
 have h3:=h.lo
 have e3:Tr.sizeL []=0:=rfl
 unfold qaj
 simp only [Tr.size_mk]
 omega
end
end Pa
end Go.Proofs.Ythfaleaojlnnoaa
