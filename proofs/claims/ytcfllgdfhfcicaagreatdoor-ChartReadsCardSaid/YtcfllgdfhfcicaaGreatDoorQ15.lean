/- Some texts of the library, one behind the other. -/
import Derived.Test.YtcfllgdfhfcicaaGreatDoorQ9
import Derived.Test.YtcfllgdfhfcicaaGreatDoorQ5
import Derived.Test.YtcfllgdfhfcicaaGreatDoorQPaL
import Derived.Test.YtcfllgdfhfcicaaGreatDoorQ7
import Derived.Test.YtcfllgdfhfcicaaGreatDoorQ2
section
namespace Go.Proofs.YtcfllgdfhfcicaaGreatDoor
namespace Pa
open Go Go.Sx
theorem Tr.size_mk (k:Int) (w:List (List UInt8)) (ns:List Int) (a:Int) (l:List Tr):(Tr.mk k w ns a l).size=1+Tr.sizeL l:=by rw [Tr.size]
theorem Tr.sizeL_snoc:∀ (l:List Tr) (t:Tr),Tr.sizeL (l++[t])=Tr.sizeL l+t.size
 | [],t=>by simp [Tr.sizeL]
 | x::r,t=>by rw [List.cons_append,Tr.sizeL,Tr.sizeL_snoc r t,Tr.sizeL];omega
theorem Tr.sizeL_one (t:Tr):Tr.sizeL [t]=t.size:=by simp [Tr.sizeL]
theorem Tr.sizeL_two (t u:Tr):Tr.sizeL [t,u]=t.size+u.size:=by simp [Tr.sizeL]
theorem Tr.sizeL_three (t u v:Tr):Tr.sizeL [t,u,v]=t.size+(u.size+v.size):=by simp [Tr.sizeL]
theorem jbu (sg:Int) (a b:Tr):(binT sg a b).size=1+(a.size+b.size):=by unfold binT;rw [Tr.size_mk,Tr.sizeL_two]
abbrev Fit (ts:List Lx.Tok) (n:Nat) (f:Ps→Tr × Ps):Prop:=∀ p,AtOk ts p→(ts.length:Int)≤p.at_+n→(f p).2.err=0→((f p).1.size:Int)+p.at_≤(f p).2.at_
section
variable {ts:List Lx.Tok} {p q r:Ps} {m:Nat}
variable (ht:ToksOk ts)
include ht
theorem jbv {f:Ps→Tr × Ps} (hf:Runs ts f) (hF:Fit ts m f) {c:Ps→Bool} {sg:Ps→Int} (hc:∀ p,c p=true→∃ s,sees ts p s=true) :
  ∀ (n:Nat) (a:Tr) (p:Ps),AtOk ts p→(ts.length:Int)≤p.at_+m→(qal f c sg n a p).2.err=0→((qal f c sg n a p).1.size:Int)+p.at_≤a.size+(qal f c sg n a p).2.at_
 | 0,a,p,_,_,_=>by rw [qal];exact Int.le_refl _
 | n+1,a,p,h,hl,he=>by
  rw [qal] at he ⊢
  split
  ·rename_i hcp
   rw [if_pos hcp] at he
   obtain ⟨s,hs⟩:=hc p hcp
   have h1:=qg ht h hs
   have h2:=hf _ (h1.ok h)
   have h3:=qjl ht hf hc (sg:=sg) n (binT (sg p) a (f (adv p)).1) _ (h2.ok (h1.ok h))
   have e1:(adv p).at_=p.at_+1:=rfl
   have h4:=hF _ (h1.ok h) (by omega) (h3.err0 he)
   have h6:=h2.le
   have h5:=jbv hf hF hc (sg:=sg) n (binT (sg p) a (f (adv p)).1) _ (h2.ok (h1.ok h)) (by omega) he
   rw [jbu] at h5
   omega
  ·exact Int.le_refl _
theorem qqh {f:Ps→Tr × Ps} (hf:Runs ts f) (hF:Fit ts m f) {c:Ps→Bool} {sg:Ps→Int} (hc:∀ p,c p=true→∃ s,sees ts p s=true) (n:Nat) :
  Fit ts m (fun p=>qal f c sg n (f p).1 (f p).2):=fun p h hl he=>by
 have h1:=hf p h
 have h2:=qjl ht hf hc (sg:=sg) n (f p).1 _ (h1.ok h)
 have h3:=hF p h hl (h2.err0 he)
 have h4:=h1.le
 have h5:=jbv ht hf hF hc (sg:=sg) n (f p).1 _ (h1.ok h) (by omega) he
 simp only at h5 ⊢
 omega
theorem jbw {f:Ps→Tr × Ps} (hf:Runs ts f) (hF:Fit ts m f) (s:List UInt8) (sg:Int):Fit ts m (qlb ts f s sg):=fun p h hl he=>by
 have h1:=hf p h
 unfold qlb at he ⊢
 split
 ·rename_i hs
  rw [if_pos hs] at he
  have h2:=qg ht (h1.ok h) hs
  have h3:=hf _ (h2.ok (h1.ok h))
  have e1:(adv (f p).2).at_=(f p).2.at_+1:=rfl
  have h4:=hF p h hl (h2.err0 (h3.err0 he))
  have h5:=h1.le
  have h6:=hF _ (h2.ok (h1.ok h)) (by omega) he
  simp only
  rw [jbu]
  omega
 ·rename_i hs
  rw [if_neg hs] at he
  exact hF p h hl he
section
variable {part:Ps→Tr × Ps} (hp:Runs ts part) (hP:Fit ts m part)
include hp hP
theorem jpi:Fit ts m (qca ts part):=qqh ht hp hP (fun _=>jap) _
theorem jpj:Fit ts m (sumF ts part):=qqh ht (qnd ht hp) (jpi ht hp hP) (fun _=>jaq) _
theorem jpk:Fit ts m (qbx ts part):=jbw ht (qtv ht hp) (jpj ht hp hP) _ _
theorem jpl:Fit ts m (qdg ts part):=jbw ht (qtw ht hp) (jpk ht hp hP) _ _
theorem jpm:Fit ts m (andF ts part):=qqh ht (qne ht hp) (jpl ht hp hP) (fun _ h=>⟨_,h⟩) _
theorem jbx:Fit ts m (qdt ts part):=qqh ht (qnf ht hp) (jpm ht hp hP) (fun _ h=>⟨_,h⟩) _
end
theorem qun:∀ n,Fit ts n (qah ts n)
 | 0=>fun p h hl _=>by have:=h.hi;omega
 | n+1=>fun p h hl he=>by
  unfold qah at he ⊢
  simp only at he ⊢
  split
  ·rename_i hs
   rw [if_pos hs] at he
   have:=jom he
   simp only [Tr.size_mk,Tr.sizeL] at this ⊢
   omega
  rename_i hs
  rw [if_neg hs] at he
  split
  ·rename_i hs
   rw [if_pos hs] at he
   have:=qqf he
   have e1:(adv p).at_=p.at_+1:=rfl
   simp only [Tr.size_mk,Tr.sizeL] at this ⊢
   omega
  rename_i hs
  rw [if_neg hs] at he
  split
  ·rename_i hs
   rw [if_pos hs] at he
   have h1:Step ts p (adv p):=by rcases hs with hs|hs <;> exact qg ht h hs
   have h2:=qcj (h1.ok h)
   have e1:(adv p).at_=p.at_+1:=rfl
   have h3:=qfj ht n _ h2.1
   simp only [Tr.size_mk]
   have he':(ifOk (qah ts n) (inP ts (adv p))).2.err=0:=he
   unfold ifOk at he' ⊢
   split
   ·rename_i hi
    rw [if_pos hi] at he'
    have h4:=qun n _ h2.1 (by omega) he'
    simp only [Tr.sizeL_one]
    have e2:(outP (qah ts n (inP ts (adv p))).2).at_=(qah ts n (inP ts (adv p))).2.at_:=rfl
    omega
   ·simp only [Tr.sizeL]
    have e2:(outP (inP ts (adv p))).at_=(inP ts (adv p)).at_:=rfl
    omega
  rename_i hs
  rw [if_neg hs] at he
  split
  ·rename_i hs
   rw [if_pos hs] at he
   have h1:=qg ht h hs
   have h2:=qcj (h1.ok h)
   have e1:(adv p).at_=p.at_+1:=rfl
   have h3:Step ts (adv p) (outP (if (inP ts (adv p)).err=0 then (qdt ts (qah ts n) (inP ts (adv p))).2 else inP ts (adv p))):=by
    refine qij (h1.ok h) ?_
    split
    ·exact qqb ht (qfj ht n) _ h2.1
    ·exact h2.1.refl
   have h4:=qi ht (h3.ok (h1.ok h)) sRp
   have h5:=h4.err0 he
   have h6:=h4.le
   split
   ·rename_i hi
    rw [if_pos hi] at h5 h6
    have h7:=jbx ht (qfj ht n) (qun n) _ h2.1 (by omega) h5
    have e2:(outP (qdt ts (qah ts n) (inP ts (adv p))).2).at_=(qdt ts (qah ts n) (inP ts (adv p))).2.at_:=rfl
    simp only at h6 ⊢
    omega
   ·rename_i hi
    rw [if_neg hi] at h5
    exact absurd h5 hi
  ·rename_i hs
   rw [if_neg hs] at he
   have:=qqf he
   simp only [Tr.size_mk,Tr.sizeL] at this ⊢
   omega
theorem qjq (h:AtOk ts p) (he:(eF ts p).2.err=0):((eF ts p).1.size:Int)+p.at_≤(eF ts p).2.at_:=
 jbx ht (qfj ht _) (qun ht _) p h (by have:=h.lo;omega) he
theorem qup {stat:Ps→Tr × Ps} (hs:Runs ts stat) (hS:Fit ts m stat):∀ (n:Nat) (l:List Tr) (p:Ps),AtOk ts p→(ts.length:Int)≤p.at_+m→(je ts stat n l p).2.err=0→(Tr.sizeL (je ts stat n l p).1:Int)+p.at_≤Tr.sizeL l+(je ts stat n l p).2.at_
 | 0,l,p,_,_,_=>by rw [je];exact Int.le_refl _
 | n+1,l,p,h,hl,he=>by
  rw [je] at he ⊢
  by_cases h0:p.err=0
  ·rw [if_pos h0] at he ⊢
   by_cases hb:sees ts p sRc=true
   ·rw [if_pos hb]
    have e1:(adv p).at_=p.at_+1:=rfl
    simp only;omega
   ·rw [if_neg hb] at he ⊢
    have h1:=hs p h
    have h2:=qgf ht hs n (l++[(stat p).1]) _ (h1.ok h)
    have h3:=hS p h hl (h2.err0 he)
    have h4:=h1.le
    have h5:=qup hs hS n (l++[(stat p).1]) _ (h1.ok h) (by omega) he
    rw [Tr.sizeL_snoc] at h5
    omega
  ·rw [if_neg h0]
   exact Int.le_refl _
theorem jpn {stat:Ps→Tr × Ps} (hs:Runs ts stat) (hS:Fit ts m stat) (h:AtOk ts p) (hl:(ts.length:Int)≤p.at_+m+1) (he:(qp ts stat p).2.err=0):((qp ts stat p).1.size:Int)+p.at_≤(qp ts stat p).2.at_:=by
 have h1:=qi ht h sLc
 have h0:=qcj (h1.ok h)
 have h2:=qij (h1.ok h) (qgf ht hs ts.length [] _ h0.1)
 have h3:=(qgg (h2.err0 he)).2
 have h4:=qup ht hs hS ts.length [] _ h0.1 (by omega) he
 unfold qp
 simp only [Tr.size_mk]
 have e2:(outP (je ts stat ts.length [] (inP ts (must ts p sLc))).2).at_=(je ts stat ts.length [] (inP ts (must ts p sLc))).2.at_:=rfl
 have e3:Tr.sizeL []=0:=rfl
 omega
theorem jby {blk:Ps→Tr × Ps} (hb:Runs ts blk) (hB:Fit ts m blk):∀ (n:Nat) (l:List Tr) (p:Ps),AtOk ts p→(ts.length:Int)≤p.at_+m→(orL ts blk n l p).2.err=0→(Tr.sizeL (orL ts blk n l p).1:Int)+p.at_≤Tr.sizeL l+(orL ts blk n l p).2.at_
 | 0,l,p,_,_,_=>by rw [orL];exact Int.le_refl _
 | n+1,l,p,h,hl,he=>by
  rw [orL] at he ⊢
  split
  ·rename_i hs
   rw [if_pos hs] at he
   have h1:=qg ht h hs
   have h2:=hb _ (h1.ok h)
   have h3:=qng ht hb n (l++[(blk (adv p)).1]) _ (h2.ok (h1.ok h))
   have e1:(adv p).at_=p.at_+1:=rfl
   have h4:=hB _ (h1.ok h) (by omega) (h3.err0 he)
   have h6:=h2.le
   have h5:=jby hb hB n (l++[(blk (adv p)).1]) _ (h2.ok (h1.ok h)) (by omega) he
   rw [Tr.sizeL_snoc] at h5
   omega
  ·exact Int.le_refl _
theorem jpo {blk:Ps→Tr × Ps} (hb:Runs ts blk) (hB:Fit ts m blk) (a i:Int):Fit ts m (qdh ts blk a i):=fun p h hl he=>by
 unfold qdh at he ⊢
 split
 ·rename_i hs
  rw [if_pos hs] at he
  have h1:=qg ht h hs
  have h2:=qai ht (h1.ok h)
  have h3:=qai ht (h2.ok (h1.ok h))
  have h4:=h2.trans (h3.trans (qi ht (h3.ok (h2.ok (h1.ok h))) qo))
  have:p.at_+1≤_:=h4.le
  simp only [Tr.size_mk,Tr.sizeL];omega
 ·rename_i hs
  rw [if_neg hs] at he
  split
  ·rename_i hw
   rw [if_pos hw] at he
   have h1:=qg ht h hw
   have h2:=qay ht _ (h1.ok h)
   have h4:=qi ht (h2.ok (h1.ok h)) qo
   have h5:=qjq ht (h1.ok h) (h4.err0 he)
   have h6:=h4.le
   have e1:(adv p).at_=p.at_+1:=rfl
   simp only [Tr.size_mk,Tr.sizeL_one];omega
  ·rename_i hw
   rw [if_neg hw] at he
   have h1:=qi ht h ja
   have h2:=hb _ (h1.ok h)
   have h3:=qng ht hb ts.length [(blk (must ts p ja)).1] _ (h2.ok (h1.ok h))
   have h4:=(qgg (h2.err0 (h3.err0 he))).2
   have h5:=hB _ (h1.ok h) (by omega) (h3.err0 he)
   have h7:=h2.le
   have h6:=jby ht hb hB ts.length [(blk (must ts p ja)).1] _ (h2.ok (h1.ok h)) (by omega) he
   rw [Tr.sizeL_one] at h6
   simp only [Tr.size_mk] at h6 ⊢;omega
theorem jbz:∀ n,Fit ts n (qc ts n)
 | 0=>fun p h hl _=>by have:=h.hi;omega
 | n+1=>fun p h hl he=>by
  have hb:=qqc ht (qjm ht n)
  have hB:∀ q,AtOk ts q→(ts.length:Int)≤q.at_+n+1→(qp ts (qc ts n) q).2.err=0→((qp ts (qc ts n) q).1.size:Int)+q.at_≤(qp ts (qc ts n) q).2.at_:=fun q hq hlq heq=>jpn ht (qjm ht n) (jbz n) hq hlq heq
  unfold qc at he ⊢
  simp only at he ⊢
  split
  ·rename_i hw
   rw [if_pos hw] at he
   have h1:=qhg ht h qdr
   have h2:=h1.le
   have:=jpo ht hb (m:=n+1) (fun q hq hlq heq=>hB q hq (by omega) heq) _ _ _ (h1.ok h) (by omega) he
   omega
  rename_i hw
  rw [if_neg hw] at he
  split
  ·rename_i hw
   rw [if_pos hw] at he
   have h1:=qg ht h hw
   have h2:=qai ht (h1.ok h)
   have h3:=qay ht _ (h2.ok (h1.ok h))
   have h4:=qi ht (h3.ok (h2.ok (h1.ok h))) qo
   have h5:=qjq ht (h2.ok (h1.ok h)) (h4.err0 he)
   have h6:=h4.le
   have h7:p.at_+1≤_:=h2.le
   simp only [Tr.size_mk,Tr.sizeL_one];omega
  rename_i hw
  rw [if_neg hw] at he
  split
  ·rename_i hw
   rw [if_pos hw] at he
   have h1:=qg ht h hw
   have h2:=qay ht _ (h1.ok h)
   have h3:=hb _ (h2.ok (h1.ok h))
   have e1:(adv p).at_=p.at_+1:=rfl
   have hl2:=h2.le
   have hl3:=h3.le
   split
   ·rename_i hx
    rw [if_pos hx] at he
    have h5:=qg ht (h3.ok (h2.ok (h1.ok h))) hx
    have h6:=hb _ (h5.ok (h3.ok (h2.ok (h1.ok h))))
    have h7:=h5.err0 (h6.err0 he)
    have h8:=qjq ht (h1.ok h) (h3.err0 h7)
    have h9:=hB _ (h2.ok (h1.ok h)) (by omega) h7
    have e2:(adv (qp ts (qc ts n) (eF ts (adv p)).2).2).at_=(qp ts (qc ts n) (eF ts (adv p)).2).2.at_+1:=rfl
    have h10:=hB _ (h5.ok (h3.ok (h2.ok (h1.ok h)))) (by omega) he
    simp only [Tr.size_mk,Tr.sizeL_three];omega
   ·rename_i hx
    rw [if_neg hx] at he
    have h8:=qjq ht (h1.ok h) (h3.err0 he)
    have h9:=hB _ (h2.ok (h1.ok h)) (by omega) he
    simp only [Tr.size_mk,Tr.sizeL_two];omega
  rename_i hw
  rw [if_neg hw] at he
  split
  ·rename_i hw
   rw [if_pos hw] at he
   have h1:=qg ht h hw
   have h2:=qay ht _ (h1.ok h)
   have h3:=hb _ (h2.ok (h1.ok h))
   have e1:(adv p).at_=p.at_+1:=rfl
   have hl2:=h2.le
   have h8:=qjq ht (h1.ok h) (h3.err0 he)
   have h9:=hB _ (h2.ok (h1.ok h)) (by omega) he
   simp only [Tr.size_mk,Tr.sizeL_two];omega
  rename_i hw
  rw [if_neg hw] at he
  split
  ·rename_i hw
   rw [if_pos hw] at he
   have h1:=qg ht h hw
   have e1:(adv p).at_=p.at_+1:=rfl
   have h9:=hB _ (h1.ok h) (by omega) he
   simp only [Tr.size_mk,Tr.sizeL_one];omega
  rename_i hw
  rw [if_neg hw] at he
  split
  ·have h1:=qg ht h (by assumption)
   have h4:p.at_+1≤_:=(qi ht (h1.ok h) qo).le
   simp only [Tr.size_mk,Tr.sizeL];omega
  rename_i hw
  rw [if_neg hw] at he
  split
  ·have h1:=qg ht h (by assumption)
   have h4:p.at_+1≤_:=(qi ht (h1.ok h) qo).le
   simp only [Tr.size_mk,Tr.sizeL];omega
  rename_i hw
  rw [if_neg hw] at he
  have h1:=qai ht h
  have h2:=qi ht (h1.ok h) sEq
  have h3:=qay ht _ (h2.ok (h1.ok h))
  have h4:=qi ht (h3.ok (h2.ok (h1.ok h))) qo
  have h5:=qqf (h2.err0 (h3.err0 (h4.err0 he)))
  have h6:=h4.le
  have h7:=h2.le
  have h8:=qjq ht (h2.ok (h1.ok h)) (h4.err0 he)
  simp only [Tr.size_mk,Tr.sizeL_one];omega
theorem fit_s:Fit ts ts.length (sF ts):=jbz ht _
theorem jca (h:AtOk ts p) (he:(jn ts p).2.err=0):((jn ts p).1.size:Int)+p.at_≤(jn ts p).2.at_:=by
 have h1:=jbc ht p h he
 have h2:(jn ts p).1.size=1:=by unfold jn;simp only [Tr.size_mk,Tr.sizeL]
 omega
theorem jcb:∀ (n:Nat) (l:List Tr) (p:Ps),AtOk ts p→(qbp ts n l p).2.err=0→(Tr.sizeL (qbp ts n l p).1:Int)+p.at_≤Tr.sizeL l+(qbp ts n l p).2.at_
 | 0,l,p,_,_=>by rw [qbp];exact Int.le_refl _
 | n+1,l,p,h,he=>by
  rw [qbp] at he ⊢
  split
  ·rename_i hs
   rw [if_pos hs] at he
   have h1:=qld ht _ h
   have h2:=qnh ht n (l++[(jn ts p).1]) _ (h1.ok h)
   have h3:=jca ht h (h2.err0 he)
   have h5:=jcb n (l++[(jn ts p).1]) _ (h1.ok h) he
   rw [Tr.sizeL_snoc] at h5
   omega
  ·exact Int.le_refl _
theorem jpp (h:AtOk ts p) (he:(qdi ts p).2.err=0):((qdi ts p).1.size:Int)+p.at_≤(qdi ts p).2.at_:=by
 have h0:=qi ht h qu
 unfold qdi at he ⊢
 simp only at he ⊢
 have h1:=h0.ok h
 have h3:=qai ht h1
 have h4:Step ts (must ts p qu) (if sees ts (qe ts (must ts p qu)) qfi=true then (numN ts (adv (qe ts (must ts p qu))),numP ts (adv (qe ts (must ts p qu)))) else (1,qe ts (must ts p qu))).2:=by
  split
  ·have h5:=h3.trans (qg ht (h3.ok h1) (by assumption))
   exact h5.trans (qbf ht (h5.ok h1))
  ·exact h3
 have h5:=h4.trans (qi ht (h4.ok h1) sLc)
 generalize (must ts (if sees ts (qe ts (must ts p qu)) qfi=true then (numN ts (adv (qe ts (must ts p qu))),numP ts (adv (qe ts (must ts p qu)))) else (1,qe ts (must ts p qu))).2 sLc)=R at he h5 ⊢
 have h6:=qnh ht ts.length [] R (h5.ok h1)
 have h7:=fun he=>jcb ht ts.length [] R (h5.ok h1) he
 generalize qbp ts ts.length [] R=V at he h6 h7 ⊢
 have h8:=qcj (h6.ok (h5.ok h1))
 have h9:=qij (h6.ok (h5.ok h1)) (qgf ht (qik ht) ts.length V.1 _ h8.1)
 have h10:=h7 (h9.err0 he)
 have hlo:=h8.1.lo
 have h11:=qup ht (qik ht) (fit_s ht) ts.length V.1 _ h8.1 (by omega) he
 have h12:=(qgg (h5.err0 (h6.err0 (h9.err0 he)))).2
 have h13:=h5.le
 have e3:Tr.sizeL []=0:=rfl
 have e2:(outP (je ts (sF ts) ts.length V.1 (inP ts V.2)).2).at_=(je ts (sF ts) ts.length V.1 (inP ts V.2)).2.at_:=rfl
 simp only [Tr.size_mk]
 omega
theorem jpq (h:AtOk ts p) (he:(itemF ts p).2.err=0):((itemF ts p).1.size:Int)+p.at_≤(itemF ts p).2.at_:=by
 have hg:=jbf ht p h he
 unfold itemF at he hg ⊢
 simp only at he hg ⊢
 split
 ·rename_i hw
  rw [if_pos hw] at he
  exact jca ht h he
 rename_i hw
 rw [if_neg hw] at he hg
 split
 ·rename_i hw
  rw [if_pos hw] at he
  exact jpp ht h he
 rename_i hw
 rw [if_neg hw] at he hg
 split
 ·rename_i hw
  rw [if_pos hw] at he hg
  simp only [Tr.size_mk,Tr.sizeL] at hg ⊢;omega
 rename_i hw
 rw [if_neg hw] at he hg
 split
 ·rename_i hw
  rw [if_pos hw] at he
  have h1:=qg ht h hw
  have h2:=qay ht _ (h1.ok h)
  have h3:=qi ht (h2.ok (h1.ok h)) qo
  have h4:=qjq ht (h1.ok h) (h3.err0 he)
  have h5:=h3.le
  have e1:(adv p).at_=p.at_+1:=rfl
  simp only [Tr.size_mk,Tr.sizeL_one];omega
 rename_i hw
 rw [if_neg hw] at he hg
 simp only [Tr.size_mk,Tr.sizeL] at hg ⊢;omega
theorem jcc:∀ (n:Nat) (l:List Tr) (p:Ps),AtOk ts p→(qdj ts n l p).2.err=0→(Tr.sizeL (qdj ts n l p).1:Int)+p.at_≤Tr.sizeL l+(qdj ts n l p).2.at_
 | 0,l,p,_,_=>by rw [qdj];exact Int.le_refl _
 | n+1,l,p,h,he=>by
  rw [qdj] at he ⊢
  split
  ·rename_i hs
   rw [if_pos hs] at he
   have h1:=qtx ht _ h
   have h2:=qty ht n (l++[(itemF ts p).1]) _ (h1.ok h)
   have h3:=jpq ht h (h2.err0 he)
   have h5:=jcc n (l++[(itemF ts p).1]) _ (h1.ok h) he
   rw [Tr.sizeL_snoc] at h5
   omega
  ·exact Int.le_refl _
theorem jpr (h:AtOk ts p) (he:(qci ts p).2.err=0):((qci ts p).1.size:Int)≤1+ts.length:=by
 have h1:=jcc ht ts.length [] p h he
 have h2:=((qty ht ts.length [] p h).ok h).hi
 have h3:=h.lo
 have e3:Tr.sizeL []=0:=rfl
 unfold qci
 simp only [Tr.size_mk]
 omega
end
end Pa
end Go.Proofs.YtcfllgdfhfcicaaGreatDoor
end
section
namespace Go.Proofs.YtcfllgdfhfcicaaGreatDoor
namespace Pa
open Go Go.Sx
theorem jps:∀ b:UInt8,Lx.digB b=true→48≤b.toNat∧b.toNat≤57:=by
 have h:∀ b:Fin 256,Lx.digB (UInt8.ofNat b)=true→48≤b.val∧b.val≤57:=by decide +kernel
 intro b hb
 have:=h ⟨b.toNat,b.toNat_lt⟩
 simp only [UInt8.ofNat_toNat] at this
 exact this hb
theorem jcd (p:UInt8→Bool):∀ l:List UInt8,∀ b∈l.take (Lx.spanN p l),p b=true
 | [],b,h=>by simp at h
 | x::r,b,h=>by
  rw [Lx.spanN] at h
  split at h
  ·rename_i hx
   rw [Nat.add_comm,List.take_succ_cons] at h
   rcases List.mem_cons.1 h with rfl|h
   ·exact hx
   ·exact jcd p r b h
  ·simp at h
theorem jpt (l:List UInt8):Lx.firstK l≠3:=by
 unfold Lx.firstK
 split
 ·decide
 ·split
  ·decide
  ·split <;> decide
theorem jpu {l:List UInt8} (h:Lx.firstK l=1) (h0:Lx.firstN l≠0):(l.take (Lx.firstN l)).length≤6∧∀ b∈l.take (Lx.firstN l),48≤b.toNat∧b.toNat≤57:=by
 cases l with
 | nil=>simp [Lx.firstK] at h
 | cons x r=>
  unfold Lx.firstK at h
  unfold Lx.firstN at h0 ⊢
  simp only at h h0 ⊢
  split at h
  ·simp at h
  ·rename_i h2
   rw [if_neg h2] at h0 ⊢
   split at h
   ·rename_i h3
    rw [if_pos h3] at h0 ⊢
    split at h0
    ·exact absurd rfl h0
    ·rename_i h6
     rw [if_neg h6]
     refine ⟨?_,fun b hb=>jps b (jcd _ _ b hb)⟩
     rw [List.length_take];omega
   ·simp at h
theorem jpv:∀ (n:Nat) (l:List UInt8) (p:Nat) (ts:List Lx.Tok),l.length≤n→Lx.lexR l p=.ok ts→
  ∃ pre e,ts=pre++[⟨3,[],e⟩]∧(∀ t∈pre,t.kind≠3∧(t.kind=1→t.s.length≤6∧∀ b∈t.s,48≤b.toNat∧b.toNat≤57))∧pre.length≤l.length:=by
 intro n
 induction n with
 | zero=>
  intro l p ts hl h
  obtain rfl:l=[]:=List.length_eq_zero_iff.1 (by omega)
  rw [Lx.lexR_nil] at h
  cases h
  exact ⟨[],_,rfl,fun t ht=>by simp at ht,Nat.le_refl _⟩
 | succ n ih=>
  intro l p ts hl h
  cases l with
  | nil=>
   rw [Lx.lexR_nil] at h
   cases h
   exact ⟨[],_,rfl,fun t ht=>by simp at ht,Nat.le_refl _⟩
  | cons b r=>
   have hr:r.length≤n:=by simpa using hl
   rw [Lx.lexR_cons] at h
   split at h
   ·obtain ⟨pre,e,h1,h2,h3⟩:=ih r _ ts hr h
    exact ⟨pre,e,h1,h2,by simp;omega⟩
   split at h
   ·obtain ⟨pre,e,h1,h2,h3⟩:=ih (r.drop (Lx.lineN r)) _ ts (by rw [List.length_drop];omega) h
    exact ⟨pre,e,h1,h2,by rw [List.length_drop] at h3;simp;omega⟩
   split at h
   ·cases h
   ·rename_i h0
    cases hx:Lx.lexR (r.drop (Lx.firstN (b::r) - 1)) (p+Lx.firstN (b::r)) with
    | error e=>rw [hx] at h;cases h
    | ok ts'=>
     rw [hx] at h
     cases h
     obtain ⟨pre,e,h1,h2,h3⟩:=ih (r.drop (Lx.firstN (b::r) - 1)) _ ts' (by rw [List.length_drop];omega) hx
     refine ⟨⟨Lx.firstK (b::r),(b::r).take (Lx.firstN (b::r)),p⟩::pre,e,by rw [h1];rfl,fun t ht=>?_,by rw [List.length_drop] at h3;simp;omega⟩
     rcases List.mem_cons.1 ht with rfl|ht
     ·exact ⟨jpt (b::r),fun hk=>jpu (l:=b::r) hk h0⟩
     ·exact h2 t ht
theorem jpw {s:List UInt8} (h:(Lx.lexAll s).2.1=0):ToksOk (Lx.lexAll s).1∧0<(Lx.lexAll s).1.length:=by
 unfold Lx.lexAll at h ⊢
 split at h
 ·simp at h
 rename_i hs
 rw [if_neg hs]
 split at h
 ·rename_i ts hts
  obtain ⟨pre,e,h1,h2,h3⟩:=jpv _ s 0 ts (Nat.le_refl _) hts
  simp only
  subst h1
  refine ⟨⟨by simp;omega,fun i hi=>?_,fun t ht hk=>?_⟩,by simp⟩
  ·rw [List.getD_eq_getElem?_getD]
   by_cases hip:i<pre.length
   ·rw [List.getElem?_append_left hip,List.getElem?_eq_getElem hip]
    have:=(h2 _ (List.getElem_mem hip)).1
    simp only [Option.getD_some,List.length_append,List.length_singleton]
    constructor
    ·intro h;exact absurd h this
    ·intro h;omega
   ·have:i=pre.length:=by simp at hi;omega
    subst this
    rw [List.getElem?_append_right (Nat.le_refl _),Nat.sub_self]
    simp
  ·rcases List.mem_append.1 ht with ht|ht
   ·exact (h2 t ht).2 hk
   ·rw [List.mem_singleton] at ht
    subst ht
    simp at hk
 ·simp at h
end Pa
end Go.Proofs.YtcfllgdfhfcicaaGreatDoor
end
section
namespace Go.Proofs.YtcfllgdfhfcicaaGreatDoor
open List renaming getD_eq_getElem?_getD → zd
open Go Go.Sx Go.RowKit Go.St Pa
set_option maxRecDepth 100000
set_option maxHeartbeats 8000000
theorem jpx (s:List UInt8) (hs:s.length≤1000000):Con Tryz.prog 19 [.str s] (jnr (qnc s)):=by
 refine zK {} 300 Tryz.func19 (fun c0 rdb=>?_)
 (repeat' ((conv=>whnf);first|refine zO ?_|refine Ob.auto ?_|refine zC 300 (joe s hs) ?_|refine zD 300 ?_|(apply zB <;> intro hb <;> (try simp [-zd] at hb) <;> try (exfalso;omega))))
 ·have he:(Lx.lexAll s).2.1≠0:=by assumption
  have e:qnc s=([],(Lx.lexAll s).2):=if_pos he
  rw [e]
  exact Le.tup ⟨Le.nils _ _,Le.refl _,trivial⟩
 have he:(Lx.lexAll s).2.1=0:=by assumption
 obtain ⟨ht,h0⟩:=jpw he
 have e:qnc s=qnb (Lx.lexAll s).1:=if_neg (by rw [he];decide)
 rw [e]
 generalize hts:(Lx.lexAll s).1=ts at ht h0 ⊢
 have hP:Pre ts ts.length ⟨0,0,0,0⟩:=⟨⟨Int.le_refl _,by simp only;omega⟩,by simp,by simp⟩
 ((conv=>whnf);refine zT 300 [2] (jox ht hP) qa ?_)
 (repeat' ((conv=>whnf);first|refine zO ?_|refine Ob.auto ?_|refine zD 300 ?_|(apply zB <;> intro hb <;> (try simp [-zd] at hb) <;> try (exfalso;omega))))
 ·have hn:(qci ts ⟨0,0,0,0⟩).2.err≠0:=by assumption
  have e:qnb ts=([],((qci ts ⟨0,0,0,0⟩).2.err,(qci ts ⟨0,0,0,0⟩).2.fat)):=if_pos hn
  rw [e]
  exact Le.tup ⟨Le.nils _ _,Le.refl _,trivial⟩
 have hn:(qci ts ⟨0,0,0,0⟩).2.err=0:=by assumption
 have hsz:(qci ts ⟨0,0,0,0⟩).1.size≤100000:=by
  have:=jpr ht hP.at_ hn
  have:=ht.len
  omega
 have e2:qnb ts=if 800<(layT 0 (qci ts ⟨0,0,0,0⟩).1).length then ([],(12,0)) else if 0≤deepT (qci ts ⟨0,0,0,0⟩).1 1 then ([],(12,deepT (qci ts ⟨0,0,0,0⟩).1 1)) else (layT 0 (qci ts ⟨0,0,0,0⟩).1,(0,0)):=if_neg (fun h=>h hn)
 rw [e2]
 generalize (qci ts ⟨0,0,0,0⟩).1=t at hsz ⊢
 (conv=>whnf)
 refine qdd (fun _=>rfl) 300 [] (jph t hsz) (by kernel_rfl) leA trivial (by exact qb rfl) (rowsM _) (by kernel_rfl) ?_
 (repeat' ((conv=>whnf);first|refine Ob.auto ?_|refine zC 300 (jpa _ t 1 (Nat.le_refl _) hsz (by decide) (by decide)) ?_|(apply zB <;> intro hb <;> (try simp [-zd] at hb) <;> try (exfalso;omega))|refine Ob.intro ?_ ?_|fail))
 ·have hb8:800<(layT 0 t).length:=by omega
  rw [if_pos hb8]
  exact Le.tup ⟨Le.nils _ _,Le.refl _,trivial⟩
 ·have hb8:¬ 800<(layT 0 t).length:=by omega
  rw [if_neg hb8,if_pos (by assumption)]
  exact Le.tup ⟨Le.nils _ _,Le.refl _,trivial⟩
 ·exact ⟨⟨trivial,⟨rfl,rfl⟩,fun k hk=>⟨trivial,trivial,trivial,⟨hk,⟨rfl,rfl⟩,trivial⟩,trivial,trivial⟩⟩,⟨trivial,trivial,trivial⟩,trivial⟩
 ·have hb8:¬ 800<(layT 0 t).length:=by omega
  rw [if_neg hb8,if_neg (by omega)]
  refine Le.tup ⟨Le.slcL rfl (fun k hk=>?_),Le.refl _,trivial⟩
  exact ⟨Le.refl _,Le.refl _,Le.refl _,Le.refl _,Le.refl _,trivial⟩
end Go.Proofs.YtcfllgdfhfcicaaGreatDoor
end
section
namespace Go.Proofs.YtcfllgdfhfcicaaGreatDoor
namespace Pa
open Go Go.Sx
def lexF:Nat→List UInt8→Nat→Except Nat (List Lx.Tok)
 | 0,_,p=>.error p
 | _+1,[],p=>.ok [⟨3,[],p⟩]
 | n+1,b::r,p=>if Lx.blankB b then lexF n r (p+1) else if Lx.slash2 (b::r) then lexF n (r.drop (Lx.lineN r)) (p+1+Lx.lineN r) else if Lx.firstN (b::r)=0 then .error p
  else (lexF n (r.drop (Lx.firstN (b::r) - 1)) (p+Lx.firstN (b::r))).map (⟨Lx.firstK (b::r),(b::r).take (Lx.firstN (b::r)),p⟩::·)
theorem qqi:∀ (n:Nat) (l:List UInt8) (p:Nat),l.length<n→lexF n l p=Lx.lexR l p
 | 0,_,_,h=>absurd h (Nat.not_lt_zero _)
 | n+1,[],p,_=>by rw [Lx.lexR_nil];rfl
 | n+1,b::r,p,h=>by
  have hr:r.length<n:=by simpa using h
  rw [Lx.lexR_cons,lexF,qqi n r _ hr,qqi n (r.drop (Lx.lineN r)) _ (by rw [List.length_drop];omega),qqi n (r.drop (Lx.firstN (b::r) - 1)) _ (by rw [List.length_drop];omega)]
def quq (s:List UInt8):List Nd × (Int × Int):=
 match lexF (s.length+1) s 0 with
 | .ok ts=>qnb ts
 | .error p=>([],(10,p))
theorem jpy {s:List UInt8} {r:List Nd × (Int × Int)} (h:quq s=r) (hs:s.length≤4000):qnc s=r:=by
 unfold quq at h
 rw [qqi _ _ _ (Nat.lt_succ_self _)] at h
 have hn:¬ 4000<s.length:=by omega
 unfold qnc Lx.lexAll
 split at h
 ·rename_i ts hts
  rw [hts,if_neg hn]
  exact h
 ·rename_i p hp
  rw [hp,if_neg hn]
  exact h
end Pa
end Go.Proofs.YtcfllgdfhfcicaaGreatDoor
end
