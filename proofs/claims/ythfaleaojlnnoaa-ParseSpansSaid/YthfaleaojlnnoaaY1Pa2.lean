/- The document's parser in plain Lean: it goes on, and keeps how deep it is. -/
import Derived.Test.YthfaleaojlnnoaaY1Pa0
import Derived.Test.YthfaleaojlnnoaaY12
set_option linter.unusedSimpArgs false
set_option linter.unusedVariables false
namespace Go.Proofs.Ythfaleaojlnnoaa
namespace Pa
open Go Go.Sx
structure ToksOk (ts:List Lx.Tok):Prop where
 len:ts.length≤5000
 last:∀ i,i<ts.length→((ts.getD i Lx.tok0).kind=3↔i+1=ts.length)
 num:∀ t∈ts,t.kind=1→t.s.length≤6∧∀ b∈t.s,48≤b.toNat∧b.toNat≤57
structure AtOk (ts:List Lx.Tok) (p:Ps):Prop where
 lo:0≤p.at_
 hi:p.at_<ts.length
structure Step (ts:List Lx.Tok) (p q:Ps):Prop where
 le:p.at_≤q.at_
 hi:q.at_<ts.length
 deep:q.deep=p.deep
 err:p.err≠0→q=p
 fat:q.fat=p.fat∨∃ t∈ts,q.fat=t.pos
theorem qxo (s:List UInt8) (b:UInt8):qcz (s++[b])=10 * qcz s+((b.toNat:Int) - 48):=by
 unfold qcz;rw [List.foldl_append];rfl
theorem qoh {s:List UInt8} (h:∀ b∈s,48≤b.toNat∧b.toNat≤57):∀ i,i≤s.length→0≤qcz (s.take i)∧qcz (s.take i)<10 ^ i
 | 0,_=>by simp [qcz]
 | i+1,hi=>by
  have h1:=qoh h i (by omega)
  rw [List.take_succ_eq_append_getElem (by omega),qxo,Int.pow_succ]
  have h2:=h _ (xa (by omega:i<s.length))
  omega
section
variable {ts:List Lx.Tok} {p q r:Ps}
theorem qig (h:AtOk ts p):tk ts p∈ts:=by
 have h0:=h.lo
 have h1:=h.hi
 unfold tk
 rw [List.getD_eq_getElem?_getD,ze (by omega)]
 exact xa _
theorem AtOk.refl (h:AtOk ts p):Step ts p p:=⟨zm _,h.hi,rfl,fun _=>rfl,.inl rfl⟩
theorem Step.trans (h:Step ts p q) (k:Step ts q r):Step ts p r:=
 ⟨Int.le_trans h.le k.le,k.hi,k.deep.trans h.deep,fun e=>by have:=h.err e;subst this;exact k.err e,by
  rcases k.fat with e|e
  ·rw [e];exact h.fat
  ·exact .inr e⟩
theorem Step.ok (h:AtOk ts p) (k:Step ts p q):AtOk ts q:=⟨Int.le_trans h.lo k.le,k.hi⟩
theorem qsi {s:List UInt8} (h:sees ts p s=true):p.err=0:=by
 unfold sees at h
 simp only [zf,xr] at h
 exact h.1
theorem jhf {s:List UInt8} (h:sees ts p s=true):(tk ts p).kind=2∨(tk ts p).kind=0:=by
 unfold sees qsg at h
 simp only [zf,zaa,xr] at h
 rcases h.2.2 with h|h
 ·exact .inl h
 ·exact .inr h.1
theorem qmc {s:List UInt8} (h:p.err≠0):sees ts p s=false:=by
 cases e:sees ts p s with
 | false=>rfl
 | true=>exact absurd (qsi e) h
theorem jhg (h:qdh ts p=true):p.err=0:=by
 unfold qdh at h;simp only [zf,xr] at h;exact h.2
theorem jhh (h:qdi ts p=true):p.err=0:=by
 unfold qdi at h;simp only [zf,xr] at h;exact h.2
variable (ht:ToksOk ts)
include ht
theorem jhi (h:AtOk ts p) (hk:(tk ts p).kind≠3):p.at_+1<ts.length:=by
 have h0:=h.lo
 have h1:=h.hi
 have h2:=ht.last p.at_.toNat (by omega)
 have h3:¬ (p.at_.toNat+1=ts.length):=fun e=>hk (h2.2 e)
 omega
theorem qsj (h:AtOk ts p) (hk:(tk ts p).kind≠3) (he:p.err=0):Step ts p (adv p):=
 ⟨by show p.at_≤p.at_+1;omega,jhi ht h hk,rfl,fun e=>absurd he e,.inl rfl⟩
theorem qg (h:AtOk ts p) {s:List UInt8} (hs:sees ts p s=true):Step ts p (adv p):=
 qsj ht h (by have:=jhf hs;omega) (qsi hs)
omit ht in
theorem qoi (h:AtOk ts p) (e:Int):Step ts p (bad ts p e):=by
 unfold bad
 split
 ·rename_i he
  exact ⟨zm _,h.hi,rfl,fun e=>absurd he e,.inr ⟨_,qig h,rfl⟩⟩
 ·exact h.refl
theorem qcq (h:AtOk ts p) (s:List UInt8):Step ts p (took ts p s):=by
 unfold took
 split
 ·exact qg ht h (by assumption)
 ·exact h.refl
theorem qe (h:AtOk ts p) (s:List UInt8):Step ts p (must ts p s):=by
 unfold must
 split
 ·exact qg ht h (by assumption)
 ·exact qoi h 11
theorem jj (h:AtOk ts p):Step ts p (qd ts p):=by
 unfold qd
 split
 ·rename_i hn
  refine qsj ht h ?_ (jhg hn)
  unfold qdh at hn
  simp only [zf,xr] at hn
  omega
 ·exact qoi h 11
theorem qap (h:AtOk ts p):Step ts p (numP ts p):=by
 unfold numP
 split
 ·rename_i hn
  refine qsj ht h ?_ (jhh hn)
  unfold qdi at hn
  simp only [zf,xr] at hn
  omega
 ·exact qoi h 11
abbrev Runs (ts:List Lx.Tok) (f:Ps→Tr × Ps):Prop:=∀ p,AtOk ts p→Step ts p (f p).2
theorem qfl {f:Ps→Tr × Ps} (hf:Runs ts f) {c:Ps→Bool} {sg:Ps→Int} (hc:∀ p,c p=true→∃ s,sees ts p s=true):∀ (n:Nat) (a:Tr) (p:Ps),AtOk ts p→Step ts p (qbq f c sg n a p).2
 | 0,a,p,h=>h.refl
 | n+1,a,p,h=>by
  rw [qbq]
  split
  ·rename_i hcp
   obtain ⟨s,hs⟩:=hc p hcp
   have h1:=qg ht h hs
   have h2:=hf _ (h1.ok h)
   exact h1.trans (h2.trans (qfl hf hc n _ _ (h2.ok (h1.ok h))))
  ·exact h.refl
theorem qxp {f:Ps→Tr × Ps} (hf:Runs ts f) (s:List UInt8) (sg:Int):Runs ts (qgz ts f s sg):=fun p h=>by
 have h1:=hf p h
 unfold qgz
 split
 ·rename_i hs
  have h2:=qg ht (h1.ok h) hs
  exact h1.trans (h2.trans (hf _ (h2.ok (h1.ok h))))
 ·exact h1
omit ht in
theorem qmd {p:Ps} (h:qma ts p=true):∃ s,sees ts p s=true:=by
 unfold qma at h
 simp only [zaa] at h
 rcases h with h|h|h <;> exact ⟨_,h⟩
omit ht in
theorem qme {p:Ps} (h:sumC ts p=true):∃ s,sees ts p s=true:=by
 unfold sumC at h
 simp only [zaa] at h
 rcases h with h|h <;> exact ⟨_,h⟩
section
variable {part:Ps→Tr × Ps} (hp:Runs ts part)
include hp
theorem qjt:Runs ts (qie ts part):=fun p h=>(hp p h).trans (qfl ht hp (fun _=>qmd) _ _ _ ((hp p h).ok h))
theorem qoj:Runs ts (sumF ts part):=fun p h=>(qjt ht hp p h).trans (qfl ht (qjt ht hp) (fun _=>qme) _ _ _ ((qjt ht hp p h).ok h))
theorem qok:Runs ts (qmb ts part):=qxp ht (qoj ht hp) _ _
theorem qju:Runs ts (qif ts part):=qxp ht (qok ht hp) _ _
theorem qjv:Runs ts (andF ts part):=fun p h=>(qju ht hp p h).trans (qfl ht (qju ht hp) (fun _ h=>⟨_,h⟩) _ _ _ ((qju ht hp p h).ok h))
theorem qjw:Runs ts (qbn ts part):=fun p h=>(qjv ht hp p h).trans (qfl ht (qjv ht hp) (fun _ h=>⟨_,h⟩) _ _ _ ((qjv ht hp p h).ok h))
end
omit ht in
theorem jq (h:AtOk ts p):AtOk ts (inP ts p)∧(inP ts p).at_=p.at_∧(inP ts p).deep=p.deep+1∧(p.err≠0→(inP ts p).err=p.err∧(inP ts p).fat=p.fat):=by
 unfold inP
 split
 ·unfold bad
  split
  ·rename_i he
   exact ⟨⟨h.lo,h.hi⟩,rfl,rfl,fun e=>absurd he e⟩
  ·exact ⟨⟨h.lo,h.hi⟩,rfl,rfl,fun _=>⟨rfl,rfl⟩⟩
 ·exact ⟨⟨h.lo,h.hi⟩,rfl,rfl,fun _=>⟨rfl,rfl⟩⟩
omit ht in
theorem jhj (h:AtOk ts p):(inP ts p).fat=p.fat∨∃ t∈ts,(inP ts p).fat=t.pos:=by
 unfold inP
 split
 ·unfold bad
  split
  ·exact .inr ⟨_,qig (p:={ p with deep:=p.deep+1 }) ⟨h.lo,h.hi⟩,rfl⟩
  ·exact .inl rfl
 ·exact .inl rfl
omit ht in
theorem qem (h:AtOk ts p) (hs:Step ts (inP ts p) q):Step ts p (outP q):=by
 obtain ⟨h1,h2,h3,h4⟩:=jq h
 refine ⟨by have:=hs.le;show p.at_≤q.at_;omega,hs.hi,by have:=hs.deep;show q.deep - 1=p.deep;omega,fun e=>?_,by
  rcases hs.fat with e|e
  ·show q.fat=p.fat∨∃ t∈ts,q.fat=t.pos
   rw [e];exact jhj h
  ·exact .inr e⟩
 have h5:=h4 e
 have h6:=hs.err (by rw [h5.1];exact e)
 subst h6
 show ({ (inP ts p) with deep:=(inP ts p).deep - 1 }:Ps)=p
 rw [h3]
 cases p
 simp only [Ps.mk.injEq]
 exact ⟨h2,by simp,h5.1,h5.2⟩
omit ht in
theorem qsk {f:Ps→Tr × Ps} (hf:Runs ts f) (h:AtOk ts p):Step ts p (ifOk f p).2:=by
 unfold ifOk
 split
 ·exact hf p h
 ·exact h.refl
theorem qda:∀ n,Runs ts (jb ts n)
 | 0=>fun p h=>h.refl
 | n+1=>fun p h=>by
  unfold jb
  simp only
  split
  ·exact qap ht h
  split
  ·rename_i hs
   have h1:=qg ht h hs
   exact h1.trans (jj ht (h1.ok h))
  split
  ·rename_i hs
   have h1:Step ts p (adv p):=by rcases hs with hs|hs <;> exact qg ht h hs
   exact h1.trans (qem (h1.ok h) (qsk (qda n) (jq (h1.ok h)).1))
  split
  ·rename_i hs
   have h1:=qg ht h hs
   have h2:=(jq (h1.ok h)).1
   have h3:Step ts (adv p) (outP (if (inP ts (adv p)).err=0 then (qbn ts (jb ts n) (inP ts (adv p))).2 else inP ts (adv p))):=by
    refine qem (h1.ok h) ?_
    split
    ·exact qjw ht (qda n) _ h2
    ·exact h2.refl
   exact h1.trans (h3.trans (qe ht (h3.ok (h1.ok h)) _))
  ·exact jj ht h
theorem qam:Runs ts (eF ts):=qjw ht (qda ht _)
section
variable {stat:Ps→Tr × Ps} (hs:Runs ts stat)
include hs
theorem qdy:∀ (n:Nat) (l:List Tr) (p:Ps),AtOk ts p→Step ts p (jc ts stat n l p).2
 | 0,l,p,h=>h.refl
 | n+1,l,p,h=>by
  rw [jc]
  split
  ·split
   ·exact qg ht h (by assumption)
   ·exact (hs p h).trans (qdy n _ _ ((hs p h).ok h))
  ·exact h.refl
theorem qga:Runs ts (qw ts stat):=fun p h=>by
 have h1:=qe ht h sLc
 exact h1.trans (qem (h1.ok h) (qdy ht hs _ _ _ (jq (h1.ok h)).1))
end
theorem qih {blk:Ps→Tr × Ps} (hb:Runs ts blk):∀ (n:Nat) (l:List Tr) (p:Ps),AtOk ts p→Step ts p (orL ts blk n l p).2
 | 0,l,p,h=>h.refl
 | n+1,l,p,h=>by
  rw [orL]
  split
  ·have h1:=qg ht h (by assumption)
   have h2:=hb _ (h1.ok h)
   exact h1.trans (h2.trans (qih hb n _ _ (h2.ok (h1.ok h))))
  ·exact h.refl
theorem jhk {blk:Ps→Tr × Ps} (hb:Runs ts blk) (a i:Int):Runs ts (qca ts blk a i):=fun p h=>by
 unfold qca
 split
 ·have h1:=qg ht h (by assumption)
  have h2:=jj ht (h1.ok h)
  have h3:=jj ht (h2.ok (h1.ok h))
  exact h1.trans (h2.trans (h3.trans (qe ht (h3.ok (h2.ok (h1.ok h))) _)))
 split
 ·have h1:=qg ht h (by assumption)
  have h2:=qam ht _ (h1.ok h)
  exact h1.trans (h2.trans (qe ht (h2.ok (h1.ok h)) _))
 ·have h1:=qe ht h jf
  have h2:=hb _ (h1.ok h)
  exact h1.trans (h2.trans (qih ht hb _ _ _ (h2.ok (h1.ok h))))
theorem qdq:∀ n,Runs ts (qf ts n)
 | 0=>fun p h=>h.refl
 | n+1=>fun p h=>by
  have hb:=qga ht (qdq n)
  unfold qf
  simp only
  split
  ·have h1:=qcq ht h jy
   exact h1.trans (jhk ht hb _ _ _ (h1.ok h))
  split
  ·have h1:=qg ht h (by assumption)
   have h2:=jj ht (h1.ok h)
   have h3:=qam ht _ (h2.ok (h1.ok h))
   exact h1.trans (h2.trans (h3.trans (qe ht (h3.ok (h2.ok (h1.ok h))) _)))
  split
  ·have h1:=qg ht h (by assumption)
   have h2:=qam ht _ (h1.ok h)
   have h3:=hb _ (h2.ok (h1.ok h))
   have h4:=h1.trans (h2.trans h3)
   split
   ·have h5:=qg ht (h4.ok h) (by assumption)
    exact h4.trans (h5.trans (hb _ (h5.ok (h4.ok h))))
   ·exact h4
  split
  ·have h1:=qg ht h (by assumption)
   have h2:=qam ht _ (h1.ok h)
   exact h1.trans (h2.trans (hb _ (h2.ok (h1.ok h))))
  split
  ·have h1:=qg ht h (by assumption)
   exact h1.trans (hb _ (h1.ok h))
  split
  ·have h1:=qg ht h (by assumption)
   exact h1.trans (qe ht (h1.ok h) _)
  split
  ·have h1:=qg ht h (by assumption)
   exact h1.trans (qe ht (h1.ok h) _)
  ·have h1:=jj ht h
   have h2:=qe ht (h1.ok h) sEq
   have h3:=qam ht _ (h2.ok (h1.ok h))
   exact h1.trans (h2.trans (h3.trans (qe ht (h3.ok (h2.ok (h1.ok h))) _)))
theorem qha:Runs ts (sF ts):=qdq ht _
theorem qjx:Runs ts (qae ts):=fun p h=>by
 unfold qae
 simp only
 have h1:=qe ht h kVar
 have h2:=jj ht (h1.ok h)
 have h3:=h1.trans h2
 have h4:=h3.trans (qe ht (h3.ok h) kOf)
 have h5:=h4.trans (qap ht (h4.ok h))
 split
 ·have h6:=h5.trans (qg ht (h5.ok h) (by assumption))
  split
  ·have h7:=h6.trans (qg ht (h6.ok h) (by assumption))
   have h8:=h7.trans (qap ht (h7.ok h))
   exact h8.trans (qe ht (h8.ok h) _)
  ·have h8:=h6.trans (qap ht (h6.ok h))
   exact h8.trans (qe ht (h8.ok h) _)
 ·exact h5.trans (qe ht (h5.ok h) _)
theorem qgb:∀ (n:Nat) (l:List Tr) (p:Ps),AtOk ts p→Step ts p (qaf ts n l p).2
 | 0,l,p,h=>h.refl
 | n+1,l,p,h=>by
  rw [qaf]
  split
  ·have h2:=qjx ht _ h
   exact h2.trans (qgb n _ _ (h2.ok h))
  ·exact h.refl
theorem jhl:Runs ts (qbr ts):=fun p h=>by
 unfold qbr
 simp only
 have h1:=qe ht h qm
 have h3:=h1.trans (jj ht (h1.ok h))
 have h4:Step ts p (if sees ts (qd ts (must ts p qm)) qbg=true then (numN ts (adv (qd ts (must ts p qm))),numP ts (adv (qd ts (must ts p qm)))) else (1,qd ts (must ts p qm))).2:=by
  split
  ·have h5:=h3.trans (qg ht (h3.ok h) (by assumption))
   exact h5.trans (qap ht (h5.ok h))
  ·exact h3
 have h5:=h4.trans (qe ht (h4.ok h) sLc)
 have h6:=h5.trans (qgb ht ts.length [] _ (h5.ok h))
 exact h6.trans (qem (h6.ok h) (qdy ht (qha ht) _ _ _ (jq (h6.ok h)).1))
theorem qol:Runs ts (qat ts):=fun p h=>by
 unfold qat
 simp only
 split
 ·exact qjx ht _ h
 split
 ·exact jhl ht _ h
 split
 ·have h1:=qg ht h (by assumption)
  have h2:=h1.trans (jj ht (h1.ok h))
  have h3:=h2.trans (qe ht (h2.ok h) sLb)
  have h4:=h3.trans (qap ht (h3.ok h))
  have h5:=h4.trans (qe ht (h4.ok h) sRb)
  have h6:=h5.trans (qe ht (h5.ok h) kOf)
  have h7:=h6.trans (qap ht (h6.ok h))
  have h8:=h7.trans (qcq ht (h7.ok h) qfi)
  have h9:=h8.trans (qcq ht (h8.ok h) qfj)
  exact h9.trans (qe ht (h9.ok h) _)
 split
 ·have h1:=qg ht h (by assumption)
  have h2:=h1.trans (qam ht _ (h1.ok h))
  exact h2.trans (qe ht (h2.ok h) _)
 ·have h1:=qe ht h qid
  exact h1.trans (qe ht (h1.ok h) _)
theorem qmf:∀ (n:Nat) (l:List Tr) (p:Ps),AtOk ts p→Step ts p (qci ts n l p).2
 | 0,l,p,h=>h.refl
 | n+1,l,p,h=>by
  rw [qci]
  split
  ·have h2:=qol ht _ h
   exact h2.trans (qmf n _ _ (h2.ok h))
  ·exact h.refl
end
end Pa
end Go.Proofs.Ythfaleaojlnnoaa
