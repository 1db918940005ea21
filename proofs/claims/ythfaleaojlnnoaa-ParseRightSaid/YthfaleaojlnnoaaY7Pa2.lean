/- The document's parser in plain Lean: it goes on, and keeps how deep it is. -/
import Derived.Test.YthfaleaojlnnoaaY7Pa0
import Derived.Test.YthfaleaojlnnoaaY72
set_option linter.unusedSimpArgs false
set_option linter.unusedVariables false
namespace Go.Proofs.Ythfaleaojlnnoaa
namespace Pa
open Go Go.Sx
structure ToksOk (ts:List Lx.Tok):Prop where
 len:ts.length≤5000
 last:∀ i,i<ts.length→((ts.getD i Lx.tok0).kind=3↔i+1=ts.length)
 num:∀ t∈ts,t.kind=1→t.s.length≤6∧∀ b∈t.s,48≤b.toNat∧b.toNat≤57
structure AtOk (ts:List Lx.Tok) (p:Ps):Prop where
 lo:0≤p.at_
 hi:p.at_<ts.length
structure Step (ts:List Lx.Tok) (p q:Ps):Prop where
 le:p.at_≤q.at_
 hi:q.at_<ts.length
 deep:q.deep=p.deep
 err:p.err≠0→q=p
 fat:q.fat=p.fat∨∃ t∈ts,q.fat=t.pos
theorem qzf (s:List UInt8) (b:UInt8):qdk (s++[b])=10 * qdk s+((b.toNat:Int) - 48):=by
 unfold qdk;rw [List.foldl_append];rfl
theorem qpl {s:List UInt8} (h:∀ b∈s,48≤b.toNat∧b.toNat≤57):∀ i,i≤s.length→0≤qdk (s.take i)∧qdk (s.take i)<10 ^ i
 | 0,_=>by simp [qdk]
 | i+1,hi=>by
  have h1:=qpl h i (by omega)
  rw [List.take_succ_eq_append_getElem (by omega),qzf,Int.pow_succ]
  have h2:=h _ (xt (by omega:i<s.length))
  omega
section
variable {ts:List Lx.Tok} {p q r:Ps}
theorem qjb (h:AtOk ts p):tk ts p∈ts:=by
 have h0:=h.lo
 have h1:=h.hi
 unfold tk
 rw [List.getD_eq_getElem?_getD,ze (by omega)]
 exact xt _
theorem AtOk.refl (h:AtOk ts p):Step ts p p:=⟨zk _,h.hi,rfl,fun _=>rfl,.inl rfl⟩
theorem Step.trans (h:Step ts p q) (k:Step ts q r):Step ts p r:=
 ⟨Int.le_trans h.le k.le,k.hi,k.deep.trans h.deep,fun e=>by have:=h.err e;subst this;exact k.err e,by
  rcases k.fat with e|e
  ·rw [e];exact h.fat
  ·exact .inr e⟩
theorem Step.ok (h:AtOk ts p) (k:Step ts p q):AtOk ts q:=⟨Int.le_trans h.lo k.le,k.hi⟩
theorem qtn {s:List UInt8} (h:sees ts p s=true):p.err=0:=by
 unfold sees at h
 simp only [zf,xn] at h
 exact h.1
theorem jjn {s:List UInt8} (h:sees ts p s=true):(tk ts p).kind=2∨(tk ts p).kind=0:=by
 unfold sees qtl at h
 simp only [zf,xh,xn] at h
 rcases h.2.2 with h|h
 ·exact .inl h
 ·exact .inr h.1
theorem qnc {s:List UInt8} (h:p.err≠0):sees ts p s=false:=by
 cases e:sees ts p s with
 | false=>rfl
 | true=>exact absurd (qtn e) h
theorem jjo (h:qdq ts p=true):p.err=0:=by
 unfold qdq at h;simp only [zf,xn] at h;exact h.2
theorem jjp (h:qdr ts p=true):p.err=0:=by
 unfold qdr at h;simp only [zf,xn] at h;exact h.2
variable (ht:ToksOk ts)
include ht
theorem jjq (h:AtOk ts p) (hk:(tk ts p).kind≠3):p.at_+1<ts.length:=by
 have h0:=h.lo
 have h1:=h.hi
 have h2:=ht.last p.at_.toNat (by omega)
 have h3:¬ (p.at_.toNat+1=ts.length):=fun e=>hk (h2.2 e)
 omega
theorem qto (h:AtOk ts p) (hk:(tk ts p).kind≠3) (he:p.err=0):Step ts p (adv p):=
 ⟨by show p.at_≤p.at_+1;omega,jjq ht h hk,rfl,fun e=>absurd he e,.inl rfl⟩
theorem qh (h:AtOk ts p) {s:List UInt8} (hs:sees ts p s=true):Step ts p (adv p):=
 qto ht h (by have:=jjn hs;omega) (qtn hs)
omit ht in
theorem qpm (h:AtOk ts p) (e:Int):Step ts p (bad ts p e):=by
 unfold bad
 split
 ·rename_i he
  exact ⟨zk _,h.hi,rfl,fun e=>absurd he e,.inr ⟨_,qjb h,rfl⟩⟩
 ·exact h.refl
theorem qdb (h:AtOk ts p) (s:List UInt8):Step ts p (took ts p s):=by
 unfold took
 split
 ·exact qh ht h (by assumption)
 ·exact h.refl
theorem qe (h:AtOk ts p) (s:List UInt8):Step ts p (must ts p s):=by
 unfold must
 split
 ·exact qh ht h (by assumption)
 ·exact qpm h 11
theorem jl (h:AtOk ts p):Step ts p (qd ts p):=by
 unfold qd
 split
 ·rename_i hn
  refine qto ht h ?_ (jjo hn)
  unfold qdq at hn
  simp only [zf,xn] at hn
  omega
 ·exact qpm h 11
theorem qav (h:AtOk ts p):Step ts p (numP ts p):=by
 unfold numP
 split
 ·rename_i hn
  refine qto ht h ?_ (jjp hn)
  unfold qdr at hn
  simp only [zf,xn] at hn
  omega
 ·exact qpm h 11
abbrev Runs (ts:List Lx.Tok) (f:Ps→Tr × Ps):Prop:=∀ p,AtOk ts p→Step ts p (f p).2
theorem qgb {f:Ps→Tr × Ps} (hf:Runs ts f) {c:Ps→Bool} {sg:Ps→Int} (hc:∀ p,c p=true→∃ s,sees ts p s=true):∀ (n:Nat) (a:Tr) (p:Ps),AtOk ts p→Step ts p (qbt f c sg n a p).2
 | 0,a,p,h=>h.refl
 | n+1,a,p,h=>by
  rw [qbt]
  split
  ·rename_i hcp
   obtain ⟨s,hs⟩:=hc p hcp
   have h1:=qh ht h hs
   have h2:=hf _ (h1.ok h)
   exact h1.trans (h2.trans (qgb hf hc n _ _ (h2.ok (h1.ok h))))
  ·exact h.refl
theorem qzg {f:Ps→Tr × Ps} (hf:Runs ts f) (s:List UInt8) (sg:Int):Runs ts (qhp ts f s sg):=fun p h=>by
 have h1:=hf p h
 unfold qhp
 split
 ·rename_i hs
  have h2:=qh ht (h1.ok h) hs
  exact h1.trans (h2.trans (hf _ (h2.ok (h1.ok h))))
 ·exact h1
omit ht in
theorem qnd {p:Ps} (h:qna ts p=true):∃ s,sees ts p s=true:=by
 unfold qna at h
 simp only [xh] at h
 rcases h with h|h|h <;> exact ⟨_,h⟩
omit ht in
theorem qne {p:Ps} (h:sumC ts p=true):∃ s,sees ts p s=true:=by
 unfold sumC at h
 simp only [xh] at h
 rcases h with h|h <;> exact ⟨_,h⟩
section
variable {part:Ps→Tr × Ps} (hp:Runs ts part)
include hp
theorem qks:Runs ts (qiz ts part):=fun p h=>(hp p h).trans (qgb ht hp (fun _=>qnd) _ _ _ ((hp p h).ok h))
theorem qpn:Runs ts (sumF ts part):=fun p h=>(qks ht hp p h).trans (qgb ht (qks ht hp) (fun _=>qne) _ _ _ ((qks ht hp p h).ok h))
theorem qpo:Runs ts (qnb ts part):=qzg ht (qpn ht hp) _ _
theorem qkt:Runs ts (qja ts part):=qzg ht (qpo ht hp) _ _
theorem qku:Runs ts (andF ts part):=fun p h=>(qkt ht hp p h).trans (qgb ht (qkt ht hp) (fun _ h=>⟨_,h⟩) _ _ _ ((qkt ht hp p h).ok h))
theorem qkv:Runs ts (qbr ts part):=fun p h=>(qku ht hp p h).trans (qgb ht (qku ht hp) (fun _ h=>⟨_,h⟩) _ _ _ ((qku ht hp p h).ok h))
end
omit ht in
theorem jt (h:AtOk ts p):AtOk ts (inP ts p)∧(inP ts p).at_=p.at_∧(inP ts p).deep=p.deep+1∧(p.err≠0→(inP ts p).err=p.err∧(inP ts p).fat=p.fat):=by
 unfold inP
 split
 ·unfold bad
  split
  ·rename_i he
   exact ⟨⟨h.lo,h.hi⟩,rfl,rfl,fun e=>absurd he e⟩
  ·exact ⟨⟨h.lo,h.hi⟩,rfl,rfl,fun _=>⟨rfl,rfl⟩⟩
 ·exact ⟨⟨h.lo,h.hi⟩,rfl,rfl,fun _=>⟨rfl,rfl⟩⟩
omit ht in
theorem jjr (h:AtOk ts p):(inP ts p).fat=p.fat∨∃ t∈ts,(inP ts p).fat=t.pos:=by
 unfold inP
 split
 ·unfold bad
  split
  ·exact .inr ⟨_,qjb (p:={ p with deep:=p.deep+1 }) ⟨h.lo,h.hi⟩,rfl⟩
  ·exact .inl rfl
 ·exact .inl rfl
omit ht in
theorem qfc (h:AtOk ts p) (hs:Step ts (inP ts p) q):Step ts p (outP q):=by
 obtain ⟨h1,h2,h3,h4⟩:=jt h
 refine ⟨by have:=hs.le;show p.at_≤q.at_;omega,hs.hi,by have:=hs.deep;show q.deep - 1=p.deep;omega,fun e=>?_,by
  rcases hs.fat with e|e
  ·show q.fat=p.fat∨∃ t∈ts,q.fat=t.pos
   rw [e];exact jjr h
  ·exact .inr e⟩
 have h5:=h4 e
 have h6:=hs.err (by rw [h5.1];exact e)
 subst h6
 show ({ (inP ts p) with deep:=(inP ts p).deep - 1 }:Ps)=p
 rw [h3]
 cases p
 simp only [Ps.mk.injEq]
 exact ⟨h2,by simp,h5.1,h5.2⟩
omit ht in
theorem qtp {f:Ps→Tr × Ps} (hf:Runs ts f) (h:AtOk ts p):Step ts p (ifOk f p).2:=by
 unfold ifOk
 split
 ·exact hf p h
 ·exact h.refl
theorem qdl:∀ n,Runs ts (ja ts n)
 | 0=>fun p h=>h.refl
 | n+1=>fun p h=>by
  unfold ja
  simp only
  split
  ·exact qav ht h
  split
  ·rename_i hs
   have h1:=qh ht h hs
   exact h1.trans (jl ht (h1.ok h))
  split
  ·rename_i hs
   have h1:Step ts p (adv p):=by rcases hs with hs|hs <;> exact qh ht h hs
   exact h1.trans (qfc (h1.ok h) (qtp (qdl n) (jt (h1.ok h)).1))
  split
  ·rename_i hs
   have h1:=qh ht h hs
   have h2:=(jt (h1.ok h)).1
   have h3:Step ts (adv p) (outP (if (inP ts (adv p)).err=0 then (qbr ts (ja ts n) (inP ts (adv p))).2 else inP ts (adv p))):=by
    refine qfc (h1.ok h) ?_
    split
    ·exact qkv ht (qdl n) _ h2
    ·exact h2.refl
   exact h1.trans (h3.trans (qe ht (h3.ok (h1.ok h)) _))
  ·exact jl ht h
theorem qas:Runs ts (eF ts):=qkv ht (qdl ht _)
section
variable {stat:Ps→Tr × Ps} (hs:Runs ts stat)
include hs
theorem qei:∀ (n:Nat) (l:List Tr) (p:Ps),AtOk ts p→Step ts p (jb ts stat n l p).2
 | 0,l,p,h=>h.refl
 | n+1,l,p,h=>by
  rw [jb]
  split
  ·split
   ·exact qh ht h (by assumption)
   ·exact (hs p h).trans (qei n _ _ ((hs p h).ok h))
  ·exact h.refl
theorem qgq:Runs ts (qw ts stat):=fun p h=>by
 have h1:=qe ht h sLc
 exact h1.trans (qfc (h1.ok h) (qei ht hs _ _ _ (jt (h1.ok h)).1))
end
theorem qjc {blk:Ps→Tr × Ps} (hb:Runs ts blk):∀ (n:Nat) (l:List Tr) (p:Ps),AtOk ts p→Step ts p (orL ts blk n l p).2
 | 0,l,p,h=>h.refl
 | n+1,l,p,h=>by
  rw [orL]
  split
  ·have h1:=qh ht h (by assumption)
   have h2:=hb _ (h1.ok h)
   exact h1.trans (h2.trans (qjc hb n _ _ (h2.ok (h1.ok h))))
  ·exact h.refl
theorem jjs {blk:Ps→Tr × Ps} (hb:Runs ts blk) (a i:Int):Runs ts (qce ts blk a i):=fun p h=>by
 unfold qce
 split
 ·have h1:=qh ht h (by assumption)
  have h2:=jl ht (h1.ok h)
  have h3:=jl ht (h2.ok (h1.ok h))
  exact h1.trans (h2.trans (h3.trans (qe ht (h3.ok (h2.ok (h1.ok h))) _)))
 split
 ·have h1:=qh ht h (by assumption)
  have h2:=qas ht _ (h1.ok h)
  exact h1.trans (h2.trans (qe ht (h2.ok (h1.ok h)) _))
 ·have h1:=qe ht h ji
  have h2:=hb _ (h1.ok h)
  exact h1.trans (h2.trans (qjc ht hb _ _ _ (h2.ok (h1.ok h))))
theorem qeb:∀ n,Runs ts (qf ts n)
 | 0=>fun p h=>h.refl
 | n+1=>fun p h=>by
  have hb:=qgq ht (qeb n)
  unfold qf
  simp only
  split
  ·have h1:=qdb ht h qab
   exact h1.trans (jjs ht hb _ _ _ (h1.ok h))
  split
  ·have h1:=qh ht h (by assumption)
   have h2:=jl ht (h1.ok h)
   have h3:=qas ht _ (h2.ok (h1.ok h))
   exact h1.trans (h2.trans (h3.trans (qe ht (h3.ok (h2.ok (h1.ok h))) _)))
  split
  ·have h1:=qh ht h (by assumption)
   have h2:=qas ht _ (h1.ok h)
   have h3:=hb _ (h2.ok (h1.ok h))
   have h4:=h1.trans (h2.trans h3)
   split
   ·have h5:=qh ht (h4.ok h) (by assumption)
    exact h4.trans (h5.trans (hb _ (h5.ok (h4.ok h))))
   ·exact h4
  split
  ·have h1:=qh ht h (by assumption)
   have h2:=qas ht _ (h1.ok h)
   exact h1.trans (h2.trans (hb _ (h2.ok (h1.ok h))))
  split
  ·have h1:=qh ht h (by assumption)
   exact h1.trans (hb _ (h1.ok h))
  split
  ·have h1:=qh ht h (by assumption)
   exact h1.trans (qe ht (h1.ok h) _)
  split
  ·have h1:=qh ht h (by assumption)
   exact h1.trans (qe ht (h1.ok h) _)
  ·have h1:=jl ht h
   have h2:=qe ht (h1.ok h) sEq
   have h3:=qas ht _ (h2.ok (h1.ok h))
   exact h1.trans (h2.trans (h3.trans (qe ht (h3.ok (h2.ok (h1.ok h))) _)))
theorem qhr:Runs ts (sF ts):=qeb ht _
theorem qkw:Runs ts (qah ts):=fun p h=>by
 unfold qah
 simp only
 have h1:=qe ht h kVar
 have h2:=jl ht (h1.ok h)
 have h3:=h1.trans h2
 have h4:=h3.trans (qe ht (h3.ok h) kOf)
 have h5:=h4.trans (qav ht (h4.ok h))
 split
 ·have h6:=h5.trans (qh ht (h5.ok h) (by assumption))
  split
  ·have h7:=h6.trans (qh ht (h6.ok h) (by assumption))
   have h8:=h7.trans (qav ht (h7.ok h))
   exact h8.trans (qe ht (h8.ok h) _)
  ·have h8:=h6.trans (qav ht (h6.ok h))
   exact h8.trans (qe ht (h8.ok h) _)
 ·exact h5.trans (qe ht (h5.ok h) _)
theorem qgr:∀ (n:Nat) (l:List Tr) (p:Ps),AtOk ts p→Step ts p (qai ts n l p).2
 | 0,l,p,h=>h.refl
 | n+1,l,p,h=>by
  rw [qai]
  split
  ·have h2:=qkw ht _ h
   exact h2.trans (qgr n _ _ (h2.ok h))
  ·exact h.refl
theorem jjt:Runs ts (qbu ts):=fun p h=>by
 unfold qbu
 simp only
 have h1:=qe ht h qo
 have h3:=h1.trans (jl ht (h1.ok h))
 have h4:Step ts p (if sees ts (qd ts (must ts p qo)) qbl=true then (numN ts (adv (qd ts (must ts p qo))),numP ts (adv (qd ts (must ts p qo)))) else (1,qd ts (must ts p qo))).2:=by
  split
  ·have h5:=h3.trans (qh ht (h3.ok h) (by assumption))
   exact h5.trans (qav ht (h5.ok h))
  ·exact h3
 have h5:=h4.trans (qe ht (h4.ok h) sLc)
 have h6:=h5.trans (qgr ht ts.length [] _ (h5.ok h))
 exact h6.trans (qfc (h6.ok h) (qei ht (qhr ht) _ _ _ (jt (h6.ok h)).1))
theorem qpp:Runs ts (qax ts):=fun p h=>by
 unfold qax
 simp only
 split
 ·exact qkw ht _ h
 split
 ·exact jjt ht _ h
 split
 ·have h1:=qh ht h (by assumption)
  have h2:=h1.trans (jl ht (h1.ok h))
  have h3:=h2.trans (qe ht (h2.ok h) sLb)
  have h4:=h3.trans (qav ht (h3.ok h))
  have h5:=h4.trans (qe ht (h4.ok h) sRb)
  have h6:=h5.trans (qe ht (h5.ok h) kOf)
  have h7:=h6.trans (qav ht (h6.ok h))
  have h8:=h7.trans (qdb ht (h7.ok h) qfy)
  have h9:=h8.trans (qdb ht (h8.ok h) qfz)
  exact h9.trans (qe ht (h9.ok h) _)
 split
 ·have h1:=qh ht h (by assumption)
  have h2:=h1.trans (qas ht _ (h1.ok h))
  exact h2.trans (qe ht (h2.ok h) _)
 ·have h1:=qe ht h qiy
  exact h1.trans (qe ht (h1.ok h) _)
theorem qnf:∀ (n:Nat) (l:List Tr) (p:Ps),AtOk ts p→Step ts p (qcp ts n l p).2
 | 0,l,p,h=>h.refl
 | n+1,l,p,h=>by
  rw [qcp]
  split
  ·have h2:=qpp ht _ h
   exact h2.trans (qnf n _ _ (h2.ok h))
  ·exact h.refl
end
end Pa
end Go.Proofs.Ythfaleaojlnnoaa
