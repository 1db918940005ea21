/- Some texts of the library, one behind the other. -/
import Derived.Test.YthfaleaojlnnoaaY3Pa0
import Derived.Test.YthfaleaojlnnoaaY33
import Derived.Test.YthfaleaojlnnoaaY32
import Derived.Test.YthfaleaojlnnoaaProg
import Derived.KernelRfl
set_option linter.unusedSimpArgs false
set_option linter.unusedVariables false
section
namespace Go.Proofs.Ythfaleaojlnnoaa
namespace Pa
open Go Go.Sx
structure ToksOk (ts:List Lx.Tok):Prop where
 len:ts.length≤5000
 last:∀ i,i<ts.length→((ts.getD i Lx.tok0).kind=3↔i+1=ts.length)
 num:∀ t∈ts,t.kind=1→t.s.length≤6∧∀ b∈t.s,48≤b.toNat∧b.toNat≤57
structure AtOk (ts:List Lx.Tok) (p:Ps):Prop where
 lo:0≤p.at_
 hi:p.at_<ts.length
structure Step (ts:List Lx.Tok) (p q:Ps):Prop where
 le:p.at_≤q.at_
 hi:q.at_<ts.length
 deep:q.deep=p.deep
 err:p.err≠0→q=p
 fat:q.fat=p.fat∨∃ t∈ts,q.fat=t.pos
theorem qyl (s:List UInt8) (b:UInt8):qdj (s++[b])=10 * qdj s+((b.toNat:Int) - 48):=by
 unfold qdj;rw [List.foldl_append];rfl
theorem qpb {s:List UInt8} (h:∀ b∈s,48≤b.toNat∧b.toNat≤57):∀ i,i≤s.length→0≤qdj (s.take i)∧qdj (s.take i)<10 ^ i
 | 0,_=>by simp [qdj]
 | i+1,hi=>by
  have h1:=qpb h i (by omega)
  rw [List.take_succ_eq_append_getElem (by omega),qyl,Int.pow_succ]
  have h2:=h _ (xq (by omega:i<s.length))
  omega
section
variable {ts:List Lx.Tok} {p q r:Ps}
theorem qis (h:AtOk ts p):tk ts p∈ts:=by
 have h0:=h.lo
 have h1:=h.hi
 unfold tk
 rw [List.getD_eq_getElem?_getD,ze (by omega)]
 exact xq _
theorem AtOk.refl (h:AtOk ts p):Step ts p p:=⟨zp _,h.hi,rfl,fun _=>rfl,.inl rfl⟩
theorem Step.trans (h:Step ts p q) (k:Step ts q r):Step ts p r:=
 ⟨Int.le_trans h.le k.le,k.hi,k.deep.trans h.deep,fun e=>by have:=h.err e;subst this;exact k.err e,by
  rcases k.fat with e|e
  ·rw [e];exact h.fat
  ·exact .inr e⟩
theorem Step.ok (h:AtOk ts p) (k:Step ts p q):AtOk ts q:=⟨Int.le_trans h.lo k.le,k.hi⟩
theorem qtf {s:List UInt8} (h:sees ts p s=true):p.err=0:=by
 unfold sees at h
 simp only [zf,xu] at h
 exact h.1
theorem jiy {s:List UInt8} (h:sees ts p s=true):(tk ts p).kind=2∨(tk ts p).kind=0:=by
 unfold sees qpa at h
 simp only [zf,zab,xu] at h
 rcases h.2.2 with h|h
 ·exact .inl h
 ·exact .inr h.1
theorem qmq {s:List UInt8} (h:p.err≠0):sees ts p s=false:=by
 cases e:sees ts p s with
 | false=>rfl
 | true=>exact absurd (qtf e) h
theorem jiz (h:qcx ts p=true):p.err=0:=by
 unfold qcx at h;simp only [zf,xu] at h;exact h.2
theorem jja (h:qcy ts p=true):p.err=0:=by
 unfold qcy at h;simp only [zf,xu] at h;exact h.2
variable (ht:ToksOk ts)
include ht
theorem jjb (h:AtOk ts p) (hk:(tk ts p).kind≠3):p.at_+1<ts.length:=by
 have h0:=h.lo
 have h1:=h.hi
 have h2:=ht.last p.at_.toNat (by omega)
 have h3:¬ (p.at_.toNat+1=ts.length):=fun e=>hk (h2.2 e)
 omega
theorem qtg (h:AtOk ts p) (hk:(tk ts p).kind≠3) (he:p.err=0):Step ts p (adv p):=
 ⟨by show p.at_≤p.at_+1;omega,jjb ht h hk,rfl,fun e=>absurd he e,.inl rfl⟩
theorem qg (h:AtOk ts p) {s:List UInt8} (hs:sees ts p s=true):Step ts p (adv p):=
 qtg ht h (by have:=jiy hs;omega) (qtf hs)
omit ht in
theorem qpc (h:AtOk ts p) (e:Int):Step ts p (bad ts p e):=by
 unfold bad
 split
 ·rename_i he
  exact ⟨zp _,h.hi,rfl,fun e=>absurd he e,.inr ⟨_,qis h,rfl⟩⟩
 ·exact h.refl
theorem qcz (h:AtOk ts p) (s:List UInt8):Step ts p (took ts p s):=by
 unfold took
 split
 ·exact qg ht h (by assumption)
 ·exact h.refl
theorem qe (h:AtOk ts p) (s:List UInt8):Step ts p (must ts p s):=by
 unfold must
 split
 ·exact qg ht h (by assumption)
 ·exact qpc h 11
theorem jm (h:AtOk ts p):Step ts p (qd ts p):=by
 unfold qd
 split
 ·rename_i hn
  refine qtg ht h ?_ (jiz hn)
  unfold qcx at hn
  simp only [zf,xu] at hn
  omega
 ·exact qpc h 11
theorem qas (h:AtOk ts p):Step ts p (numP ts p):=by
 unfold numP
 split
 ·rename_i hn
  refine qtg ht h ?_ (jja hn)
  unfold qcy at hn
  simp only [zf,xu] at hn
  omega
 ·exact qpc h 11
abbrev Runs (ts:List Lx.Tok) (f:Ps→Tr × Ps):Prop:=∀ p,AtOk ts p→Step ts p (f p).2
theorem qfv {f:Ps→Tr × Ps} (hf:Runs ts f) {c:Ps→Bool} {sg:Ps→Int} (hc:∀ p,c p=true→∃ s,sees ts p s=true):∀ (n:Nat) (a:Tr) (p:Ps),AtOk ts p→Step ts p (qav f c sg n a p).2
 | 0,a,p,h=>h.refl
 | n+1,a,p,h=>by
  rw [qav]
  split
  ·rename_i hcp
   obtain ⟨s,hs⟩:=hc p hcp
   have h1:=qg ht h hs
   have h2:=hf _ (h1.ok h)
   exact h1.trans (h2.trans (qfv hf hc n _ _ (h2.ok (h1.ok h))))
  ·exact h.refl
theorem qym {f:Ps→Tr × Ps} (hf:Runs ts f) (s:List UInt8) (sg:Int):Runs ts (qet ts f s sg):=fun p h=>by
 have h1:=hf p h
 unfold qet
 split
 ·rename_i hs
  have h2:=qg ht (h1.ok h) hs
  exact h1.trans (h2.trans (hf _ (h2.ok (h1.ok h))))
 ·exact h1
omit ht in
theorem qmr {p:Ps} (h:qkj ts p=true):∃ s,sees ts p s=true:=by
 unfold qkj at h
 simp only [zab] at h
 rcases h with h|h|h <;> exact ⟨_,h⟩
omit ht in
theorem qms {p:Ps} (h:sumC ts p=true):∃ s,sees ts p s=true:=by
 unfold sumC at h
 simp only [zab] at h
 rcases h with h|h <;> exact ⟨_,h⟩
section
variable {part:Ps→Tr × Ps} (hp:Runs ts part)
include hp
theorem qkk:Runs ts (qfu ts part):=fun p h=>(hp p h).trans (qfv ht hp (fun _=>qmr) _ _ _ ((hp p h).ok h))
theorem qpd:Runs ts (sumF ts part):=fun p h=>(qkk ht hp p h).trans (qfv ht (qkk ht hp) (fun _=>qms) _ _ _ ((qkk ht hp p h).ok h))
theorem qpe:Runs ts (qir ts part):=qym ht (qpd ht hp) _ _
theorem qkl:Runs ts (qgl ts part):=qym ht (qpe ht hp) _ _
theorem qkm:Runs ts (andF ts part):=fun p h=>(qkl ht hp p h).trans (qfv ht (qkl ht hp) (fun _ h=>⟨_,h⟩) _ _ _ ((qkl ht hp p h).ok h))
theorem qkn:Runs ts (qba ts part):=fun p h=>(qkm ht hp p h).trans (qfv ht (qkm ht hp) (fun _ h=>⟨_,h⟩) _ _ _ ((qkm ht hp p h).ok h))
end
omit ht in
theorem ju (h:AtOk ts p):AtOk ts (inP ts p)∧(inP ts p).at_=p.at_∧(inP ts p).deep=p.deep+1∧(p.err≠0→(inP ts p).err=p.err∧(inP ts p).fat=p.fat):=by
 unfold inP
 split
 ·unfold bad
  split
  ·rename_i he
   exact ⟨⟨h.lo,h.hi⟩,rfl,rfl,fun e=>absurd he e⟩
  ·exact ⟨⟨h.lo,h.hi⟩,rfl,rfl,fun _=>⟨rfl,rfl⟩⟩
 ·exact ⟨⟨h.lo,h.hi⟩,rfl,rfl,fun _=>⟨rfl,rfl⟩⟩
omit ht in
theorem jjc (h:AtOk ts p):(inP ts p).fat=p.fat∨∃ t∈ts,(inP ts p).fat=t.pos:=by
 unfold inP
 split
 ·unfold bad
  split
  ·exact .inr ⟨_,qis (p:={ p with deep:=p.deep+1 }) ⟨h.lo,h.hi⟩,rfl⟩
  ·exact .inl rfl
 ·exact .inl rfl
omit ht in
theorem qeu (h:AtOk ts p) (hs:Step ts (inP ts p) q):Step ts p (outP q):=by
 obtain ⟨h1,h2,h3,h4⟩:=ju h
 refine ⟨by have:=hs.le;show p.at_≤q.at_;omega,hs.hi,by have:=hs.deep;show q.deep - 1=p.deep;omega,fun e=>?_,by
  rcases hs.fat with e|e
  ·show q.fat=p.fat∨∃ t∈ts,q.fat=t.pos
   rw [e];exact jjc h
  ·exact .inr e⟩
 have h5:=h4 e
 have h6:=hs.err (by rw [h5.1];exact e)
 subst h6
 show ({ (inP ts p) with deep:=(inP ts p).deep - 1 }:Ps)=p
 rw [h3]
 cases p
 simp only [Ps.mk.injEq]
 exact ⟨h2,by simp,h5.1,h5.2⟩
omit ht in
theorem qth {f:Ps→Tr × Ps} (hf:Runs ts f) (h:AtOk ts p):Step ts p (ifOk f p).2:=by
 unfold ifOk
 split
 ·exact hf p h
 ·exact h.refl
theorem qdk:∀ n,Runs ts (jc ts n)
 | 0=>fun p h=>h.refl
 | n+1=>fun p h=>by
  unfold jc
  simp only
  split
  ·exact qas ht h
  split
  ·rename_i hs
   have h1:=qg ht h hs
   exact h1.trans (jm ht (h1.ok h))
  split
  ·rename_i hs
   have h1:Step ts p (adv p):=by rcases hs with hs|hs <;> exact qg ht h hs
   exact h1.trans (qeu (h1.ok h) (qth (qdk n) (ju (h1.ok h)).1))
  split
  ·rename_i hs
   have h1:=qg ht h hs
   have h2:=(ju (h1.ok h)).1
   have h3:Step ts (adv p) (outP (if (inP ts (adv p)).err=0 then (qba ts (jc ts n) (inP ts (adv p))).2 else inP ts (adv p))):=by
    refine qeu (h1.ok h) ?_
    split
    ·exact qkn ht (qdk n) _ h2
    ·exact h2.refl
   exact h1.trans (h3.trans (qe ht (h3.ok (h1.ok h)) _))
  ·exact jm ht h
theorem qap:Runs ts (eF ts):=qkn ht (qdk ht _)
section
variable {stat:Ps→Tr × Ps} (hs:Runs ts stat)
include hs
theorem qeg:∀ (n:Nat) (l:List Tr) (p:Ps),AtOk ts p→Step ts p (jb ts stat n l p).2
 | 0,l,p,h=>h.refl
 | n+1,l,p,h=>by
  rw [jb]
  split
  ·split
   ·exact qg ht h (by assumption)
   ·exact (hs p h).trans (qeg n _ _ ((hs p h).ok h))
  ·exact h.refl
theorem qgm:Runs ts (qr ts stat):=fun p h=>by
 have h1:=qe ht h sLc
 exact h1.trans (qeu (h1.ok h) (qeg ht hs _ _ _ (ju (h1.ok h)).1))
end
theorem qit {blk:Ps→Tr × Ps} (hb:Runs ts blk):∀ (n:Nat) (l:List Tr) (p:Ps),AtOk ts p→Step ts p (orL ts blk n l p).2
 | 0,l,p,h=>h.refl
 | n+1,l,p,h=>by
  rw [orL]
  split
  ·have h1:=qg ht h (by assumption)
   have h2:=hb _ (h1.ok h)
   exact h1.trans (h2.trans (qit hb n _ _ (h2.ok (h1.ok h))))
  ·exact h.refl
theorem jjd {blk:Ps→Tr × Ps} (hb:Runs ts blk) (a i:Int):Runs ts (qbo ts blk a i):=fun p h=>by
 unfold qbo
 split
 ·have h1:=qg ht h (by assumption)
  have h2:=jm ht (h1.ok h)
  have h3:=jm ht (h2.ok (h1.ok h))
  exact h1.trans (h2.trans (h3.trans (qe ht (h3.ok (h2.ok (h1.ok h))) _)))
 split
 ·have h1:=qg ht h (by assumption)
  have h2:=qap ht _ (h1.ok h)
  exact h1.trans (h2.trans (qe ht (h2.ok (h1.ok h)) _))
 ·have h1:=qe ht h jf
  have h2:=hb _ (h1.ok h)
  exact h1.trans (h2.trans (qit ht hb _ _ _ (h2.ok (h1.ok h))))
theorem qdz:∀ n,Runs ts (qf ts n)
 | 0=>fun p h=>h.refl
 | n+1=>fun p h=>by
  have hb:=qgm ht (qdz n)
  unfold qf
  simp only
  split
  ·have h1:=qcz ht h qac
   exact h1.trans (jjd ht hb _ _ _ (h1.ok h))
  split
  ·have h1:=qg ht h (by assumption)
   have h2:=jm ht (h1.ok h)
   have h3:=qap ht _ (h2.ok (h1.ok h))
   exact h1.trans (h2.trans (h3.trans (qe ht (h3.ok (h2.ok (h1.ok h))) _)))
  split
  ·have h1:=qg ht h (by assumption)
   have h2:=qap ht _ (h1.ok h)
   have h3:=hb _ (h2.ok (h1.ok h))
   have h4:=h1.trans (h2.trans h3)
   split
   ·have h5:=qg ht (h4.ok h) (by assumption)
    exact h4.trans (h5.trans (hb _ (h5.ok (h4.ok h))))
   ·exact h4
  split
  ·have h1:=qg ht h (by assumption)
   have h2:=qap ht _ (h1.ok h)
   exact h1.trans (h2.trans (hb _ (h2.ok (h1.ok h))))
  split
  ·have h1:=qg ht h (by assumption)
   exact h1.trans (hb _ (h1.ok h))
  split
  ·have h1:=qg ht h (by assumption)
   exact h1.trans (qe ht (h1.ok h) _)
  split
  ·have h1:=qg ht h (by assumption)
   exact h1.trans (qe ht (h1.ok h) _)
  ·have h1:=jm ht h
   have h2:=qe ht (h1.ok h) sEq
   have h3:=qap ht _ (h2.ok (h1.ok h))
   exact h1.trans (h2.trans (h3.trans (qe ht (h3.ok (h2.ok (h1.ok h))) _)))
theorem qhl:Runs ts (sF ts):=qdz ht _
theorem qko:Runs ts (jt ts):=fun p h=>by
 unfold jt
 simp only
 have h1:=qe ht h kVar
 have h2:=jm ht (h1.ok h)
 have h3:=h1.trans h2
 have h4:=h3.trans (qe ht (h3.ok h) kOf)
 have h5:=h4.trans (qas ht (h4.ok h))
 split
 ·have h6:=h5.trans (qg ht (h5.ok h) (by assumption))
  split
  ·have h7:=h6.trans (qg ht (h6.ok h) (by assumption))
   have h8:=h7.trans (qas ht (h7.ok h))
   exact h8.trans (qe ht (h8.ok h) _)
  ·have h8:=h6.trans (qas ht (h6.ok h))
   exact h8.trans (qe ht (h8.ok h) _)
 ·exact h5.trans (qe ht (h5.ok h) _)
theorem qgn:∀ (n:Nat) (l:List Tr) (p:Ps),AtOk ts p→Step ts p (jn ts n l p).2
 | 0,l,p,h=>h.refl
 | n+1,l,p,h=>by
  rw [jn]
  split
  ·have h2:=qko ht _ h
   exact h2.trans (qgn n _ _ (h2.ok h))
  ·exact h.refl
theorem jje:Runs ts (qbg ts):=fun p h=>by
 unfold qbg
 simp only
 have h1:=qe ht h qn
 have h3:=h1.trans (jm ht (h1.ok h))
 have h4:Step ts p (if sees ts (qd ts (must ts p qn)) qbn=true then (numN ts (adv (qd ts (must ts p qn))),numP ts (adv (qd ts (must ts p qn)))) else (1,qd ts (must ts p qn))).2:=by
  split
  ·have h5:=h3.trans (qg ht (h3.ok h) (by assumption))
   exact h5.trans (qas ht (h5.ok h))
  ·exact h3
 have h5:=h4.trans (qe ht (h4.ok h) sLc)
 have h6:=h5.trans (qgn ht ts.length [] _ (h5.ok h))
 exact h6.trans (qeu (h6.ok h) (qeg ht (qhl ht) _ _ _ (ju (h6.ok h)).1))
theorem qpf:Runs ts (qaj ts):=fun p h=>by
 unfold qaj
 simp only
 split
 ·exact qko ht _ h
 split
 ·exact jje ht _ h
 split
 ·have h1:=qg ht h (by assumption)
  have h2:=h1.trans (jm ht (h1.ok h))
  have h3:=h2.trans (qe ht (h2.ok h) sLb)
  have h4:=h3.trans (qas ht (h3.ok h))
  have h5:=h4.trans (qe ht (h4.ok h) sRb)
  have h6:=h5.trans (qe ht (h5.ok h) kOf)
  have h7:=h6.trans (qas ht (h6.ok h))
  have h8:=h7.trans (qcz ht (h7.ok h) qfr)
  have h9:=h8.trans (qcz ht (h8.ok h) qfs)
  exact h9.trans (qe ht (h9.ok h) _)
 split
 ·have h1:=qg ht h (by assumption)
  have h2:=h1.trans (qap ht _ (h1.ok h))
  exact h2.trans (qe ht (h2.ok h) _)
 ·have h1:=qe ht h qiq
  exact h1.trans (qe ht (h1.ok h) _)
theorem qmt:∀ (n:Nat) (l:List Tr) (p:Ps),AtOk ts p→Step ts p (qbh ts n l p).2
 | 0,l,p,h=>h.refl
 | n+1,l,p,h=>by
  rw [qbh]
  split
  ·have h2:=qpf ht _ h
   exact h2.trans (qmt n _ _ (h2.ok h))
  ·exact h.refl
end
end Pa
end Go.Proofs.Ythfaleaojlnnoaa
end
section
namespace Go.Proofs.Ythfaleaojlnnoaa
open Go Go.Sx Go.RowKit Go.St
set_option maxRecDepth 100000
set_option maxHeartbeats 2000000
abbrev bv (n:Int):AV:=.int .u8 n
theorem qyn (c:Int):Con Try.prog 33 [bv c] (.bool (decide (48≤c) && decide (c≤57))):=by
 refine zK {} 300 Try.func33 (fun c0 rdb=>?_)
 (repeat' ((conv=>whnf);first|refine Ob.auto ?_|fail))
 exact Le.refl _
theorem qyo (c:Int):Con Try.prog 31 [bv c] (.bool (qkg c)):=by
 refine zK {} 300 Try.func31 (fun c0 rdb=>?_)
 (repeat' ((conv=>whnf);first|refine Ob.auto ?_|fail))
 exact Le.refl _
theorem jjf (c:Int):Con Try.prog 32 [bv c] (.bool (qoy c)):=by
 refine zK {} 300 Try.func32 (fun c0 rdb=>?_)
 (repeat' ((conv=>whnf);first|refine Ob.auto ?_|refine zC 300 (qyo c) ?_|refine zG 300 (fun hg=>qyn c) ?_|fail))
 exact Le.refl _
end Go.Proofs.Ythfaleaojlnnoaa
end
