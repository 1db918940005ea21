/- The document's parser in plain Lean: it goes on, and keeps how deep it is. -/
import Derived.Test.YtikahnkkfkoglaaGreatDoorY122
import Derived.Test.YtikahnkkfkoglaaGreatDoorY12
set_option linter.unusedSimpArgs false
set_option linter.unusedVariables false
namespace Go.Proofs.YtikahnkkfkoglaaGreatDoor
namespace Pa
open Go Go.Sx
structure ToksOk (ts:List Lx.Tok):Prop where
 len:ts.length≤5000
 last:∀ i,i<ts.length→((ts.getD i Lx.tok0).kind=3↔i+1=ts.length)
 num:∀ t∈ts,t.kind=1→t.s.length≤6∧∀ b∈t.s,48≤b.toNat∧b.toNat≤57
structure AtOk (ts:List Lx.Tok) (p:Ps):Prop where
 lo:0≤p.at_
 hi:p.at_<ts.length
structure Step (ts:List Lx.Tok) (p q:Ps):Prop where
 le:p.at_≤q.at_
 hi:q.at_<ts.length
 deep:q.deep=p.deep
 err:p.err≠0→q=p
 fat:q.fat=p.fat∨∃ t∈ts,q.fat=t.pos
theorem jdu (s:List UInt8) (b:UInt8):qgn (s++[b])=10 * qgn s+((b.toNat:Int) - 48):=by
 unfold qgn;rw [zae];rfl
theorem qwh {s:List UInt8} (h:∀ b∈s,48≤b.toNat∧b.toNat≤57):∀ i,i≤s.length→0≤qgn (s.take i)∧qgn (s.take i)<10 ^ i
 | 0,_=>by simp [qgn]
 | i+1,hi=>by
  have h1:=qwh h i (by omega)
  rw [List.take_succ_eq_append_getElem (by omega),jdu,Int.pow_succ]
  have h2:=h _ (xt (by omega:i<s.length))
  omega
section
variable {ts:List Lx.Tok} {p q r:Ps}
theorem qsc (h:AtOk ts p):tk ts p∈ts:=by
 have h0:=h.lo
 have h1:=h.hi
 unfold tk
 rw [List.getD_eq_getElem?_getD,ze (by omega)]
 exact xt _
theorem AtOk.refl (h:AtOk ts p):Step ts p p:=⟨zw _,h.hi,rfl,fun _=>rfl,.inl rfl⟩
theorem Step.trans (h:Step ts p q) (k:Step ts q r):Step ts p r:=
 ⟨zbm h.le k.le,k.hi,k.deep.trans h.deep,fun e=>by have:=h.err e;subst this;exact k.err e,by
  rcases k.fat with e|e
  ·rw [e];exact h.fat
  ·exact .inr e⟩
theorem Step.ok (h:AtOk ts p) (k:Step ts p q):AtOk ts q:=⟨zbm h.lo k.le,k.hi⟩
theorem jqv {s:List UInt8} (h:sees ts p s=true):p.err=0:=by
 unfold sees at h
 simp only [zf,xx] at h
 exact h.1
theorem jqw {s:List UInt8} (h:sees ts p s=true):(tk ts p).kind=2∨(tk ts p).kind=0:=by
 unfold sees qwe at h
 simp only [zf,zaa,xx] at h
 rcases h.2.2 with h|h
 ·exact .inl h
 ·exact .inr h.1
theorem jqx (h:qho ts p=true):p.err=0:=by
 unfold qho at h;simp only [zf,xx] at h;exact h.2
theorem jqy (h:qgm ts p=true):p.err=0:=by
 unfold qgm at h;simp only [zf,xx] at h;exact h.2
variable (ht:ToksOk ts)
include ht
theorem jqz (h:AtOk ts p) (hk:(tk ts p).kind≠3):p.at_+1<ts.length:=by
 have h0:=h.lo
 have h1:=h.hi
 have h2:=ht.last p.at_.toNat (by omega)
 have h3:¬ (p.at_.toNat+1=ts.length):=fun e=>hk (h2.2 e)
 omega
theorem qwi (h:AtOk ts p) (hk:(tk ts p).kind≠3) (he:p.err=0):Step ts p (adv p):=
 ⟨by show p.at_≤p.at_+1;omega,jqz ht h hk,rfl,fun e=>absurd he e,.inl rfl⟩
theorem qh (h:AtOk ts p) {s:List UInt8} (hs:sees ts p s=true):Step ts p (adv p):=
 qwi ht h (by have:=jqw hs;omega) (jqv hs)
omit ht in
theorem qwj (h:AtOk ts p) (e:Int):Step ts p (bad ts p e):=by
 unfold bad
 split
 ·rename_i he
  exact ⟨zw _,h.hi,rfl,fun e=>absurd he e,.inr ⟨_,qsc h,rfl⟩⟩
 ·exact h.refl
theorem qhp (h:AtOk ts p) (s:List UInt8):Step ts p (took ts p s):=by
 unfold took
 split
 ·exact qh ht h (by assumption)
 ·exact h.refl
theorem qk (h:AtOk ts p) (s:List UInt8):Step ts p (must ts p s):=by
 unfold must
 split
 ·exact qh ht h (by assumption)
 ·exact qwj h 11
theorem qar (h:AtOk ts p):Step ts p (qf ts p):=by
 unfold qf
 split
 ·rename_i hn
  refine qwi ht h ?_ (jqx hn)
  unfold qho at hn
  simp only [zf,xx] at hn
  omega
 ·exact qwj h 11
theorem qbm (h:AtOk ts p):Step ts p (numP ts p):=by
 unfold numP
 split
 ·rename_i hn
  refine qwi ht h ?_ (jqy hn)
  unfold qgm at hn
  simp only [zf,xx] at hn
  omega
 ·exact qwj h 11
abbrev Runs (ts:List Lx.Tok) (f:Ps→Tr × Ps):Prop:=∀ p,AtOk ts p→Step ts p (f p).2
theorem qkf {f:Ps→Tr × Ps} (hf:Runs ts f) {c:Ps→Bool} {sg:Ps→Int} (hc:∀ p,c p=true→∃ s,sees ts p s=true):∀ (n:Nat) (a:Tr) (p:Ps),AtOk ts p→Step ts p (qau f c sg n a p).2
 | 0,a,p,h=>h.refl
 | n+1,a,p,h=>by
  rw [qau]
  split
  ·rename_i hcp
   obtain ⟨s,hs⟩:=hc p hcp
   have h1:=qh ht h hs
   have h2:=hf _ (h1.ok h)
   exact h1.trans (h2.trans (qkf hf hc n _ _ (h2.ok (h1.ok h))))
  ·exact h.refl
theorem jdv {f:Ps→Tr × Ps} (hf:Runs ts f) (s:List UInt8) (sg:Int):Runs ts (qlu ts f s sg):=fun p h=>by
 have h1:=hf p h
 unfold qlu
 split
 ·rename_i hs
  have h2:=qh ht (h1.ok h) hs
  exact h1.trans (h2.trans (hf _ (h2.ok (h1.ok h))))
 ·exact h1
omit ht in
theorem jdw {p:Ps} (h:qdz ts p=true):∃ s,sees ts p s=true:=by
 unfold qdz at h
 simp only [zaa] at h
 rcases h with h|h|h <;> exact ⟨_,h⟩
omit ht in
theorem jdx {p:Ps} (h:sumC ts p=true):∃ s,sees ts p s=true:=by
 unfold sumC at h
 simp only [zaa] at h
 rcases h with h|h <;> exact ⟨_,h⟩
section
variable {part:Ps→Tr × Ps} (hp:Runs ts part)
include hp
theorem qos:Runs ts (qci ts part):=fun p h=>(hp p h).trans (qkf ht hp (fun _=>jdw) _ _ _ ((hp p h).ok h))
theorem qwk:Runs ts (sumF ts part):=fun p h=>(qos ht hp p h).trans (qkf ht (qos ht hp) (fun _=>jdx) _ _ _ ((qos ht hp p h).ok h))
theorem qwl:Runs ts (qcd ts part):=jdv ht (qwk ht hp) _ _
theorem qot:Runs ts (qdm ts part):=jdv ht (qwl ht hp) _ _
theorem qou:Runs ts (andF ts part):=fun p h=>(qot ht hp p h).trans (qkf ht (qot ht hp) (fun _ h=>⟨_,h⟩) _ _ _ ((qot ht hp p h).ok h))
theorem qsd:Runs ts (qea ts part):=fun p h=>(qou ht hp p h).trans (qkf ht (qou ht hp) (fun _ h=>⟨_,h⟩) _ _ _ ((qou ht hp p h).ok h))
end
omit ht in
theorem qct (h:AtOk ts p):AtOk ts (inP ts p)∧(inP ts p).at_=p.at_∧(inP ts p).deep=p.deep+1∧(p.err≠0→(inP ts p).err=p.err∧(inP ts p).fat=p.fat):=by
 unfold inP
 split
 ·unfold bad
  split
  ·rename_i he
   exact ⟨⟨h.lo,h.hi⟩,rfl,rfl,fun e=>absurd he e⟩
  ·exact ⟨⟨h.lo,h.hi⟩,rfl,rfl,fun _=>⟨rfl,rfl⟩⟩
 ·exact ⟨⟨h.lo,h.hi⟩,rfl,rfl,fun _=>⟨rfl,rfl⟩⟩
omit ht in
theorem jra (h:AtOk ts p):(inP ts p).fat=p.fat∨∃ t∈ts,(inP ts p).fat=t.pos:=by
 unfold inP
 split
 ·unfold bad
  split
  ·exact .inr ⟨_,qsc (p:={ p with deep:=p.deep+1 }) ⟨h.lo,h.hi⟩,rfl⟩
  ·exact .inl rfl
 ·exact .inl rfl
omit ht in
theorem qiu (h:AtOk ts p) (hs:Step ts (inP ts p) q):Step ts p (outP q):=by
 obtain ⟨h1,h2,h3,h4⟩:=qct h
 refine ⟨by have:=hs.le;show p.at_≤q.at_;omega,hs.hi,by have:=hs.deep;show q.deep - 1=p.deep;omega,fun e=>?_,by
  rcases hs.fat with e|e
  ·show q.fat=p.fat∨∃ t∈ts,q.fat=t.pos
   rw [e];exact jra h
  ·exact .inr e⟩
 have h5:=h4 e
 have h6:=hs.err (by rw [h5.1];exact e)
 subst h6
 show ({ (inP ts p) with deep:=(inP ts p).deep - 1 }:Ps)=p
 rw [h3]
 cases p
 simp only [Ps.mk.injEq]
 exact ⟨h2,by simp,h5.1,h5.2⟩
omit ht in
theorem jrb {f:Ps→Tr × Ps} (hf:Runs ts f) (h:AtOk ts p):Step ts p (ifOk f p).2:=by
 unfold ifOk
 split
 ·exact hf p h
 ·exact h.refl
theorem qfu:∀ n,Runs ts (qap ts n)
 | 0=>fun p h=>h.refl
 | n+1=>fun p h=>by
  unfold qap
  simp only
  split
  ·exact qbm ht h
  split
  ·rename_i hs
   have h1:=qh ht h hs
   exact h1.trans (qar ht (h1.ok h))
  split
  ·rename_i hs
   have h1:Step ts p (adv p):=by rcases hs with hs|hs <;> exact qh ht h hs
   exact h1.trans (qiu (h1.ok h) (jrb (qfu n) (qct (h1.ok h)).1))
  split
  ·rename_i hs
   have h1:=qh ht h hs
   have h2:=(qct (h1.ok h)).1
   have h3:Step ts (adv p) (outP (if (inP ts (adv p)).err=0 then (qea ts (qap ts n) (inP ts (adv p))).2 else inP ts (adv p))):=by
    refine qiu (h1.ok h) ?_
    split
    ·exact qsd ht (qfu n) _ h2
    ·exact h2.refl
   exact h1.trans (h3.trans (qk ht (h3.ok (h1.ok h)) _))
  ·exact qar ht h
theorem qbj:Runs ts (eF ts):=qsd ht (qfu ht _)
section
variable {stat:Ps→Tr × Ps} (hs:Runs ts stat)
include hs
theorem qgp:∀ (n:Nat) (l:List Tr) (p:Ps),AtOk ts p→Step ts p (jh ts stat n l p).2
 | 0,l,p,h=>h.refl
 | n+1,l,p,h=>by
  rw [jh]
  split
  ·split
   ·exact qh ht h (by assumption)
   ·exact (hs p h).trans (qgp n _ _ ((hs p h).ok h))
  ·exact h.refl
theorem qse:Runs ts (qr ts stat):=fun p h=>by
 have h1:=qk ht h sLc
 exact h1.trans (qiu (h1.ok h) (qgp ht hs _ _ _ (qct (h1.ok h)).1))
end
theorem qov {blk:Ps→Tr × Ps} (hb:Runs ts blk):∀ (n:Nat) (l:List Tr) (p:Ps),AtOk ts p→Step ts p (orL ts blk n l p).2
 | 0,l,p,h=>h.refl
 | n+1,l,p,h=>by
  rw [orL]
  split
  ·have h1:=qh ht h (by assumption)
   have h2:=hb _ (h1.ok h)
   exact h1.trans (h2.trans (qov hb n _ _ (h2.ok (h1.ok h))))
  ·exact h.refl
theorem jrc {blk:Ps→Tr × Ps} (hb:Runs ts blk) (a i:Int):Runs ts (qdn ts blk a i):=fun p h=>by
 unfold qdn
 split
 ·have h1:=qh ht h (by assumption)
  have h2:=qar ht (h1.ok h)
  have h3:=qar ht (h2.ok (h1.ok h))
  exact h1.trans (h2.trans (h3.trans (qk ht (h3.ok (h2.ok (h1.ok h))) _)))
 split
 ·have h1:=qh ht h (by assumption)
  have h2:=qbj ht _ (h1.ok h)
  exact h1.trans (h2.trans (qk ht (h2.ok (h1.ok h)) _))
 ·have h1:=qk ht h je
  have h2:=hb _ (h1.ok h)
  exact h1.trans (h2.trans (qov ht hb _ _ _ (h2.ok (h1.ok h))))
theorem qkg:∀ n,Runs ts (qd ts n)
 | 0=>fun p h=>h.refl
 | n+1=>fun p h=>by
  have hb:=qse ht (qkg n)
  unfold qd
  simp only
  split
  ·have h1:=qhp ht h qdy
   exact h1.trans (jrc ht hb _ _ _ (h1.ok h))
  split
  ·have h1:=qh ht h (by assumption)
   have h2:=qar ht (h1.ok h)
   have h3:=qbj ht _ (h2.ok (h1.ok h))
   exact h1.trans (h2.trans (h3.trans (qk ht (h3.ok (h2.ok (h1.ok h))) _)))
  split
  ·have h1:=qh ht h (by assumption)
   have h2:=qbj ht _ (h1.ok h)
   have h3:=hb _ (h2.ok (h1.ok h))
   have h4:=h1.trans (h2.trans h3)
   split
   ·have h5:=qh ht (h4.ok h) (by assumption)
    exact h4.trans (h5.trans (hb _ (h5.ok (h4.ok h))))
   ·exact h4
  split
  ·have h1:=qh ht h (by assumption)
   have h2:=qbj ht _ (h1.ok h)
   exact h1.trans (h2.trans (hb _ (h2.ok (h1.ok h))))
  split
  ·have h1:=qh ht h (by assumption)
   exact h1.trans (hb _ (h1.ok h))
  split
  ·have h1:=qh ht h (by assumption)
   exact h1.trans (qk ht (h1.ok h) _)
  split
  ·have h1:=qh ht h (by assumption)
   exact h1.trans (qk ht (h1.ok h) _)
  ·have h1:=qar ht h
   have h2:=qk ht (h1.ok h) sEq
   have h3:=qbj ht _ (h2.ok (h1.ok h))
   exact h1.trans (h2.trans (h3.trans (qk ht (h3.ok (h2.ok (h1.ok h))) _)))
theorem qiv:Runs ts (sF ts):=qkg ht _
theorem qlw:Runs ts (ju ts):=fun p h=>by
 unfold ju
 simp only
 have h1:=qk ht h kVar
 have h2:=qar ht (h1.ok h)
 have h3:=h1.trans h2
 have h4:=h3.trans (qk ht (h3.ok h) kOf)
 have h5:=h4.trans (qbm ht (h4.ok h))
 split
 ·have h6:=h5.trans (qh ht (h5.ok h) (by assumption))
  split
  ·have h7:=h6.trans (qh ht (h6.ok h) (by assumption))
   have h8:=h7.trans (qbm ht (h7.ok h))
   exact h8.trans (qk ht (h8.ok h) _)
  ·have h8:=h6.trans (qbm ht (h6.ok h))
   exact h8.trans (qk ht (h8.ok h) _)
 ·exact h5.trans (qk ht (h5.ok h) _)
theorem qow:∀ (n:Nat) (l:List Tr) (p:Ps),AtOk ts p→Step ts p (qbu ts n l p).2
 | 0,l,p,h=>h.refl
 | n+1,l,p,h=>by
  rw [qbu]
  split
  ·have h2:=qlw ht _ h
   exact h2.trans (qow n _ _ (h2.ok h))
  ·exact h.refl
theorem jrd:Runs ts (qdo ts):=fun p h=>by
 unfold qdo
 simp only
 have h1:=qk ht h qy
 have h3:=h1.trans (qar ht (h1.ok h))
 have h4:Step ts p (if sees ts (qf ts (must ts p qy)) qft=true then (numN ts (adv (qf ts (must ts p qy))),numP ts (adv (qf ts (must ts p qy)))) else (1,qf ts (must ts p qy))).2:=by
  split
  ·have h5:=h3.trans (qh ht (h3.ok h) (by assumption))
   exact h5.trans (qbm ht (h5.ok h))
  ·exact h3
 have h5:=h4.trans (qk ht (h4.ok h) sLc)
 have h6:=h5.trans (qow ht ts.length [] _ (h5.ok h))
 exact h6.trans (qiu (h6.ok h) (qgp ht (qiv ht) _ _ _ (qct (h6.ok h)).1))
theorem qwm:Runs ts (itemF ts):=fun p h=>by
 unfold itemF
 simp only
 split
 ·exact qlw ht _ h
 split
 ·exact jrd ht _ h
 split
 ·have h1:=qh ht h (by assumption)
  have h2:=h1.trans (qar ht (h1.ok h))
  have h3:=h2.trans (qk ht (h2.ok h) sLb)
  have h4:=h3.trans (qbm ht (h3.ok h))
  have h5:=h4.trans (qk ht (h4.ok h) sRb)
  have h6:=h5.trans (qk ht (h5.ok h) kOf)
  have h7:=h6.trans (qbm ht (h6.ok h))
  have h8:=h7.trans (qhp ht (h7.ok h) qhn)
  have h9:=h8.trans (qhp ht (h8.ok h) qir)
  exact h9.trans (qk ht (h9.ok h) _)
 split
 ·have h1:=qh ht h (by assumption)
  have h2:=h1.trans (qbj ht _ (h1.ok h))
  exact h2.trans (qk ht (h2.ok h) _)
 ·have h1:=qk ht h qlt
  exact h1.trans (qk ht (h1.ok h) _)
theorem qwn:∀ (n:Nat) (l:List Tr) (p:Ps),AtOk ts p→Step ts p (qdp ts n l p).2
 | 0,l,p,h=>h.refl
 | n+1,l,p,h=>by
  rw [qdp]
  split
  ·have h2:=qwm ht _ h
   exact h2.trans (qwn n _ _ (h2.ok h))
  ·exact h.refl
end
end Pa
end Go.Proofs.YtikahnkkfkoglaaGreatDoor
