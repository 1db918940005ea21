/- Some texts of the library, one behind the other. -/
import Derived.Test.YthfaleaojlnnoaaY6Pa0
import Derived.Test.YthfaleaojlnnoaaY63
import Derived.Test.YthfaleaojlnnoaaY62
import Derived.Test.YthfaleaojlnnoaaProg
import Derived.KernelRfl
import Derived.Test.YthfaleaojlnnoaaY6LexPlain
set_option linter.unusedSimpArgs false
set_option linter.unusedVariables false
section
namespace Go.Proofs.Ythfaleaojlnnoaa
namespace Pa
open Go Go.Sx
structure ToksOk (ts:List Lx.Tok):Prop where
 len:ts.length≤5000
 last:∀ i,i<ts.length→((ts.getD i Lx.tok0).kind=3↔i+1=ts.length)
 num:∀ t∈ts,t.kind=1→t.s.length≤6∧∀ b∈t.s,48≤b.toNat∧b.toNat≤57
structure AtOk (ts:List Lx.Tok) (p:Ps):Prop where
 lo:0≤p.at_
 hi:p.at_<ts.length
structure Step (ts:List Lx.Tok) (p q:Ps):Prop where
 le:p.at_≤q.at_
 hi:q.at_<ts.length
 deep:q.deep=p.deep
 err:p.err≠0→q=p
 fat:q.fat=p.fat∨∃ t∈ts,q.fat=t.pos
theorem qul (s:List UInt8) (b:UInt8):qdg (s++[b])=10 * qdg s+((b.toNat:Int) - 48):=by
 unfold qdg;rw [List.foldl_append];rfl
theorem qlm {s:List UInt8} (h:∀ b∈s,48≤b.toNat∧b.toNat≤57):∀ i,i≤s.length→0≤qdg (s.take i)∧qdg (s.take i)<10 ^ i
 | 0,_=>by simp [qdg]
 | i+1,hi=>by
  have h1:=qlm h i (by omega)
  rw [zae (by omega),qul,Int.pow_succ]
  have h2:=h _ (xh (by omega:i<s.length))
  omega
section
variable {ts:List Lx.Tok} {p q r:Ps}
theorem qhh (h:AtOk ts p):tk ts p∈ts:=by
 have h0:=h.lo
 have h1:=h.hi
 unfold tk
 rw [List.getD_eq_getElem?_getD,zf (by omega)]
 exact xh _
theorem AtOk.refl (h:AtOk ts p):Step ts p p:=⟨zm _,h.hi,rfl,fun _=>rfl,.inl rfl⟩
theorem Step.trans (h:Step ts p q) (k:Step ts q r):Step ts p r:=
 ⟨Int.le_trans h.le k.le,k.hi,k.deep.trans h.deep,fun e=>by have:=h.err e;subst this;exact k.err e,by
  rcases k.fat with e|e
  ·rw [e];exact h.fat
  ·exact .inr e⟩
theorem Step.ok (h:AtOk ts p) (k:Step ts p q):AtOk ts q:=⟨Int.le_trans h.lo k.le,k.hi⟩
theorem qum {s:List UInt8} (h:sees ts p s=true):p.err=0:=by
 unfold sees at h
 simp only [ze,xr] at h
 exact h.1
theorem jkd {s:List UInt8} (h:sees ts p s=true):(tk ts p).kind=2∨(tk ts p).kind=0:=by
 unfold sees qlk at h
 simp only [ze,xy,xr] at h
 rcases h.2.2 with h|h
 ·exact .inl h
 ·exact .inr h.1
theorem qgq {s:List UInt8} (h:p.err≠0):sees ts p s=false:=by
 cases e:sees ts p s with
 | false=>rfl
 | true=>exact absurd (qum e) h
theorem jke (h:qdf ts p=true):p.err=0:=by
 unfold qdf at h;simp only [ze,xr] at h;exact h.2
theorem jkf (h:qcu ts p=true):p.err=0:=by
 unfold qcu at h;simp only [ze,xr] at h;exact h.2
variable (ht:ToksOk ts)
include ht
theorem jkg (h:AtOk ts p) (hk:(tk ts p).kind≠3):p.at_+1<ts.length:=by
 have h0:=h.lo
 have h1:=h.hi
 have h2:=ht.last p.at_.toNat (by omega)
 have h3:¬ (p.at_.toNat+1=ts.length):=fun e=>hk (h2.2 e)
 omega
theorem qun (h:AtOk ts p) (hk:(tk ts p).kind≠3) (he:p.err=0):Step ts p (adv p):=
 ⟨by show p.at_≤p.at_+1;omega,jkg ht h hk,rfl,fun e=>absurd he e,.inl rfl⟩
theorem qg (h:AtOk ts p) {s:List UInt8} (hs:sees ts p s=true):Step ts p (adv p):=
 qun ht h (by have:=jkd hs;omega) (qum hs)
omit ht in
theorem qqc (h:AtOk ts p) (e:Int):Step ts p (bad ts p e):=by
 unfold bad
 split
 ·rename_i he
  exact ⟨zm _,h.hi,rfl,fun e=>absurd he e,.inr ⟨_,qhh h,rfl⟩⟩
 ·exact h.refl
theorem qcz (h:AtOk ts p) (s:List UInt8):Step ts p (took ts p s):=by
 unfold took
 split
 ·exact qg ht h (by assumption)
 ·exact h.refl
theorem qf (h:AtOk ts p) (s:List UInt8):Step ts p (must ts p s):=by
 unfold must
 split
 ·exact qg ht h (by assumption)
 ·exact qqc h 11
theorem jh (h:AtOk ts p):Step ts p (qd ts p):=by
 unfold qd
 split
 ·rename_i hn
  refine qun ht h ?_ (jke hn)
  unfold qdf at hn
  simp only [ze,xr] at hn
  omega
 ·exact qqc h 11
theorem jx (h:AtOk ts p):Step ts p (numP ts p):=by
 unfold numP
 split
 ·rename_i hn
  refine qun ht h ?_ (jkf hn)
  unfold qcu at hn
  simp only [ze,xr] at hn
  omega
 ·exact qqc h 11
abbrev Runs (ts:List Lx.Tok) (f:Ps→Tr × Ps):Prop:=∀ p,AtOk ts p→Step ts p (f p).2
theorem qgr {f:Ps→Tr × Ps} (hf:Runs ts f) {c:Ps→Bool} {sg:Ps→Int} (hc:∀ p,c p=true→∃ s,sees ts p s=true):∀ (n:Nat) (a:Tr) (p:Ps),AtOk ts p→Step ts p (jv f c sg n a p).2
 | 0,a,p,h=>h.refl
 | n+1,a,p,h=>by
  rw [jv]
  split
  ·rename_i hcp
   obtain ⟨s,hs⟩:=hc p hcp
   have h1:=qg ht h hs
   have h2:=hf _ (h1.ok h)
   exact h1.trans (h2.trans (qgr hf hc n _ _ (h2.ok (h1.ok h))))
  ·exact h.refl
theorem qzu {f:Ps→Tr × Ps} (hf:Runs ts f) (s:List UInt8) (sg:Int):Runs ts (qgp ts f s sg):=fun p h=>by
 have h1:=hf p h
 unfold qgp
 split
 ·rename_i hs
  have h2:=qg ht (h1.ok h) hs
  exact h1.trans (h2.trans (hf _ (h2.ok (h1.ok h))))
 ·exact h1
omit ht in
theorem qnp {p:Ps} (h:qdn ts p=true):∃ s,sees ts p s=true:=by
 unfold qdn at h
 simp only [xy] at h
 rcases h with h|h|h <;> exact ⟨_,h⟩
omit ht in
theorem qnq {p:Ps} (h:sumC ts p=true):∃ s,sees ts p s=true:=by
 unfold sumC at h
 simp only [xy] at h
 rcases h with h|h <;> exact ⟨_,h⟩
section
variable {part:Ps→Tr × Ps} (hp:Runs ts part)
include hp
theorem qjq:Runs ts (qco ts part):=fun p h=>(hp p h).trans (qgr ht hp (fun _=>qnp) _ _ _ ((hp p h).ok h))
theorem qnr:Runs ts (sumF ts part):=fun p h=>(qjq ht hp p h).trans (qgr ht (qjq ht hp) (fun _=>qnq) _ _ _ ((qjq ht hp p h).ok h))
theorem qns:Runs ts (qck ts part):=qzu ht (qnr ht hp) _ _
theorem qjr:Runs ts (qcy ts part):=qzu ht (qns ht hp) _ _
theorem qjs:Runs ts (andF ts part):=fun p h=>(qjr ht hp p h).trans (qgr ht (qjr ht hp) (fun _ h=>⟨_,h⟩) _ _ _ ((qjr ht hp p h).ok h))
theorem qjt:Runs ts (qal ts part):=fun p h=>(qjs ht hp p h).trans (qgr ht (qjs ht hp) (fun _ h=>⟨_,h⟩) _ _ _ ((qjs ht hp p h).ok h))
end
omit ht in
theorem jn (h:AtOk ts p):AtOk ts (inP ts p)∧(inP ts p).at_=p.at_∧(inP ts p).deep=p.deep+1∧(p.err≠0→(inP ts p).err=p.err∧(inP ts p).fat=p.fat):=by
 unfold inP
 split
 ·unfold bad
  split
  ·rename_i he
   exact ⟨⟨h.lo,h.hi⟩,rfl,rfl,fun e=>absurd he e⟩
  ·exact ⟨⟨h.lo,h.hi⟩,rfl,rfl,fun _=>⟨rfl,rfl⟩⟩
 ·exact ⟨⟨h.lo,h.hi⟩,rfl,rfl,fun _=>⟨rfl,rfl⟩⟩
omit ht in
theorem jkh (h:AtOk ts p):(inP ts p).fat=p.fat∨∃ t∈ts,(inP ts p).fat=t.pos:=by
 unfold inP
 split
 ·unfold bad
  split
  ·exact .inr ⟨_,qhh (p:={ p with deep:=p.deep+1 }) ⟨h.lo,h.hi⟩,rfl⟩
  ·exact .inl rfl
 ·exact .inl rfl
omit ht in
theorem qfq (h:AtOk ts p) (hs:Step ts (inP ts p) q):Step ts p (outP q):=by
 obtain ⟨h1,h2,h3,h4⟩:=jn h
 refine ⟨by have:=hs.le;show p.at_≤q.at_;omega,hs.hi,by have:=hs.deep;show q.deep - 1=p.deep;omega,fun e=>?_,by
  rcases hs.fat with e|e
  ·show q.fat=p.fat∨∃ t∈ts,q.fat=t.pos
   rw [e];exact jkh h
  ·exact .inr e⟩
 have h5:=h4 e
 have h6:=hs.err (by rw [h5.1];exact e)
 subst h6
 show ({ (inP ts p) with deep:=(inP ts p).deep - 1 }:Ps)=p
 rw [h3]
 cases p
 simp only [Ps.mk.injEq]
 exact ⟨h2,by simp,h5.1,h5.2⟩
omit ht in
theorem qup {f:Ps→Tr × Ps} (hf:Runs ts f) (h:AtOk ts p):Step ts p (ifOk f p).2:=by
 unfold ifOk
 split
 ·exact hf p h
 ·exact h.refl
theorem qda:∀ n,Runs ts (qo ts n)
 | 0=>fun p h=>h.refl
 | n+1=>fun p h=>by
  unfold qo
  simp only
  split
  ·exact jx ht h
  split
  ·rename_i hs
   have h1:=qg ht h hs
   exact h1.trans (jh ht (h1.ok h))
  split
  ·rename_i hs
   have h1:Step ts p (adv p):=by rcases hs with hs|hs <;> exact qg ht h hs
   exact h1.trans (qfq (h1.ok h) (qup (qda n) (jn (h1.ok h)).1))
  split
  ·rename_i hs
   have h1:=qg ht h hs
   have h2:=(jn (h1.ok h)).1
   have h3:Step ts (adv p) (outP (if (inP ts (adv p)).err=0 then (qal ts (qo ts n) (inP ts (adv p))).2 else inP ts (adv p))):=by
    refine qfq (h1.ok h) ?_
    split
    ·exact qjt ht (qda n) _ h2
    ·exact h2.refl
   exact h1.trans (h3.trans (qf ht (h3.ok (h1.ok h)) _))
  ·exact jh ht h
theorem qae:Runs ts (eF ts):=qjt ht (qda ht _)
section
variable {stat:Ps→Tr × Ps} (hs:Runs ts stat)
include hs
theorem qdy:∀ (n:Nat) (l:List Tr) (p:Ps),AtOk ts p→Step ts p (qq ts stat n l p).2
 | 0,l,p,h=>h.refl
 | n+1,l,p,h=>by
  rw [qq]
  split
  ·split
   ·exact qg ht h (by assumption)
   ·exact (hs p h).trans (qdy n _ _ ((hs p h).ok h))
  ·exact h.refl
theorem qgs:Runs ts (qi ts stat):=fun p h=>by
 have h1:=qf ht h sLc
 exact h1.trans (qfq (h1.ok h) (qdy ht hs _ _ _ (jn (h1.ok h)).1))
end
theorem qju {blk:Ps→Tr × Ps} (hb:Runs ts blk):∀ (n:Nat) (l:List Tr) (p:Ps),AtOk ts p→Step ts p (orL ts blk n l p).2
 | 0,l,p,h=>h.refl
 | n+1,l,p,h=>by
  rw [orL]
  split
  ·have h1:=qg ht h (by assumption)
   have h2:=hb _ (h1.ok h)
   exact h1.trans (h2.trans (qju hb n _ _ (h2.ok (h1.ok h))))
  ·exact h.refl
theorem jki {blk:Ps→Tr × Ps} (hb:Runs ts blk) (a i:Int):Runs ts (qbh ts blk a i):=fun p h=>by
 unfold qbh
 split
 ·have h1:=qg ht h (by assumption)
  have h2:=jh ht (h1.ok h)
  have h3:=jh ht (h2.ok (h1.ok h))
  exact h1.trans (h2.trans (h3.trans (qf ht (h3.ok (h2.ok (h1.ok h))) _)))
 split
 ·have h1:=qg ht h (by assumption)
  have h2:=qae ht _ (h1.ok h)
  exact h1.trans (h2.trans (qf ht (h2.ok (h1.ok h)) _))
 ·have h1:=qf ht h qp
  have h2:=hb _ (h1.ok h)
  exact h1.trans (h2.trans (qju ht hb _ _ _ (h2.ok (h1.ok h))))
theorem qdz:∀ n,Runs ts (qe ts n)
 | 0=>fun p h=>h.refl
 | n+1=>fun p h=>by
  have hb:=qgs ht (qdz n)
  unfold qe
  simp only
  split
  ·have h1:=qcz ht h jq
   exact h1.trans (jki ht hb _ _ _ (h1.ok h))
  split
  ·have h1:=qg ht h (by assumption)
   have h2:=jh ht (h1.ok h)
   have h3:=qae ht _ (h2.ok (h1.ok h))
   exact h1.trans (h2.trans (h3.trans (qf ht (h3.ok (h2.ok (h1.ok h))) _)))
  split
  ·have h1:=qg ht h (by assumption)
   have h2:=qae ht _ (h1.ok h)
   have h3:=hb _ (h2.ok (h1.ok h))
   have h4:=h1.trans (h2.trans h3)
   split
   ·have h5:=qg ht (h4.ok h) (by assumption)
    exact h4.trans (h5.trans (hb _ (h5.ok (h4.ok h))))
   ·exact h4
  split
  ·have h1:=qg ht h (by assumption)
   have h2:=qae ht _ (h1.ok h)
   exact h1.trans (h2.trans (hb _ (h2.ok (h1.ok h))))
  split
  ·have h1:=qg ht h (by assumption)
   exact h1.trans (hb _ (h1.ok h))
  split
  ·have h1:=qg ht h (by assumption)
   exact h1.trans (qf ht (h1.ok h) _)
  split
  ·have h1:=qg ht h (by assumption)
   exact h1.trans (qf ht (h1.ok h) _)
  ·have h1:=jh ht h
   have h2:=qf ht (h1.ok h) sEq
   have h3:=qae ht _ (h2.ok (h1.ok h))
   exact h1.trans (h2.trans (h3.trans (qf ht (h3.ok (h2.ok (h1.ok h))) _)))
theorem qez:Runs ts (sF ts):=qdz ht _
theorem qik:Runs ts (jf ts):=fun p h=>by
 unfold jf
 simp only
 have h1:=qf ht h kVar
 have h2:=jh ht (h1.ok h)
 have h3:=h1.trans h2
 have h4:=h3.trans (qf ht (h3.ok h) kOf)
 have h5:=h4.trans (jx ht (h4.ok h))
 split
 ·have h6:=h5.trans (qg ht (h5.ok h) (by assumption))
  split
  ·have h7:=h6.trans (qg ht (h6.ok h) (by assumption))
   have h8:=h7.trans (jx ht (h7.ok h))
   exact h8.trans (qf ht (h8.ok h) _)
  ·have h8:=h6.trans (jx ht (h6.ok h))
   exact h8.trans (qf ht (h8.ok h) _)
 ·exact h5.trans (qf ht (h5.ok h) _)
theorem qhi:∀ (n:Nat) (l:List Tr) (p:Ps),AtOk ts p→Step ts p (jr ts n l p).2
 | 0,l,p,h=>h.refl
 | n+1,l,p,h=>by
  rw [jr]
  split
  ·have h2:=qik ht _ h
   exact h2.trans (qhi n _ _ (h2.ok h))
  ·exact h.refl
theorem jkj:Runs ts (qbk ts):=fun p h=>by
 unfold qbk
 simp only
 have h1:=qf ht h qk
 have h3:=h1.trans (jh ht (h1.ok h))
 have h4:Step ts p (if sees ts (qd ts (must ts p qk)) qbg=true then (numN ts (adv (qd ts (must ts p qk))),numP ts (adv (qd ts (must ts p qk)))) else (1,qd ts (must ts p qk))).2:=by
  split
  ·have h5:=h3.trans (qg ht (h3.ok h) (by assumption))
   exact h5.trans (jx ht (h5.ok h))
  ·exact h3
 have h5:=h4.trans (qf ht (h4.ok h) sLc)
 have h6:=h5.trans (qhi ht ts.length [] _ (h5.ok h))
 exact h6.trans (qfq (h6.ok h) (qdy ht (qez ht) _ _ _ (jn (h6.ok h)).1))
theorem qnt:Runs ts (jg ts):=fun p h=>by
 unfold jg
 simp only
 split
 ·exact qik ht _ h
 split
 ·exact jkj ht _ h
 split
 ·have h1:=qg ht h (by assumption)
  have h2:=h1.trans (jh ht (h1.ok h))
  have h3:=h2.trans (qf ht (h2.ok h) sLb)
  have h4:=h3.trans (jx ht (h3.ok h))
  have h5:=h4.trans (qf ht (h4.ok h) sRb)
  have h6:=h5.trans (qf ht (h5.ok h) kOf)
  have h7:=h6.trans (jx ht (h6.ok h))
  have h8:=h7.trans (qcz ht (h7.ok h) qdx)
  have h9:=h8.trans (qcz ht (h8.ok h) qeh)
  exact h9.trans (qf ht (h9.ok h) _)
 split
 ·have h1:=qg ht h (by assumption)
  have h2:=h1.trans (qae ht _ (h1.ok h))
  exact h2.trans (qf ht (h2.ok h) _)
 ·have h1:=qf ht h qgn
  exact h1.trans (qf ht (h1.ok h) _)
theorem qnu:∀ (n:Nat) (l:List Tr) (p:Ps),AtOk ts p→Step ts p (qau ts n l p).2
 | 0,l,p,h=>h.refl
 | n+1,l,p,h=>by
  rw [qau]
  split
  ·have h2:=qnt ht _ h
   exact h2.trans (qnu n _ _ (h2.ok h))
  ·exact h.refl
end
end Pa
end Go.Proofs.Ythfaleaojlnnoaa
end
section
namespace Go.Proofs.Ythfaleaojlnnoaa
open List renaming getD_eq_getElem?_getD → zd
open Go Go.Sx Go.RowKit Go.St
set_option maxRecDepth 100000
set_option maxHeartbeats 2000000
abbrev bv (n:Int):AV:=.int .u8 n
theorem qzv (c:Int):Con Try.prog 33 [bv c] (.bool (decide (48≤c) && decide (c≤57))):=by
 refine zK {} 300 Try.func33 (fun c0 rdb=>?_)
 (repeat' ((conv=>whnf);first|refine Ob.auto ?_|fail))
 exact Le.refl _
theorem quq (c:Int):Con Try.prog 31 [bv c] (.bool (qij c)):=by
 refine zK {} 300 Try.func31 (fun c0 rdb=>?_)
 (repeat' ((conv=>whnf);first|refine Ob.auto ?_|fail))
 exact Le.refl _
theorem qzw (c:Int):Con Try.prog 32 [bv c] (.bool (qjp c)):=by
 refine zK {} 300 Try.func32 (fun c0 rdb=>?_)
 (repeat' ((conv=>whnf);first|refine Ob.auto ?_|refine zC 300 (quq c) ?_|refine zG 300 (fun hg=>qzv c) ?_|fail))
 exact Le.refl _
theorem jkk (f:Nat→List AV) (h:∀ i,i<21→f i=encL (fun s=>[.str s]) [] keyL i):Le (.slc 1 21 f) (strs keyL):=Le.slc rfl h
theorem qzx (s:List UInt8):Con Try.prog 89 [.str s] (.bool (keyF s)):=by
 refine zK {} 300 Try.func89 (fun c0 rdb=>?_)
 ((conv=>whnf);refine qag (fun _=>rfl) 300 1 (fun i:Nat=>[(4,iv i),(3,strs keyL)]) (fun _=>[]) (fun i=>i≤keyL.length∧∀ j,j<i→(keyL.getD j [] == s)=false) (fun i=>keyL.length - i) (0) (⟨by omega,fun j hj=>absurd hj (xc j)⟩) ⟨Le.refl _,jkk _ (fun i hi=>match i,hi with|0,_=>rfl|1,_=>rfl|2,_=>rfl|3,_=>rfl|4,_=>rfl|5,_=>rfl|6,_=>rfl|7,_=>rfl|8,_=>rfl|9,_=>rfl|10,_=>rfl|11,_=>rfl|12,_=>rfl|13,_=>rfl|14,_=>rfl|15,_=>rfl|16,_=>rfl|17,_=>rfl|18,_=>rfl|19,_=>rfl|20,_=>rfl|n+21,h=>absurd h (by omega)),trivial⟩ qa (fun _=>rfl) (by kernel_rfl) ?_;(conv=>whnf))
 intro i hi
 have h21:keyL.length=21:=rfl
 (repeat' ((conv=>whnf);first|refine Ob.auto ?_|(apply zB <;> intro hb <;> (try simp [-zd] at hb) <;> try (exfalso;omega))))
 ·refine Le.of_eq (congrArg AV.bool ?_)
  unfold keyF
  exact (List.any_eq_true.2 ⟨keyL.getD i [],qzo keyL i [] (by omega),by simpa using hb⟩).symm
 ·((conv=>whnf);refine ⟨i+1,⟨by omega,quj hi.2 (beq_eq_false_iff_ne.2 hb)⟩,⟨qa,qa⟩,⟨qa,qa⟩,?_⟩;(first|omega|(dsimp only;omega)|skip))
 ·refine Le.of_eq (congrArg AV.bool ?_)
  unfold keyF
  rw [eq_comm,Bool.eq_false_iff]
  intro h
  obtain ⟨x,hx,he⟩:=List.any_eq_true.1 h
  obtain ⟨j,hj,rfl⟩:=List.mem_iff_getElem.1 hx
  have:=hi.2 j (by omega)
  rw [zd,zf hj] at this
  simp only [zau] at this
  rw [this] at he;cases he
theorem jkl (s:List UInt8):Con Try.prog 76 [.str s] (.bool (nameF s)):=by
 refine zK {} 300 Try.func76 (fun c0 rdb=>?_)
 (repeat' ((conv=>whnf);first|refine Ob.auto ?_|(refine Ob.intro (by ((intro h;simp at h ⊢;exact ⟨h,by have:=List.length_pos_iff.2 h.1;omega⟩))) ?_)|refine zG 300 (fun hg=>quq _) ?_|refine zG 300 (fun hg=>qzx s) ?_|(apply zB <;> intro hb <;> (try simp [-zd] at hb) <;> try (exfalso;omega))))
 ·refine Le.of_eq (congrArg AV.bool ?_)
  unfold nameF
  have:(decide (s.length=0) || decide (12<s.length) || !qij (qbd s 0) || keyF s)=true:=by
   simp only [xy,zr,List.length_eq_zero_iff,xk]
   rcases hb with ((hb|hb)|hb)|hb
   ·exact .inl (.inl (.inl hb))
   ·exact .inl (.inl (.inr (by omega)))
   ·exact .inl (.inr hb)
   ·exact .inr hb
  rw [this];rfl
 ·have h0:(decide (s.length=0) || decide (12<s.length) || !qij (qbd s 0) || keyF s)=false:=by
   simp only [Bool.or_eq_false_iff,decide_eq_false_iff_not,List.length_eq_zero_iff,Bool.not_eq_false']
   exact ⟨⟨⟨hb.1.1.1,by omega⟩,hb.1.2⟩,hb.2⟩
  ((conv=>whnf);refine qag (fun _=>rfl) 300 1 (fun i:Nat=>[(3,iv i)]) (fun _=>[]) (fun i=>i≤s.length∧∀ j,j<i→qjp (qbd s j)=true) (fun i=>s.length - i) (0) (⟨by omega,fun j hj=>absurd hj (xc j)⟩) qa qa (fun _=>rfl) (by kernel_rfl) ?_;(conv=>whnf))
  intro i hi
  (repeat' ((conv=>whnf);first|refine Ob.auto ?_|refine zC 300 (qzw _) ?_|(apply zB <;> intro hb <;> (try simp [-zd] at hb) <;> try (exfalso;omega))))
  ·refine Le.of_eq (congrArg AV.bool ?_)
   unfold nameF
   rw [h0,jjx (q:=fun i=>qjp (qbd s i)) (i:=i) (by omega) hb];rfl
  ·((conv=>whnf);refine ⟨i+1,⟨by omega,quj hi.2 hb⟩,⟨qa,qa⟩,⟨qa,qa⟩,?_⟩;(first|omega|(dsimp only;omega)|skip))
  ·refine Le.of_eq (congrArg AV.bool ?_)
   unfold nameF
   rw [h0,jjy (q:=fun i=>qjp (qbd s i)) (fun j hj=>hi.2 j (by omega))];rfl
end Go.Proofs.Ythfaleaojlnnoaa
end
section
namespace Go.Proofs.Ythfaleaojlnnoaa
open Go.Sx Go.RowKit
set_option maxRecDepth 100000
theorem qzy (c:Int):Con Try.prog 33 [.int .u8 c] (.bool (decide (48≤c) && decide (c≤57))):=qzv c
theorem jkm (c:Int):Con Try.prog 31 [.int .u8 c] (.bool (decide (65≤c) && decide (c≤90) || decide (97≤c) && decide (c≤122))):=quq c
theorem qzz (l:List UInt8) (c:Int) (hl:l.length≤1000):Con Try.prog 29 [.str l,.int .u8 c] (.bool (Lx.hasB l c)):=by
 refine zK {} 100 Try.func29 (fun c0 rdb=>?_)
 (conv=>whnf);refine qgh (fun _=>rfl) 100 1 (fun k:Nat=>⟨[(0,.str l),(1,.int .u8 c),(5,.int .i64 k)],[],0⟩)
  (fun k=>k≤l.length∧Lx.hasB (l.take k) c=false) (fun k=>l.length - k) 0 ⟨by omega,by simp [Lx.hasB]⟩ subA (fun _=>rfl) (by kernel_rfl) ?_
 rintro k ⟨hk,hf⟩
 repeat' ((conv=>whnf);first|refine Ob.auto ?_|(apply zB <;> intro hb <;> (try simp at hb) <;> try (exfalso;omega)))
 ·have h1:=Lx.hasB_step (by assumption) c
  refine Le.of_eq (congrArg AV.bool ?_)
  rw [hb,beq_self_eq_true,Bool.or_true] at h1
  exact (Lx.hasB_take h1).symm
 ·(conv=>whnf);refine Exists.intro (k+1) ⟨⟨by omega,?_⟩,subA,by omega⟩
  rw [Lx.hasB_step (by assumption) c,hf]
  simpa using hb
 ·rw [List.take_of_length_le (by omega)] at hf
  exact Le.of_eq (by rw [hf])
theorem jkn (c:Int):Con Try.prog 32 [.int .u8 c] (.bool (Lx.wordC c)):=qzw c
theorem qqd (s:List UInt8) (i:Nat) (hi:i≤s.length) (hs:s.length≤1000000):Con Try.prog 30 [.str s,.int .i64 i] (.str (Lx.twoL (s.drop i))):=by
 refine zK {} 100 Try.func30 (fun c0 rdb=>?_)
 repeat' ((conv=>whnf);first|refine Ob.auto ?_|(apply zB <;> intro hb <;> (try simp at hb) <;> try (exfalso;omega)))
 ·refine Le.of_eq (congrArg AV.str ?_)
  rw [Lx.twoL,zp,zb (by omega),show ((i:Int)+2).toNat=i+2 by omega,Int.toNat_natCast,zaw,xv]
 ·refine Le.of_eq (congrArg AV.str ?_)
  rw [Lx.twoL,zp,za (by omega)]
end Go.Proofs.Ythfaleaojlnnoaa
end
