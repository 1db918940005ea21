/- Some texts of the library, one behind the other. -/
import Derived.Test.YtikahnkkfkoglaaGreatDoorY222
import Derived.Test.YtikahnkkfkoglaaGreatDoorY28
import Derived.Test.YtikahnkkfkoglaaGreatDoorY24
import Derived.Test.YtikahnkkfkoglaaGreatDoorY22
import Derived.Test.YtikahnkkfkoglaaGreatDoorProg
import Derived.KernelRfl
set_option linter.unusedSimpArgs false
set_option linter.unusedVariables false
section
namespace Go.Proofs.YtikahnkkfkoglaaGreatDoor
open Go Go.Sx Go.St Pa
set_option maxRecDepth 100000
def qxp:List UInt8:=[112,114,111,99,32,112,32,123,32,115,107,105,112,59,32,125]
def qjo:List Nd:=[⟨0,[],[],[1],0⟩,⟨3,[[112]],[1],[2],0⟩,⟨14,[],[],[],9⟩]
def model16:Md:={ tree:=qjo,globals:=0,chans:=[],vars:=[],procs:=[⟨[112],0,[],2,[false,true],[⟨0,1,0,(-1),(-1),(-1),false,2⟩],[],[]⟩],safe:=[],dead:=false }
theorem px16:qxo qxp=(qjo,(0,0)):=by kernel_rfl
theorem jfo:qfx qjo=true:=by decide +kernel
theorem jfp:(qcg qjo).1=0:=by decide +kernel
theorem jfq:qfh qjo=model16:=by kernel_rfl
theorem jtg:fitsB model16 (qw model16)=true:=by decide +kernel
theorem ex16:(fun r:List Fnd × (Bool × Bool)=>(r.1.length,r.2)) (qbv model16 10)=(2,(true,false)):=by kernel_rfl
end Go.Proofs.YtikahnkkfkoglaaGreatDoor
end
section
namespace Go.Proofs.YtikahnkkfkoglaaGreatDoor
namespace Pa
open Go Go.Sx
structure ToksOk (ts:List Lx.Tok):Prop where
 len:ts.length≤5000
 last:∀ i,i<ts.length→((ts.getD i Lx.tok0).kind=3↔i+1=ts.length)
 num:∀ t∈ts,t.kind=1→t.s.length≤6∧∀ b∈t.s,48≤b.toNat∧b.toNat≤57
structure AtOk (ts:List Lx.Tok) (p:Ps):Prop where
 lo:0≤p.at_
 hi:p.at_<ts.length
structure Step (ts:List Lx.Tok) (p q:Ps):Prop where
 le:p.at_≤q.at_
 hi:q.at_<ts.length
 deep:q.deep=p.deep
 err:p.err≠0→q=p
 fat:q.fat=p.fat∨∃ t∈ts,q.fat=t.pos
theorem jfr (s:List UInt8) (b:UInt8):qhf (s++[b])=10 * qhf s+((b.toNat:Int) - 48):=by
 unfold qhf;rw [xx];rfl
theorem qxq {s:List UInt8} (h:∀ b∈s,48≤b.toNat∧b.toNat≤57):∀ i,i≤s.length→0≤qhf (s.take i)∧qhf (s.take i)<10 ^ i
 | 0,_=>by simp [qhf]
 | i+1,hi=>by
  have h1:=qxq h i (by omega)
  rw [List.take_succ_eq_append_getElem (by omega),jfr,Int.pow_succ]
  have h2:=h _ (zaa (by omega:i<s.length))
  omega
section
variable {ts:List Lx.Tok} {p q r:Ps}
theorem qtm (h:AtOk ts p):tk ts p∈ts:=by
 have h0:=h.lo
 have h1:=h.hi
 unfold tk
 rw [List.getD_eq_getElem?_getD,ze (by omega)]
 exact zaa _
theorem AtOk.refl (h:AtOk ts p):Step ts p p:=⟨xb _,h.hi,rfl,fun _=>rfl,.inl rfl⟩
theorem Step.trans (h:Step ts p q) (k:Step ts q r):Step ts p r:=
 ⟨zbq h.le k.le,k.hi,k.deep.trans h.deep,fun e=>by have:=h.err e;subst this;exact k.err e,by
  rcases k.fat with e|e
  ·rw [e];exact h.fat
  ·exact .inr e⟩
theorem Step.ok (h:AtOk ts p) (k:Step ts p q):AtOk ts q:=⟨zbq h.lo k.le,k.hi⟩
theorem jth {s:List UInt8} (h:sees ts p s=true):p.err=0:=by
 unfold sees at h
 simp only [zf,xu] at h
 exact h.1
theorem jti {s:List UInt8} (h:sees ts p s=true):(tk ts p).kind=2∨(tk ts p).kind=0:=by
 unfold sees qxn at h
 simp only [zf,xr,xu] at h
 rcases h.2.2 with h|h
 ·exact .inl h
 ·exact .inr h.1
theorem jtj (h:qif ts p=true):p.err=0:=by
 unfold qif at h;simp only [zf,xu] at h;exact h.2
theorem jtk (h:qhe ts p=true):p.err=0:=by
 unfold qhe at h;simp only [zf,xu] at h;exact h.2
variable (ht:ToksOk ts)
include ht
theorem jtl (h:AtOk ts p) (hk:(tk ts p).kind≠3):p.at_+1<ts.length:=by
 have h0:=h.lo
 have h1:=h.hi
 have h2:=ht.last p.at_.toNat (by omega)
 have h3:¬ (p.at_.toNat+1=ts.length):=fun e=>hk (h2.2 e)
 omega
theorem qxr (h:AtOk ts p) (hk:(tk ts p).kind≠3) (he:p.err=0):Step ts p (adv p):=
 ⟨by show p.at_≤p.at_+1;omega,jtl ht h hk,rfl,fun e=>absurd he e,.inl rfl⟩
theorem qh (h:AtOk ts p) {s:List UInt8} (hs:sees ts p s=true):Step ts p (adv p):=
 qxr ht h (by have:=jti hs;omega) (jth hs)
omit ht in
theorem qxs (h:AtOk ts p) (e:Int):Step ts p (bad ts p e):=by
 unfold bad
 split
 ·rename_i he
  exact ⟨xb _,h.hi,rfl,fun e=>absurd he e,.inr ⟨_,qtm h,rfl⟩⟩
 ·exact h.refl
theorem qig (h:AtOk ts p) (s:List UInt8):Step ts p (took ts p s):=by
 unfold took
 split
 ·exact qh ht h (by assumption)
 ·exact h.refl
theorem qn (h:AtOk ts p) (s:List UInt8):Step ts p (must ts p s):=by
 unfold must
 split
 ·exact qh ht h (by assumption)
 ·exact qxs h 11
theorem qav (h:AtOk ts p):Step ts p (qf ts p):=by
 unfold qf
 split
 ·rename_i hn
  refine qxr ht h ?_ (jtj hn)
  unfold qif at hn
  simp only [zf,xu] at hn
  omega
 ·exact qxs h 11
theorem qbr (h:AtOk ts p):Step ts p (numP ts p):=by
 unfold numP
 split
 ·rename_i hn
  refine qxr ht h ?_ (jtk hn)
  unfold qhe at hn
  simp only [zf,xu] at hn
  omega
 ·exact qxs h 11
abbrev Runs (ts:List Lx.Tok) (f:Ps→Tr × Ps):Prop:=∀ p,AtOk ts p→Step ts p (f p).2
theorem qlc {f:Ps→Tr × Ps} (hf:Runs ts f) {c:Ps→Bool} {sg:Ps→Int} (hc:∀ p,c p=true→∃ s,sees ts p s=true):∀ (n:Nat) (a:Tr) (p:Ps),AtOk ts p→Step ts p (qaz f c sg n a p).2
 | 0,a,p,h=>h.refl
 | n+1,a,p,h=>by
  rw [qaz]
  split
  ·rename_i hcp
   obtain ⟨s,hs⟩:=hc p hcp
   have h1:=qh ht h hs
   have h2:=hf _ (h1.ok h)
   exact h1.trans (h2.trans (qlc hf hc n _ _ (h2.ok (h1.ok h))))
  ·exact h.refl
theorem jfs {f:Ps→Tr × Ps} (hf:Runs ts f) (s:List UInt8) (sg:Int):Runs ts (qmx ts f s sg):=fun p h=>by
 have h1:=hf p h
 unfold qmx
 split
 ·rename_i hs
  have h2:=qh ht (h1.ok h) hs
  exact h1.trans (h2.trans (hf _ (h2.ok (h1.ok h))))
 ·exact h1
omit ht in
theorem jft {p:Ps} (h:qeg ts p=true):∃ s,sees ts p s=true:=by
 unfold qeg at h
 simp only [xr] at h
 rcases h with h|h|h <;> exact ⟨_,h⟩
omit ht in
theorem jfu {p:Ps} (h:sumC ts p=true):∃ s,sees ts p s=true:=by
 unfold sumC at h
 simp only [xr] at h
 rcases h with h|h <;> exact ⟨_,h⟩
section
variable {part:Ps→Tr × Ps} (hp:Runs ts part)
include hp
theorem qqd:Runs ts (qcp ts part):=fun p h=>(hp p h).trans (qlc ht hp (fun _=>jft) _ _ _ ((hp p h).ok h))
theorem qxt:Runs ts (sumF ts part):=fun p h=>(qqd ht hp p h).trans (qlc ht (qqd ht hp) (fun _=>jfu) _ _ _ ((qqd ht hp p h).ok h))
theorem qxu:Runs ts (qck ts part):=jfs ht (qxt ht hp) _ _
theorem qqe:Runs ts (qdu ts part):=jfs ht (qxu ht hp) _ _
theorem qqf:Runs ts (andF ts part):=fun p h=>(qqe ht hp p h).trans (qlc ht (qqe ht hp) (fun _ h=>⟨_,h⟩) _ _ _ ((qqe ht hp p h).ok h))
theorem qtn:Runs ts (qeh ts part):=fun p h=>(qqf ht hp p h).trans (qlc ht (qqf ht hp) (fun _ h=>⟨_,h⟩) _ _ _ ((qqf ht hp p h).ok h))
end
omit ht in
theorem qcz (h:AtOk ts p):AtOk ts (inP ts p)∧(inP ts p).at_=p.at_∧(inP ts p).deep=p.deep+1∧(p.err≠0→(inP ts p).err=p.err∧(inP ts p).fat=p.fat):=by
 unfold inP
 split
 ·unfold bad
  split
  ·rename_i he
   exact ⟨⟨h.lo,h.hi⟩,rfl,rfl,fun e=>absurd he e⟩
  ·exact ⟨⟨h.lo,h.hi⟩,rfl,rfl,fun _=>⟨rfl,rfl⟩⟩
 ·exact ⟨⟨h.lo,h.hi⟩,rfl,rfl,fun _=>⟨rfl,rfl⟩⟩
omit ht in
theorem jtm (h:AtOk ts p):(inP ts p).fat=p.fat∨∃ t∈ts,(inP ts p).fat=t.pos:=by
 unfold inP
 split
 ·unfold bad
  split
  ·exact .inr ⟨_,qtm (p:={ p with deep:=p.deep+1 }) ⟨h.lo,h.hi⟩,rfl⟩
  ·exact .inl rfl
 ·exact .inl rfl
omit ht in
theorem qjp (h:AtOk ts p) (hs:Step ts (inP ts p) q):Step ts p (outP q):=by
 obtain ⟨h1,h2,h3,h4⟩:=qcz h
 refine ⟨by have:=hs.le;show p.at_≤q.at_;omega,hs.hi,by have:=hs.deep;show q.deep - 1=p.deep;omega,fun e=>?_,by
  rcases hs.fat with e|e
  ·show q.fat=p.fat∨∃ t∈ts,q.fat=t.pos
   rw [e];exact jtm h
  ·exact .inr e⟩
 have h5:=h4 e
 have h6:=hs.err (by rw [h5.1];exact e)
 subst h6
 show ({ (inP ts p) with deep:=(inP ts p).deep - 1 }:Ps)=p
 rw [h3]
 cases p
 simp only [Ps.mk.injEq]
 exact ⟨h2,by simp,h5.1,h5.2⟩
omit ht in
theorem jtn {f:Ps→Tr × Ps} (hf:Runs ts f) (h:AtOk ts p):Step ts p (ifOk f p).2:=by
 unfold ifOk
 split
 ·exact hf p h
 ·exact h.refl
theorem qgf:∀ n,Runs ts (qas ts n)
 | 0=>fun p h=>h.refl
 | n+1=>fun p h=>by
  unfold qas
  simp only
  split
  ·exact qbr ht h
  split
  ·rename_i hs
   have h1:=qh ht h hs
   exact h1.trans (qav ht (h1.ok h))
  split
  ·rename_i hs
   have h1:Step ts p (adv p):=by rcases hs with hs|hs <;> exact qh ht h hs
   exact h1.trans (qjp (h1.ok h) (jtn (qgf n) (qcz (h1.ok h)).1))
  split
  ·rename_i hs
   have h1:=qh ht h hs
   have h2:=(qcz (h1.ok h)).1
   have h3:Step ts (adv p) (outP (if (inP ts (adv p)).err=0 then (qeh ts (qas ts n) (inP ts (adv p))).2 else inP ts (adv p))):=by
    refine qjp (h1.ok h) ?_
    split
    ·exact qtn ht (qgf n) _ h2
    ·exact h2.refl
   exact h1.trans (h3.trans (qn ht (h3.ok (h1.ok h)) _))
  ·exact qav ht h
theorem qbo:Runs ts (eF ts):=qtn ht (qgf ht _)
section
variable {stat:Ps→Tr × Ps} (hs:Runs ts stat)
include hs
theorem qhh:∀ (n:Nat) (l:List Tr) (p:Ps),AtOk ts p→Step ts p (jp ts stat n l p).2
 | 0,l,p,h=>h.refl
 | n+1,l,p,h=>by
  rw [jp]
  split
  ·split
   ·exact qh ht h (by assumption)
   ·exact (hs p h).trans (qhh n _ _ ((hs p h).ok h))
  ·exact h.refl
theorem qto:Runs ts (qy ts stat):=fun p h=>by
 have h1:=qn ht h sLc
 exact h1.trans (qjp (h1.ok h) (qhh ht hs _ _ _ (qcz (h1.ok h)).1))
end
theorem qqg {blk:Ps→Tr × Ps} (hb:Runs ts blk):∀ (n:Nat) (l:List Tr) (p:Ps),AtOk ts p→Step ts p (orL ts blk n l p).2
 | 0,l,p,h=>h.refl
 | n+1,l,p,h=>by
  rw [orL]
  split
  ·have h1:=qh ht h (by assumption)
   have h2:=hb _ (h1.ok h)
   exact h1.trans (h2.trans (qqg hb n _ _ (h2.ok (h1.ok h))))
  ·exact h.refl
theorem jto {blk:Ps→Tr × Ps} (hb:Runs ts blk) (a i:Int):Runs ts (qdv ts blk a i):=fun p h=>by
 unfold qdv
 split
 ·have h1:=qh ht h (by assumption)
  have h2:=qav ht (h1.ok h)
  have h3:=qav ht (h2.ok (h1.ok h))
  exact h1.trans (h2.trans (h3.trans (qn ht (h3.ok (h2.ok (h1.ok h))) _)))
 split
 ·have h1:=qh ht h (by assumption)
  have h2:=qbo ht _ (h1.ok h)
  exact h1.trans (h2.trans (qn ht (h2.ok (h1.ok h)) _))
 ·have h1:=qn ht h jk
  have h2:=hb _ (h1.ok h)
  exact h1.trans (h2.trans (qqg ht hb _ _ _ (h2.ok (h1.ok h))))
theorem qld:∀ n,Runs ts (qe ts n)
 | 0=>fun p h=>h.refl
 | n+1=>fun p h=>by
  have hb:=qto ht (qld n)
  unfold qe
  simp only
  split
  ·have h1:=qig ht h qef
   exact h1.trans (jto ht hb _ _ _ (h1.ok h))
  split
  ·have h1:=qh ht h (by assumption)
   have h2:=qav ht (h1.ok h)
   have h3:=qbo ht _ (h2.ok (h1.ok h))
   exact h1.trans (h2.trans (h3.trans (qn ht (h3.ok (h2.ok (h1.ok h))) _)))
  split
  ·have h1:=qh ht h (by assumption)
   have h2:=qbo ht _ (h1.ok h)
   have h3:=hb _ (h2.ok (h1.ok h))
   have h4:=h1.trans (h2.trans h3)
   split
   ·have h5:=qh ht (h4.ok h) (by assumption)
    exact h4.trans (h5.trans (hb _ (h5.ok (h4.ok h))))
   ·exact h4
  split
  ·have h1:=qh ht h (by assumption)
   have h2:=qbo ht _ (h1.ok h)
   exact h1.trans (h2.trans (hb _ (h2.ok (h1.ok h))))
  split
  ·have h1:=qh ht h (by assumption)
   exact h1.trans (hb _ (h1.ok h))
  split
  ·have h1:=qh ht h (by assumption)
   exact h1.trans (qn ht (h1.ok h) _)
  split
  ·have h1:=qh ht h (by assumption)
   exact h1.trans (qn ht (h1.ok h) _)
  ·have h1:=qav ht h
   have h2:=qn ht (h1.ok h) sEq
   have h3:=qbo ht _ (h2.ok (h1.ok h))
   exact h1.trans (h2.trans (h3.trans (qn ht (h3.ok (h2.ok (h1.ok h))) _)))
theorem qjq:Runs ts (sF ts):=qld ht _
theorem qmz:Runs ts (jz ts):=fun p h=>by
 unfold jz
 simp only
 have h1:=qn ht h kVar
 have h2:=qav ht (h1.ok h)
 have h3:=h1.trans h2
 have h4:=h3.trans (qn ht (h3.ok h) kOf)
 have h5:=h4.trans (qbr ht (h4.ok h))
 split
 ·have h6:=h5.trans (qh ht (h5.ok h) (by assumption))
  split
  ·have h7:=h6.trans (qh ht (h6.ok h) (by assumption))
   have h8:=h7.trans (qbr ht (h7.ok h))
   exact h8.trans (qn ht (h8.ok h) _)
  ·have h8:=h6.trans (qbr ht (h6.ok h))
   exact h8.trans (qn ht (h8.ok h) _)
 ·exact h5.trans (qn ht (h5.ok h) _)
theorem qqh:∀ (n:Nat) (l:List Tr) (p:Ps),AtOk ts p→Step ts p (qcd ts n l p).2
 | 0,l,p,h=>h.refl
 | n+1,l,p,h=>by
  rw [qcd]
  split
  ·have h2:=qmz ht _ h
   exact h2.trans (qqh n _ _ (h2.ok h))
  ·exact h.refl
theorem jtp:Runs ts (qdw ts):=fun p h=>by
 unfold qdw
 simp only
 have h1:=qn ht h jd
 have h3:=h1.trans (qav ht (h1.ok h))
 have h4:Step ts p (if sees ts (qf ts (must ts p jd)) qge=true then (numN ts (adv (qf ts (must ts p jd))),numP ts (adv (qf ts (must ts p jd)))) else (1,qf ts (must ts p jd))).2:=by
  split
  ·have h5:=h3.trans (qh ht (h3.ok h) (by assumption))
   exact h5.trans (qbr ht (h5.ok h))
  ·exact h3
 have h5:=h4.trans (qn ht (h4.ok h) sLc)
 have h6:=h5.trans (qqh ht ts.length [] _ (h5.ok h))
 exact h6.trans (qjp (h6.ok h) (qhh ht (qjq ht) _ _ _ (qcz (h6.ok h)).1))
theorem qxv:Runs ts (itemF ts):=fun p h=>by
 unfold itemF
 simp only
 split
 ·exact qmz ht _ h
 split
 ·exact jtp ht _ h
 split
 ·have h1:=qh ht h (by assumption)
  have h2:=h1.trans (qav ht (h1.ok h))
  have h3:=h2.trans (qn ht (h2.ok h) sLb)
  have h4:=h3.trans (qbr ht (h3.ok h))
  have h5:=h4.trans (qn ht (h4.ok h) sRb)
  have h6:=h5.trans (qn ht (h5.ok h) kOf)
  have h7:=h6.trans (qbr ht (h6.ok h))
  have h8:=h7.trans (qig ht (h7.ok h) qie)
  have h9:=h8.trans (qig ht (h8.ok h) qjm)
  exact h9.trans (qn ht (h9.ok h) _)
 split
 ·have h1:=qh ht h (by assumption)
  have h2:=h1.trans (qbo ht _ (h1.ok h))
  exact h2.trans (qn ht (h2.ok h) _)
 ·have h1:=qn ht h qmw
  exact h1.trans (qn ht (h1.ok h) _)
theorem qxw:∀ (n:Nat) (l:List Tr) (p:Ps),AtOk ts p→Step ts p (qdx ts n l p).2
 | 0,l,p,h=>h.refl
 | n+1,l,p,h=>by
  rw [qdx]
  split
  ·have h2:=qxv ht _ h
   exact h2.trans (qxw n _ _ (h2.ok h))
  ·exact h.refl
end
end Pa
end Go.Proofs.YtikahnkkfkoglaaGreatDoor
end
section
namespace Go.Proofs.YtikahnkkfkoglaaGreatDoor
open List renaming getD_eq_getElem?_getD → zd
open Go Go.Sx Go.RowKit Go.St
set_option maxRecDepth 100000
set_option maxHeartbeats 2000000
abbrev bv (n:Int):AV:=.int .u8 n
theorem jfv (c:Int):Con Tryz.prog 59 [bv c] (.bool (decide (48≤c) && decide (c≤57))):=by
 refine zK {} 300 Tryz.func59 (fun c0 rdb=>?_)
 (repeat' ((conv=>whnf);first|refine Ob.auto ?_|fail))
 exact Le.refl _
theorem qxx (c:Int):Con Tryz.prog 57 [bv c] (.bool (qos c)):=by
 refine zK {} 300 Tryz.func57 (fun c0 rdb=>?_)
 (repeat' ((conv=>whnf);first|refine Ob.auto ?_|fail))
 exact Le.refl _
theorem jfw (c:Int):Con Tryz.prog 58 [bv c] (.bool (qot c)):=by
 refine zK {} 300 Tryz.func58 (fun c0 rdb=>?_)
 (repeat' ((conv=>whnf);first|refine Ob.auto ?_|refine zC 300 (qxx c) ?_|refine zG 300 (fun hg=>jfv c) ?_|fail))
 exact Le.refl _
theorem jtq (f:Nat→List AV) (h:∀ i,i<21→f i=encL (fun s=>[.str s]) [] keyL i):Le (.slc 1 21 f) (strs keyL):=Le.slc rfl h
theorem jfx (s:List UInt8):Con Tryz.prog 123 [.str s] (.bool (keyF s)):=by
 refine zK {} 300 Tryz.func123 (fun c0 rdb=>?_)
 ((conv=>whnf);refine qm (fun _=>rfl) 300 1 (fun i:Nat=>[(4,iv i),(3,strs keyL)]) (fun _=>[]) (fun i=>i≤keyL.length∧∀ j,j<i→(keyL.getD j [] == s)=false) (fun i=>keyL.length - i) (0) (⟨by omega,fun j hj=>absurd hj (zh j)⟩) ⟨Le.refl _,jtq _ (fun i hi=>match i,hi with|0,_=>rfl|1,_=>rfl|2,_=>rfl|3,_=>rfl|4,_=>rfl|5,_=>rfl|6,_=>rfl|7,_=>rfl|8,_=>rfl|9,_=>rfl|10,_=>rfl|11,_=>rfl|12,_=>rfl|13,_=>rfl|14,_=>rfl|15,_=>rfl|16,_=>rfl|17,_=>rfl|18,_=>rfl|19,_=>rfl|20,_=>rfl|n+21,h=>absurd h (by omega)),trivial⟩ qa (fun _=>rfl) (by kernel_rfl) ?_;(conv=>whnf))
 intro i hi
 have h21:keyL.length=21:=rfl
 (repeat' ((conv=>whnf);first|refine Ob.auto ?_|(apply zB <;> intro hb <;> (try simp [-zd] at hb) <;> try (exfalso;omega))))
 ·refine Le.of_eq (congrArg AV.bool ?_)
  unfold keyF
  exact (List.any_eq_true.2 ⟨keyL.getD i [],qk keyL i [] (by omega),by simpa using hb⟩).symm
 ·((conv=>whnf);refine ⟨i+1,⟨by omega,qaf hi.2 (beq_eq_false_iff_ne.2 hb)⟩,⟨qa,qa⟩,⟨qa,qa⟩,?_⟩;(first|omega|(dsimp only;omega)|skip))
 ·refine Le.of_eq (congrArg AV.bool ?_)
  unfold keyF
  rw [eq_comm,xf]
  intro h
  obtain ⟨x,hx,he⟩:=List.any_eq_true.1 h
  obtain ⟨j,hj,rfl⟩:=List.mem_iff_getElem.1 hx
  have:=hi.2 j (by omega)
  rw [zd,ze hj] at this
  simp only [zag] at this
  rw [this] at he;cases he
theorem jfy (s:List UInt8):Con Tryz.prog 105 [.str s] (.bool (nameF s)):=by
 refine zK {} 300 Tryz.func105 (fun c0 rdb=>?_)
 (repeat' ((conv=>whnf);first|refine Ob.auto ?_|(refine Ob.intro (by ((intro h;simp at h ⊢;exact ⟨h,by have:=List.length_pos_iff.2 h.1;omega⟩))) ?_)|refine zG 300 (fun hg=>qxx _) ?_|refine zG 300 (fun hg=>jfx s) ?_|(apply zB <;> intro hb <;> (try simp [-zd] at hb) <;> try (exfalso;omega))))
 ·refine Le.of_eq (congrArg AV.bool ?_)
  unfold nameF
  have:(decide (s.length=0) || decide (12<s.length) || !qos (qbi s 0) || keyF s)=true:=by
   simp only [xr,xd,List.length_eq_zero_iff,zah]
   rcases hb with ((hb|hb)|hb)|hb
   ·exact .inl (.inl (.inl hb))
   ·exact .inl (.inl (.inr (by omega)))
   ·exact .inl (.inr hb)
   ·exact .inr hb
  rw [this];rfl
 ·have h0:(decide (s.length=0) || decide (12<s.length) || !qos (qbi s 0) || keyF s)=false:=by
   simp only [xq,decide_eq_false_iff_not,List.length_eq_zero_iff,Bool.not_eq_false']
   exact ⟨⟨⟨hb.1.1.1,by omega⟩,hb.1.2⟩,hb.2⟩
  ((conv=>whnf);refine qm (fun _=>rfl) 300 1 (fun i:Nat=>[(3,iv i)]) (fun _=>[]) (fun i=>i≤s.length∧∀ j,j<i→qot (qbi s j)=true) (fun i=>s.length - i) (0) (⟨by omega,fun j hj=>absurd hj (zh j)⟩) qa qa (fun _=>rfl) (by kernel_rfl) ?_;(conv=>whnf))
  intro i hi
  (repeat' ((conv=>whnf);first|refine Ob.auto ?_|refine zC 300 (jfw _) ?_|(apply zB <;> intro hb <;> (try simp [-zd] at hb) <;> try (exfalso;omega))))
  ·refine Le.of_eq (congrArg AV.bool ?_)
   unfold nameF
   rw [h0,qsm (q:=fun i=>qot (qbi s i)) (i:=i) (by omega) hb];rfl
  ·((conv=>whnf);refine ⟨i+1,⟨by omega,qaf hi.2 hb⟩,⟨qa,qa⟩,⟨qa,qa⟩,?_⟩;(first|omega|(dsimp only;omega)|skip))
  ·refine Le.of_eq (congrArg AV.bool ?_)
   unfold nameF
   rw [h0,qks (q:=fun i=>qot (qbi s i)) (fun j hj=>hi.2 j (by omega))];rfl
theorem qxy (k a b:Int):Con Tryz.prog 72 [iv k,iv a,iv b] (.bool (inK k a b)):=by
 refine zK {} 300 Tryz.func72 (fun c0 rdb=>?_)
 (repeat' ((conv=>whnf);first|refine Ob.auto ?_|fail))
 exact Le.refl _
theorem qxz (l:List Nd) (n:Nd) (i:Int) (h0:0≤i) (h1:i<n.kids.length) (hk:∀ k∈n.kids,0≤k∧k<l.length):Con Tryz.prog 73 [jx l,.agg n.cells,iv i] (iv (kidK l n i.toNat)):=by
 have hki:=hk _ (qk n.kids i.toNat 0 (by omega))
 refine zK {} 300 Tryz.func73 (fun c0 rdb=>?_)
 (repeat' ((conv=>whnf);first|refine Ob.auto ?_|fail))
 exact Le.refl _
theorem jfz (n:Nd) (hn:NdSz n) (c most:Int):Con Tryz.prog 70 [.agg n.cells,iv c,iv most] (.bool (numsB n c most)):=by
 have hl:=hn.ln
 refine zK {} 300 Tryz.func70 (fun c0 rdb=>?_)
 ((conv=>whnf);refine qm (fun _=>rfl) 300 1 (fun i:Nat=>[(7,iv i)]) (fun _=>[]) (fun i=>i≤n.nums.length∧∀ j,j<i→(decide (0≤n.nums.getD j 0) && decide (n.nums.getD j 0≤most))=true) (fun i=>n.nums.length - i) (0) (⟨by omega,fun j hj=>absurd hj (zh j)⟩) qa qa (fun _=>rfl) (by kernel_rfl) ?_;(conv=>whnf))
 intro i hi
 (repeat' ((conv=>whnf);first|refine Ob.auto ?_|(apply zB <;> intro hb <;> (try simp [-zd] at hb) <;> try (exfalso;omega))))
 ·refine Le.of_eq (congrArg AV.bool ?_)
  unfold numsB
  rw [qop (q:=fun x=>decide (0≤x) && decide (x≤most)) 0 (j:=i) (by omega) (by simp only [Bool.and_eq_false_iff,decide_eq_false_iff_not];omega)];rfl
 ·((conv=>whnf);refine ⟨i+1,⟨by omega,qaf hi.2 (by simp only [zf,xd];omega)⟩,⟨qa,qa⟩,⟨qa,qa⟩,?_⟩;(first|omega|(dsimp only;omega)|skip))
 ·refine Le.of_eq (congrArg AV.bool ?_)
  unfold numsB
  rw [qoo (q:=fun x=>decide (0≤x) && decide (x≤most)) 0 (fun j hj=>hi.2 j (by omega))];rfl
theorem jga (n:Nd) (hn:NdSz n) (c:Int):Con Tryz.prog 69 [.agg n.cells,iv c] (.bool (wordsB n c)):=by
 have hl:=hn.lw
 refine zK {} 300 Tryz.func69 (fun c0 rdb=>?_)
 ((conv=>whnf);refine qm (fun _=>rfl) 300 1 (fun i:Nat=>[(5,iv i)]) (fun _=>[]) (fun i=>i≤n.words.length∧∀ j,j<i→nameF (n.words.getD j [])=true) (fun i=>n.words.length - i) (0) (⟨by omega,fun j hj=>absurd hj (zh j)⟩) qa qa (fun _=>rfl) (by kernel_rfl) ?_;(conv=>whnf))
 intro i hi
 (repeat' ((conv=>whnf);first|refine Ob.auto ?_|refine zC 300 (jfy _) ?_|(apply zB <;> intro hb <;> (try simp [-zd] at hb) <;> try (exfalso;omega))))
 ·refine Le.of_eq (congrArg AV.bool ?_)
  unfold wordsB
  rw [qop (q:=nameF) [] (j:=i) (by omega) hb];rfl
 ·((conv=>whnf);refine ⟨i+1,⟨by omega,qaf hi.2 hb⟩,⟨qa,qa⟩,⟨qa,qa⟩,?_⟩;(first|omega|(dsimp only;omega)|skip))
 ·refine Le.of_eq (congrArg AV.bool ?_)
  unfold wordsB
  rw [qoo (q:=nameF) [] (fun j hj=>hi.2 j (by omega))];rfl
theorem jgb (l:List Nd) (n:Nd) (hn:NdSz n) (hk:∀ k∈n.kids,0≤k∧k<l.length) (frm:Nat) (hf:frm≤n.kids.length) (a b:Int):Con Tryz.prog 71 [jx l,.agg n.cells,iv frm,iv a,iv b] (.bool (allB l n frm a b)):=by
 have hl:=hn.lk
 refine zK {} 300 Tryz.func71 (fun c0 rdb=>?_)
 ((conv=>whnf);refine qm (fun _=>rfl) 300 1 (fun i:Nat=>[(11,iv i)]) (fun _=>[]) (fun i=>(frm≤i∧i≤n.kids.length)∧∀ j,j<i→(decide (j<frm) || inK (kidK l n j) a b)=true) (fun i=>n.kids.length - i) (frm) (⟨by omega,fun j hj=>by simp [hj]⟩) qa qa (fun _=>rfl) (by kernel_rfl) ?_;(conv=>whnf))
 intro i hi
 (repeat' ((conv=>whnf);first|refine Ob.auto ?_|refine zC 300 (qxz l n i (by omega) (by omega) hk) ?_|refine zC 300 (qxy _ _ _) ?_|(apply zB <;> intro hb <;> (try simp [-zd] at hb) <;> try (exfalso;omega))))
 ·refine Le.of_eq (congrArg AV.bool ?_)
  exact (qsm (i:=i) (by omega) (by simp only [xq,decide_eq_false_iff_not];exact ⟨by omega,hb⟩)).symm
 ·((conv=>whnf);refine ⟨i+1,⟨by omega,qaf hi.2 (by rw [xr];exact .inr hb)⟩,⟨qa,qa⟩,⟨qa,qa⟩,?_⟩;(first|omega|(dsimp only;omega)|skip))
 ·refine Le.of_eq (congrArg AV.bool ?_)
  exact (qks (fun j hj=>hi.2 j (by omega))).symm
theorem jtr (l:List Nd) (n:Nd) (hn:NdSz n) (hk:∀ k∈n.kids,0≤k∧k<l.length) (first least most:Int) (hf:(0≤first∧first≤100000)∧(0≤least∧least≤100000)∧(0≤most∧most≤100000)):Con Tryz.prog 74 [jx l,.agg n.cells,iv first,iv least,iv most] (.bool (exprsB l n first least most)):=by
 have hl:=hn.lk
 refine zK {} 300 Tryz.func74 (fun c0 rdb=>?_)
 ((conv=>whnf);refine qm (fun _=>rfl) 300 1 (fun i:Nat=>[(12,iv i)]) (fun _=>[]) (fun i=>i≤n.kids.length∧∀ j,j<i→(!(decide ((j:Int)<first) && !inK (kidK l n j) 17 22 || decide (first≤(j:Int)) && kidK l n j != 16))=true) (fun i=>n.kids.length - i) (0) (⟨by omega,fun j hj=>absurd hj (zh j)⟩) qa qa (fun _=>rfl) (by kernel_rfl) ?_;(conv=>whnf))
 intro i hi
 (repeat' ((conv=>whnf);first|refine Ob.auto ?_|refine zG 300 (fun hg=>qxz l n i (by omega) (by omega) hk) ?_|refine zG 300 (fun hg=>qxy _ _ _) ?_|(apply zB <;> intro hb <;> (try simp [-zd] at hb) <;> try (exfalso;omega))))
 ·refine Le.of_eq (congrArg AV.bool ?_)
  unfold exprsB
  rw [qsm (i:=i) (by omega) (by
   simp only [Bool.not_eq_false',xr,zf,xd,zah,bne_iff_ne,ne_eq]
   exact hb)];rfl
 ·((conv=>whnf);refine ⟨i+1,⟨by omega,qaf hi.2 (by
   simp only [zah,xq,Bool.and_eq_false_imp,xd,Bool.not_eq_false',bne_eq_false_iff_eq]
   exact hb)⟩,⟨qa,qa⟩,⟨qa,qa⟩,?_⟩;(first|omega|(dsimp only;omega)|skip))
 ·refine Le.of_eq (congrArg AV.bool ?_)
  unfold exprsB
  rw [qks (fun j hj=>hi.2 j (by omega))];rfl
end Go.Proofs.YtikahnkkfkoglaaGreatDoor
end
