/- Some texts of the library, one behind the other. -/
import Derived.Test.YtikahnkkfkoglaaGreatDoorQ6
import Derived.Test.YtikahnkkfkoglaaGreatDoorQ4
import Derived.Test.YtikahnkkfkoglaaGreatDoorQ2
import Derived.Test.YtikahnkkfkoglaaGreatDoorProg
import Derived.KernelRfl
import Derived.Test.YtikahnkkfkoglaaGreatDoorQLexPlain
set_option linter.unusedSimpArgs false
set_option linter.unusedVariables false
section
namespace Go.Proofs.YtikahnkkfkoglaaGreatDoor
namespace Pa
open Go Go.Sx
structure ToksOk (ts:List Lx.Tok):Prop where
 len:ts.length≤5000
 last:∀ i,i<ts.length→((ts.getD i Lx.tok0).kind=3↔i+1=ts.length)
 num:∀ t∈ts,t.kind=1→t.s.length≤6∧∀ b∈t.s,48≤b.toNat∧b.toNat≤57
structure AtOk (ts:List Lx.Tok) (p:Ps):Prop where
 lo:0≤p.at_
 hi:p.at_<ts.length
structure Step (ts:List Lx.Tok) (p q:Ps):Prop where
 le:p.at_≤q.at_
 hi:q.at_<ts.length
 deep:q.deep=p.deep
 err:p.err≠0→q=p
 fat:q.fat=p.fat∨∃ t∈ts,q.fat=t.pos
theorem jfp (s:List UInt8) (b:UInt8):qgo (s++[b])=10 * qgo s+((b.toNat:Int) - 48):=by
 unfold qgo;rw [xz];rfl
theorem qws {s:List UInt8} (h:∀ b∈s,48≤b.toNat∧b.toNat≤57):∀ i,i≤s.length→0≤qgo (s.take i)∧qgo (s.take i)<10 ^ i
 | 0,_=>by simp [qgo]
 | i+1,hi=>by
  have h1:=qws h i (by omega)
  rw [List.take_succ_eq_append_getElem (by omega),jfp,Int.pow_succ]
  have h2:=h _ (xt (by omega:i<s.length))
  omega
section
variable {ts:List Lx.Tok} {p q r:Ps}
theorem qrz (h:AtOk ts p):tk ts p∈ts:=by
 have h0:=h.lo
 have h1:=h.hi
 unfold tk
 rw [List.getD_eq_getElem?_getD,ze (by omega)]
 exact xt _
theorem AtOk.refl (h:AtOk ts p):Step ts p p:=⟨xa _,h.hi,rfl,fun _=>rfl,.inl rfl⟩
theorem Step.trans (h:Step ts p q) (k:Step ts q r):Step ts p r:=
 ⟨zbj h.le k.le,k.hi,k.deep.trans h.deep,fun e=>by have:=h.err e;subst this;exact k.err e,by
  rcases k.fat with e|e
  ·rw [e];exact h.fat
  ·exact .inr e⟩
theorem Step.ok (h:AtOk ts p) (k:Step ts p q):AtOk ts q:=⟨zbj h.lo k.le,k.hi⟩
theorem jrr {s:List UInt8} (h:sees ts p s=true):p.err=0:=by
 unfold sees at h
 simp only [zf,xy] at h
 exact h.1
theorem jrs {s:List UInt8} (h:sees ts p s=true):(tk ts p).kind=2∨(tk ts p).kind=0:=by
 unfold sees qup at h
 simp only [zf,zaq,xy] at h
 rcases h.2.2 with h|h
 ·exact .inl h
 ·exact .inr h.1
theorem jrt (h:qho ts p=true):p.err=0:=by
 unfold qho at h;simp only [zf,xy] at h;exact h.2
theorem jru (h:qgn ts p=true):p.err=0:=by
 unfold qgn at h;simp only [zf,xy] at h;exact h.2
variable (ht:ToksOk ts)
include ht
theorem jrv (h:AtOk ts p) (hk:(tk ts p).kind≠3):p.at_+1<ts.length:=by
 have h0:=h.lo
 have h1:=h.hi
 have h2:=ht.last p.at_.toNat (by omega)
 have h3:¬ (p.at_.toNat+1=ts.length):=fun e=>hk (h2.2 e)
 omega
theorem qwt (h:AtOk ts p) (hk:(tk ts p).kind≠3) (he:p.err=0):Step ts p (adv p):=
 ⟨by show p.at_≤p.at_+1;omega,jrv ht h hk,rfl,fun e=>absurd he e,.inl rfl⟩
theorem qh (h:AtOk ts p) {s:List UInt8} (hs:sees ts p s=true):Step ts p (adv p):=
 qwt ht h (by have:=jrs hs;omega) (jrr hs)
omit ht in
theorem qwu (h:AtOk ts p) (e:Int):Step ts p (bad ts p e):=by
 unfold bad
 split
 ·rename_i he
  exact ⟨xa _,h.hi,rfl,fun e=>absurd he e,.inr ⟨_,qrz h,rfl⟩⟩
 ·exact h.refl
theorem qhs (h:AtOk ts p) (s:List UInt8):Step ts p (took ts p s):=by
 unfold took
 split
 ·exact qh ht h (by assumption)
 ·exact h.refl
theorem qk (h:AtOk ts p) (s:List UInt8):Step ts p (must ts p s):=by
 unfold must
 split
 ·exact qh ht h (by assumption)
 ·exact qwu h 11
theorem qaq (h:AtOk ts p):Step ts p (qf ts p):=by
 unfold qf
 split
 ·rename_i hn
  refine qwt ht h ?_ (jrt hn)
  unfold qho at hn
  simp only [zf,xy] at hn
  omega
 ·exact qwu h 11
theorem qbp (h:AtOk ts p):Step ts p (numP ts p):=by
 unfold numP
 split
 ·rename_i hn
  refine qwt ht h ?_ (jru hn)
  unfold qgn at hn
  simp only [zf,xy] at hn
  omega
 ·exact qwu h 11
abbrev Runs (ts:List Lx.Tok) (f:Ps→Tr × Ps):Prop:=∀ p,AtOk ts p→Step ts p (f p).2
theorem qkm {f:Ps→Tr × Ps} (hf:Runs ts f) {c:Ps→Bool} {sg:Ps→Int} (hc:∀ p,c p=true→∃ s,sees ts p s=true):∀ (n:Nat) (a:Tr) (p:Ps),AtOk ts p→Step ts p (qat f c sg n a p).2
 | 0,a,p,h=>h.refl
 | n+1,a,p,h=>by
  rw [qat]
  split
  ·rename_i hcp
   obtain ⟨s,hs⟩:=hc p hcp
   have h1:=qh ht h hs
   have h2:=hf _ (h1.ok h)
   exact h1.trans (h2.trans (qkm hf hc n _ _ (h2.ok (h1.ok h))))
  ·exact h.refl
theorem jfq {f:Ps→Tr × Ps} (hf:Runs ts f) (s:List UInt8) (sg:Int):Runs ts (qly ts f s sg):=fun p h=>by
 have h1:=hf p h
 unfold qly
 split
 ·rename_i hs
  have h2:=qh ht (h1.ok h) hs
  exact h1.trans (h2.trans (hf _ (h2.ok (h1.ok h))))
 ·exact h1
omit ht in
theorem jfr {p:Ps} (h:qdy ts p=true):∃ s,sees ts p s=true:=by
 unfold qdy at h
 simp only [zaq] at h
 rcases h with h|h|h <;> exact ⟨_,h⟩
omit ht in
theorem jfs {p:Ps} (h:sumC ts p=true):∃ s,sees ts p s=true:=by
 unfold sumC at h
 simp only [zaq] at h
 rcases h with h|h <;> exact ⟨_,h⟩
section
variable {part:Ps→Tr × Ps} (hp:Runs ts part)
include hp
theorem qov:Runs ts (qcg ts part):=fun p h=>(hp p h).trans (qkm ht hp (fun _=>jfr) _ _ _ ((hp p h).ok h))
theorem qwv:Runs ts (sumF ts part):=fun p h=>(qov ht hp p h).trans (qkm ht (qov ht hp) (fun _=>jfs) _ _ _ ((qov ht hp p h).ok h))
theorem qww:Runs ts (qcd ts part):=jfq ht (qwv ht hp) _ _
theorem qow:Runs ts (qdl ts part):=jfq ht (qww ht hp) _ _
theorem qox:Runs ts (andF ts part):=fun p h=>(qow ht hp p h).trans (qkm ht (qow ht hp) (fun _ h=>⟨_,h⟩) _ _ _ ((qow ht hp p h).ok h))
theorem qsa:Runs ts (qdz ts part):=fun p h=>(qox ht hp p h).trans (qkm ht (qox ht hp) (fun _ h=>⟨_,h⟩) _ _ _ ((qox ht hp p h).ok h))
end
omit ht in
theorem qcs (h:AtOk ts p):AtOk ts (inP ts p)∧(inP ts p).at_=p.at_∧(inP ts p).deep=p.deep+1∧(p.err≠0→(inP ts p).err=p.err∧(inP ts p).fat=p.fat):=by
 unfold inP
 split
 ·unfold bad
  split
  ·rename_i he
   exact ⟨⟨h.lo,h.hi⟩,rfl,rfl,fun e=>absurd he e⟩
  ·exact ⟨⟨h.lo,h.hi⟩,rfl,rfl,fun _=>⟨rfl,rfl⟩⟩
 ·exact ⟨⟨h.lo,h.hi⟩,rfl,rfl,fun _=>⟨rfl,rfl⟩⟩
omit ht in
theorem jrw (h:AtOk ts p):(inP ts p).fat=p.fat∨∃ t∈ts,(inP ts p).fat=t.pos:=by
 unfold inP
 split
 ·unfold bad
  split
  ·exact .inr ⟨_,qrz (p:={ p with deep:=p.deep+1 }) ⟨h.lo,h.hi⟩,rfl⟩
  ·exact .inl rfl
 ·exact .inl rfl
omit ht in
theorem qjh (h:AtOk ts p) (hs:Step ts (inP ts p) q):Step ts p (outP q):=by
 obtain ⟨h1,h2,h3,h4⟩:=qcs h
 refine ⟨by have:=hs.le;show p.at_≤q.at_;omega,hs.hi,by have:=hs.deep;show q.deep - 1=p.deep;omega,fun e=>?_,by
  rcases hs.fat with e|e
  ·show q.fat=p.fat∨∃ t∈ts,q.fat=t.pos
   rw [e];exact jrw h
  ·exact .inr e⟩
 have h5:=h4 e
 have h6:=hs.err (by rw [h5.1];exact e)
 subst h6
 show ({ (inP ts p) with deep:=(inP ts p).deep - 1 }:Ps)=p
 rw [h3]
 cases p
 simp only [Ps.mk.injEq]
 exact ⟨h2,by simp,h5.1,h5.2⟩
omit ht in
theorem jrx {f:Ps→Tr × Ps} (hf:Runs ts f) (h:AtOk ts p):Step ts p (ifOk f p).2:=by
 unfold ifOk
 split
 ·exact hf p h
 ·exact h.refl
theorem qfz:∀ n,Runs ts (qam ts n)
 | 0=>fun p h=>h.refl
 | n+1=>fun p h=>by
  unfold qam
  simp only
  split
  ·exact qbp ht h
  split
  ·rename_i hs
   have h1:=qh ht h hs
   exact h1.trans (qaq ht (h1.ok h))
  split
  ·rename_i hs
   have h1:Step ts p (adv p):=by rcases hs with hs|hs <;> exact qh ht h hs
   exact h1.trans (qjh (h1.ok h) (jrx (qfz n) (qcs (h1.ok h)).1))
  split
  ·rename_i hs
   have h1:=qh ht h hs
   have h2:=(qcs (h1.ok h)).1
   have h3:Step ts (adv p) (outP (if (inP ts (adv p)).err=0 then (qdz ts (qam ts n) (inP ts (adv p))).2 else inP ts (adv p))):=by
    refine qjh (h1.ok h) ?_
    split
    ·exact qsa ht (qfz n) _ h2
    ·exact h2.refl
   exact h1.trans (h3.trans (qk ht (h3.ok (h1.ok h)) _))
  ·exact qaq ht h
theorem qbj:Runs ts (eF ts):=qsa ht (qfz ht _)
section
variable {stat:Ps→Tr × Ps} (hs:Runs ts stat)
include hs
theorem qgt:∀ (n:Nat) (l:List Tr) (p:Ps),AtOk ts p→Step ts p (jk ts stat n l p).2
 | 0,l,p,h=>h.refl
 | n+1,l,p,h=>by
  rw [jk]
  split
  ·split
   ·exact qh ht h (by assumption)
   ·exact (hs p h).trans (qgt n _ _ ((hs p h).ok h))
  ·exact h.refl
theorem qsb:Runs ts (qq ts stat):=fun p h=>by
 have h1:=qk ht h sLc
 exact h1.trans (qjh (h1.ok h) (qgt ht hs _ _ _ (qcs (h1.ok h)).1))
end
theorem qoy {blk:Ps→Tr × Ps} (hb:Runs ts blk):∀ (n:Nat) (l:List Tr) (p:Ps),AtOk ts p→Step ts p (orL ts blk n l p).2
 | 0,l,p,h=>h.refl
 | n+1,l,p,h=>by
  rw [orL]
  split
  ·have h1:=qh ht h (by assumption)
   have h2:=hb _ (h1.ok h)
   exact h1.trans (h2.trans (qoy hb n _ _ (h2.ok (h1.ok h))))
  ·exact h.refl
theorem jry {blk:Ps→Tr × Ps} (hb:Runs ts blk) (a i:Int):Runs ts (qdm ts blk a i):=fun p h=>by
 unfold qdm
 split
 ·have h1:=qh ht h (by assumption)
  have h2:=qaq ht (h1.ok h)
  have h3:=qaq ht (h2.ok (h1.ok h))
  exact h1.trans (h2.trans (h3.trans (qk ht (h3.ok (h2.ok (h1.ok h))) _)))
 split
 ·have h1:=qh ht h (by assumption)
  have h2:=qbj ht _ (h1.ok h)
  exact h1.trans (h2.trans (qk ht (h2.ok (h1.ok h)) _))
 ·have h1:=qk ht h jg
  have h2:=hb _ (h1.ok h)
  exact h1.trans (h2.trans (qoy ht hb _ _ _ (h2.ok (h1.ok h))))
theorem qkn:∀ n,Runs ts (qd ts n)
 | 0=>fun p h=>h.refl
 | n+1=>fun p h=>by
  have hb:=qsb ht (qkn n)
  unfold qd
  simp only
  split
  ·have h1:=qhs ht h qdx
   exact h1.trans (jry ht hb _ _ _ (h1.ok h))
  split
  ·have h1:=qh ht h (by assumption)
   have h2:=qaq ht (h1.ok h)
   have h3:=qbj ht _ (h2.ok (h1.ok h))
   exact h1.trans (h2.trans (h3.trans (qk ht (h3.ok (h2.ok (h1.ok h))) _)))
  split
  ·have h1:=qh ht h (by assumption)
   have h2:=qbj ht _ (h1.ok h)
   have h3:=hb _ (h2.ok (h1.ok h))
   have h4:=h1.trans (h2.trans h3)
   split
   ·have h5:=qh ht (h4.ok h) (by assumption)
    exact h4.trans (h5.trans (hb _ (h5.ok (h4.ok h))))
   ·exact h4
  split
  ·have h1:=qh ht h (by assumption)
   have h2:=qbj ht _ (h1.ok h)
   exact h1.trans (h2.trans (hb _ (h2.ok (h1.ok h))))
  split
  ·have h1:=qh ht h (by assumption)
   exact h1.trans (hb _ (h1.ok h))
  split
  ·have h1:=qh ht h (by assumption)
   exact h1.trans (qk ht (h1.ok h) _)
  split
  ·have h1:=qh ht h (by assumption)
   exact h1.trans (qk ht (h1.ok h) _)
  ·have h1:=qaq ht h
   have h2:=qk ht (h1.ok h) sEq
   have h3:=qbj ht _ (h2.ok (h1.ok h))
   exact h1.trans (h2.trans (h3.trans (qk ht (h3.ok (h2.ok (h1.ok h))) _)))
theorem qji:Runs ts (sF ts):=qkn ht _
theorem qmi:Runs ts (jv ts):=fun p h=>by
 unfold jv
 simp only
 have h1:=qk ht h kVar
 have h2:=qaq ht (h1.ok h)
 have h3:=h1.trans h2
 have h4:=h3.trans (qk ht (h3.ok h) kOf)
 have h5:=h4.trans (qbp ht (h4.ok h))
 split
 ·have h6:=h5.trans (qh ht (h5.ok h) (by assumption))
  split
  ·have h7:=h6.trans (qh ht (h6.ok h) (by assumption))
   have h8:=h7.trans (qbp ht (h7.ok h))
   exact h8.trans (qk ht (h8.ok h) _)
  ·have h8:=h6.trans (qbp ht (h6.ok h))
   exact h8.trans (qk ht (h8.ok h) _)
 ·exact h5.trans (qk ht (h5.ok h) _)
theorem qoz:∀ (n:Nat) (l:List Tr) (p:Ps),AtOk ts p→Step ts p (qbw ts n l p).2
 | 0,l,p,h=>h.refl
 | n+1,l,p,h=>by
  rw [qbw]
  split
  ·have h2:=qmi ht _ h
   exact h2.trans (qoz n _ _ (h2.ok h))
  ·exact h.refl
theorem jrz:Runs ts (qdn ts):=fun p h=>by
 unfold qdn
 simp only
 have h1:=qk ht h qy
 have h3:=h1.trans (qaq ht (h1.ok h))
 have h4:Step ts p (if sees ts (qf ts (must ts p qy)) qft=true then (numN ts (adv (qf ts (must ts p qy))),numP ts (adv (qf ts (must ts p qy)))) else (1,qf ts (must ts p qy))).2:=by
  split
  ·have h5:=h3.trans (qh ht (h3.ok h) (by assumption))
   exact h5.trans (qbp ht (h5.ok h))
  ·exact h3
 have h5:=h4.trans (qk ht (h4.ok h) sLc)
 have h6:=h5.trans (qoz ht ts.length [] _ (h5.ok h))
 exact h6.trans (qjh (h6.ok h) (qgt ht (qji ht) _ _ _ (qcs (h6.ok h)).1))
theorem qwx:Runs ts (itemF ts):=fun p h=>by
 unfold itemF
 simp only
 split
 ·exact qmi ht _ h
 split
 ·exact jrz ht _ h
 split
 ·have h1:=qh ht h (by assumption)
  have h2:=h1.trans (qaq ht (h1.ok h))
  have h3:=h2.trans (qk ht (h2.ok h) sLb)
  have h4:=h3.trans (qbp ht (h3.ok h))
  have h5:=h4.trans (qk ht (h4.ok h) sRb)
  have h6:=h5.trans (qk ht (h5.ok h) kOf)
  have h7:=h6.trans (qbp ht (h6.ok h))
  have h8:=h7.trans (qhs ht (h7.ok h) qhn)
  have h9:=h8.trans (qhs ht (h8.ok h) qip)
  exact h9.trans (qk ht (h9.ok h) _)
 split
 ·have h1:=qh ht h (by assumption)
  have h2:=h1.trans (qbj ht _ (h1.ok h))
  exact h2.trans (qk ht (h2.ok h) _)
 ·have h1:=qk ht h qlx
  exact h1.trans (qk ht (h1.ok h) _)
theorem qwy:∀ (n:Nat) (l:List Tr) (p:Ps),AtOk ts p→Step ts p (qdo ts n l p).2
 | 0,l,p,h=>h.refl
 | n+1,l,p,h=>by
  rw [qdo]
  split
  ·have h2:=qwx ht _ h
   exact h2.trans (qwy n _ _ (h2.ok h))
  ·exact h.refl
end
end Pa
end Go.Proofs.YtikahnkkfkoglaaGreatDoor
end
section
namespace Go.Proofs.YtikahnkkfkoglaaGreatDoor
open List renaming getD_eq_getElem?_getD → zd
open Go Go.Sx Go.RowKit Go.St
set_option maxRecDepth 100000
set_option maxHeartbeats 2000000
abbrev bv (n:Int):AV:=.int .u8 n
theorem jft (c:Int):Con Tryz.prog 59 [bv c] (.bool (decide (48≤c) && decide (c≤57))):=by
 refine zK {} 300 Tryz.func59 (fun c0 rdb=>?_)
 (repeat' ((conv=>whnf);first|refine Ob.auto ?_|fail))
 exact Le.refl _
theorem qwz (c:Int):Con Tryz.prog 57 [bv c] (.bool (qnz c)):=by
 refine zK {} 300 Tryz.func57 (fun c0 rdb=>?_)
 (repeat' ((conv=>whnf);first|refine Ob.auto ?_|fail))
 exact Le.refl _
theorem jfu (c:Int):Con Tryz.prog 58 [bv c] (.bool (qoa c)):=by
 refine zK {} 300 Tryz.func58 (fun c0 rdb=>?_)
 (repeat' ((conv=>whnf);first|refine Ob.auto ?_|refine zC 300 (qwz c) ?_|refine zG 300 (fun hg=>jft c) ?_|fail))
 exact Le.refl _
theorem jsa (f:Nat→List AV) (h:∀ i,i<21→f i=encL (fun s=>[.str s]) [] keyL i):Le (.slc 1 21 f) (strs keyL):=Le.slc rfl h
theorem jfv (s:List UInt8):Con Tryz.prog 123 [.str s] (.bool (keyF s)):=by
 refine zK {} 300 Tryz.func123 (fun c0 rdb=>?_)
 ((conv=>whnf);refine qt (fun _=>rfl) 300 1 (fun i:Nat=>[(4,iv i),(3,strs keyL)]) (fun _=>[]) (fun i=>i≤keyL.length∧∀ j,j<i→(keyL.getD j [] == s)=false) (fun i=>keyL.length - i) (0) (⟨by omega,fun j hj=>absurd hj (zi j)⟩) ⟨Le.refl _,jsa _ (fun i hi=>match i,hi with|0,_=>rfl|1,_=>rfl|2,_=>rfl|3,_=>rfl|4,_=>rfl|5,_=>rfl|6,_=>rfl|7,_=>rfl|8,_=>rfl|9,_=>rfl|10,_=>rfl|11,_=>rfl|12,_=>rfl|13,_=>rfl|14,_=>rfl|15,_=>rfl|16,_=>rfl|17,_=>rfl|18,_=>rfl|19,_=>rfl|20,_=>rfl|n+21,h=>absurd h (by omega)),trivial⟩ qa (fun _=>rfl) (by kernel_rfl) ?_;(conv=>whnf))
 intro i hi
 have h21:keyL.length=21:=rfl
 (repeat' ((conv=>whnf);first|refine Ob.auto ?_|(apply zB <;> intro hb <;> (try simp [-zd] at hb) <;> try (exfalso;omega))))
 ·refine Le.of_eq (congrArg AV.bool ?_)
  unfold keyF
  exact (List.any_eq_true.2 ⟨keyL.getD i [],qr keyL i [] (by omega),by simpa using hb⟩).symm
 ·((conv=>whnf);refine ⟨i+1,⟨by omega,qcc hi.2 (beq_eq_false_iff_ne.2 hb)⟩,⟨qa,qa⟩,⟨qa,qa⟩,?_⟩;(first|omega|(dsimp only;omega)|skip))
 ·refine Le.of_eq (congrArg AV.bool ?_)
  unfold keyF
  rw [eq_comm,xf]
  intro h
  obtain ⟨x,hx,he⟩:=List.any_eq_true.1 h
  obtain ⟨j,hj,rfl⟩:=List.mem_iff_getElem.1 hx
  have:=hi.2 j (by omega)
  rw [zd,ze hj] at this
  simp only [zaf] at this
  rw [this] at he;cases he
theorem jsb (s:List UInt8):Con Tryz.prog 105 [.str s] (.bool (nameF s)):=by
 refine zK {} 300 Tryz.func105 (fun c0 rdb=>?_)
 (repeat' ((conv=>whnf);first|refine Ob.auto ?_|(refine Ob.intro (by ((intro h;simp at h ⊢;exact ⟨h,by have:=List.length_pos_iff.2 h.1;omega⟩))) ?_)|refine zG 300 (fun hg=>qwz _) ?_|refine zG 300 (fun hg=>jfv s) ?_|(apply zB <;> intro hb <;> (try simp [-zd] at hb) <;> try (exfalso;omega))))
 ·refine Le.of_eq (congrArg AV.bool ?_)
  unfold nameF
  have:(decide (s.length=0) || decide (12<s.length) || !qnz (qbd s 0) || keyF s)=true:=by
   simp only [zaq,xr,List.length_eq_zero_iff,zam]
   rcases hb with ((hb|hb)|hb)|hb
   ·exact .inl (.inl (.inl hb))
   ·exact .inl (.inl (.inr (by omega)))
   ·exact .inl (.inr hb)
   ·exact .inr hb
  rw [this];rfl
 ·have h0:(decide (s.length=0) || decide (12<s.length) || !qnz (qbd s 0) || keyF s)=false:=by
   simp only [zah,decide_eq_false_iff_not,List.length_eq_zero_iff,Bool.not_eq_false']
   exact ⟨⟨⟨hb.1.1.1,by omega⟩,hb.1.2⟩,hb.2⟩
  ((conv=>whnf);refine qt (fun _=>rfl) 300 1 (fun i:Nat=>[(3,iv i)]) (fun _=>[]) (fun i=>i≤s.length∧∀ j,j<i→qoa (qbd s j)=true) (fun i=>s.length - i) (0) (⟨by omega,fun j hj=>absurd hj (zi j)⟩) qa qa (fun _=>rfl) (by kernel_rfl) ?_;(conv=>whnf))
  intro i hi
  (repeat' ((conv=>whnf);first|refine Ob.auto ?_|refine zC 300 (jfu _) ?_|(apply zB <;> intro hb <;> (try simp [-zd] at hb) <;> try (exfalso;omega))))
  ·refine Le.of_eq (congrArg AV.bool ?_)
   unfold nameF
   rw [h0,jbz (q:=fun i=>qoa (qbd s i)) (i:=i) (by omega) hb];rfl
  ·((conv=>whnf);refine ⟨i+1,⟨by omega,qcc hi.2 hb⟩,⟨qa,qa⟩,⟨qa,qa⟩,?_⟩;(first|omega|(dsimp only;omega)|skip))
  ·refine Le.of_eq (congrArg AV.bool ?_)
   unfold nameF
   rw [h0,qnw (q:=fun i=>qoa (qbd s i)) (fun j hj=>hi.2 j (by omega))];rfl
end Go.Proofs.YtikahnkkfkoglaaGreatDoor
end
section
namespace Go.Proofs.YtikahnkkfkoglaaGreatDoor
open Go.Sx Go.RowKit
set_option maxRecDepth 100000
theorem jfw (c:Int):Con Tryz.prog 59 [.int .u8 c] (.bool (decide (48≤c) && decide (c≤57))):=jft c
theorem jsc (c:Int):Con Tryz.prog 57 [.int .u8 c] (.bool (decide (65≤c) && decide (c≤90) || decide (97≤c) && decide (c≤122))):=qwz c
theorem jfx (l:List UInt8) (c:Int) (hl:l.length≤1000):Con Tryz.prog 55 [.str l,.int .u8 c] (.bool (Lx.hasB l c)):=by
 refine zK {} 100 Tryz.func55 (fun c0 rdb=>?_)
 (conv=>whnf);refine qjv (fun _=>rfl) 100 1 (fun k:Nat=>⟨[(0,.str l),(1,.int .u8 c),(5,.int .i64 k)],[],0⟩)
  (fun k=>k≤l.length∧Lx.hasB (l.take k) c=false) (fun k=>l.length - k) 0 ⟨by omega,by simp [Lx.hasB]⟩ subA (fun _=>rfl) (by kernel_rfl) ?_
 rintro k ⟨hk,hf⟩
 repeat' ((conv=>whnf);first|refine Ob.auto ?_|(apply zB <;> intro hb <;> (try simp at hb) <;> try (exfalso;omega)))
 ·have h1:=Lx.hasB_step (by assumption) c
  refine Le.of_eq (congrArg AV.bool ?_)
  rw [hb,beq_self_eq_true,Bool.or_true] at h1
  exact (Lx.hasB_take h1).symm
 ·(conv=>whnf);refine Exists.intro (k+1) ⟨⟨by omega,?_⟩,subA,by omega⟩
  rw [Lx.hasB_step (by assumption) c,hf]
  simpa using hb
 ·rw [List.take_of_length_le (by omega)] at hf
  exact Le.of_eq (by rw [hf])
theorem jsd (c:Int):Con Tryz.prog 58 [.int .u8 c] (.bool (Lx.wordC c)):=jfu c
theorem qsc (s:List UInt8) (i:Nat) (hi:i≤s.length) (hs:s.length≤1000000):Con Tryz.prog 56 [.str s,.int .i64 i] (.str (Lx.twoL (s.drop i))):=by
 refine zK {} 100 Tryz.func56 (fun c0 rdb=>?_)
 repeat' ((conv=>whnf);first|refine Ob.auto ?_|(apply zB <;> intro hb <;> (try simp at hb) <;> try (exfalso;omega)))
 ·refine Le.of_eq (congrArg AV.str ?_)
  rw [Lx.twoL,xd,zb (by omega),show ((i:Int)+2).toNat=i+2 by omega,zz,zbf,zae]
 ·refine Le.of_eq (congrArg AV.str ?_)
  rw [Lx.twoL,xd,za (by omega)]
end Go.Proofs.YtikahnkkfkoglaaGreatDoor
end
