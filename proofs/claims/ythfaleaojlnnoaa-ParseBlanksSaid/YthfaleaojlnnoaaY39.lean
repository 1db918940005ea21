/- Some texts of the library, one behind the other. -/
import Derived.Test.YthfaleaojlnnoaaY36
import Derived.Test.YthfaleaojlnnoaaY3LexQ2
import Derived.Test.YthfaleaojlnnoaaY32
set_option linter.unusedSimpArgs false
set_option linter.unusedVariables false
section
namespace Go.Proofs.Ythfaleaojlnnoaa
open Go Go.Sx Go.RowKit Go.St Pa
set_option maxRecDepth 100000
set_option maxHeartbeats 2000000
section
variable {ts:List Lx.Tok} {p:Ps}
end
set_option maxHeartbeats 4000000
structure Pre (ts:List Lx.Tok) (n:Nat) (p:Ps):Prop where
 at_:AtOk ts p
 deep:0≤p.deep∧p.deep≤p.at_+1
 left:(ts.length:Int) - p.at_≤n
section
variable {ts:List Lx.Tok} {p q:Ps} {n:Nat}
theorem Pre.step (h:Pre ts n p) (k:Step ts p q):Pre ts n q:=
 ⟨k.ok h.at_,by have:=h.deep;have:=k.deep;have:=k.le;omega,by have:=h.left;have:=k.le;omega⟩
end
section
variable {ts:List Lx.Tok} {p q:Ps} {n:Nat}
end
end Go.Proofs.Ythfaleaojlnnoaa
end
section
namespace Go.Proofs.Ythfaleaojlnnoaa
namespace Pa
open Go Go.Sx
section
variable {ts:List Lx.Tok} {p q r:Ps}
theorem Step.err0 (h:Step ts p q) (e:q.err=0):p.err=0:=Classical.byContradiction fun hp=>by
 have:=h.err hp
 subst this
 exact hp e
theorem qmu (h:(bad ts p 11).err=0):False:=by
 unfold bad at h
 split at h
 ·simp at h
 ·rename_i hp;exact hp h
theorem qfw {s:List UInt8} (h:(must ts p s).err=0):sees ts p s=true∧(must ts p s).at_=p.at_+1:=by
 unfold must at h ⊢
 split
 ·exact ⟨by assumption,rfl⟩
 ·rename_i hn
  rw [za hn] at h
  exact (qmu h).elim
theorem qmv (h:(qd ts p).err=0):(qd ts p).at_=p.at_+1:=by
 unfold qd at h ⊢
 split
 ·rfl
 ·rename_i hn
  rw [za hn] at h
  exact (qmu h).elim
theorem qyr (h:(numP ts p).err=0):(numP ts p).at_=p.at_+1:=by
 unfold numP at h ⊢
 split
 ·rfl
 ·rename_i hn
  rw [za hn] at h
  exact (qmu h).elim
abbrev qeh (ts:List Lx.Tok) (f:Ps→Tr × Ps):Prop:=∀ p,AtOk ts p→(f p).2.err=0→p.at_<(f p).2.at_
variable (ht:ToksOk ts)
include ht
theorem jjj {blk:Ps→Tr × Ps} (hb:Runs ts blk) (a i:Int):qeh ts (qbo ts blk a i):=fun p h he=>by
 unfold qbo at he ⊢
 split
 ·rename_i hs
  rw [zb hs] at he
  have h1:=qg ht h hs
  have h2:=jm ht (h1.ok h)
  have h3:=jm ht (h2.ok (h1.ok h))
  have h4:=h2.trans (h3.trans (qe ht (h3.ok (h2.ok (h1.ok h))) qi))
  have:p.at_+1≤_:=h4.le
  simp only;omega
 ·rename_i hs
  rw [za hs] at he
  split
  ·rename_i hw
   have h1:=qg ht h hw
   have h2:=qap ht _ (h1.ok h)
   have h4:=h2.trans (qe ht (h2.ok (h1.ok h)) qi)
   have:p.at_+1≤_:=h4.le
   simp only;omega
  ·rename_i hw
   rw [za hw] at he
   have h1:=qe ht h jf
   have h2:=hb _ (h1.ok h)
   have h3:=h2.trans (qit ht hb ts.length [(blk (must ts p jf)).1] _ (h2.ok (h1.ok h)))
   have h4:=(qfw (h3.err0 he)).2
   have:=h3.le
   simp only at this ⊢;omega
theorem qti (n:Nat):qeh ts (qf ts (n+1)):=fun p h he=>by
 have hb:=qgm ht (qdz ht n)
 have key:∀ x:Tr × Ps,qf ts (n+1) p=x→Step ts p x.2→(∀ q,Step ts p q→p.at_<q.at_→Step ts q x.2→p.at_<x.2.at_):=fun x _ _ q _ h1 h2=>Int.lt_of_lt_of_le h1 h2.le
 unfold qf at he ⊢
 simp only at he ⊢
 split
 ·rename_i hw
  rw [zb hw] at he
  have h1:=qcz ht h qac
  have:=jjj ht hb _ _ _ (h1.ok h) he
  have:=h1.le
  omega
 rename_i hw
 rw [za hw] at he
 split
 ·have h1:=qg ht h (by assumption)
  have h2:=jm ht (h1.ok h)
  have h3:=qap ht _ (h2.ok (h1.ok h))
  have h4:p.at_+1≤_:=(h2.trans (h3.trans (qe ht (h3.ok (h2.ok (h1.ok h))) qi))).le
  simp only;omega
 rename_i hw
 rw [za hw] at he
 split
 ·have h1:=qg ht h (by assumption)
  have h2:=qap ht _ (h1.ok h)
  have h3:=h2.trans (hb _ (h2.ok (h1.ok h)))
  have h4:p.at_+1≤_:=h3.le
  split
  ·have h5:=qg ht (h3.ok (h1.ok h)) (by assumption)
   have h6:=(h5.trans (hb _ (h5.ok (h3.ok (h1.ok h))))).le
   simp only at h6 ⊢;omega
  ·simp only;omega
 rename_i hw
 rw [za hw] at he
 split
 ·have h1:=qg ht h (by assumption)
  have h2:=qap ht _ (h1.ok h)
  have h4:p.at_+1≤_:=(h2.trans (hb _ (h2.ok (h1.ok h)))).le
  simp only;omega
 rename_i hw
 rw [za hw] at he
 split
 ·have h1:=qg ht h (by assumption)
  have h4:p.at_+1≤_:=(hb _ (h1.ok h)).le
  simp only;omega
 rename_i hw
 rw [za hw] at he
 split
 ·have h1:=qg ht h (by assumption)
  have h4:p.at_+1≤_:=(qe ht (h1.ok h) qi).le
  simp only;omega
 rename_i hw
 rw [za hw] at he
 split
 ·have h1:=qg ht h (by assumption)
  have h4:p.at_+1≤_:=(qe ht (h1.ok h) qi).le
  simp only;omega
 rename_i hw
 rw [za hw] at he
 have h1:=jm ht h
 have h2:=qe ht (h1.ok h) sEq
 have h3:=qap ht _ (h2.ok (h1.ok h))
 have h4:=h2.trans (h3.trans (qe ht (h3.ok (h2.ok (h1.ok h))) qi))
 have h5:=qmv (h4.err0 he)
 have h6:=h4.le
 simp only at h6 ⊢;omega
theorem qph:qeh ts (jt ts):=fun p h he=>by
 have h1:=qe ht h kVar
 have h0:=qko ht p h
 unfold jt at he h0 ⊢
 simp only at he h0 ⊢
 have h2:=jm ht (h1.ok h)
 have h3:=h2
 have h4:=h3.trans (qe ht (h3.ok (h1.ok h)) kOf)
 have h5:=h4.trans (qas ht (h4.ok (h1.ok h)))
 have key:∀ q,Step ts (must ts p kVar) q→(must ts q qi).err=0→p.at_<(must ts q qi).at_:=fun q hq hqe=>by
  have h6:=hq.trans (qe ht (hq.ok (h1.ok h)) qi)
  have h7:=(qfw (h6.err0 hqe)).2
  have:=h6.le
  omega
 refine key _ ?_ he
 split
 ·have h6:=h5.trans (qg ht (h5.ok (h1.ok h)) (by assumption))
  split
  ·have h7:=h6.trans (qg ht (h6.ok (h1.ok h)) (by assumption))
   exact h7.trans (qas ht (h7.ok (h1.ok h)))
  ·exact h6.trans (qas ht (h6.ok (h1.ok h)))
 ·exact h5
theorem qys (h:0<ts.length):qeh ts (sF ts):=by
 show qeh ts (qf ts ts.length)
 obtain ⟨m,hm⟩:∃ m,ts.length=m+1:=⟨ts.length - 1,by omega⟩
 rw [hm]
 exact qti ht m
theorem jjk:qeh ts (qbg ts):=fun p h he=>by
 have h0:=qe ht h qn
 unfold qbg at he ⊢
 simp only at he ⊢
 have h1:=h0.ok h
 have h3:=jm ht h1
 have h4:Step ts (must ts p qn) (if sees ts (qd ts (must ts p qn)) qbn=true then (numN ts (adv (qd ts (must ts p qn))),numP ts (adv (qd ts (must ts p qn)))) else (1,qd ts (must ts p qn))).2:=by
  split
  ·have h5:=h3.trans (qg ht (h3.ok h1) (by assumption))
   exact h5.trans (qas ht (h5.ok h1))
  ·exact h3
 have h5:=h4.trans (qe ht (h4.ok h1) sLc)
 have h6:=h5.trans (qgn ht ts.length [] _ (h5.ok h1))
 generalize jn ts ts.length [] _=V at he h6 ⊢
 have h7:=h6.trans (qeu (h6.ok h1) (qeg ht (qhl ht) ts.length V.1 _ (ju (h6.ok h1)).1))
 have h8:=(qfw (h7.err0 he)).2
 have h9:=h7.le
 omega
theorem qtj:qeh ts (qaj ts):=fun p h he=>by
 unfold qaj at he ⊢
 simp only at he ⊢
 split
 ·rename_i hw
  rw [zb hw] at he
  exact qph ht p h he
 rename_i hw
 rw [za hw] at he
 split
 ·rename_i hw
  rw [zb hw] at he
  exact jjk ht p h he
 rename_i hw
 rw [za hw] at he
 split
 ·have h1:=qg ht h (by assumption)
  have h2:=jm ht (h1.ok h)
  have h3:=h2.trans (qe ht (h2.ok (h1.ok h)) sLb)
  have h4:=h3.trans (qas ht (h3.ok (h1.ok h)))
  have h5:=h4.trans (qe ht (h4.ok (h1.ok h)) sRb)
  have h6:=h5.trans (qe ht (h5.ok (h1.ok h)) kOf)
  have h7:=h6.trans (qas ht (h6.ok (h1.ok h)))
  have h8:=h7.trans (qcz ht (h7.ok (h1.ok h)) qfr)
  have h9:=h8.trans (qcz ht (h8.ok (h1.ok h)) qfs)
  have h10:p.at_+1≤_:=(h9.trans (qe ht (h9.ok (h1.ok h)) qi)).le
  simp only;omega
 rename_i hw
 rw [za hw] at he
 split
 ·have h1:=qg ht h (by assumption)
  have h2:=qap ht _ (h1.ok h)
  have h4:p.at_+1≤_:=(h2.trans (qe ht (h2.ok (h1.ok h)) qi)).le
  simp only;omega
 rename_i hw
 rw [za hw] at he
 have h1:=qe ht h qiq
 have h2:=qe ht (h1.ok h) qi
 have h3:=(qfw (h2.err0 he)).2
 have:=h2.le
 simp only at this ⊢;omega
end
end Pa
end Go.Proofs.Ythfaleaojlnnoaa
end
section
namespace Go.Proofs.Ythfaleaojlnnoaa
open Go Go.Sx Go.RowKit Go.St Pa
set_option maxRecDepth 100000
set_option maxHeartbeats 4000000
structure PreW (ts:List Lx.Tok) (n:Nat) (p:Ps):Prop where
 at_:AtOk ts p
 deep:0≤p.deep∧p.deep≤p.at_+2
 ok:p.err=0→p.deep≤p.at_+1
 left:(ts.length:Int) - p.at_≤n
section
variable {ts:List Lx.Tok} {p q:Ps} {n:Nat}
theorem PreW.pre (h:PreW ts n p) (he:p.err=0):Pre ts n p:=⟨h.at_,⟨h.deep.1,h.ok he⟩,h.left⟩
theorem PreW.step (h:PreW ts n p) (k:Step ts p q) (he:p.err=0):PreW ts n q:=
 ⟨k.ok h.at_,by have:=h.deep;have:=k.deep;have:=k.le;omega,fun _=>by have:=h.ok he;have:=k.deep;have:=k.le;omega,by have:=h.left;have:=k.le;omega⟩
end
section
variable {ts:List Lx.Tok} {p q:Ps} {n:Nat}
theorem Pre.full (h:Pre ts n p):Pre ts ts.length p:=⟨h.at_,h.deep,by have:=h.at_.lo;omega⟩
end
set_option maxHeartbeats 8000000
section
variable {ts:List Lx.Tok} {p q:Ps} {n:Nat}
theorem Pre.less (h:Pre ts (n+1) p) (k:Step ts (adv p) q):Pre ts n q:=
 ⟨⟨by have:=h.at_.lo;have:p.at_+1≤q.at_:=k.le;omega,k.hi⟩,by have:=h.deep;have:p.at_+1≤q.at_:=k.le;have:q.deep=p.deep:=k.deep;omega,by have:=h.left;have:p.at_+1≤q.at_:=k.le;omega⟩
end
section
variable {ts:List Lx.Tok} {p q:Ps} {n:Nat}
end
section
variable {ts:List Lx.Tok} {p q:Ps} {n:Nat}
end
end Go.Proofs.Ythfaleaojlnnoaa
end
