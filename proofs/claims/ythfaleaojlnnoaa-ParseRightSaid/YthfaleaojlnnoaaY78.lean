/- Some texts of the library, one behind the other. -/
import Derived.Test.YthfaleaojlnnoaaY7Pa2
import Derived.Test.YthfaleaojlnnoaaY77
import Derived.Test.YthfaleaojlnnoaaY72
set_option linter.unusedSimpArgs false
set_option linter.unusedVariables false
section
namespace Go.Proofs.Ythfaleaojlnnoaa
namespace Pa
open Go Go.Sx
section
variable {ts:List Lx.Tok} {p q r:Ps}
theorem Step.err0 (h:Step ts p q) (e:q.err=0):p.err=0:=Classical.byContradiction fun hp=>by
 have:=h.err hp
 subst this
 exact hp e
theorem qng (h:(bad ts p 11).err=0):False:=by
 unfold bad at h
 split at h
 ·simp at h
 ·rename_i hp;exact hp h
theorem qgc {s:List UInt8} (h:(must ts p s).err=0):sees ts p s=true∧(must ts p s).at_=p.at_+1:=by
 unfold must at h ⊢
 split
 ·exact ⟨by assumption,rfl⟩
 ·rename_i hn
  rw [za hn] at h
  exact (qng h).elim
theorem qnh (h:(qd ts p).err=0):(qd ts p).at_=p.at_+1:=by
 unfold qd at h ⊢
 split
 ·rfl
 ·rename_i hn
  rw [za hn] at h
  exact (qng h).elim
theorem qzl (h:(numP ts p).err=0):(numP ts p).at_=p.at_+1:=by
 unfold numP at h ⊢
 split
 ·rfl
 ·rename_i hn
  rw [za hn] at h
  exact (qng h).elim
abbrev qej (ts:List Lx.Tok) (f:Ps→Tr × Ps):Prop:=∀ p,AtOk ts p→(f p).2.err=0→p.at_<(f p).2.at_
variable (ht:ToksOk ts)
include ht
theorem jka {blk:Ps→Tr × Ps} (hb:Runs ts blk) (a i:Int):qej ts (qce ts blk a i):=fun p h he=>by
 unfold qce at he ⊢
 split
 ·rename_i hs
  rw [zb hs] at he
  have h1:=qh ht h hs
  have h2:=jl ht (h1.ok h)
  have h3:=jl ht (h2.ok (h1.ok h))
  have h4:=h2.trans (h3.trans (qe ht (h3.ok (h2.ok (h1.ok h))) qj))
  have:p.at_+1≤_:=h4.le
  simp only;omega
 ·rename_i hs
  rw [za hs] at he
  split
  ·rename_i hw
   have h1:=qh ht h hw
   have h2:=qas ht _ (h1.ok h)
   have h4:=h2.trans (qe ht (h2.ok (h1.ok h)) qj)
   have:p.at_+1≤_:=h4.le
   simp only;omega
  ·rename_i hw
   rw [za hw] at he
   have h1:=qe ht h ji
   have h2:=hb _ (h1.ok h)
   have h3:=h2.trans (qjc ht hb ts.length [(blk (must ts p ji)).1] _ (h2.ok (h1.ok h)))
   have h4:=(qgc (h3.err0 he)).2
   have:=h3.le
   simp only at this ⊢;omega
theorem qts (n:Nat):qej ts (qf ts (n+1)):=fun p h he=>by
 have hb:=qgq ht (qeb ht n)
 have key:∀ x:Tr × Ps,qf ts (n+1) p=x→Step ts p x.2→(∀ q,Step ts p q→p.at_<q.at_→Step ts q x.2→p.at_<x.2.at_):=fun x _ _ q _ h1 h2=>Int.lt_of_lt_of_le h1 h2.le
 unfold qf at he ⊢
 simp only at he ⊢
 split
 ·rename_i hw
  rw [zb hw] at he
  have h1:=qdb ht h qab
  have:=jka ht hb _ _ _ (h1.ok h) he
  have:=h1.le
  omega
 rename_i hw
 rw [za hw] at he
 split
 ·have h1:=qh ht h (by assumption)
  have h2:=jl ht (h1.ok h)
  have h3:=qas ht _ (h2.ok (h1.ok h))
  have h4:p.at_+1≤_:=(h2.trans (h3.trans (qe ht (h3.ok (h2.ok (h1.ok h))) qj))).le
  simp only;omega
 rename_i hw
 rw [za hw] at he
 split
 ·have h1:=qh ht h (by assumption)
  have h2:=qas ht _ (h1.ok h)
  have h3:=h2.trans (hb _ (h2.ok (h1.ok h)))
  have h4:p.at_+1≤_:=h3.le
  split
  ·have h5:=qh ht (h3.ok (h1.ok h)) (by assumption)
   have h6:=(h5.trans (hb _ (h5.ok (h3.ok (h1.ok h))))).le
   simp only at h6 ⊢;omega
  ·simp only;omega
 rename_i hw
 rw [za hw] at he
 split
 ·have h1:=qh ht h (by assumption)
  have h2:=qas ht _ (h1.ok h)
  have h4:p.at_+1≤_:=(h2.trans (hb _ (h2.ok (h1.ok h)))).le
  simp only;omega
 rename_i hw
 rw [za hw] at he
 split
 ·have h1:=qh ht h (by assumption)
  have h4:p.at_+1≤_:=(hb _ (h1.ok h)).le
  simp only;omega
 rename_i hw
 rw [za hw] at he
 split
 ·have h1:=qh ht h (by assumption)
  have h4:p.at_+1≤_:=(qe ht (h1.ok h) qj).le
  simp only;omega
 rename_i hw
 rw [za hw] at he
 split
 ·have h1:=qh ht h (by assumption)
  have h4:p.at_+1≤_:=(qe ht (h1.ok h) qj).le
  simp only;omega
 rename_i hw
 rw [za hw] at he
 have h1:=jl ht h
 have h2:=qe ht (h1.ok h) sEq
 have h3:=qas ht _ (h2.ok (h1.ok h))
 have h4:=h2.trans (h3.trans (qe ht (h3.ok (h2.ok (h1.ok h))) qj))
 have h5:=qnh (h4.err0 he)
 have h6:=h4.le
 simp only at h6 ⊢;omega
theorem qpq:qej ts (qah ts):=fun p h he=>by
 have h1:=qe ht h kVar
 have h0:=qkw ht p h
 unfold qah at he h0 ⊢
 simp only at he h0 ⊢
 have h2:=jl ht (h1.ok h)
 have h3:=h2
 have h4:=h3.trans (qe ht (h3.ok (h1.ok h)) kOf)
 have h5:=h4.trans (qav ht (h4.ok (h1.ok h)))
 have key:∀ q,Step ts (must ts p kVar) q→(must ts q qj).err=0→p.at_<(must ts q qj).at_:=fun q hq hqe=>by
  have h6:=hq.trans (qe ht (hq.ok (h1.ok h)) qj)
  have h7:=(qgc (h6.err0 hqe)).2
  have:=h6.le
  omega
 refine key _ ?_ he
 split
 ·have h6:=h5.trans (qh ht (h5.ok (h1.ok h)) (by assumption))
  split
  ·have h7:=h6.trans (qh ht (h6.ok (h1.ok h)) (by assumption))
   exact h7.trans (qav ht (h7.ok (h1.ok h)))
  ·exact h6.trans (qav ht (h6.ok (h1.ok h)))
 ·exact h5
theorem qzm (h:0<ts.length):qej ts (sF ts):=by
 show qej ts (qf ts ts.length)
 obtain ⟨m,hm⟩:∃ m,ts.length=m+1:=⟨ts.length - 1,by omega⟩
 rw [hm]
 exact qts ht m
theorem jkb:qej ts (qbu ts):=fun p h he=>by
 have h0:=qe ht h qo
 unfold qbu at he ⊢
 simp only at he ⊢
 have h1:=h0.ok h
 have h3:=jl ht h1
 have h4:Step ts (must ts p qo) (if sees ts (qd ts (must ts p qo)) qbl=true then (numN ts (adv (qd ts (must ts p qo))),numP ts (adv (qd ts (must ts p qo)))) else (1,qd ts (must ts p qo))).2:=by
  split
  ·have h5:=h3.trans (qh ht (h3.ok h1) (by assumption))
   exact h5.trans (qav ht (h5.ok h1))
  ·exact h3
 have h5:=h4.trans (qe ht (h4.ok h1) sLc)
 have h6:=h5.trans (qgr ht ts.length [] _ (h5.ok h1))
 generalize qai ts ts.length [] _=V at he h6 ⊢
 have h7:=h6.trans (qfc (h6.ok h1) (qei ht (qhr ht) ts.length V.1 _ (jt (h6.ok h1)).1))
 have h8:=(qgc (h7.err0 he)).2
 have h9:=h7.le
 omega
theorem qtt:qej ts (qax ts):=fun p h he=>by
 unfold qax at he ⊢
 simp only at he ⊢
 split
 ·rename_i hw
  rw [zb hw] at he
  exact qpq ht p h he
 rename_i hw
 rw [za hw] at he
 split
 ·rename_i hw
  rw [zb hw] at he
  exact jkb ht p h he
 rename_i hw
 rw [za hw] at he
 split
 ·have h1:=qh ht h (by assumption)
  have h2:=jl ht (h1.ok h)
  have h3:=h2.trans (qe ht (h2.ok (h1.ok h)) sLb)
  have h4:=h3.trans (qav ht (h3.ok (h1.ok h)))
  have h5:=h4.trans (qe ht (h4.ok (h1.ok h)) sRb)
  have h6:=h5.trans (qe ht (h5.ok (h1.ok h)) kOf)
  have h7:=h6.trans (qav ht (h6.ok (h1.ok h)))
  have h8:=h7.trans (qdb ht (h7.ok (h1.ok h)) qfy)
  have h9:=h8.trans (qdb ht (h8.ok (h1.ok h)) qfz)
  have h10:p.at_+1≤_:=(h9.trans (qe ht (h9.ok (h1.ok h)) qj)).le
  simp only;omega
 rename_i hw
 rw [za hw] at he
 split
 ·have h1:=qh ht h (by assumption)
  have h2:=qas ht _ (h1.ok h)
  have h4:p.at_+1≤_:=(h2.trans (qe ht (h2.ok (h1.ok h)) qj)).le
  simp only;omega
 rename_i hw
 rw [za hw] at he
 have h1:=qe ht h qiy
 have h2:=qe ht (h1.ok h) qj
 have h3:=(qgc (h2.err0 he)).2
 have:=h2.le
 simp only at this ⊢;omega
end
end Pa
end Go.Proofs.Ythfaleaojlnnoaa
end
section
namespace Go.Proofs.Ythfaleaojlnnoaa
open Go Go.Sx Go.RowKit Go.St Pa
set_option maxRecDepth 100000
set_option maxHeartbeats 4000000
structure PreW (ts:List Lx.Tok) (n:Nat) (p:Ps):Prop where
 at_:AtOk ts p
 deep:0≤p.deep∧p.deep≤p.at_+2
 ok:p.err=0→p.deep≤p.at_+1
 left:(ts.length:Int) - p.at_≤n
section
variable {ts:List Lx.Tok} {p q:Ps} {n:Nat}
theorem PreW.pre (h:PreW ts n p) (he:p.err=0):Pre ts n p:=⟨h.at_,⟨h.deep.1,h.ok he⟩,h.left⟩
theorem PreW.step (h:PreW ts n p) (k:Step ts p q) (he:p.err=0):PreW ts n q:=
 ⟨k.ok h.at_,by have:=h.deep;have:=k.deep;have:=k.le;omega,fun _=>by have:=h.ok he;have:=k.deep;have:=k.le;omega,by have:=h.left;have:=k.le;omega⟩
end
section
variable {ts:List Lx.Tok} {p q:Ps} {n:Nat}
theorem Pre.full (h:Pre ts n p):Pre ts ts.length p:=⟨h.at_,h.deep,by have:=h.at_.lo;omega⟩
end
set_option maxHeartbeats 8000000
section
variable {ts:List Lx.Tok} {p q:Ps} {n:Nat}
theorem Pre.less (h:Pre ts (n+1) p) (k:Step ts (adv p) q):Pre ts n q:=
 ⟨⟨by have:=h.at_.lo;have:p.at_+1≤q.at_:=k.le;omega,k.hi⟩,by have:=h.deep;have:p.at_+1≤q.at_:=k.le;have:q.deep=p.deep:=k.deep;omega,by have:=h.left;have:p.at_+1≤q.at_:=k.le;omega⟩
end
section
variable {ts:List Lx.Tok} {p q:Ps} {n:Nat}
end
section
variable {ts:List Lx.Tok} {p q:Ps} {n:Nat}
end
end Go.Proofs.Ythfaleaojlnnoaa
end
