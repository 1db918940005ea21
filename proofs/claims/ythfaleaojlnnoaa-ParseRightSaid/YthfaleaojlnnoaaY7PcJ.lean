/- Contracts of the program's parser: what is inside brackets, for each closure. -/
import Derived.Test.YthfaleaojlnnoaaY7PcI
import Derived.Test.YthfaleaojlnnoaaY72
set_option linter.unusedSimpArgs false
set_option linter.unusedVariables false
namespace Go.Proofs.Ythfaleaojlnnoaa
open List renaming getD_eq_getElem?_getD → zd
open Go Go.Sx Go.RowKit Go.St Pa
set_option maxRecDepth 100000
set_option maxHeartbeats 4000000
abbrev boxP:SO:=.box 48 [.ptr 0 0]
abbrev boxB (x:AV):SO:=.box 54 [x]
abbrev brO (k:Int) (w ns:AV) (a:Int) (b:AV):SO:=.box 78 [iv k,w,ns,.nils,iv a,b]
abbrev rowB (l:List Tr):SO:=.row [] 54 1 0 l.length (qgv l)
section
variable {ts:List Lx.Tok} {p q r g:Ps} {n:Nat}
theorem jmf (hc:TC ts) (h:PreC ts n p) {s:List UInt8} (hs:kwB s=true) (k a:Int) (l:List Tr)
  (hg:PreC ts n (must ts p s)→(inP ts (must ts p s)).err=0→MTrip Try.prog 111 [.ptr 1 0,.ptr 3 0] [psc ts (inP ts (must ts p s)),boxP,brO k .nils .nils a .nils,boxB (.ptr 2 0)] (g.err == 0) (.tup []) [(0,psc ts g),(1,boxP),(2,brO k .nils .nils a (.own 4 0 0 l.length)),(3,boxB (.ptr 2 0)),(4,rowB l)] 5 (pfl g))
  (he:(inP ts (must ts p s)).err≠0→g.err=(inP ts (must ts p s)).err∧g.fat=(inP ts (must ts p s)).fat) (hd:g.err=0→g.deep=p.deep+1) :
  MTrip Try.prog 82 [.ptr 0 0,.str s,.fn 111 [.ptr 1 0,.ptr 3 0]] [psc ts p,boxP,brO k .nils .nils a .nils,boxB (.ptr 2 0)] (g.err == 0) (.tup []) [(0,psc ts (outP g)),(1,boxP),(2,brO k .nils .nils a (.own 4 0 0 l.length)),(3,boxB (.ptr 2 0)),(4,rowB l)] 5 (pfl g):=by
 have ht:=hc.ok
 have h2:=ht.len
 have h3:=h.deep
 have t1:=qad hc h hs
 have a1:=qqa hc h s
 generalize must ts p s=q at *
 have e0:q.err≠0→g.err=q.err∧g.fat=q.fat:=fun e=>by
  have h4:=(jt (a1.ok h.at_)).2.2.2 e
  have h5:=he (by rw [h4.1];exact e)
  exact ⟨h5.1.trans h4.1,h5.2.trans h4.2⟩
 have hdq:=a1.deep
 refine qcw (T:=tab Try.prog) (C:={}) 600 (fun _=>rfl) Try.func82 rfl (by kernel_rfl) (by kernel_rfl) (fun c0 rdb mpb=>?_)
 (repeat' ((conv=>whnf);first|refine zA ?_|refine zO ?_|refine Ob.auto ?_|refine zD 600 ?_|(apply zB <;> intro hb <;> (try simp [-zd] at hb) <;> try (exfalso;omega))|refine Ob.intro ?_ ?_))
 (((conv=>whnf);refine jr frzA ?_);(conv=>whnf);refine qm (fun _=>rfl) 600 [0] (t1) (by kernel_rfl) (by kernel_rfl) ⟨Le.refl _,jf rfl,trivial⟩ qa (by exact qb rfl) (by exact qb rfl) (by kernel_rfl) (fun hk=>qde e0 hk) (fun hok=>?_))
 have hq:=h.step a1 hok
 (repeat' ((conv=>whnf);first|refine zA ?_|refine zO ?_|refine Ob.auto ?_|(refine Ob.intro (by (exact qv (by omega) (by omega))) ?_)|refine zD 600 ?_|(apply zB <;> intro hb <;> (try simp [-zd] at hb) <;> try (exfalso;omega))|refine Ob.intro ?_ ?_))
 ·have e2:inP ts q={ q with deep:=q.deep+1,err:=12,fat:=(tk ts q).pos }:=by
   unfold inP bad
   rw [zb (by omega),zb hq.err]
   rfl
  have h5:=he (by rw [e2];show (12:Int)≠0;decide)
  rw [e2] at h5
  ((conv=>whnf);exact qgd [0] (qgt (ts:=ts) (p:={ q with deep:=q.deep+1 }) ⟨hq.at_.lo,hq.at_.hi⟩ 12) rfl (⟨by rw [h5.1];rfl,by rw [pfl,h5.1,h5.2];rfl⟩) (by kernel_rfl) (by kernel_rfl) leA qa (by exact qb rfl))
 ·have e2:inP ts q={ q with deep:=q.deep+1 }:=za (by omega)
  have t2:=hg hq (by rw [e2];exact hq.err)
  rw [e2] at t2
  ((conv=>whnf);refine qm (fun _=>rfl) 600 [0,1,2,3] (t2) (by kernel_rfl) (by kernel_rfl) leA qa (by exact qb rfl) (by exact qb rfl) (by kernel_rfl) (fun hk=>⟨hk,rfl⟩) (fun hok=>?_))
  have hd':=hd (by simpa using hok)
  (repeat' ((conv=>whnf);first|refine zA ?_|refine zO ?_|refine Ob.auto ?_|(refine Ob.intro (by (exact qv (by omega) (by omega))) ?_)|refine zD 600 ?_|(apply zB <;> intro hb <;> (try simp [-zd] at hb) <;> try (exfalso;omega))|refine Ob.intro ?_ ?_))
  exact ⟨hok,Le.refl _,qa⟩
theorem jan (hc:TC ts) (h:PreC ts n p) {s:List UInt8} (hs:kwB s=true) (k a:Int) (w:List (List UInt8)) (ns:List Int) (l:List Tr)
  (hg:PreC ts n (must ts p s)→(inP ts (must ts p s)).err=0→MTrip Try.prog 83 [.ptr 1 0,.ptr 3 0] [psc ts (inP ts (must ts p s)),boxP,brO k (strs w) (ints ns) a .nils,boxB (.ptr 2 0)] (g.err == 0) (.tup []) [(0,psc ts g),(1,boxP),(2,brO k (strs w) (ints ns) a (.own 4 0 0 l.length)),(3,boxB (.ptr 2 0)),(4,rowB l)] 5 (pfl g))
  (he:(inP ts (must ts p s)).err≠0→g.err=(inP ts (must ts p s)).err∧g.fat=(inP ts (must ts p s)).fat) (hd:g.err=0→g.deep=p.deep+1) :
  MTrip Try.prog 82 [.ptr 0 0,.str s,.fn 83 [.ptr 1 0,.ptr 3 0]] [psc ts p,boxP,brO k (strs w) (ints ns) a .nils,boxB (.ptr 2 0)] (g.err == 0) (.tup []) [(0,psc ts (outP g)),(1,boxP),(2,brO k (strs w) (ints ns) a (.own 4 0 0 l.length)),(3,boxB (.ptr 2 0)),(4,rowB l)] 5 (pfl g):=by
 have ht:=hc.ok
 have h2:=ht.len
 have h3:=h.deep
 have t1:=qad hc h hs
 have a1:=qqa hc h s
 generalize must ts p s=q at *
 have e0:q.err≠0→g.err=q.err∧g.fat=q.fat:=fun e=>by
  have h4:=(jt (a1.ok h.at_)).2.2.2 e
  have h5:=he (by rw [h4.1];exact e)
  exact ⟨h5.1.trans h4.1,h5.2.trans h4.2⟩
 have hdq:=a1.deep
 refine qcw (T:=tab Try.prog) (C:={}) 600 (fun _=>rfl) Try.func82 rfl (by kernel_rfl) (by kernel_rfl) (fun c0 rdb mpb=>?_)
 (repeat' ((conv=>whnf);first|refine zA ?_|refine zO ?_|refine Ob.auto ?_|refine zD 600 ?_|(apply zB <;> intro hb <;> (try simp [-zd] at hb) <;> try (exfalso;omega))|refine Ob.intro ?_ ?_))
 (((conv=>whnf);refine jr frzA ?_);(conv=>whnf);refine qm (fun _=>rfl) 600 [0] (t1) (by kernel_rfl) (by kernel_rfl) ⟨Le.refl _,jf rfl,trivial⟩ qa (by exact qb rfl) (by exact qb rfl) (by kernel_rfl) (fun hk=>qde e0 hk) (fun hok=>?_))
 have hq:=h.step a1 hok
 (repeat' ((conv=>whnf);first|refine zA ?_|refine zO ?_|refine Ob.auto ?_|(refine Ob.intro (by (exact qv (by omega) (by omega))) ?_)|refine zD 600 ?_|(apply zB <;> intro hb <;> (try simp [-zd] at hb) <;> try (exfalso;omega))|refine Ob.intro ?_ ?_))
 ·have e2:inP ts q={ q with deep:=q.deep+1,err:=12,fat:=(tk ts q).pos }:=by
   unfold inP bad
   rw [zb (by omega),zb hq.err]
   rfl
  have h5:=he (by rw [e2];show (12:Int)≠0;decide)
  rw [e2] at h5
  ((conv=>whnf);exact qgd [0] (qgt (ts:=ts) (p:={ q with deep:=q.deep+1 }) ⟨hq.at_.lo,hq.at_.hi⟩ 12) rfl (⟨by rw [h5.1];rfl,by rw [pfl,h5.1,h5.2];rfl⟩) (by kernel_rfl) (by kernel_rfl) leA qa (by exact qb rfl))
 ·have e2:inP ts q={ q with deep:=q.deep+1 }:=za (by omega)
  have t2:=hg hq (by rw [e2];exact hq.err)
  rw [e2] at t2
  ((conv=>whnf);refine qm (fun _=>rfl) 600 [0,1,2,3] (t2) (by kernel_rfl) (by kernel_rfl) leA qa (by exact qb rfl) (by exact qb rfl) (by kernel_rfl) (fun hk=>⟨hk,rfl⟩) (fun hok=>?_))
  have hd':=hd (by simpa using hok)
  (repeat' ((conv=>whnf);first|refine zA ?_|refine zO ?_|refine Ob.auto ?_|(refine Ob.intro (by (exact qv (by omega) (by omega))) ?_)|refine zD 600 ?_|(apply zB <;> intro hb <;> (try simp [-zd] at hb) <;> try (exfalso;omega))|refine Ob.intro ?_ ?_))
  exact ⟨hok,Le.refl _,qa⟩
theorem jao (hc:TC ts) (h:PreC ts n p) {s:List UInt8} (hs:kwB s=true) (k a:Int) (l:List Tr)
  (hg:PreC ts n (must ts p s)→(inP ts (must ts p s)).err=0→MTrip Try.prog 100 [.ptr 3 0,.ptr 1 0] [psc ts (inP ts (must ts p s)),boxP,brO k .nils .nils a .nils,boxB (.ptr 2 0)] (g.err == 0) (.tup []) [(0,psc ts g),(1,boxP),(2,brO k .nils .nils a (.own 4 0 0 l.length)),(3,boxB (.ptr 2 0)),(4,rowB l)] 5 (pfl g))
  (he:(inP ts (must ts p s)).err≠0→g.err=(inP ts (must ts p s)).err∧g.fat=(inP ts (must ts p s)).fat) (hd:g.err=0→g.deep=p.deep+1) :
  MTrip Try.prog 82 [.ptr 0 0,.str s,.fn 100 [.ptr 3 0,.ptr 1 0]] [psc ts p,boxP,brO k .nils .nils a .nils,boxB (.ptr 2 0)] (g.err == 0) (.tup []) [(0,psc ts (outP g)),(1,boxP),(2,brO k .nils .nils a (.own 4 0 0 l.length)),(3,boxB (.ptr 2 0)),(4,rowB l)] 5 (pfl g):=by
 have ht:=hc.ok
 have h2:=ht.len
 have h3:=h.deep
 have t1:=qad hc h hs
 have a1:=qqa hc h s
 generalize must ts p s=q at *
 have e0:q.err≠0→g.err=q.err∧g.fat=q.fat:=fun e=>by
  have h4:=(jt (a1.ok h.at_)).2.2.2 e
  have h5:=he (by rw [h4.1];exact e)
  exact ⟨h5.1.trans h4.1,h5.2.trans h4.2⟩
 have hdq:=a1.deep
 refine qcw (T:=tab Try.prog) (C:={}) 600 (fun _=>rfl) Try.func82 rfl (by kernel_rfl) (by kernel_rfl) (fun c0 rdb mpb=>?_)
 (repeat' ((conv=>whnf);first|refine zA ?_|refine zO ?_|refine Ob.auto ?_|refine zD 600 ?_|(apply zB <;> intro hb <;> (try simp [-zd] at hb) <;> try (exfalso;omega))|refine Ob.intro ?_ ?_))
 (((conv=>whnf);refine jr frzA ?_);(conv=>whnf);refine qm (fun _=>rfl) 600 [0] (t1) (by kernel_rfl) (by kernel_rfl) ⟨Le.refl _,jf rfl,trivial⟩ qa (by exact qb rfl) (by exact qb rfl) (by kernel_rfl) (fun hk=>qde e0 hk) (fun hok=>?_))
 have hq:=h.step a1 hok
 (repeat' ((conv=>whnf);first|refine zA ?_|refine zO ?_|refine Ob.auto ?_|(refine Ob.intro (by (exact qv (by omega) (by omega))) ?_)|refine zD 600 ?_|(apply zB <;> intro hb <;> (try simp [-zd] at hb) <;> try (exfalso;omega))|refine Ob.intro ?_ ?_))
 ·have e2:inP ts q={ q with deep:=q.deep+1,err:=12,fat:=(tk ts q).pos }:=by
   unfold inP bad
   rw [zb (by omega),zb hq.err]
   rfl
  have h5:=he (by rw [e2];show (12:Int)≠0;decide)
  rw [e2] at h5
  ((conv=>whnf);exact qgd [0] (qgt (ts:=ts) (p:={ q with deep:=q.deep+1 }) ⟨hq.at_.lo,hq.at_.hi⟩ 12) rfl (⟨by rw [h5.1];rfl,by rw [pfl,h5.1,h5.2];rfl⟩) (by kernel_rfl) (by kernel_rfl) leA qa (by exact qb rfl))
 ·have e2:inP ts q={ q with deep:=q.deep+1 }:=za (by omega)
  have t2:=hg hq (by rw [e2];exact hq.err)
  rw [e2] at t2
  ((conv=>whnf);refine qm (fun _=>rfl) 600 [0,1,2,3] (t2) (by kernel_rfl) (by kernel_rfl) leA qa (by exact qb rfl) (by exact qb rfl) (by kernel_rfl) (fun hk=>⟨hk,rfl⟩) (fun hok=>?_))
  have hd':=hd (by simpa using hok)
  (repeat' ((conv=>whnf);first|refine zA ?_|refine zO ?_|refine Ob.auto ?_|(refine Ob.intro (by (exact qv (by omega) (by omega))) ?_)|refine zD 600 ?_|(apply zB <;> intro hb <;> (try simp [-zd] at hb) <;> try (exfalso;omega))|refine Ob.intro ?_ ?_))
  exact ⟨hok,Le.refl _,qa⟩
theorem jmg (hc:TC ts) (h:PreC ts n p) {s:List UInt8} (hs:kwB s=true) (k a:Int) (t:Tr)
  (hg:PreC ts n (must ts p s)→(inP ts (must ts p s)).err=0→MTrip Try.prog 101 [.ptr 1 0,.ptr 3 0] [psc ts (inP ts (must ts p s)),boxP,brO k .nils .nils a .nils,boxB (.ptr 2 0)] (g.err == 0) (.tup []) [(0,psc ts g),(1,boxP),(3,boxB t.pv)] 4 (pfl g))
  (he:(inP ts (must ts p s)).err≠0→g.err=(inP ts (must ts p s)).err∧g.fat=(inP ts (must ts p s)).fat) (hd:g.err=0→g.deep=p.deep+1) :
  MTrip Try.prog 82 [.ptr 0 0,.str s,.fn 101 [.ptr 1 0,.ptr 3 0]] [psc ts p,boxP,brO k .nils .nils a .nils,boxB (.ptr 2 0)] (g.err == 0) (.tup []) [(0,psc ts (outP g)),(1,boxP),(3,boxB t.pv)] 4 (pfl g):=by
 have ht:=hc.ok
 have h2:=ht.len
 have h3:=h.deep
 have t1:=qad hc h hs
 have a1:=qqa hc h s
 generalize must ts p s=q at *
 have e0:q.err≠0→g.err=q.err∧g.fat=q.fat:=fun e=>by
  have h4:=(jt (a1.ok h.at_)).2.2.2 e
  have h5:=he (by rw [h4.1];exact e)
  exact ⟨h5.1.trans h4.1,h5.2.trans h4.2⟩
 have hdq:=a1.deep
 refine qcw (T:=tab Try.prog) (C:={}) 600 (fun _=>rfl) Try.func82 rfl (by kernel_rfl) (by kernel_rfl) (fun c0 rdb mpb=>?_)
 (repeat' ((conv=>whnf);first|refine zA ?_|refine zO ?_|refine Ob.auto ?_|refine zD 600 ?_|(apply zB <;> intro hb <;> (try simp [-zd] at hb) <;> try (exfalso;omega))|refine Ob.intro ?_ ?_))
 (((conv=>whnf);refine jr frzA ?_);(conv=>whnf);refine qm (fun _=>rfl) 600 [0] (t1) (by kernel_rfl) (by kernel_rfl) ⟨Le.refl _,jf rfl,trivial⟩ qa (by exact qb rfl) (by exact qb rfl) (by kernel_rfl) (fun hk=>qde e0 hk) (fun hok=>?_))
 have hq:=h.step a1 hok
 (repeat' ((conv=>whnf);first|refine zA ?_|refine zO ?_|refine Ob.auto ?_|(refine Ob.intro (by (exact qv (by omega) (by omega))) ?_)|refine zD 600 ?_|(apply zB <;> intro hb <;> (try simp [-zd] at hb) <;> try (exfalso;omega))|refine Ob.intro ?_ ?_))
 ·have e2:inP ts q={ q with deep:=q.deep+1,err:=12,fat:=(tk ts q).pos }:=by
   unfold inP bad
   rw [zb (by omega),zb hq.err]
   rfl
  have h5:=he (by rw [e2];show (12:Int)≠0;decide)
  rw [e2] at h5
  ((conv=>whnf);exact qgd [0] (qgt (ts:=ts) (p:={ q with deep:=q.deep+1 }) ⟨hq.at_.lo,hq.at_.hi⟩ 12) rfl (⟨by rw [h5.1];rfl,by rw [pfl,h5.1,h5.2];rfl⟩) (by kernel_rfl) (by kernel_rfl) leA qa (by exact qb rfl))
 ·have e2:inP ts q={ q with deep:=q.deep+1 }:=za (by omega)
  have t2:=hg hq (by rw [e2];exact hq.err)
  rw [e2] at t2
  ((conv=>whnf);refine qm (fun _=>rfl) 600 [0,1,2,3] (t2) (by kernel_rfl) (by kernel_rfl) leA qa (by exact qb rfl) (by exact qb rfl) (by kernel_rfl) (fun hk=>⟨hk,rfl⟩) (fun hok=>?_))
  have hd':=hd (by simpa using hok)
  (repeat' ((conv=>whnf);first|refine zA ?_|refine zO ?_|refine Ob.auto ?_|(refine Ob.intro (by (exact qv (by omega) (by omega))) ?_)|refine zD 600 ?_|(apply zB <;> intro hb <;> (try simp [-zd] at hb) <;> try (exfalso;omega))|refine Ob.intro ?_ ?_))
  exact ⟨hok,Le.refl _,qa⟩
theorem jmh (hc:TC ts) {stat:Ps→Tr × Ps} (hr:Runs ts stat) (hg:qej ts stat) (hs:∀ q,PreC ts n q→RdM ts 99 stat q) (h:PreC ts n p) (k a:Int) :
  MTrip Try.prog 111 [.ptr 1 0,.ptr 3 0] [psc ts p,boxP,brO k .nils .nils a .nils,boxB (.ptr 2 0)] ((jb ts stat ts.length [] p).2.err == 0) (.tup [])
   [(0,psc ts (jb ts stat ts.length [] p).2),(1,boxP),(2,brO k .nils .nils a (.own 4 0 0 (jb ts stat ts.length [] p).1.length)),(3,boxB (.ptr 2 0)),(4,rowB (jb ts stat ts.length [] p).1)] 5 (pfl (jb ts stat ts.length [] p).2):=by
 have t1:=jmd hc hr hg hs h k a
 generalize jb ts stat ts.length [] p=G at *
 refine qcw (T:=tab Try.prog) (C:={}) 600 (fun _=>rfl) Try.func111 rfl (by kernel_rfl) (by kernel_rfl) (fun c0 rdb mpb=>?_)
 (repeat' ((conv=>whnf);first|refine zA ?_|refine zO ?_|refine Ob.auto ?_|refine zD 600 ?_|(apply zB <;> intro hb <;> (try simp [-zd] at hb) <;> try (exfalso;omega))|refine Ob.intro ?_ ?_))
 ((conv=>whnf);refine qm (fun _=>rfl) 600 [0,2] (t1) (by kernel_rfl) (by kernel_rfl) leA qa (by exact qb rfl) (by exact qb rfl) (by kernel_rfl) (fun hk=>⟨hk,rfl⟩) (fun hok=>?_))
 (repeat' ((conv=>whnf);first|refine zA ?_|refine zO ?_|refine Ob.auto ?_|refine zD 600 ?_|(apply zB <;> intro hb <;> (try simp [-zd] at hb) <;> try (exfalso;omega))|refine Ob.intro ?_ ?_))
 exact ⟨hok,Le.refl _,qa⟩
theorem jmi {stat:Ps→Tr × Ps} (hq:(inP ts q).err≠0) (m:Nat) (l:List Tr):(jb ts stat m l (inP ts q)).2=inP ts q:=by
 cases m with
 | zero=>rfl
 | succ m=>rw [jb,za hq]
theorem PreC.inn (h:PreC ts n q) (he:(inP ts q).err=0):PreC ts n (inP ts q):=by
 obtain ⟨h1,h2,h3,h4⟩:=jt h.at_
 have h5:=h.deep
 have h6:=h.left
 refine ⟨h1,he,?_,by omega⟩
 have h7:¬ 200<q.deep+1:=fun hlt=>by
  have e2:inP ts q={ q with deep:=q.deep+1,err:=12,fat:=(tk ts q).pos }:=by
   unfold inP bad
   rw [zb hlt,zb h.err]
   rfl
  rw [e2] at he
  exact absurd he (show (12:Int)≠0 by decide)
 omega
theorem jmj (hc:TC ts) {stat:Ps→Tr × Ps} (hr:Runs ts stat) (hg:qej ts stat) (hs:∀ q,PreC ts n q→RdM ts 99 stat q) (h:PreC ts n p):RdM ts 107 (qw ts stat) p:=by
 have ht:=hc.ok
 have h2:=ht.len
 have hst:=qe ht h.at_ sLc
 have hso:=qei ht hr ts.length [] _ (jt (hst.ok h.at_)).1
 have t1:=jmf (g:=(jb ts stat ts.length [] (inP ts (must ts p sLc))).2) hc h (s:=sLc) (by decide +kernel) 16 (tk ts p).pos (jb ts stat ts.length [] (inP ts (must ts p sLc))).1
  (fun hq he=>jmh hc hr hg hs (hq.inn he) 16 (tk ts p).pos) (fun he=>by rw [jmi he];exact ⟨rfl,rfl⟩)
  (fun _=>by have:=hso.deep;have:=(jt (hst.ok h.at_)).2.2.1;have:=hst.deep;omega)
 rw [RdM,qw]
 dsimp only
 generalize jb ts stat ts.length [] (inP ts (must ts p sLc))=G at *
 refine qat (T:=tab Try.prog) (C:={}) 600 (fun _=>rfl) Try.func107 rfl (by kernel_rfl) (by kernel_rfl) (fun c0 rdb mpb=>?_)
 (repeat' ((conv=>whnf);first|refine zA ?_|refine zO ?_|refine Ob.auto ?_|refine zD 600 ?_|(apply zB <;> intro hb <;> (try simp [-zd] at hb) <;> try (exfalso;omega))|refine Ob.intro ?_ ?_))
 ((conv=>whnf);refine zT 600 [0] (qbc h.at_ 16) qa ?_)
 (repeat' ((conv=>whnf);first|refine zA ?_|refine zO ?_|refine Ob.auto ?_|refine zD 600 ?_|(apply zB <;> intro hb <;> (try simp [-zd] at hb) <;> try (exfalso;omega))|refine Ob.intro ?_ ?_))
 ((conv=>whnf);refine qm (fun _=>rfl) 600 [0,1,2,3] (t1) (by kernel_rfl) (by kernel_rfl) leA qa (by exact qb rfl) (by exact qb rfl) (by kernel_rfl) (fun hk=>⟨hk,rfl⟩) (fun hok=>?_))
 (repeat' ((conv=>whnf);first|refine zA ?_|refine zO ?_|refine Ob.auto ?_|refine zD 600 ?_|(apply zB <;> intro hb <;> (try simp [-zd] at hb) <;> try (exfalso;omega))|refine Ob.intro ?_ ?_))
 exact ⟨hok,Le.rptrL ⟨Le.refl _,Le.nils _ _,Le.nils _ _,Le.refl _,Le.refl _,Le.refl _,trivial⟩,qa⟩
end
end Go.Proofs.Ythfaleaojlnnoaa
