/- Contracts of the program's parser: a statement. -/
import Derived.Test.YthfaleaojlnnoaaY7PcX
import Derived.Test.YthfaleaojlnnoaaY72
set_option linter.unusedSimpArgs false
set_option linter.unusedVariables false
namespace Go.Proofs.Ythfaleaojlnnoaa
open List renaming getD_eq_getElem?_getD → zd
open Go Go.Sx Go.RowKit Go.St Pa
set_option maxRecDepth 100000
set_option maxHeartbeats 16000000
section
variable {ts:List Lx.Tok} {p q r g:Ps} {n:Nat}
theorem qjh (hc:TC ts) (q:Ps) (h:PreC ts ts.length q):RdE ts q:=jas hc (qdl hc.ok _) (jmn hc _) q h
theorem PreC.less (h:PreC ts (n+1) p) (k:Step ts (adv p) q) (he:(q.err == 0)=true):PreC ts n q:=
 ⟨⟨by have:=h.at_.lo;have:p.at_+1≤q.at_:=k.le;omega,k.hi⟩,by simpa using he,by have:=h.deep;have:q.deep=p.deep:=k.deep;omega,by have:=h.left;have:p.at_+1≤q.at_:=k.le;omega⟩
theorem jmo (hk:TokK ts) (h:AtOk ts p) (he:p.err=0) {s:List UInt8} (hs:kwB s=true) (hks:keyF s=true) (hn:keyF (tk ts p).s=false):sees ts p s=false:=by
 rw [qcx hk h he hs,beq_eq_false_iff_ne]
 intro e
 rw [e,hks] at hn
 cases hn
def qgf (ts:List Lx.Tok) (p:Ps):Ps:=if sees ts p jy=true∨sees ts p qac=true∨sees ts p ji=true then adv p else bad ts p 11
theorem qqd {f:Nat→List AV} {u v w:List UInt8} (h:f 0=[.str u]) (h':f 1=[.str v]) (h'':f 2=[.str w]):Le (.slc 1 3 f) (strs [u,v,w]):=Le.slc rfl (fun i hi=>by
 match i,hi with
 | 0,_=>exact h
 | 1,_=>exact h'
 | 2,_=>exact h'')
theorem jmp (hc:TC ts) (h:PreC ts n p):MTrip Try.prog 61 [.ptr 0 0,strs [jy,qac,ji]] [psc ts p] ((qgf ts p).err == 0) (.tup []) [(0,psc ts (qgf ts p))] 1 (pfl (qgf ts p)):=by
 have h0:=h.at_.lo
 have h1:=h.at_.hi
 have h2:=hc.ok.len
 have h3:=jaj h.at_ [jy,qac,ji] (show 3≤1000000 by decide)
 have key:∀ s,kwB s=true→sees ts p s=((tk ts p).s == s):=fun s hs=>qcx hc.kind h.at_ h.err hs
 have e:([jy,qac,ji].any fun x=>(tk ts p).s == x)=(sees ts p jy || (sees ts p qac || sees ts p ji)):=by
  rw [key jy (by decide +kernel),key qac (by decide +kernel),key ji (by decide +kernel)]
  simp
 rw [e] at h3
 refine qcw (T:=tab Try.prog) (C:={}) 300 (fun _=>rfl) Try.func61 rfl (by kernel_rfl) (by kernel_rfl) (fun c0 rdb mpb=>?_)
 (repeat' ((conv=>whnf);first|refine zA ?_|refine zO ?_|refine Ob.auto ?_|(refine Ob.intro (by (exact qv (by omega) (by omega))) ?_)|refine zC 300 (h3) ?_|refine zG 300 (fun hg=>h3) ?_|(refine CallY.con (h3) (by rfl) leA ?_)|(refine CallZ.con (fun hg=>h3) qn (by rfl) ?_)|(refine ql (fun _=>rfl) 300 (h3) qc (by (repeat' (first|exact trivial|exact Le.refl _|(refine And.intro ?_ ?_))) <;> fail) (by rfl) (by kernel_rfl) ?_)|(refine qp (fun _=>rfl) 300 (fun hg=>h3) (fun hg=>qc) (fun hg=>(by (repeat' (first|exact trivial|exact Le.refl _|exact Le.cnd hg|(refine And.intro ?_ ?_))) <;> fail)) (by rfl) (by kernel_rfl) ?_)|refine zD 300 ?_|(apply zB <;> intro hb <;> (try simp [-zd] at hb) <;> try (exfalso;omega))|refine Ob.intro ?_ ?_))
 ·have e1:qgf ts p={ p with err:=11,fat:=(tk ts p).pos }:=by
   unfold qgf bad
   rw [za (by simp_all),zb h.err]
  rw [e1]
  ((conv=>whnf);exact qgd [0] (qgt h.at_ 11) rfl (⟨rfl,rfl⟩) (by kernel_rfl) (by kernel_rfl) leA qa (by exact qb rfl))
 ·have e1:qgf ts p=adv p:=zb (by
   cases h5:sees ts p jy
   ·cases h6:sees ts p qac
    ·exact .inr (.inr (by simp_all))
    ·exact .inr (.inl rfl)
   ·exact .inl rfl)
  rw [e1,qbw h.err]
  exact ⟨rfl,Le.refl _,qa⟩
theorem PreC.s (h:PreC ts n p) {s:List UInt8} (hs:sees ts p s=true) (ht:ToksOk ts):PreC ts n (adv p):=h.step (qh ht h.at_ hs) (qbw h.err)
theorem jmq (hc:TC ts) (h:PreC ts (n+1) p) (hn:keyF (tk ts p).s=false):RdM ts 99 (qf ts (n+1)) p:=by
 have ht:=hc.ok
 have h2:=ht.len
 have no:∀ s,kwB s=true→keyF s=true→¬ (sees ts p s=true):=fun s h1 h3=>by rw [jmo hc.kind h.at_ h.err h1 h3 hn];decide
 have e2:qf ts (n+1) p=(.mk 6 [jn ts p] [] (tk ts p).pos [(eF ts (must ts (qd ts p) sEq)).1],must ts (eF ts (must ts (qd ts p) sEq)).2 qj):=by
  unfold qf
  simp only
  rw [za (by rintro (h|h|h|h) <;> exact no _ (by decide +kernel) (by decide +kernel) h)]
  rw [za (no _ (by decide +kernel) (by decide +kernel)),za (no _ (by decide +kernel) (by decide +kernel)),za (no _ (by decide +kernel) (by decide +kernel)),za (no _ (by decide +kernel) (by decide +kernel)),za (no _ (by decide +kernel) (by decide +kernel)),za (no _ (by decide +kernel) (by decide +kernel))]
 rw [RdM,e2]
 dsimp only
 have t1:=qek hc h
 have a1:=jl ht h.at_
 generalize qd ts p=p1 at *
 have A1:=a1.ok h.at_
 have t2:=fun h':PreC ts (n+1) p1=>qad hc h' (s:=sEq) (by decide +kernel)
 have a2:=qe ht A1 sEq
 generalize must ts p1 sEq=p2 at *
 have A2:=a2.ok A1
 have t3:=fun h':PreC ts (n+1) p2=>qjh hc p2 h'.full
 have a3:=qas ht p2 A2
 unfold RdE at t3
 generalize eF ts p2=y at *
 have A3:=a3.ok A2
 have t4:=fun h':PreC ts (n+1) y.2=>qad hc h' (s:=qj) (by decide +kernel)
 have a4:=qe ht A3 qj
 generalize must ts y.2 qj=z at *
 have hkc:=qdu (tk ts p).s
 rw [hn] at hkc
 refine qat (T:=tab Try.prog) (C:={}) 600 (fun _=>rfl) Try.func99 rfl (by kernel_rfl) (by kernel_rfl) (fun c0 rdb mpb=>?_)
 (repeat' ((conv=>whnf);first|refine zA ?_|refine zO ?_|refine Ob.auto ?_|refine zD 600 ?_|(apply zB <;> intro hb <;> (try simp [-zd] at hb) <;> try (exfalso;omega))|refine Ob.intro ?_ ?_))
 ((conv=>whnf);refine zT 600 [0] (qbc h.at_ 6) qa ?_)
 (repeat' ((conv=>whnf);first|refine zA ?_|refine zO ?_|refine Ob.auto ?_|refine zC 600 (qr h.at_) ?_|refine zG 600 (fun hg=>qr h.at_) ?_|(refine CallY.con (qr h.at_) (by rfl) leA ?_)|(refine CallZ.con (fun hg=>qr h.at_) qn (by rfl) ?_)|refine zC 600 (hkc) ?_|refine zG 600 (fun hg=>hkc) ?_|(refine CallY.con (hkc) (by rfl) leA ?_)|(refine CallZ.con (fun hg=>hkc) qn (by rfl) ?_)|(refine ql (fun _=>rfl) 600 (qr h.at_) qc (by (repeat' (first|exact trivial|exact Le.refl _|(refine And.intro ?_ ?_))) <;> fail) (by rfl) (by kernel_rfl) ?_)|(refine qp (fun _=>rfl) 600 (fun hg=>qr h.at_) (fun hg=>qc) (fun hg=>(by (repeat' (first|exact trivial|exact Le.refl _|exact Le.cnd hg|(refine And.intro ?_ ?_))) <;> fail)) (by rfl) (by kernel_rfl) ?_)|(refine ql (fun _=>rfl) 600 (hkc) qc (by (repeat' (first|exact trivial|exact Le.refl _|(refine And.intro ?_ ?_))) <;> fail) (by rfl) (by kernel_rfl) ?_)|(refine qp (fun _=>rfl) 600 (fun hg=>hkc) (fun hg=>qc) (fun hg=>(by (repeat' (first|exact trivial|exact Le.refl _|exact Le.cnd hg|(refine And.intro ?_ ?_))) <;> fail)) (by rfl) (by kernel_rfl) ?_)|refine zD 600 ?_|(apply zB <;> intro hb <;> (try simp [-zd] at hb) <;> try (exfalso;omega))|refine Ob.intro ?_ ?_))
 ((conv=>whnf);refine qm (fun _=>rfl) 600 [0] (t1) (by kernel_rfl) (by kernel_rfl) leA qa (by exact qb rfl) (by exact qb rfl) (by kernel_rfl) (fun hk=>js (a2.trans (a3.trans a4)) hk) (fun hok=>?_))
 have h1:=h.step a1 hok
 (repeat' ((conv=>whnf);first|refine zA ?_|refine zO ?_|refine Ob.auto ?_|refine zD 600 ?_|(apply zB <;> intro hb <;> (try simp [-zd] at hb) <;> try (exfalso;omega))|refine Ob.intro ?_ ?_))
 (((conv=>whnf);refine jr frzA ?_);(conv=>whnf);refine qm (fun _=>rfl) 600 [0] (t2 h1) (by kernel_rfl) (by kernel_rfl) ⟨Le.refl _,jf rfl,trivial⟩ qa (by exact qb rfl) (by exact qb rfl) (by kernel_rfl) (fun hk=>js (a3.trans a4) hk) (fun hok=>?_))
 have h3:=h1.step a2 hok
 (repeat' ((conv=>whnf);first|refine zA ?_|refine zO ?_|refine Ob.auto ?_|refine zD 600 ?_|(apply zB <;> intro hb <;> (try simp [-zd] at hb) <;> try (exfalso;omega))|refine Ob.intro ?_ ?_))
 have t3':=t3 h3
 cases hk:(y.2.err == 0) with
 | false=>
  (repeat' ((conv=>whnf);first|refine zA ?_|refine zO ?_|refine Ob.auto ?_|refine zI ?_|refine zD 600 ?_|(refine qi (fun _=>rfl) (by kernel_rfl) 600 ?_)|(apply zB <;> intro hb <;> (try simp [-zd] at hb) <;> try (exfalso;omega))|refine Ob.intro ?_ ?_))
  ((conv=>whnf);refine CallY.mpan 99 [0] (t3') hk (js a4 hk) (by kernel_rfl) (by kernel_rfl) leA qa (by exact qb rfl) ?_)
  (repeat' ((conv=>whnf);first|refine zO ?_|refine Ob.auto ?_|refine zI ?_|refine zD 600 ?_|(refine qi (fun _=>rfl) (by kernel_rfl) 600 ?_)|(apply zB <;> intro hb <;> (try simp [-zd] at hb) <;> try (exfalso;omega))|refine Ob.intro ?_ ?_))
  ((conv=>whnf);refine AltG.far 11 [1] (by kernel_rfl) farA (EndG.dead 99 (by rfl)))
 | true=>
  (repeat' ((conv=>whnf);first|refine zA ?_|refine zO ?_|refine Ob.auto ?_|refine zI ?_|refine zD 600 ?_|(refine qi (fun _=>rfl) (by kernel_rfl) 600 ?_)|(apply zB <;> intro hb <;> (try simp [-zd] at hb) <;> try (exfalso;omega))|refine Ob.intro ?_ ?_))
  ((conv=>whnf);refine CallY.trip [0] (t3'.trip hk) (by kernel_rfl) leA qa (by exact qb rfl) (by exact qb rfl) ?_)
  (repeat' ((conv=>whnf);first|refine zO ?_|refine Ob.auto ?_|refine zI ?_|refine zD 600 ?_|(refine qi (fun _=>rfl) (by kernel_rfl) 600 ?_)|(apply zB <;> intro hb <;> (try simp [-zd] at hb) <;> try (exfalso;omega))|refine Ob.intro ?_ ?_))
  ((conv=>whnf);refine AltG.far 11 [1] (by kernel_rfl) farA (EndG.go ?_))
  (repeat' ((conv=>whnf);first|refine zA ?_|refine zO ?_|refine Ob.auto ?_|refine zD 600 ?_|(apply zB <;> intro hb <;> (try simp [-zd] at hb) <;> try (exfalso;omega))|refine Ob.intro ?_ ?_))
  have h4:=h3.step a3 hk
  (((conv=>whnf);refine jr frzA ?_);(conv=>whnf);refine qm (fun _=>rfl) 600 [0] (t4 h4) (by kernel_rfl) (by kernel_rfl) ⟨Le.refl _,jf rfl,trivial⟩ qa (by exact qb rfl) (by exact qb rfl) (by kernel_rfl) (fun hk=>⟨hk,rfl⟩) (fun hok=>?_))
  (repeat' ((conv=>whnf);first|refine zA ?_|refine zO ?_|refine Ob.auto ?_|refine zD 600 ?_|(apply zB <;> intro hb <;> (try simp [-zd] at hb) <;> try (exfalso;omega))|refine Ob.intro ?_ ?_))
  exact ⟨hok,Le.rptrL ⟨Le.refl _,jf rfl,Le.nils _ _,Le.refl _,Le.refl _,qqb rfl,trivial⟩,qa⟩
end
end Go.Proofs.Ythfaleaojlnnoaa
