/- Contracts of the program's parser: operands, and so expressions. -/
import Derived.Test.YthfaleaojlnnoaaY7PcW
import Derived.Test.YthfaleaojlnnoaaY72
set_option linter.unusedSimpArgs false
set_option linter.unusedVariables false
namespace Go.Proofs.Ythfaleaojlnnoaa
open List renaming getD_eq_getElem?_getD → zd
open Go Go.Sx Go.RowKit Go.St Pa
set_option maxRecDepth 100000
set_option maxHeartbeats 8000000
section
variable {ts:List Lx.Tok} {p q r g:Ps} {n:Nat}
theorem jas (hc:TC ts) {part:Ps→Tr × Ps} (hr:Runs ts part) (hp:∀ q,PreC ts n q→RdM ts 87 part q) (q:Ps) (h:PreC ts n q):RdL ts part 0 q:=
 qlg hc hr (m:=0) (by omega) (by omega) (qlg hc hr (m:=1) (by omega) (by omega) (qlg hc hr (m:=2) (by omega) (by omega) (qlg hc hr (m:=3) (by omega) (by omega) (qlg hc hr (m:=4) (by omega) (by omega) (qlg hc hr (m:=5) (by omega) (by omega) (jmc hp)))))) q h
theorem jat {F:Ps→Tr × Ps} (t1:RdM ts 87 F p) (k a:Int) :
  MTrip Try.prog 100 [.ptr 3 0,.ptr 1 0] [psc ts p,boxP,brO k .nils .nils a .nils,boxB (.ptr 2 0)] ((F p).2.err == 0) (.tup [])
   [(0,psc ts (F p).2),(1,boxP),(2,brO k .nils .nils a (.own 4 0 0 [(F p).1].length)),(3,boxB (.ptr 2 0)),(4,rowB [(F p).1])] 5 (pfl (F p).2):=by
 rw [RdM] at t1
 generalize F p=y at *
 refine qcw (T:=tab Try.prog) (C:={}) 600 (fun _=>rfl) Try.func100 rfl (by kernel_rfl) (by kernel_rfl) (fun c0 rdb mpb=>?_)
 cases hk:(y.2.err == 0) with
 | false=>
  (repeat' ((conv=>whnf);first|refine zA ?_|refine zO ?_|refine Ob.auto ?_|refine zD 600 ?_|(refine qi (fun _=>rfl) (by kernel_rfl) 600 ?_)|(apply zB <;> intro hb <;> (try simp [-zd] at hb) <;> try (exfalso;omega))|refine Ob.intro ?_ ?_))
  ((conv=>whnf);refine CallY.mpan 99 [0] (t1) hk (⟨rfl,rfl⟩) (by kernel_rfl) (by kernel_rfl) leA qa (by exact qb rfl) ?_)
  (repeat' ((conv=>whnf);first|refine zO ?_|refine Ob.auto ?_|refine zD 600 ?_|(refine qi (fun _=>rfl) (by kernel_rfl) 600 ?_)|(apply zB <;> intro hb <;> (try simp [-zd] at hb) <;> try (exfalso;omega))|refine Ob.intro ?_ ?_))
  ((conv=>whnf);refine AltG.far 11 [3,2,1] (by kernel_rfl) farA (EndG.dead 99 (by rfl)))
 | true=>
  (repeat' ((conv=>whnf);first|refine zA ?_|refine zO ?_|refine Ob.auto ?_|refine zD 600 ?_|(refine qi (fun _=>rfl) (by kernel_rfl) 600 ?_)|(apply zB <;> intro hb <;> (try simp [-zd] at hb) <;> try (exfalso;omega))|refine Ob.intro ?_ ?_))
  ((conv=>whnf);refine CallY.trip [0] (t1.trip hk) (by kernel_rfl) leA qa (by exact qb rfl) (by exact qb rfl) ?_)
  (repeat' ((conv=>whnf);first|refine zO ?_|refine Ob.auto ?_|refine zD 600 ?_|(refine qi (fun _=>rfl) (by kernel_rfl) 600 ?_)|(apply zB <;> intro hb <;> (try simp [-zd] at hb) <;> try (exfalso;omega))|refine Ob.intro ?_ ?_))
  ((conv=>whnf);refine AltG.far 11 [3,2,1] (by kernel_rfl) farA (EndG.go ?_))
  (repeat' ((conv=>whnf);first|refine zA ?_|refine zO ?_|refine Ob.auto ?_|refine zD 600 ?_|(apply zB <;> intro hb <;> (try simp [-zd] at hb) <;> try (exfalso;omega))|refine Ob.intro ?_ ?_))
  exact ⟨rfl,Le.refl _,SoLe.refl _,SoLe.refl _,SoLe.refl _,SoLe.refl _,quq rfl,trivial⟩
theorem jml (hc:TC ts) (h:PreC ts n p) {y:Tr × Ps} (a1:Step ts p y.2) (t1:MTrip Try.prog 62 [.ptr 0 0,iv 0] [psc ts p] (y.2.err == 0) y.1.pv [(0,psc ts y.2)] 1 (pfl y.2)) (k a:Int) :
  MTrip Try.prog 101 [.ptr 1 0,.ptr 3 0] [psc ts p,boxP,brO k .nils .nils a .nils,boxB (.ptr 2 0)] ((must ts y.2 sRp).err == 0) (.tup [])
   [(0,psc ts (must ts y.2 sRp)),(1,boxP),(3,boxB y.1.pv)] 4 (pfl (must ts y.2 sRp)):=by
 have ht:=hc.ok
 have t2:=fun h':PreC ts n y.2=>qad hc h' (s:=sRp) (by decide +kernel)
 have a2:=qe ht (a1.ok h.at_) sRp
 generalize must ts y.2 sRp=z at *
 refine qcw (T:=tab Try.prog) (C:={}) 600 (fun _=>rfl) Try.func101 rfl (by kernel_rfl) (by kernel_rfl) (fun c0 rdb mpb=>?_)
 (repeat' ((conv=>whnf);first|refine zA ?_|refine zO ?_|refine Ob.auto ?_|refine zD 600 ?_|(apply zB <;> intro hb <;> (try simp [-zd] at hb) <;> try (exfalso;omega))|refine Ob.intro ?_ ?_))
 ((conv=>whnf);refine qm (fun _=>rfl) 600 [0] (t1) (by kernel_rfl) (by kernel_rfl) leA qa (by exact qb rfl) (by exact qb rfl) (by kernel_rfl) (fun hk=>js a2 hk) (fun hok=>?_))
 have h1:=h.step a1 hok
 (repeat' ((conv=>whnf);first|refine zA ?_|refine zO ?_|refine Ob.auto ?_|refine zD 600 ?_|(apply zB <;> intro hb <;> (try simp [-zd] at hb) <;> try (exfalso;omega))|refine Ob.intro ?_ ?_))
 (((conv=>whnf);refine jr frzA ?_);(conv=>whnf);refine qm (fun _=>rfl) 600 [0] (t2 h1) (by kernel_rfl) (by kernel_rfl) ⟨Le.refl _,jf rfl,trivial⟩ qa (by exact qb rfl) (by exact qb rfl) (by kernel_rfl) (fun hk=>⟨hk,rfl⟩) (fun hok=>?_))
 (repeat' ((conv=>whnf);first|refine zA ?_|refine zO ?_|refine Ob.auto ?_|refine zD 600 ?_|(apply zB <;> intro hb <;> (try simp [-zd] at hb) <;> try (exfalso;omega))|refine Ob.intro ?_ ?_))
 exact ⟨hok,Le.refl _,qa⟩
theorem jmm (p:Ps) (s:List UInt8):must ts (outP p) s=outP (must ts p s):=by
 have e:sees ts (outP p) s=sees ts p s:=rfl
 unfold must
 rw [e]
 split
 ·rfl
 ·unfold bad
  show (if p.err=0 then _ else _)=_
  split <;> rfl
theorem jmn (hc:TC ts):∀ n q,PreC ts n q→RdM ts 87 (ja ts n) q:=by
 intro n
 induction n with
 | zero=>intro p h;have:=h.left;have:=h.at_.hi;omega
 | succ n ih=>
  intro p h
  have ht:=hc.ok
  have h0:=h.at_.lo
  have h1:=h.at_.hi
  have h2:=ht.len
  have h4:=h.left
  have key:∀ s,kwB s=true→sees ts p s=((tk ts p).s == s):=fun s hs=>qcx hc.kind h.at_ h.err hs
  have kLen':=key kLen (by decide +kernel)
  have kMin':=key qbf (by decide +kernel)
  have kBang':=key qkr (by decide +kernel)
  have kLp':=key sLp (by decide +kernel)
  rw [RdM]
  refine qat (T:=tab Try.prog) (C:={}) 600 (fun _=>rfl) Try.func87 rfl (by kernel_rfl) (by kernel_rfl) (fun c0 rdb mpb=>?_)
  (repeat' ((conv=>whnf);first|refine zA ?_|refine zO ?_|refine Ob.auto ?_|refine zD 600 ?_|(apply zB <;> intro hb <;> (try simp [-zd] at hb) <;> try (exfalso;omega))|refine Ob.intro ?_ ?_))
  ((conv=>whnf);refine zT 600 [0] (qbc h.at_ 18) qa ?_)
  (repeat' ((conv=>whnf);first|refine zA ?_|refine zO ?_|refine Ob.auto ?_|refine zC 600 (qr h.at_) ?_|refine zG 600 (fun hg=>qr h.at_) ?_|(refine CallY.con (qr h.at_) (by rfl) leA ?_)|(refine CallZ.con (fun hg=>qr h.at_) qn (by rfl) ?_)|(refine ql (fun _=>rfl) 600 (qr h.at_) qc (by (repeat' (first|exact trivial|exact Le.refl _|(refine And.intro ?_ ?_))) <;> fail) (by rfl) (by kernel_rfl) ?_)|(refine qp (fun _=>rfl) 600 (fun hg=>qr h.at_) (fun hg=>qc) (fun hg=>(by (repeat' (first|exact trivial|exact Le.refl _|exact Le.cnd hg|(refine And.intro ?_ ?_))) <;> fail)) (by rfl) (by kernel_rfl) ?_)|refine zD 600 ?_|(apply zB <;> intro hb <;> (try simp [-zd] at hb) <;> try (exfalso;omega))|refine Ob.intro ?_ ?_))
  ·have e1:ja ts (n+1) p=(.mk 17 [] [numN ts p] (tk ts p).pos [],numP ts p):=zb ⟨h.err,hb⟩
   have t1:=qgu hc h
   rw [e1]
   dsimp only
   cases hk:((numP ts p).err == 0) with
   | false=>
    (repeat' ((conv=>whnf);first|refine zA ?_|refine zO ?_|refine Ob.auto ?_|refine zD 600 ?_|(refine qi (fun _=>rfl) (by kernel_rfl) 600 ?_)|(apply zB <;> intro hb <;> (try simp [-zd] at hb) <;> try (exfalso;omega))|refine Ob.intro ?_ ?_))
    ((conv=>whnf);refine CallY.mpan 99 [0] (t1) hk (⟨rfl,rfl⟩) (by kernel_rfl) (by kernel_rfl) leA qa (by exact qb rfl) ?_)
    (repeat' ((conv=>whnf);first|refine zO ?_|refine Ob.auto ?_|refine zD 600 ?_|(refine qi (fun _=>rfl) (by kernel_rfl) 600 ?_)|(apply zB <;> intro hb <;> (try simp [-zd] at hb) <;> try (exfalso;omega))|refine Ob.intro ?_ ?_))
    ((conv=>whnf);refine AltG.far 9 [3,2,1] (by kernel_rfl) farA (EndG.dead 99 (by rfl)))
   | true=>
    (repeat' ((conv=>whnf);first|refine zA ?_|refine zO ?_|refine Ob.auto ?_|refine zD 600 ?_|(refine qi (fun _=>rfl) (by kernel_rfl) 600 ?_)|(apply zB <;> intro hb <;> (try simp [-zd] at hb) <;> try (exfalso;omega))|refine Ob.intro ?_ ?_))
    ((conv=>whnf);refine CallY.trip [0] (t1.trip hk) (by kernel_rfl) leA qa (by exact qb rfl) (by exact qb rfl) ?_)
    (repeat' ((conv=>whnf);first|refine zO ?_|refine Ob.auto ?_|refine zD 600 ?_|(refine qi (fun _=>rfl) (by kernel_rfl) 600 ?_)|(apply zB <;> intro hb <;> (try simp [-zd] at hb) <;> try (exfalso;omega))|refine Ob.intro ?_ ?_))
    ((conv=>whnf);refine AltG.far 9 [3,2,1] (by kernel_rfl) farA (EndG.go ?_))
    (repeat' ((conv=>whnf);first|refine zA ?_|refine zO ?_|refine Ob.auto ?_|refine zD 600 ?_|(apply zB <;> intro hb <;> (try simp [-zd] at hb) <;> try (exfalso;omega))|refine Ob.intro ?_ ?_))
    exact ⟨rfl,Le.rptrL ⟨Le.refl _,Le.nils _ _,qht rfl,Le.refl _,Le.refl _,Le.nils _ _,trivial⟩,qa⟩
  all_goals have hn1:¬ (p.err=0∧(tk ts p).kind=1):=fun h=>absurd h.2 (by assumption)
  ·have hs:sees ts p kLen=true:=by rw [kLen'];simp [hb]
   have e0:must ts p kLen=adv p:=zb hs
   have e2:ja ts (n+1) p=(.mk 19 [jn ts (adv p)] [] (tk ts p).pos [],qd ts (adv p)):=(za hn1).trans (zb hs)
   have hP':=h.step (qh ht h.at_ hs) (qbw h.err)
   have t0:=qad hc h (s:=kLen) (by decide +kernel)
   rw [e0] at t0
   have t1:=qek hc hP'
   rw [e2]
   dsimp only
   (((conv=>whnf);refine jr frzA ?_);(conv=>whnf);refine qm (fun _=>rfl) 600 [0] (t0) (by kernel_rfl) (by kernel_rfl) ⟨Le.refl _,jf rfl,trivial⟩ qa (by exact qb rfl) (by exact qb rfl) (by kernel_rfl) (fun hk=>by have:=qbw h.err;rw [this] at hk;cases hk) (fun hok=>?_))
   (repeat' ((conv=>whnf);first|refine zA ?_|refine zO ?_|refine Ob.auto ?_|refine zD 600 ?_|(apply zB <;> intro hb <;> (try simp [-zd] at hb) <;> try (exfalso;omega))|refine Ob.intro ?_ ?_))
   cases hk:((qd ts (adv p)).err == 0) with
   | false=>
    (repeat' ((conv=>whnf);first|refine zA ?_|refine zO ?_|refine Ob.auto ?_|refine zD 600 ?_|(refine qi (fun _=>rfl) (by kernel_rfl) 600 ?_)|(apply zB <;> intro hb <;> (try simp [-zd] at hb) <;> try (exfalso;omega))|refine Ob.intro ?_ ?_))
    ((conv=>whnf);refine CallY.mpan 99 [0] (t1) hk (⟨rfl,rfl⟩) (by kernel_rfl) (by kernel_rfl) leA qa (by exact qb rfl) ?_)
    (repeat' ((conv=>whnf);first|refine zO ?_|refine Ob.auto ?_|refine zD 600 ?_|(refine qi (fun _=>rfl) (by kernel_rfl) 600 ?_)|(apply zB <;> intro hb <;> (try simp [-zd] at hb) <;> try (exfalso;omega))|refine Ob.intro ?_ ?_))
    ((conv=>whnf);refine AltG.far 9 [3,2,1] (by kernel_rfl) farA (EndG.dead 99 (by rfl)))
   | true=>
    (repeat' ((conv=>whnf);first|refine zA ?_|refine zO ?_|refine Ob.auto ?_|refine zD 600 ?_|(refine qi (fun _=>rfl) (by kernel_rfl) 600 ?_)|(apply zB <;> intro hb <;> (try simp [-zd] at hb) <;> try (exfalso;omega))|refine Ob.intro ?_ ?_))
    ((conv=>whnf);refine CallY.trip [0] (t1.trip hk) (by kernel_rfl) leA qa (by exact qb rfl) (by exact qb rfl) ?_)
    (repeat' ((conv=>whnf);first|refine zO ?_|refine Ob.auto ?_|refine zD 600 ?_|(refine qi (fun _=>rfl) (by kernel_rfl) 600 ?_)|(apply zB <;> intro hb <;> (try simp [-zd] at hb) <;> try (exfalso;omega))|refine Ob.intro ?_ ?_))
    ((conv=>whnf);refine AltG.far 9 [3,2,1] (by kernel_rfl) farA (EndG.go ?_))
    (repeat' ((conv=>whnf);first|refine zA ?_|refine zO ?_|refine Ob.auto ?_|refine zD 600 ?_|(apply zB <;> intro hb <;> (try simp [-zd] at hb) <;> try (exfalso;omega))|refine Ob.intro ?_ ?_))
    exact ⟨rfl,Le.rptrL ⟨Le.refl _,jf rfl,Le.nils _ _,Le.refl _,Le.refl _,Le.nils _ _,trivial⟩,qa⟩
  all_goals have hn2:¬ (sees ts p kLen=true):=by rw [kLen'];simp [*]
  ·have hs:(tk ts p).s=qkr:=by assumption
   have hsee:sees ts p qkr=true:=by rw [kBang',hs];decide
   have hst:Step ts p (adv p):=qh ht h.at_ hsee
   have e1:must ts p (tk ts p).s=adv p:=by rw [hs];exact zb hsee
   have hP':=h.step hst (qbw h.err)
   have e2:ja ts (n+1) p=(.mk 21 [] [] (tk ts p).pos (ifOk (ja ts n) (inP ts (adv p))).1,outP (ifOk (ja ts n) (inP ts (adv p))).2):=by
    refine (za hn1).trans ((za hn2).trans ((zb (.inr hsee)).trans ?_))
    rw [za (by rw [kMin',hs];decide)]
   have hle:1≤(inP ts (adv p)).at_∧p.at_+1=(inP ts (adv p)).at_:=by have:(inP ts (adv p)).at_=p.at_+1:=(jt hP'.at_).2.1;omega
   have hso:=qtp (qdl ht n) (jt hP'.at_).1
   have t1:=jao (g:=(ifOk (ja ts n) (inP ts (adv p))).2) hc h (s:=(tk ts p).s) (by rw [hs];decide +kernel) 21 (tk ts p).pos [(ja ts n (inP ts (adv p))).1]
    (fun hq he=>by
     rw [e1] at hq he ⊢
     rw [ifOk,zb he]
     have hi:=hq.inn he
     exact jat (ih _ ⟨hi.at_,hi.err,hi.deep,by have:=hle;omega⟩) 21 (tk ts p).pos)
    (fun he=>by rw [e1] at he ⊢;rw [ifOk,za he];exact ⟨rfl,rfl⟩)
    (fun _=>by have:=hso.deep;have:=(jt hP'.at_).2.2.1;have:(adv p).deep=p.deep:=rfl;omega)
   have e3:((ifOk (ja ts n) (inP ts (adv p))).2.err == 0)=true→(ifOk (ja ts n) (inP ts (adv p))).1=[(ja ts n (inP ts (adv p))).1]:=fun he=>by
    have hin:(inP ts (adv p)).err=0:=Classical.byContradiction fun hne=>by
     rw [ifOk,za hne] at he
     exact hne (by simpa using he)
    rw [ifOk,zb hin]
   rw [e2]
   generalize ja ts n (inP ts (adv p))=y at *
   generalize ifOk (ja ts n) (inP ts (adv p))=z at *
   ((conv=>whnf);refine qm (fun _=>rfl) 600 [0,1,2,3] (t1) (by kernel_rfl) (by kernel_rfl) leA qa (by exact qb rfl) (by exact qb rfl) (by kernel_rfl) (fun hk=>⟨hk,rfl⟩) (fun hok=>?_))
   rw [e3 hok]
   (repeat' ((conv=>whnf);first|refine zA ?_|refine zO ?_|refine Ob.auto ?_|refine zD 600 ?_|(apply zB <;> intro hb <;> (try simp [-zd] at hb) <;> try (exfalso;omega))|refine Ob.intro ?_ ?_))
   exact ⟨hok,Le.rptrL ⟨Le.refl _,Le.nils _ _,Le.nils _ _,Le.refl _,Le.refl _,Le.refl _,trivial⟩,qa⟩
  ·have hs:(tk ts p).s=qbf:=by rcases (by assumption:(tk ts p).s=[45]∨(tk ts p).s=[33]) with h|h <;> first|exact h|(exfalso;simp_all;done)
   have hsee:sees ts p qbf=true:=by rw [kMin',hs];decide
   have hst:Step ts p (adv p):=qh ht h.at_ hsee
   have e1:must ts p (tk ts p).s=adv p:=by rw [hs];exact zb hsee
   have hP':=h.step hst (qbw h.err)
   have e2:ja ts (n+1) p=(.mk 20 [] [] (tk ts p).pos (ifOk (ja ts n) (inP ts (adv p))).1,outP (ifOk (ja ts n) (inP ts (adv p))).2):=by
    refine (za hn1).trans ((za hn2).trans ((zb (.inl hsee)).trans ?_))
    rw [zb hsee]
   have hle:1≤(inP ts (adv p)).at_∧p.at_+1=(inP ts (adv p)).at_:=by have:(inP ts (adv p)).at_=p.at_+1:=(jt hP'.at_).2.1;omega
   have hso:=qtp (qdl ht n) (jt hP'.at_).1
   have t1:=jao (g:=(ifOk (ja ts n) (inP ts (adv p))).2) hc h (s:=(tk ts p).s) (by rw [hs];decide +kernel) 20 (tk ts p).pos [(ja ts n (inP ts (adv p))).1]
    (fun hq he=>by
     rw [e1] at hq he ⊢
     rw [ifOk,zb he]
     have hi:=hq.inn he
     exact jat (ih _ ⟨hi.at_,hi.err,hi.deep,by have:=hle;omega⟩) 20 (tk ts p).pos)
    (fun he=>by rw [e1] at he ⊢;rw [ifOk,za he];exact ⟨rfl,rfl⟩)
    (fun _=>by have:=hso.deep;have:=(jt hP'.at_).2.2.1;have:(adv p).deep=p.deep:=rfl;omega)
   have e3:((ifOk (ja ts n) (inP ts (adv p))).2.err == 0)=true→(ifOk (ja ts n) (inP ts (adv p))).1=[(ja ts n (inP ts (adv p))).1]:=fun he=>by
    have hin:(inP ts (adv p)).err=0:=Classical.byContradiction fun hne=>by
     rw [ifOk,za hne] at he
     exact hne (by simpa using he)
    rw [ifOk,zb hin]
   rw [e2]
   generalize ja ts n (inP ts (adv p))=y at *
   generalize ifOk (ja ts n) (inP ts (adv p))=z at *
   ((conv=>whnf);refine qm (fun _=>rfl) 600 [0,1,2,3] (t1) (by kernel_rfl) (by kernel_rfl) leA qa (by exact qb rfl) (by exact qb rfl) (by kernel_rfl) (fun hk=>⟨hk,rfl⟩) (fun hok=>?_))
   rw [e3 hok]
   (repeat' ((conv=>whnf);first|refine zA ?_|refine zO ?_|refine Ob.auto ?_|refine zD 600 ?_|(apply zB <;> intro hb <;> (try simp [-zd] at hb) <;> try (exfalso;omega))|refine Ob.intro ?_ ?_))
   exact ⟨hok,Le.rptrL ⟨Le.refl _,Le.nils _ _,Le.nils _ _,Le.refl _,Le.refl _,Le.refl _,trivial⟩,qa⟩
  ·have hs:(tk ts p).s=sLp:=by assumption
   have hn3:¬ (sees ts p qbf=true∨sees ts p qkr=true):=by rw [kMin',kBang',hs];decide
   have hsee:sees ts p sLp=true:=by rw [kLp',hs];decide
   have hst:Step ts p (adv p):=qh ht h.at_ hsee
   have e1:must ts p sLp=adv p:=zb hsee
   have hP':=h.step hst (qbw h.err)
   have e2:ja ts (n+1) p=((if (inP ts (adv p)).err=0 then (qbr ts (ja ts n) (inP ts (adv p))).1 else .mk 17 [] [] (tk ts p).pos []),
    outP (must ts (if (inP ts (adv p)).err=0 then (qbr ts (ja ts n) (inP ts (adv p))).2 else inP ts (adv p)) sRp)):=
    (za hn1).trans ((za hn2).trans ((za hn3).trans ((zb hsee).trans (by rw [jmm]))))
   have hle:p.at_+1=(inP ts (adv p)).at_:=((jt hP'.at_).2.1).symm
   have hso:=qkv ht (qdl ht n) _ (jt hP'.at_).1
   have hX:Step ts (inP ts (adv p)) (if (inP ts (adv p)).err=0 then (qbr ts (ja ts n) (inP ts (adv p))).2 else inP ts (adv p)):=by
    split
    ·exact hso
    ·exact ((jt hP'.at_).1).refl
   have hmd:=qe ht (hX.ok (jt hP'.at_).1) sRp
   have t1:=jmg (g:=must ts (if (inP ts (adv p)).err=0 then (qbr ts (ja ts n) (inP ts (adv p))).2 else inP ts (adv p)) sRp) hc h (s:=sLp) (by decide +kernel) 18 (tk ts p).pos (qbr ts (ja ts n) (inP ts (adv p))).1
    (fun hq he=>by
     rw [e1] at hq he ⊢
     rw [zb he]
     have hi:=hq.inn he
     exact jml hc hi hso (jas hc (qdl ht n) ih _ ⟨hi.at_,hi.err,hi.deep,by have:=hle;omega⟩) 18 (tk ts p).pos)
    (fun he=>by
     rw [e1] at he ⊢
     rw [za he]
     have:must ts (inP ts (adv p)) sRp=inP ts (adv p):=by
      unfold must bad
      rw [za (by rw [qnc he];decide),za he]
     rw [this];exact ⟨rfl,rfl⟩)
    (fun _=>by have:=hX.deep;have:=hmd.deep;have:=(jt hP'.at_).2.2.1;have:(adv p).deep=p.deep:=rfl;omega)
   have e3:((must ts (if (inP ts (adv p)).err=0 then (qbr ts (ja ts n) (inP ts (adv p))).2 else inP ts (adv p)) sRp).err == 0)=true→(if (inP ts (adv p)).err=0 then (qbr ts (ja ts n) (inP ts (adv p))).1 else .mk 17 [] [] (tk ts p).pos [])=(qbr ts (ja ts n) (inP ts (adv p))).1:=fun he=>by
    have hin:(inP ts (adv p)).err=0:=Classical.byContradiction fun hne=>by
     rw [za hne] at he
     have:must ts (inP ts (adv p)) sRp=inP ts (adv p):=by
      unfold must bad
      rw [za (by rw [qnc hne];decide),za hne]
     rw [this] at he
     exact hne (by simpa using he)
    rw [zb hin]
   rw [e2]
   dsimp only
   generalize (if (inP ts (adv p)).err=0 then (qbr ts (ja ts n) (inP ts (adv p))).1 else .mk 17 [] [] (tk ts p).pos [])=x at *
   generalize must ts (if (inP ts (adv p)).err=0 then (qbr ts (ja ts n) (inP ts (adv p))).2 else inP ts (adv p)) sRp=z at *
   generalize qbr ts (ja ts n) (inP ts (adv p))=y at *
   ((conv=>whnf);refine qm (fun _=>rfl) 600 [0,1,2,3] (t1) (by kernel_rfl) (by kernel_rfl) leA qa (by exact qb rfl) (by exact qb rfl) (by kernel_rfl) (fun hk=>⟨hk,rfl⟩) (fun hok=>?_))
   rw [e3 hok]
   (repeat' ((conv=>whnf);first|refine zA ?_|refine zO ?_|refine Ob.auto ?_|refine zD 600 ?_|(apply zB <;> intro hb <;> (try simp [-zd] at hb) <;> try (exfalso;omega))|refine Ob.intro ?_ ?_))
   exact ⟨hok,Le.refl _,qa⟩
  ·have hn3:¬ (sees ts p qbf=true∨sees ts p qkr=true):=by rw [kMin',kBang'];simp_all
   have hn4:¬ (sees ts p sLp=true):=by rw [kLp'];simp_all
   have e2:ja ts (n+1) p=(.mk 18 [jn ts p] [] (tk ts p).pos [],qd ts p):=(za hn1).trans ((za hn2).trans ((za hn3).trans (za hn4)))
   have t1:=qek hc h
   rw [e2]
   dsimp only
   cases hk:((qd ts p).err == 0) with
   | false=>
    (repeat' ((conv=>whnf);first|refine zA ?_|refine zO ?_|refine Ob.auto ?_|refine zD 600 ?_|(refine qi (fun _=>rfl) (by kernel_rfl) 600 ?_)|(apply zB <;> intro hb <;> (try simp [-zd] at hb) <;> try (exfalso;omega))|refine Ob.intro ?_ ?_))
    ((conv=>whnf);refine CallY.mpan 99 [0] (t1) hk (⟨rfl,rfl⟩) (by kernel_rfl) (by kernel_rfl) leA qa (by exact qb rfl) ?_)
    (repeat' ((conv=>whnf);first|refine zO ?_|refine Ob.auto ?_|refine zD 600 ?_|(refine qi (fun _=>rfl) (by kernel_rfl) 600 ?_)|(apply zB <;> intro hb <;> (try simp [-zd] at hb) <;> try (exfalso;omega))|refine Ob.intro ?_ ?_))
    ((conv=>whnf);refine AltG.far 9 [3,2,1] (by kernel_rfl) farA (EndG.dead 99 (by rfl)))
   | true=>
    (repeat' ((conv=>whnf);first|refine zA ?_|refine zO ?_|refine Ob.auto ?_|refine zD 600 ?_|(refine qi (fun _=>rfl) (by kernel_rfl) 600 ?_)|(apply zB <;> intro hb <;> (try simp [-zd] at hb) <;> try (exfalso;omega))|refine Ob.intro ?_ ?_))
    ((conv=>whnf);refine CallY.trip [0] (t1.trip hk) (by kernel_rfl) leA qa (by exact qb rfl) (by exact qb rfl) ?_)
    (repeat' ((conv=>whnf);first|refine zO ?_|refine Ob.auto ?_|refine zD 600 ?_|(refine qi (fun _=>rfl) (by kernel_rfl) 600 ?_)|(apply zB <;> intro hb <;> (try simp [-zd] at hb) <;> try (exfalso;omega))|refine Ob.intro ?_ ?_))
    ((conv=>whnf);refine AltG.far 9 [3,2,1] (by kernel_rfl) farA (EndG.go ?_))
    (repeat' ((conv=>whnf);first|refine zA ?_|refine zO ?_|refine Ob.auto ?_|refine zD 600 ?_|(apply zB <;> intro hb <;> (try simp [-zd] at hb) <;> try (exfalso;omega))|refine Ob.intro ?_ ?_))
    exact ⟨rfl,Le.rptrL ⟨Le.refl _,jf rfl,Le.nils _ _,Le.refl _,Le.refl _,Le.nils _ _,trivial⟩,qa⟩
end
end Go.Proofs.Ythfaleaojlnnoaa
