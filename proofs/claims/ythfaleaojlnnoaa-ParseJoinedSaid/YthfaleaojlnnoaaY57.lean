/- Some texts of the library, one behind the other. -/
import Derived.Test.YthfaleaojlnnoaaY55
import Derived.Test.YthfaleaojlnnoaaY56
import Derived.Test.YthfaleaojlnnoaaY52
set_option linter.unusedSimpArgs false
set_option linter.unusedVariables false
section
namespace Go.Proofs.Ythfaleaojlnnoaa
open List renaming getD_eq_getElem?_getD → zd
open Go Go.Sx Go.RowKit Go.St Pa
set_option maxRecDepth 100000
set_option maxHeartbeats 2000000
section
variable {ts:List Lx.Tok} {p:Ps}
abbrev pso (ts:List Lx.Tok) (p:Ps):SO:=.box 59 (p.cells ts)
theorem qge:Con Try.prog 41 [.rptr (p.cells ts)] (.bool (p.err == 0)):=by
 refine zK {} 300 Try.func41 (fun c0 rdb=>?_)
 (repeat' ((conv=>whnf);first|refine Ob.auto ?_|fail))
 exact Le.refl _
theorem qkh (h:AtOk ts p):Con Try.prog 42 [.rptr (p.cells ts)] (.agg (Lx.encTok (tk ts p))):=by
 have h0:=h.lo
 have h1:=h.hi
 refine zK {} 300 Try.func42 (fun c0 rdb=>?_)
 (repeat' ((conv=>whnf);first|refine zO ?_|refine Ob.auto ?_|refine zD 300 ?_|fail))
 exact Le.refl _
theorem qfn (h:AtOk ts p) (s:List UInt8):Con Try.prog 63 [.rptr (p.cells ts),.str s] (.bool (sees ts p s)):=by
 refine zK {} 300 Try.func63 (fun c0 rdb=>?_)
 (repeat' ((conv=>whnf);first|refine Ob.auto ?_|refine zC 300 (qkh h) ?_|refine zC 300 (qge) ?_|refine zG 300 (fun hg=>jbb _) ?_|fail))
 refine Le.of_eq (congrArg AV.bool ?_)
 unfold sees qom
 rw [Bool.and_assoc]
theorem qrd (h:AtOk ts p) (e:Int):Trip Try.prog 92 [.ptr 0 0,iv e] [pso ts p] (.tup []) [(0,pso ts (bad ts p e))] 1:=by
 refine zL {} 300 Try.func92 (fun c0 rdb mpb=>?_)
 (repeat' ((conv=>whnf);first|(refine qm (fun _=>rfl) 300 (qkh h) qe (by (repeat' (first|exact trivial|exact Le.refl _|(refine And.intro ?_ ?_))) <;> fail) (by rfl) (by kernel_rfl) ?_)|(refine qm (fun _=>rfl) 300 (qge) qe (by (repeat' (first|exact trivial|exact Le.refl _|(refine And.intro ?_ ?_))) <;> fail) (by rfl) (by kernel_rfl) ?_)|(apply zB <;> intro hb <;> (try simp [-zd] at hb) <;> try (exfalso;omega))))
 ·have e1:bad ts p e={ p with err:=e,fat:=(tk ts p).pos }:=zf hb
  rw [e1]
  exact ⟨Le.refl _,qa⟩
 ·have e1:bad ts p e=p:=ze hb
  rw [e1]
  exact ⟨Le.refl _,qa⟩
theorem qbp (ht:ToksOk ts) (h:AtOk ts p) (s:List UInt8):Trip Try.prog 66 [.ptr 0 0,.str s] [pso ts p] (.bool (sees ts p s)) [(0,pso ts (took ts p s))] 1:=by
 have h0:=h.lo
 have h1:=h.hi
 have h2:=ht.len
 refine zL {} 300 Try.func66 (fun c0 rdb mpb=>?_)
 (repeat' ((conv=>whnf);first|refine Ob.auto ?_|(refine qm (fun _=>rfl) 300 (qfn h s) qe (by (repeat' (first|exact trivial|exact Le.refl _|(refine And.intro ?_ ?_))) <;> fail) (by rfl) (by kernel_rfl) ?_)|(apply zB <;> intro hb <;> (try simp [-zd] at hb) <;> try (exfalso;omega))))
 ·rw [hb,took,ze (by rw [hb];decide)]
  exact ⟨Le.refl _,qa⟩
 ·rw [hb,took,zf hb]
  exact ⟨Le.refl _,qa⟩
theorem qbz (ht:ToksOk ts) (h:AtOk ts p) (s:List UInt8):Trip Try.prog 68 [.ptr 0 0,.str s] [pso ts p] (.tup []) [(0,pso ts (must ts p s))] 1:=by
 refine zL {} 300 Try.func68 (fun c0 rdb mpb=>?_)
 ((conv=>whnf);refine zT 300 [0] (qbp ht h s) qa ?_)
 (repeat' ((conv=>whnf);first|(apply zB <;> intro hb <;> (try simp [-zd] at hb) <;> try (exfalso;omega))))
 ·have e1:took ts p s=p:=ze (by rw [hb];decide)
  have e2:must ts p s=bad ts p 11:=ze (by rw [hb];decide)
  rw [e1]
  ((conv=>whnf);refine zT 300 [0] (qrd h 11) qa ?_)
  rw [e2]
  exact ⟨Le.refl _,qa⟩
 ·have e1:took ts p s=adv p:=zf hb
  have e2:must ts p s=adv p:=zf hb
  rw [e1,e2]
  exact ⟨Le.refl _,qa⟩
theorem qht (ht:ToksOk ts) (h:AtOk ts p):Trip Try.prog 67 [.ptr 0 0] [pso ts p] (.str (qz ts p)) [(0,pso ts (qc ts p))] 1:=by
 have h0:=h.lo
 have h1:=h.hi
 have h2:=ht.len
 refine zL {} 300 Try.func67 (fun c0 rdb mpb=>?_)
 (repeat' ((conv=>whnf);first|refine Ob.auto ?_|refine zG 300 (fun hg=>jmp _) ?_|(refine qm (fun _=>rfl) 300 (qkh h) qe (by (repeat' (first|exact trivial|exact Le.refl _|(refine And.intro ?_ ?_))) <;> fail) (by rfl) (by kernel_rfl) ?_)|(refine qx (fun _=>rfl) 300 (fun hg=>qge) (fun hg=>qe) (fun hg=>(by (repeat' (first|exact trivial|exact Le.refl _|exact Le.cnd hg|(refine And.intro ?_ ?_))) <;> fail)) (by rfl) (by kernel_rfl) ?_)|(apply zB <;> intro hb <;> (try simp [-zd] at hb) <;> try (exfalso;omega))))
 ·have e:qco ts p=false:=by
   unfold qco
   rcases hb with (hb|hb)|hb <;> simp [hb]
  ((conv=>whnf);refine zT 300 [0] (qrd h 11) qa ?_)
  rw [qz,qc,ze (by rw [e];decide),ze (by rw [e];decide)]
  exact ⟨Le.refl _,qa⟩
 ·have e:qco ts p=true:=by
   unfold qco
   simp [hb.1.1,hb.1.2,hb.2]
  rw [qz,qc,zf e,zf e]
  exact ⟨Le.refl _,qa⟩
theorem qki (ht:ToksOk ts) (h:AtOk ts p):Trip Try.prog 69 [.ptr 0 0] [pso ts p] (iv (numN ts p)) [(0,pso ts (numP ts p))] 1:=by
 have h0:=h.lo
 have h1:=h.hi
 have h2:=ht.len
 refine zL {} 300 Try.func69 (fun c0 rdb mpb=>?_)
 (repeat' ((conv=>whnf);first|refine Ob.auto ?_|(refine qm (fun _=>rfl) 300 (qkh h) qe (by (repeat' (first|exact trivial|exact Le.refl _|(refine And.intro ?_ ?_))) <;> fail) (by rfl) (by kernel_rfl) ?_)|(refine qx (fun _=>rfl) 300 (fun hg=>qge) (fun hg=>qe) (fun hg=>(by (repeat' (first|exact trivial|exact Le.refl _|exact Le.cnd hg|(refine And.intro ?_ ?_))) <;> fail)) (by rfl) (by kernel_rfl) ?_)|(apply zB <;> intro hb <;> (try simp [-zd] at hb) <;> try (exfalso;omega))))
 ·have e:qcg ts p=false:=by
   unfold qcg
   rcases hb with hb|hb <;> simp [hb]
  ((conv=>whnf);refine zT 300 [0] (qrd h 11) qa ?_)
  rw [numN,numP,ze (by rw [e];decide),ze (by rw [e];decide)]
  exact ⟨Le.refl _,qa⟩
 ·have e:qcg ts p=true:=by
   unfold qcg
   simp [hb.1,hb.2]
  have hnum:=ht.num _ (qhs h) hb.1
  have hdg:=qmb hnum.2
  rw [numN,numP,zf e,zf e]
  ((conv=>whnf);refine qbs (fun _=>rfl) 300 1 (fun i:Nat=>[(4,iv (qdp ((tk ts p).s.take i))),(5,iv i)]) (fun _=>[]) (fun i=>i≤(tk ts p).s.length) (fun i=>(tk ts p).s.length - i) (0) (by omega) qa qa (fun _=>rfl) (by kernel_rfl) ?_;(conv=>whnf))
  intro i hi
  have h3:=hdg i hi
  have h6:(10:Int) ^ i≤10 ^ 6:=by exact_mod_cast Nat.pow_le_pow_right (show 0<10 by decide) (show i≤6 by omega)
  have hby:i<(tk ts p).s.length→qbj (tk ts p).s (i:Int)=(((tk ts p).s[i]?.getD 0).toNat:Int)∧48≤((tk ts p).s[i]?.getD 0).toNat∧((tk ts p).s[i]?.getD 0).toNat≤57:=fun hlt=>by
   have h7:=hnum.2 _ (xj hlt)
   rw [zg hlt]
   exact ⟨Lx.byteAt_get hlt,h7⟩
  (repeat' ((conv=>whnf);first|refine Ob.auto ?_|(refine Ob.intro (by (first|exact ⟨by omega,by omega⟩|exact qy (by omega) (by omega)|exact ⟨by have:=hby (by omega);show (0:Int)≤_;omega,by have:=hby (by omega);show _≤(255:Int);omega⟩|exact qy (by have:=hby (by omega);omega) (by have:=hby (by omega);omega))) ?_)|(apply zB <;> intro hb <;> (try simp [-zd] at hb) <;> try (exfalso;omega))))
  ·have h7:=hby hb
   have h8:qdp ((tk ts p).s.take (i+1))=10 * qdp ((tk ts p).s.take i)+(qbj (tk ts p).s (i:Int) - 48):=by
    rw [zag hb,qvl,Lx.byteAt_get hb]
   ((conv=>whnf);refine ⟨i+1,by omega,⟨⟨Le.of_eq (congrArg iv h8.symm),Le.refl _,trivial⟩,qa⟩,⟨qa,qa⟩,?_⟩;(first|omega|(dsimp only;omega)|skip))
  ·rw [List.take_of_length_le hb]
   exact ⟨Le.refl _,qa⟩
theorem qvq (ht:ToksOk ts) (h:AtOk ts p) (s:List UInt8):Trip Try.prog 70 [.ptr 0 0,.str s] [pso ts p] (iv (ju ts p s)) [(0,pso ts (took ts p s))] 1:=by
 refine zL {} 300 Try.func70 (fun c0 rdb mpb=>?_)
 ((conv=>whnf);refine zT 300 [0] (qbp ht h s) qa ?_)
 (repeat' ((conv=>whnf);first|(apply zB <;> intro hb <;> (try simp [-zd] at hb) <;> try (exfalso;omega))))
 ·rw [ju,zf hb]
  exact ⟨Le.refl _,qa⟩
 ·rw [ju,ze (by rw [hb];decide)]
  exact ⟨Le.refl _,qa⟩
theorem qkj (h:AtOk ts p) (k:Int):Con Try.prog 40 [.rptr (p.cells ts),iv k] (.agg [iv k,.nils,.nils,.nils,iv (tk ts p).pos,.nils]):=by
 refine zK {} 300 Try.func40 (fun c0 rdb=>?_)
 (repeat' ((conv=>whnf);first|refine Ob.auto ?_|refine zC 300 (qkh h) ?_|fail))
 exact Le.refl _
theorem qme (h:AtOk ts p) (hd:0≤p.deep∧p.deep≤100000):Trip Try.prog 90 [.ptr 0 0] [pso ts p] (.tup []) [(0,pso ts (inP ts p))] 1:=by
 refine zL {} 300 Try.func90 (fun c0 rdb mpb=>?_)
 (repeat' ((conv=>whnf);first|refine Ob.auto ?_|(apply zB <;> intro hb <;> (try simp [-zd] at hb) <;> try (exfalso;omega))))
 ·have h':AtOk ts { p with deep:=p.deep+1 }:=⟨h.lo,h.hi⟩
  ((conv=>whnf);refine zT 300 [0] (qrd h' 12) qa ?_)
  rw [inP,zf (by omega)]
  exact ⟨Le.refl _,qa⟩
 ·rw [inP,ze (by omega)]
  exact ⟨Le.refl _,qa⟩
end
set_option maxHeartbeats 4000000
structure Pre (ts:List Lx.Tok) (n:Nat) (p:Ps):Prop where
 at_:AtOk ts p
 deep:0≤p.deep∧p.deep≤p.at_+1
 left:(ts.length:Int) - p.at_≤n
section
variable {ts:List Lx.Tok} {p q:Ps} {n:Nat}
theorem Pre.step (h:Pre ts n p) (k:Step ts p q):Pre ts n q:=
 ⟨k.ok h.at_,by have:=h.deep;have:=k.deep;have:=k.le;omega,by have:=h.left;have:=k.le;omega⟩
abbrev RdT (ts:List Lx.Tok) (f:FuncId) (F:Ps→Tr × Ps) (p:Ps):Prop:=Trip Try.prog f [.ptr 0 0] [pso ts p] (F p).1.av [(0,pso ts (F p).2)] 1
theorem jmt (a b:Tr):Le (.slc 6 2 (chop 6 (a.cells++b.cells))) (qma [a,b]):=Le.slc rfl (fun i hi=>by
 match i,hi with
 | 0,_=>exact (Tr.cellsL_get [a,b] 0 (zao _)).symm
 | 1,_=>exact (Tr.cellsL_get [a,b] 1 (zan _)).symm)
theorem qhu (sg:Int) (a b:Tr):Con Try.prog 94 [iv sg,a.av,b.av] (binT sg a b).av:=by
 refine zK {} 300 Try.func94 (fun c0 rdb=>?_)
 (repeat' ((conv=>whnf);first|refine Ob.auto ?_|fail))
 refine Le.agg ⟨Le.refl _,Le.nils _ _,Le.slc rfl (fun i hi=>?_),Le.refl _,Le.refl _,jmt a b,trivial⟩
 obtain rfl:i=0:=by omega
 rfl
theorem jmu (ht:ToksOk ts) {part:Ps→Tr × Ps} (hr:Runs ts part) (hp:∀ q,Pre ts n q→RdT ts 114 part q):∀ q,Pre ts n q→RdT ts 113 (qbm ts part) q:=by
 intro p h
 have h2:=ht.len
 have hps:=hp
 have hrs:=hr
 have hs:=hrs p h.at_
 have hq:=h.step hs
 refine zM {} 300 Try.func113 (fun c0 rdb mpb=>?_)
 ((conv=>whnf);refine zT 300 [0] (hps p h) qa ?_)
 ((conv=>whnf);refine qbs (fun _=>rfl) 300 1 (fun _:Nat × Tr × Ps=>[]) (fun g=>[(2,.box 62 g.2.1.cells),(0,pso ts g.2.2)]) (fun g=>Pre ts n g.2.2∧js (part) (qdq ts) (qeu ts) g.1 g.2.1 g.2.2=qbm ts part p∧(ts.length:Int) - g.2.2.at_≤g.1) (fun g=>((ts.length:Int) - g.2.2.at_).toNat) ((ts.length,(part p).1,(part p).2)) (⟨hq,rfl,by have:=hq.at_.lo;simp only;omega⟩) qa qa (fun _=>rfl) (by kernel_rfl) ?_;(conv=>whnf))
 rintro ⟨k,a,r⟩ ⟨hP,hj,hk⟩
 simp only at hP hj hk
 have h0:=hP.at_.lo
 have h1:=hP.at_.hi
 obtain ⟨k,rfl⟩:∃ k',k=k'+1:=⟨k - 1,by omega⟩
 (repeat' ((conv=>whnf);first|refine Ob.auto ?_|(refine Ob.intro (by (exact qy (by dsimp only;omega) (by dsimp only;omega))) ?_)|(refine qm (fun _=>rfl) 300 (qfn hP.at_ _) qe (by (repeat' (first|exact trivial|exact Le.refl _|(refine And.intro ?_ ?_))) <;> fail) (by rfl) (by kernel_rfl) ?_)|(refine qx (fun _=>rfl) 300 (fun hg=>qfn hP.at_ _) (fun hg=>qe) (fun hg=>(by (repeat' (first|exact trivial|exact Le.refl _|exact Le.cnd hg|(refine And.intro ?_ ?_))) <;> fail)) (by rfl) (by kernel_rfl) ?_)|(apply zB <;> intro hb <;> (try simp [-zd] at hb) <;> try (exfalso;omega))))
 ·have hc:(qdq ts) r=true:=by simp [qdq,sumC, *]
  have hsg:(qeu ts) r=6:=by unfold qeu;rw [zf hb]
  have hst:=qf ht hP.at_ hb
  have hP':=hP.step hst
  rw [js,zf hc,hsg] at hj
  have hle:=(hrs _ hP'.at_).le
  have hle':r.at_+1≤(part (adv r)).2.at_:=hle
  (repeat' ((conv=>whnf);first|(refine qk (fun _=>rfl) (by kernel_rfl) 300 ?_)|fail))
  ((conv=>whnf);refine CallY.trip [0] (hps (adv r) hP') (by kernel_rfl) leA qa (by exact qb rfl) (by exact qb rfl) ?_)
  (conv=>whnf)
  refine CallY.con (qhu 6 a (part (adv r)).1) (by rfl) leA ?_
  ((conv=>whnf);refine AltG.far 5 [2] (by kernel_rfl) farA (EndG.go ?_))
  ((conv=>whnf);refine ⟨(k,binT 6 a (part (adv r)).1,(part (adv r)).2),⟨hP'.step (hrs _ hP'.at_),hj,by dsimp only;omega⟩,⟨qa,qa⟩,⟨qa,qa⟩,?_⟩;(first|omega|(dsimp only;omega)|skip))
 ·have hc:(qdq ts) r=true:=by simp [qdq,sumC, *]
  have hsg:(qeu ts) r=7:=by unfold qeu;rw [ze (by simp [*]),zf hb]
  have hst:=qf ht hP.at_ hb
  have hP':=hP.step hst
  rw [js,zf hc,hsg] at hj
  have hle:=(hrs _ hP'.at_).le
  have hle':r.at_+1≤(part (adv r)).2.at_:=hle
  (repeat' ((conv=>whnf);first|(refine qk (fun _=>rfl) (by kernel_rfl) 300 ?_)|fail))
  ((conv=>whnf);refine CallY.trip [0] (hps (adv r) hP') (by kernel_rfl) leA qa (by exact qb rfl) (by exact qb rfl) ?_)
  (conv=>whnf)
  refine CallY.con (qhu 7 a (part (adv r)).1) (by rfl) leA ?_
  ((conv=>whnf);refine AltG.far 5 [2] (by kernel_rfl) farA (EndG.go ?_))
  ((conv=>whnf);refine ⟨(k,binT 7 a (part (adv r)).1,(part (adv r)).2),⟨hP'.step (hrs _ hP'.at_),hj,by dsimp only;omega⟩,⟨qa,qa⟩,⟨qa,qa⟩,?_⟩;(first|omega|(dsimp only;omega)|skip))
 ·have hpct:sees ts r sPct=true:=by simp_all
  have hc:qdq ts r=true:=by unfold qdq;rw [hpct];simp
  have hsg:(qeu ts) r=8:=by unfold qeu;rw [ze (by simp [*]),ze (by simp [*])]
  have hst:=qf ht hP.at_ hpct
  have hP':=hP.step hst
  rw [js,zf hc,hsg] at hj
  have hle:=(hrs _ hP'.at_).le
  have hle':r.at_+1≤(part (adv r)).2.at_:=hle
  (repeat' ((conv=>whnf);first|(refine qk (fun _=>rfl) (by kernel_rfl) 300 ?_)|fail))
  ((conv=>whnf);refine CallY.trip [0] (hps (adv r) hP') (by kernel_rfl) leA qa (by exact qb rfl) (by exact qb rfl) ?_)
  (conv=>whnf)
  refine CallY.con (qhu 8 a (part (adv r)).1) (by rfl) leA ?_
  ((conv=>whnf);refine AltG.far 5 [2] (by kernel_rfl) farA (EndG.go ?_))
  ((conv=>whnf);refine ⟨(k,binT 8 a (part (adv r)).1,(part (adv r)).2),⟨hP'.step (hrs _ hP'.at_),hj,by dsimp only;omega⟩,⟨qa,qa⟩,⟨qa,qa⟩,?_⟩;(first|omega|(dsimp only;omega)|skip))
 ·have hc:¬ ((qdq ts) r=true):=by simp [qdq,sumC,hb]
  rw [js,ze hc] at hj
  rw [← hj]
  exact ⟨Le.refl _,qa⟩
theorem jmv (ht:ToksOk ts) {part:Ps→Tr × Ps} (hr:Runs ts part) (hp:∀ q,Pre ts n q→RdT ts 114 part q):∀ q,Pre ts n q→RdT ts 112 (sumF ts part) q:=by
 intro p h
 have h2:=ht.len
 have hps:=jmu ht hr hp
 have hrs:=qiu ht hr
 have hs:=hrs p h.at_
 have hq:=h.step hs
 refine zM {} 300 Try.func112 (fun c0 rdb mpb=>?_)
 ((conv=>whnf);refine zT 300 [0] (hps p h) qa ?_)
 ((conv=>whnf);refine qbs (fun _=>rfl) 300 1 (fun _:Nat × Tr × Ps=>[]) (fun g=>[(2,.box 62 g.2.1.cells),(0,pso ts g.2.2)]) (fun g=>Pre ts n g.2.2∧js (qbm ts part) (sumC ts) (sumS ts) g.1 g.2.1 g.2.2=sumF ts part p∧(ts.length:Int) - g.2.2.at_≤g.1) (fun g=>((ts.length:Int) - g.2.2.at_).toNat) ((ts.length,(qbm ts part p).1,(qbm ts part p).2)) (⟨hq,rfl,by have:=hq.at_.lo;simp only;omega⟩) qa qa (fun _=>rfl) (by kernel_rfl) ?_;(conv=>whnf))
 rintro ⟨k,a,r⟩ ⟨hP,hj,hk⟩
 simp only at hP hj hk
 have h0:=hP.at_.lo
 have h1:=hP.at_.hi
 obtain ⟨k,rfl⟩:∃ k',k=k'+1:=⟨k - 1,by omega⟩
 (repeat' ((conv=>whnf);first|refine Ob.auto ?_|(refine Ob.intro (by (exact qy (by dsimp only;omega) (by dsimp only;omega))) ?_)|(refine qm (fun _=>rfl) 300 (qfn hP.at_ _) qe (by (repeat' (first|exact trivial|exact Le.refl _|(refine And.intro ?_ ?_))) <;> fail) (by rfl) (by kernel_rfl) ?_)|(refine qx (fun _=>rfl) 300 (fun hg=>qfn hP.at_ _) (fun hg=>qe) (fun hg=>(by (repeat' (first|exact trivial|exact Le.refl _|exact Le.cnd hg|(refine And.intro ?_ ?_))) <;> fail)) (by rfl) (by kernel_rfl) ?_)|(apply zB <;> intro hb <;> (try simp [-zd] at hb) <;> try (exfalso;omega))))
 ·have hc:(sumC ts) r=true:=by simp [qdq,sumC, *]
  have hsg:(sumS ts) r=4:=by unfold sumS;rw [zf hb]
  have hst:=qf ht hP.at_ hb
  have hP':=hP.step hst
  rw [js,zf hc,hsg] at hj
  have hle:=(hrs _ hP'.at_).le
  have hle':r.at_+1≤(qbm ts part (adv r)).2.at_:=hle
  (repeat' ((conv=>whnf);first|(refine qk (fun _=>rfl) (by kernel_rfl) 300 ?_)|fail))
  ((conv=>whnf);refine CallY.trip [0] (hps (adv r) hP') (by kernel_rfl) leA qa (by exact qb rfl) (by exact qb rfl) ?_)
  (conv=>whnf)
  refine CallY.con (qhu 4 a (qbm ts part (adv r)).1) (by rfl) leA ?_
  ((conv=>whnf);refine AltG.far 5 [2] (by kernel_rfl) farA (EndG.go ?_))
  ((conv=>whnf);refine ⟨(k,binT 4 a (qbm ts part (adv r)).1,(qbm ts part (adv r)).2),⟨hP'.step (hrs _ hP'.at_),hj,by dsimp only;omega⟩,⟨qa,qa⟩,⟨qa,qa⟩,?_⟩;(first|omega|(dsimp only;omega)|skip))
 ·have hmin:sees ts r qaq=true:=by simp_all
  have hc:sumC ts r=true:=by unfold sumC;rw [hmin];simp
  have hsg:(sumS ts) r=5:=by unfold sumS;rw [ze (by simp [*])]
  have hst:=qf ht hP.at_ hmin
  have hP':=hP.step hst
  rw [js,zf hc,hsg] at hj
  have hle:=(hrs _ hP'.at_).le
  have hle':r.at_+1≤(qbm ts part (adv r)).2.at_:=hle
  (repeat' ((conv=>whnf);first|(refine qk (fun _=>rfl) (by kernel_rfl) 300 ?_)|fail))
  ((conv=>whnf);refine CallY.trip [0] (hps (adv r) hP') (by kernel_rfl) leA qa (by exact qb rfl) (by exact qb rfl) ?_)
  (conv=>whnf)
  refine CallY.con (qhu 5 a (qbm ts part (adv r)).1) (by rfl) leA ?_
  ((conv=>whnf);refine AltG.far 5 [2] (by kernel_rfl) farA (EndG.go ?_))
  ((conv=>whnf);refine ⟨(k,binT 5 a (qbm ts part (adv r)).1,(qbm ts part (adv r)).2),⟨hP'.step (hrs _ hP'.at_),hj,by dsimp only;omega⟩,⟨qa,qa⟩,⟨qa,qa⟩,?_⟩;(first|omega|(dsimp only;omega)|skip))
 ·have hc:¬ ((sumC ts) r=true):=by simp [qdq,sumC,hb]
  rw [js,ze hc] at hj
  rw [← hj]
  exact ⟨Le.refl _,qa⟩
theorem jmw (ht:ToksOk ts) {part:Ps→Tr × Ps} (hr:Runs ts part) (hp:∀ q,Pre ts n q→RdT ts 114 part q):∀ q,Pre ts n q→RdT ts 110 (qch ts part) q:=by
 intro p h
 have h2:=ht.len
 have hps:=jmv ht hr hp
 have hrs:=qmc ht hr
 have hs:=hrs p h.at_
 have hq:=h.step hs
 refine zM {} 300 Try.func110 (fun c0 rdb mpb=>?_)
 ((conv=>whnf);refine zT 300 [0] (hps p h) qa ?_)
 ((conv=>whnf);refine zT 300 [0] (qbp ht hq.at_ sLt) qa ?_)
 (repeat' ((conv=>whnf);first|refine Ob.auto ?_|(apply zB <;> intro hb <;> (try simp [-zd] at hb) <;> try (exfalso;omega))))
 ·have e1:took ts (sumF ts part p).2 sLt=adv (sumF ts part p).2:=zf hb
  have hP':=hq.step (qf ht hq.at_ hb)
  have e2:qch ts part p=(binT 3 (sumF ts part p).1 (sumF ts part (adv (sumF ts part p).2)).1,(sumF ts part (adv (sumF ts part p).2)).2):=zf hb
  rw [e1,e2]
  (repeat' ((conv=>whnf);first|(refine qk (fun _=>rfl) (by kernel_rfl) 300 ?_)|fail))
  ((conv=>whnf);refine CallY.trip [0] (hps _ hP') (by kernel_rfl) leA qa (by exact qb rfl) (by exact qb rfl) ?_)
  (conv=>whnf)
  refine CallY.con (qhu 3 (sumF ts part p).1 (sumF ts part (adv (sumF ts part p).2)).1) (by rfl) leA ?_
  ((conv=>whnf);refine AltG.far 4 [2] (by kernel_rfl) farA (EndG.go ?_))
  (repeat' ((conv=>whnf);first|refine Ob.auto ?_|fail))
  exact ⟨Le.refl _,qa⟩
 ·have e1:took ts (sumF ts part p).2 sLt=(sumF ts part p).2:=ze (by rw [hb];decide)
  have e2:qch ts part p=sumF ts part p:=ze (by rw [hb];decide)
  rw [e1,e2]
  exact ⟨Le.refl _,qa⟩
theorem jmx (ht:ToksOk ts) {part:Ps→Tr × Ps} (hr:Runs ts part) (hp:∀ q,Pre ts n q→RdT ts 114 part q):∀ q,Pre ts n q→RdT ts 104 (qcp ts part) q:=by
 intro p h
 have h2:=ht.len
 have hps:=jmw ht hr hp
 have hrs:=qmd ht hr
 have hs:=hrs p h.at_
 have hq:=h.step hs
 refine zM {} 300 Try.func104 (fun c0 rdb mpb=>?_)
 ((conv=>whnf);refine zT 300 [0] (hps p h) qa ?_)
 ((conv=>whnf);refine zT 300 [0] (qbp ht hq.at_ sEq2) qa ?_)
 (repeat' ((conv=>whnf);first|refine Ob.auto ?_|(apply zB <;> intro hb <;> (try simp [-zd] at hb) <;> try (exfalso;omega))))
 ·have e1:took ts (qch ts part p).2 sEq2=adv (qch ts part p).2:=zf hb
  have hP':=hq.step (qf ht hq.at_ hb)
  have e2:qcp ts part p=(binT 2 (qch ts part p).1 (qch ts part (adv (qch ts part p).2)).1,(qch ts part (adv (qch ts part p).2)).2):=zf hb
  rw [e1,e2]
  (repeat' ((conv=>whnf);first|(refine qk (fun _=>rfl) (by kernel_rfl) 300 ?_)|fail))
  ((conv=>whnf);refine CallY.trip [0] (hps _ hP') (by kernel_rfl) leA qa (by exact qb rfl) (by exact qb rfl) ?_)
  (conv=>whnf)
  refine CallY.con (qhu 2 (qch ts part p).1 (qch ts part (adv (qch ts part p).2)).1) (by rfl) leA ?_
  ((conv=>whnf);refine AltG.far 4 [2] (by kernel_rfl) farA (EndG.go ?_))
  (repeat' ((conv=>whnf);first|refine Ob.auto ?_|fail))
  exact ⟨Le.refl _,qa⟩
 ·have e1:took ts (qch ts part p).2 sEq2=(qch ts part p).2:=ze (by rw [hb];decide)
  have e2:qcp ts part p=qch ts part p:=ze (by rw [hb];decide)
  rw [e1,e2]
  exact ⟨Le.refl _,qa⟩
theorem jmy (ht:ToksOk ts) {part:Ps→Tr × Ps} (hr:Runs ts part) (hp:∀ q,Pre ts n q→RdT ts 114 part q):∀ q,Pre ts n q→RdT ts 93 (andF ts part) q:=by
 intro p h
 have h2:=ht.len
 have hps:=jmx ht hr hp
 have hrs:=qiv ht hr
 have hs:=hrs p h.at_
 have hq:=h.step hs
 refine zM {} 300 Try.func93 (fun c0 rdb mpb=>?_)
 ((conv=>whnf);refine zT 300 [0] (hps p h) qa ?_)
 ((conv=>whnf);refine qbs (fun _=>rfl) 300 1 (fun _:Nat × Tr × Ps=>[]) (fun g=>[(2,.box 62 g.2.1.cells),(0,pso ts g.2.2)]) (fun g=>Pre ts n g.2.2∧js (qcp ts part) (fun p=>sees ts p qhr) (fun _=>1) g.1 g.2.1 g.2.2=andF ts part p∧(ts.length:Int) - g.2.2.at_≤g.1) (fun g=>((ts.length:Int) - g.2.2.at_).toNat) ((ts.length,(qcp ts part p).1,(qcp ts part p).2)) (⟨hq,rfl,by have:=hq.at_.lo;simp only;omega⟩) qa qa (fun _=>rfl) (by kernel_rfl) ?_;(conv=>whnf))
 rintro ⟨k,a,r⟩ ⟨hP,hj,hk⟩
 simp only at hP hj hk
 have h0:=hP.at_.lo
 have h1:=hP.at_.hi
 obtain ⟨k,rfl⟩:∃ k',k=k'+1:=⟨k - 1,by omega⟩
 ((conv=>whnf);refine zT 300 [0] (qbp ht hP.at_ qhr) qa ?_)
 (repeat' ((conv=>whnf);first|refine Ob.auto ?_|(apply zB <;> intro hb <;> (try simp [-zd] at hb) <;> try (exfalso;omega))))
 ·have e1:took ts r qhr=adv r:=zf hb
  have hst:=qf ht hP.at_ hb
  have hP':=hP.step hst
  rw [js,zf hb] at hj
  have hle:=(hrs _ hP'.at_).le
  have hle':r.at_+1≤(qcp ts part (adv r)).2.at_:=hle
  dsimp only
  rw [e1]
  (repeat' ((conv=>whnf);first|(refine qk (fun _=>rfl) (by kernel_rfl) 300 ?_)|fail))
  ((conv=>whnf);refine CallY.trip [0] (hps (adv r) hP') (by kernel_rfl) leA qa (by exact qb rfl) (by exact qb rfl) ?_)
  (conv=>whnf)
  refine CallY.con (qhu 1 a (qcp ts part (adv r)).1) (by rfl) leA ?_
  ((conv=>whnf);refine AltG.far 4 [2] (by kernel_rfl) farA (EndG.go ?_))
  ((conv=>whnf);refine ⟨(k,binT 1 a (qcp ts part (adv r)).1,(qcp ts part (adv r)).2),⟨hP'.step (hrs _ hP'.at_),hj,by dsimp only;omega⟩,⟨qa,qa⟩,⟨qa,qa⟩,?_⟩;(first|omega|(dsimp only;omega)|skip))
 ·have e1:took ts r qhr=r:=ze (by rw [hb];decide)
  rw [js,ze (by rw [hb];decide)] at hj
  rw [← hj]
  dsimp only
  rw [e1]
  exact ⟨Le.refl _,qa⟩
theorem jbe (ht:ToksOk ts) {part:Ps→Tr × Ps} (hr:Runs ts part) (hp:∀ q,Pre ts n q→RdT ts 114 part q):∀ q,Pre ts n q→RdT ts 71 (qal ts part) q:=by
 intro p h
 have h2:=ht.len
 have hps:=jmy ht hr hp
 have hrs:=qiw ht hr
 have hs:=hrs p h.at_
 have hq:=h.step hs
 refine zM {} 300 Try.func71 (fun c0 rdb mpb=>?_)
 ((conv=>whnf);refine zT 300 [0] (hps p h) qa ?_)
 ((conv=>whnf);refine qbs (fun _=>rfl) 300 1 (fun _:Nat × Tr × Ps=>[]) (fun g=>[(2,.box 62 g.2.1.cells),(0,pso ts g.2.2)]) (fun g=>Pre ts n g.2.2∧js (andF ts part) (fun p=>sees ts p sOr2) (fun _=>0) g.1 g.2.1 g.2.2=qal ts part p∧(ts.length:Int) - g.2.2.at_≤g.1) (fun g=>((ts.length:Int) - g.2.2.at_).toNat) ((ts.length,(andF ts part p).1,(andF ts part p).2)) (⟨hq,rfl,by have:=hq.at_.lo;simp only;omega⟩) qa qa (fun _=>rfl) (by kernel_rfl) ?_;(conv=>whnf))
 rintro ⟨k,a,r⟩ ⟨hP,hj,hk⟩
 simp only at hP hj hk
 have h0:=hP.at_.lo
 have h1:=hP.at_.hi
 obtain ⟨k,rfl⟩:∃ k',k=k'+1:=⟨k - 1,by omega⟩
 ((conv=>whnf);refine zT 300 [0] (qbp ht hP.at_ sOr2) qa ?_)
 (repeat' ((conv=>whnf);first|refine Ob.auto ?_|(apply zB <;> intro hb <;> (try simp [-zd] at hb) <;> try (exfalso;omega))))
 ·have e1:took ts r sOr2=adv r:=zf hb
  have hst:=qf ht hP.at_ hb
  have hP':=hP.step hst
  rw [js,zf hb] at hj
  have hle:=(hrs _ hP'.at_).le
  have hle':r.at_+1≤(andF ts part (adv r)).2.at_:=hle
  dsimp only
  rw [e1]
  (repeat' ((conv=>whnf);first|(refine qk (fun _=>rfl) (by kernel_rfl) 300 ?_)|fail))
  ((conv=>whnf);refine CallY.trip [0] (hps (adv r) hP') (by kernel_rfl) leA qa (by exact qb rfl) (by exact qb rfl) ?_)
  (conv=>whnf)
  refine CallY.con (qhu 0 a (andF ts part (adv r)).1) (by rfl) leA ?_
  ((conv=>whnf);refine AltG.far 4 [2] (by kernel_rfl) farA (EndG.go ?_))
  ((conv=>whnf);refine ⟨(k,binT 0 a (andF ts part (adv r)).1,(andF ts part (adv r)).2),⟨hP'.step (hrs _ hP'.at_),hj,by dsimp only;omega⟩,⟨qa,qa⟩,⟨qa,qa⟩,?_⟩;(first|omega|(dsimp only;omega)|skip))
 ·have e1:took ts r sOr2=r:=ze (by rw [hb];decide)
  rw [js,ze (by rw [hb];decide)] at hj
  rw [← hj]
  dsimp only
  rw [e1]
  exact ⟨Le.refl _,qa⟩
end
end Go.Proofs.Ythfaleaojlnnoaa
end
