/- Some texts of the library, one behind the other. -/
import Derived.Test.YtikahnkkfkoglaaGreatDoorY223
import Derived.Test.YtikahnkkfkoglaaGreatDoorY224
import Derived.Test.YtikahnkkfkoglaaGreatDoorY22
set_option linter.unusedSimpArgs false
set_option linter.unusedVariables false
section
namespace Go.Proofs.YtikahnkkfkoglaaGreatDoor
open List renaming getD_eq_getElem?_getD → zd
open Go Go.Sx Go.RowKit Go.St Pa
set_option maxRecDepth 100000
set_option maxHeartbeats 2000000
section
variable {ts:List Lx.Tok} {p:Ps}
abbrev pso (ts:List Lx.Tok) (p:Ps):SO:=.box 97 (p.cells ts)
theorem qgg:Con Tryz.prog 61 [.rptr (p.cells ts)] (.bool (p.err == 0)):=by
 refine zK {} 300 Tryz.func61 (fun c0 rdb=>?_)
 (repeat' ((conv=>whnf);first|refine Ob.auto ?_|fail))
 exact Le.refl _
theorem qle (h:AtOk ts p):Con Tryz.prog 62 [.rptr (p.cells ts)] (.agg (Lx.encTok (tk ts p))):=by
 have h0:=h.lo
 have h1:=h.hi
 refine zK {} 300 Tryz.func62 (fun c0 rdb=>?_)
 (repeat' ((conv=>whnf);first|refine zO ?_|refine Ob.auto ?_|refine zD 300 ?_|fail))
 exact Le.refl _
theorem qfm (h:AtOk ts p) (s:List UInt8):Con Tryz.prog 89 [.rptr (p.cells ts),.str s] (.bool (sees ts p s)):=by
 refine zK {} 300 Tryz.func89 (fun c0 rdb=>?_)
 (repeat' ((conv=>whnf);first|refine Ob.auto ?_|refine zC 300 (qle h) ?_|refine zC 300 (qgg) ?_|refine zG 300 (fun hg=>jfx _) ?_|fail))
 refine Le.of_eq (congrArg AV.bool ?_)
 unfold sees qxn
 rw [Bool.and_assoc]
theorem qtq (h:AtOk ts p) (e:Int):Trip Tryz.prog 126 [.ptr 0 0,iv e] [pso ts p] (.tup []) [(0,pso ts (bad ts p e))] 1:=by
 refine zL {} 300 Tryz.func126 (fun c0 rdb mpb=>?_)
 (repeat' ((conv=>whnf);first|(refine qi (fun _=>rfl) 300 (qle h) qc (by (repeat' (first|exact trivial|exact Le.refl _|(refine And.intro ?_ ?_))) <;> fail) (by rfl) (by kernel_rfl) ?_)|(refine qi (fun _=>rfl) 300 (qgg) qc (by (repeat' (first|exact trivial|exact Le.refl _|(refine And.intro ?_ ?_))) <;> fail) (by rfl) (by kernel_rfl) ?_)|(apply zB <;> intro hb <;> (try simp [-zd] at hb) <;> try (exfalso;omega))))
 ·have e1:bad ts p e={ p with err:=e,fat:=(tk ts p).pos }:=zb hb
  rw [e1]
  exact ⟨Le.refl _,qa⟩
 ·have e1:bad ts p e=p:=za hb
  rw [e1]
  exact ⟨Le.refl _,qa⟩
theorem qba (ht:ToksOk ts) (h:AtOk ts p) (s:List UInt8):Trip Tryz.prog 92 [.ptr 0 0,.str s] [pso ts p] (.bool (sees ts p s)) [(0,pso ts (took ts p s))] 1:=by
 have h0:=h.lo
 have h1:=h.hi
 have h2:=ht.len
 refine zL {} 300 Tryz.func92 (fun c0 rdb mpb=>?_)
 (repeat' ((conv=>whnf);first|refine Ob.auto ?_|(refine qi (fun _=>rfl) 300 (qfm h s) qc (by (repeat' (first|exact trivial|exact Le.refl _|(refine And.intro ?_ ?_))) <;> fail) (by rfl) (by kernel_rfl) ?_)|(apply zB <;> intro hb <;> (try simp [-zd] at hb) <;> try (exfalso;omega))))
 ·rw [hb,took,za (by rw [hb];decide)]
  exact ⟨Le.refl _,qa⟩
 ·rw [hb,took,zb hb]
  exact ⟨Le.refl _,qa⟩
theorem qbh (ht:ToksOk ts) (h:AtOk ts p) (s:List UInt8):Trip Tryz.prog 94 [.ptr 0 0,.str s] [pso ts p] (.tup []) [(0,pso ts (must ts p s))] 1:=by
 refine zL {} 300 Tryz.func94 (fun c0 rdb mpb=>?_)
 ((conv=>whnf);refine zT 300 [0] (qba ht h s) qa ?_)
 (repeat' ((conv=>whnf);first|(apply zB <;> intro hb <;> (try simp [-zd] at hb) <;> try (exfalso;omega))))
 ·have e1:took ts p s=p:=za (by rw [hb];decide)
  have e2:must ts p s=bad ts p 11:=za (by rw [hb];decide)
  rw [e1]
  ((conv=>whnf);refine zT 300 [0] (qtq h 11) qa ?_)
  rw [e2]
  exact ⟨Le.refl _,qa⟩
 ·have e1:took ts p s=adv p:=zb hb
  have e2:must ts p s=adv p:=zb hb
  rw [e1,e2]
  exact ⟨Le.refl _,qa⟩
theorem qih (ht:ToksOk ts) (h:AtOk ts p):Trip Tryz.prog 93 [.ptr 0 0] [pso ts p] (.str (qai ts p)) [(0,pso ts (qf ts p))] 1:=by
 have h0:=h.lo
 have h1:=h.hi
 have h2:=ht.len
 refine zL {} 300 Tryz.func93 (fun c0 rdb mpb=>?_)
 (repeat' ((conv=>whnf);first|refine Ob.auto ?_|refine zG 300 (fun hg=>jfy _) ?_|(refine qi (fun _=>rfl) 300 (qle h) qc (by (repeat' (first|exact trivial|exact Le.refl _|(refine And.intro ?_ ?_))) <;> fail) (by rfl) (by kernel_rfl) ?_)|(refine qq (fun _=>rfl) 300 (fun hg=>qgg) (fun hg=>qc) (fun hg=>(by (repeat' (first|exact trivial|exact Le.refl _|exact Le.cnd hg|(refine And.intro ?_ ?_))) <;> fail)) (by rfl) (by kernel_rfl) ?_)|(apply zB <;> intro hb <;> (try simp [-zd] at hb) <;> try (exfalso;omega))))
 ·have e:qif ts p=false:=by
   unfold qif
   rcases hb with (hb|hb)|hb <;> simp [hb]
  ((conv=>whnf);refine zT 300 [0] (qtq h 11) qa ?_)
  rw [qai,qf,za (by rw [e];decide),za (by rw [e];decide)]
  exact ⟨Le.refl _,qa⟩
 ·have e:qif ts p=true:=by
   unfold qif
   simp [hb.1.1,hb.1.2,hb.2]
  rw [qai,qf,zb e,zb e]
  exact ⟨Le.refl _,qa⟩
theorem qlf (ht:ToksOk ts) (h:AtOk ts p):Trip Tryz.prog 95 [.ptr 0 0] [pso ts p] (iv (numN ts p)) [(0,pso ts (numP ts p))] 1:=by
 have h0:=h.lo
 have h1:=h.hi
 have h2:=ht.len
 refine zL {} 300 Tryz.func95 (fun c0 rdb mpb=>?_)
 (repeat' ((conv=>whnf);first|refine Ob.auto ?_|(refine qi (fun _=>rfl) 300 (qle h) qc (by (repeat' (first|exact trivial|exact Le.refl _|(refine And.intro ?_ ?_))) <;> fail) (by rfl) (by kernel_rfl) ?_)|(refine qq (fun _=>rfl) 300 (fun hg=>qgg) (fun hg=>qc) (fun hg=>(by (repeat' (first|exact trivial|exact Le.refl _|exact Le.cnd hg|(refine And.intro ?_ ?_))) <;> fail)) (by rfl) (by kernel_rfl) ?_)|(apply zB <;> intro hb <;> (try simp [-zd] at hb) <;> try (exfalso;omega))))
 ·have e:qhe ts p=false:=by
   unfold qhe
   rcases hb with hb|hb <;> simp [hb]
  ((conv=>whnf);refine zT 300 [0] (qtq h 11) qa ?_)
  rw [numN,numP,za (by rw [e];decide),za (by rw [e];decide)]
  exact ⟨Le.refl _,qa⟩
 ·have e:qhe ts p=true:=by
   unfold qhe
   simp [hb.1,hb.2]
  have hnum:=ht.num _ (qtm h) hb.1
  have hdg:=qxq hnum.2
  rw [numN,numP,zb e,zb e]
  ((conv=>whnf);refine qm (fun _=>rfl) 300 1 (fun i:Nat=>[(4,iv (qhf ((tk ts p).s.take i))),(5,iv i)]) (fun _=>[]) (fun i=>i≤(tk ts p).s.length) (fun i=>(tk ts p).s.length - i) (0) (by omega) qa qa (fun _=>rfl) (by kernel_rfl) ?_;(conv=>whnf))
  intro i hi
  have h3:=hdg i hi
  have h6:(10:Int) ^ i≤10 ^ 6:=by exact_mod_cast Nat.pow_le_pow_right (show 0<10 by decide) (show i≤6 by omega)
  have hby:i<(tk ts p).s.length→qbi (tk ts p).s (i:Int)=(((tk ts p).s[i]?.getD 0).toNat:Int)∧48≤((tk ts p).s[i]?.getD 0).toNat∧((tk ts p).s[i]?.getD 0).toNat≤57:=fun hlt=>by
   have h7:=hnum.2 _ (zaa hlt)
   rw [ze hlt]
   exact ⟨Lx.byteAt_get hlt,h7⟩
  (repeat' ((conv=>whnf);first|refine Ob.auto ?_|(refine Ob.intro (by (first|exact ⟨by omega,by omega⟩|exact qeb (by omega) (by omega)|exact ⟨by have:=hby (by omega);show (0:Int)≤_;omega,by have:=hby (by omega);show _≤(255:Int);omega⟩|exact qeb (by have:=hby (by omega);omega) (by have:=hby (by omega);omega))) ?_)|(apply zB <;> intro hb <;> (try simp [-zd] at hb) <;> try (exfalso;omega))))
  ·have h7:=hby hb
   have h8:qhf ((tk ts p).s.take (i+1))=10 * qhf ((tk ts p).s.take i)+(qbi (tk ts p).s (i:Int) - 48):=by
    rw [List.take_succ_eq_append_getElem hb,jfr,Lx.byteAt_get hb]
   ((conv=>whnf);refine ⟨i+1,by omega,⟨⟨Le.of_eq (congrArg iv h8.symm),Le.refl _,trivial⟩,qa⟩,⟨qa,qa⟩,?_⟩;(first|omega|(dsimp only;omega)|skip))
  ·rw [zbi hb]
   exact ⟨Le.refl _,qa⟩
theorem qya (ht:ToksOk ts) (h:AtOk ts p) (s:List UInt8):Trip Tryz.prog 96 [.ptr 0 0,.str s] [pso ts p] (iv (qhg ts p s)) [(0,pso ts (took ts p s))] 1:=by
 refine zL {} 300 Tryz.func96 (fun c0 rdb mpb=>?_)
 ((conv=>whnf);refine zT 300 [0] (qba ht h s) qa ?_)
 (repeat' ((conv=>whnf);first|(apply zB <;> intro hb <;> (try simp [-zd] at hb) <;> try (exfalso;omega))))
 ·rw [qhg,zb hb]
  exact ⟨Le.refl _,qa⟩
 ·rw [qhg,za (by rw [hb];decide)]
  exact ⟨Le.refl _,qa⟩
theorem qlg (h:AtOk ts p) (k:Int):Con Tryz.prog 60 [.rptr (p.cells ts),iv k] (.agg [iv k,.nils,.nils,.nils,iv (tk ts p).pos,.nils]):=by
 refine zK {} 300 Tryz.func60 (fun c0 rdb=>?_)
 (repeat' ((conv=>whnf);first|refine Ob.auto ?_|refine zC 300 (qle h) ?_|fail))
 exact Le.refl _
theorem qna (h:AtOk ts p) (hd:0≤p.deep∧p.deep≤100000):Trip Tryz.prog 124 [.ptr 0 0] [pso ts p] (.tup []) [(0,pso ts (inP ts p))] 1:=by
 refine zL {} 300 Tryz.func124 (fun c0 rdb mpb=>?_)
 (repeat' ((conv=>whnf);first|refine Ob.auto ?_|(apply zB <;> intro hb <;> (try simp [-zd] at hb) <;> try (exfalso;omega))))
 ·have h':AtOk ts { p with deep:=p.deep+1 }:=⟨h.lo,h.hi⟩
  ((conv=>whnf);refine zT 300 [0] (qtq h' 12) qa ?_)
  rw [inP,zb (by omega)]
  exact ⟨Le.refl _,qa⟩
 ·rw [inP,za (by omega)]
  exact ⟨Le.refl _,qa⟩
end
set_option maxHeartbeats 4000000
structure Pre (ts:List Lx.Tok) (n:Nat) (p:Ps):Prop where
 at_:AtOk ts p
 deep:0≤p.deep∧p.deep≤p.at_+1
 left:(ts.length:Int) - p.at_≤n
section
variable {ts:List Lx.Tok} {p q:Ps} {n:Nat}
theorem Pre.step (h:Pre ts n p) (k:Step ts p q):Pre ts n q:=
 ⟨k.ok h.at_,by have:=h.deep;have:=k.deep;have:=k.le;omega,by have:=h.left;have:=k.le;omega⟩
abbrev RdT (ts:List Lx.Tok) (f:FuncId) (F:Ps→Tr × Ps) (p:Ps):Prop:=Trip Tryz.prog f [.ptr 0 0] [pso ts p] (F p).1.av [(0,pso ts (F p).2)] 1
theorem jtv (a b:Tr):Le (.slc 6 2 (chop 6 (a.cells++b.cells))) (qmy [a,b]):=Le.slc rfl (fun i hi=>by
 match i,hi with
 | 0,_=>exact (Tr.cellsL_get [a,b] 0 (Nat.zero_lt_succ _)).symm
 | 1,_=>exact (Tr.cellsL_get [a,b] 1 (zaw _)).symm)
theorem qii (sg:Int) (a b:Tr):Con Tryz.prog 128 [iv sg,a.av,b.av] (binT sg a b).av:=by
 refine zK {} 300 Tryz.func128 (fun c0 rdb=>?_)
 (repeat' ((conv=>whnf);first|refine Ob.auto ?_|fail))
 refine Le.agg ⟨Le.refl _,Le.nils _ _,Le.slc rfl (fun i hi=>?_),Le.refl _,Le.refl _,jtv a b,trivial⟩
 obtain rfl:i=0:=by omega
 rfl
theorem jtw (ht:ToksOk ts) {part:Ps→Tr × Ps} (hr:Runs ts part) (hp:∀ q,Pre ts n q→RdT ts 154 part q):∀ q,Pre ts n q→RdT ts 153 (qcp ts part) q:=by
 intro p h
 have h2:=ht.len
 have hps:=hp
 have hrs:=hr
 have hs:=hrs p h.at_
 have hq:=h.step hs
 refine zM {} 300 Tryz.func153 (fun c0 rdb mpb=>?_)
 ((conv=>whnf);refine zT 300 [0] (hps p h) qa ?_)
 ((conv=>whnf);refine qm (fun _=>rfl) 300 1 (fun _:Nat × Tr × Ps=>[]) (fun g=>[(2,.box 102 g.2.1.cells),(0,pso ts g.2.2)]) (fun g=>Pre ts n g.2.2∧qaz (part) (qeg ts) (qjn ts) g.1 g.2.1 g.2.2=qcp ts part p∧(ts.length:Int) - g.2.2.at_≤g.1) (fun g=>((ts.length:Int) - g.2.2.at_).toNat) ((ts.length,(part p).1,(part p).2)) (⟨hq,rfl,by have:=hq.at_.lo;simp only;omega⟩) qa qa (fun _=>rfl) (by kernel_rfl) ?_;(conv=>whnf))
 rintro ⟨k,a,r⟩ ⟨hP,hj,hk⟩
 simp only at hP hj hk
 have h0:=hP.at_.lo
 have h1:=hP.at_.hi
 obtain ⟨k,rfl⟩:∃ k',k=k'+1:=⟨k - 1,by omega⟩
 (repeat' ((conv=>whnf);first|refine Ob.auto ?_|(refine Ob.intro (by (exact qeb (by dsimp only;omega) (by dsimp only;omega))) ?_)|(refine qi (fun _=>rfl) 300 (qfm hP.at_ _) qc (by (repeat' (first|exact trivial|exact Le.refl _|(refine And.intro ?_ ?_))) <;> fail) (by rfl) (by kernel_rfl) ?_)|(refine qq (fun _=>rfl) 300 (fun hg=>qfm hP.at_ _) (fun hg=>qc) (fun hg=>(by (repeat' (first|exact trivial|exact Le.refl _|exact Le.cnd hg|(refine And.intro ?_ ?_))) <;> fail)) (by rfl) (by kernel_rfl) ?_)|(apply zB <;> intro hb <;> (try simp [-zd] at hb) <;> try (exfalso;omega))))
 ·have hc:(qeg ts) r=true:=by simp [qeg,sumC, *]
  have hsg:(qjn ts) r=6:=by unfold qjn;rw [zb hb]
  have hst:=qh ht hP.at_ hb
  have hP':=hP.step hst
  rw [qaz,zb hc,hsg] at hj
  have hle:=(hrs _ hP'.at_).le
  have hle':r.at_+1≤(part (adv r)).2.at_:=hle
  (repeat' ((conv=>whnf);first|(refine qbc (fun _=>rfl) (by kernel_rfl) 300 ?_)|fail))
  ((conv=>whnf);refine CallY.trip [0] (hps (adv r) hP') (by kernel_rfl) leA qa (by exact qb rfl) (by exact qb rfl) ?_)
  (conv=>whnf)
  refine CallY.con (qii 6 a (part (adv r)).1) (by rfl) leA ?_
  ((conv=>whnf);refine AltG.far 5 [2] (by kernel_rfl) farA (EndG.go ?_))
  ((conv=>whnf);refine ⟨(k,binT 6 a (part (adv r)).1,(part (adv r)).2),⟨hP'.step (hrs _ hP'.at_),hj,by dsimp only;omega⟩,⟨qa,qa⟩,⟨qa,qa⟩,?_⟩;(first|omega|(dsimp only;omega)|skip))
 ·have hc:(qeg ts) r=true:=by simp [qeg,sumC, *]
  have hsg:(qjn ts) r=7:=by unfold qjn;rw [za (by simp [*]),zb hb]
  have hst:=qh ht hP.at_ hb
  have hP':=hP.step hst
  rw [qaz,zb hc,hsg] at hj
  have hle:=(hrs _ hP'.at_).le
  have hle':r.at_+1≤(part (adv r)).2.at_:=hle
  (repeat' ((conv=>whnf);first|(refine qbc (fun _=>rfl) (by kernel_rfl) 300 ?_)|fail))
  ((conv=>whnf);refine CallY.trip [0] (hps (adv r) hP') (by kernel_rfl) leA qa (by exact qb rfl) (by exact qb rfl) ?_)
  (conv=>whnf)
  refine CallY.con (qii 7 a (part (adv r)).1) (by rfl) leA ?_
  ((conv=>whnf);refine AltG.far 5 [2] (by kernel_rfl) farA (EndG.go ?_))
  ((conv=>whnf);refine ⟨(k,binT 7 a (part (adv r)).1,(part (adv r)).2),⟨hP'.step (hrs _ hP'.at_),hj,by dsimp only;omega⟩,⟨qa,qa⟩,⟨qa,qa⟩,?_⟩;(first|omega|(dsimp only;omega)|skip))
 ·have hpct:sees ts r sPct=true:=by simp_all
  have hc:qeg ts r=true:=by unfold qeg;rw [hpct];simp
  have hsg:(qjn ts) r=8:=by unfold qjn;rw [za (by simp [*]),za (by simp [*])]
  have hst:=qh ht hP.at_ hpct
  have hP':=hP.step hst
  rw [qaz,zb hc,hsg] at hj
  have hle:=(hrs _ hP'.at_).le
  have hle':r.at_+1≤(part (adv r)).2.at_:=hle
  (repeat' ((conv=>whnf);first|(refine qbc (fun _=>rfl) (by kernel_rfl) 300 ?_)|fail))
  ((conv=>whnf);refine CallY.trip [0] (hps (adv r) hP') (by kernel_rfl) leA qa (by exact qb rfl) (by exact qb rfl) ?_)
  (conv=>whnf)
  refine CallY.con (qii 8 a (part (adv r)).1) (by rfl) leA ?_
  ((conv=>whnf);refine AltG.far 5 [2] (by kernel_rfl) farA (EndG.go ?_))
  ((conv=>whnf);refine ⟨(k,binT 8 a (part (adv r)).1,(part (adv r)).2),⟨hP'.step (hrs _ hP'.at_),hj,by dsimp only;omega⟩,⟨qa,qa⟩,⟨qa,qa⟩,?_⟩;(first|omega|(dsimp only;omega)|skip))
 ·have hc:¬ ((qeg ts) r=true):=by simp [qeg,sumC,hb]
  rw [qaz,za hc] at hj
  rw [← hj]
  exact ⟨Le.refl _,qa⟩
theorem jtx (ht:ToksOk ts) {part:Ps→Tr × Ps} (hr:Runs ts part) (hp:∀ q,Pre ts n q→RdT ts 154 part q):∀ q,Pre ts n q→RdT ts 150 (sumF ts part) q:=by
 intro p h
 have h2:=ht.len
 have hps:=jtw ht hr hp
 have hrs:=qqd ht hr
 have hs:=hrs p h.at_
 have hq:=h.step hs
 refine zM {} 300 Tryz.func150 (fun c0 rdb mpb=>?_)
 ((conv=>whnf);refine zT 300 [0] (hps p h) qa ?_)
 ((conv=>whnf);refine qm (fun _=>rfl) 300 1 (fun _:Nat × Tr × Ps=>[]) (fun g=>[(2,.box 102 g.2.1.cells),(0,pso ts g.2.2)]) (fun g=>Pre ts n g.2.2∧qaz (qcp ts part) (sumC ts) (sumS ts) g.1 g.2.1 g.2.2=sumF ts part p∧(ts.length:Int) - g.2.2.at_≤g.1) (fun g=>((ts.length:Int) - g.2.2.at_).toNat) ((ts.length,(qcp ts part p).1,(qcp ts part p).2)) (⟨hq,rfl,by have:=hq.at_.lo;simp only;omega⟩) qa qa (fun _=>rfl) (by kernel_rfl) ?_;(conv=>whnf))
 rintro ⟨k,a,r⟩ ⟨hP,hj,hk⟩
 simp only at hP hj hk
 have h0:=hP.at_.lo
 have h1:=hP.at_.hi
 obtain ⟨k,rfl⟩:∃ k',k=k'+1:=⟨k - 1,by omega⟩
 (repeat' ((conv=>whnf);first|refine Ob.auto ?_|(refine Ob.intro (by (exact qeb (by dsimp only;omega) (by dsimp only;omega))) ?_)|(refine qi (fun _=>rfl) 300 (qfm hP.at_ _) qc (by (repeat' (first|exact trivial|exact Le.refl _|(refine And.intro ?_ ?_))) <;> fail) (by rfl) (by kernel_rfl) ?_)|(refine qq (fun _=>rfl) 300 (fun hg=>qfm hP.at_ _) (fun hg=>qc) (fun hg=>(by (repeat' (first|exact trivial|exact Le.refl _|exact Le.cnd hg|(refine And.intro ?_ ?_))) <;> fail)) (by rfl) (by kernel_rfl) ?_)|(apply zB <;> intro hb <;> (try simp [-zd] at hb) <;> try (exfalso;omega))))
 ·have hc:(sumC ts) r=true:=by simp [qeg,sumC, *]
  have hsg:(sumS ts) r=4:=by unfold sumS;rw [zb hb]
  have hst:=qh ht hP.at_ hb
  have hP':=hP.step hst
  rw [qaz,zb hc,hsg] at hj
  have hle:=(hrs _ hP'.at_).le
  have hle':r.at_+1≤(qcp ts part (adv r)).2.at_:=hle
  (repeat' ((conv=>whnf);first|(refine qbc (fun _=>rfl) (by kernel_rfl) 300 ?_)|fail))
  ((conv=>whnf);refine CallY.trip [0] (hps (adv r) hP') (by kernel_rfl) leA qa (by exact qb rfl) (by exact qb rfl) ?_)
  (conv=>whnf)
  refine CallY.con (qii 4 a (qcp ts part (adv r)).1) (by rfl) leA ?_
  ((conv=>whnf);refine AltG.far 5 [2] (by kernel_rfl) farA (EndG.go ?_))
  ((conv=>whnf);refine ⟨(k,binT 4 a (qcp ts part (adv r)).1,(qcp ts part (adv r)).2),⟨hP'.step (hrs _ hP'.at_),hj,by dsimp only;omega⟩,⟨qa,qa⟩,⟨qa,qa⟩,?_⟩;(first|omega|(dsimp only;omega)|skip))
 ·have hmin:sees ts r qfl=true:=by simp_all
  have hc:sumC ts r=true:=by unfold sumC;rw [hmin];simp
  have hsg:(sumS ts) r=5:=by unfold sumS;rw [za (by simp [*])]
  have hst:=qh ht hP.at_ hmin
  have hP':=hP.step hst
  rw [qaz,zb hc,hsg] at hj
  have hle:=(hrs _ hP'.at_).le
  have hle':r.at_+1≤(qcp ts part (adv r)).2.at_:=hle
  (repeat' ((conv=>whnf);first|(refine qbc (fun _=>rfl) (by kernel_rfl) 300 ?_)|fail))
  ((conv=>whnf);refine CallY.trip [0] (hps (adv r) hP') (by kernel_rfl) leA qa (by exact qb rfl) (by exact qb rfl) ?_)
  (conv=>whnf)
  refine CallY.con (qii 5 a (qcp ts part (adv r)).1) (by rfl) leA ?_
  ((conv=>whnf);refine AltG.far 5 [2] (by kernel_rfl) farA (EndG.go ?_))
  ((conv=>whnf);refine ⟨(k,binT 5 a (qcp ts part (adv r)).1,(qcp ts part (adv r)).2),⟨hP'.step (hrs _ hP'.at_),hj,by dsimp only;omega⟩,⟨qa,qa⟩,⟨qa,qa⟩,?_⟩;(first|omega|(dsimp only;omega)|skip))
 ·have hc:¬ ((sumC ts) r=true):=by simp [qeg,sumC,hb]
  rw [qaz,za hc] at hj
  rw [← hj]
  exact ⟨Le.refl _,qa⟩
theorem jty (ht:ToksOk ts) {part:Ps→Tr × Ps} (hr:Runs ts part) (hp:∀ q,Pre ts n q→RdT ts 154 part q):∀ q,Pre ts n q→RdT ts 144 (qck ts part) q:=by
 intro p h
 have h2:=ht.len
 have hps:=jtx ht hr hp
 have hrs:=qxt ht hr
 have hs:=hrs p h.at_
 have hq:=h.step hs
 refine zM {} 300 Tryz.func144 (fun c0 rdb mpb=>?_)
 ((conv=>whnf);refine zT 300 [0] (hps p h) qa ?_)
 ((conv=>whnf);refine zT 300 [0] (qba ht hq.at_ sLt) qa ?_)
 (repeat' ((conv=>whnf);first|refine Ob.auto ?_|(apply zB <;> intro hb <;> (try simp [-zd] at hb) <;> try (exfalso;omega))))
 ·have e1:took ts (sumF ts part p).2 sLt=adv (sumF ts part p).2:=zb hb
  have hP':=hq.step (qh ht hq.at_ hb)
  have e2:qck ts part p=(binT 3 (sumF ts part p).1 (sumF ts part (adv (sumF ts part p).2)).1,(sumF ts part (adv (sumF ts part p).2)).2):=zb hb
  rw [e1,e2]
  (repeat' ((conv=>whnf);first|(refine qbc (fun _=>rfl) (by kernel_rfl) 300 ?_)|fail))
  ((conv=>whnf);refine CallY.trip [0] (hps _ hP') (by kernel_rfl) leA qa (by exact qb rfl) (by exact qb rfl) ?_)
  (conv=>whnf)
  refine CallY.con (qii 3 (sumF ts part p).1 (sumF ts part (adv (sumF ts part p).2)).1) (by rfl) leA ?_
  ((conv=>whnf);refine AltG.far 4 [2] (by kernel_rfl) farA (EndG.go ?_))
  (repeat' ((conv=>whnf);first|refine Ob.auto ?_|fail))
  exact ⟨Le.refl _,qa⟩
 ·have e1:took ts (sumF ts part p).2 sLt=(sumF ts part p).2:=za (by rw [hb];decide)
  have e2:qck ts part p=sumF ts part p:=za (by rw [hb];decide)
  rw [e1,e2]
  exact ⟨Le.refl _,qa⟩
theorem jtz (ht:ToksOk ts) {part:Ps→Tr × Ps} (hr:Runs ts part) (hp:∀ q,Pre ts n q→RdT ts 154 part q):∀ q,Pre ts n q→RdT ts 136 (qdu ts part) q:=by
 intro p h
 have h2:=ht.len
 have hps:=jty ht hr hp
 have hrs:=qxu ht hr
 have hs:=hrs p h.at_
 have hq:=h.step hs
 refine zM {} 300 Tryz.func136 (fun c0 rdb mpb=>?_)
 ((conv=>whnf);refine zT 300 [0] (hps p h) qa ?_)
 ((conv=>whnf);refine zT 300 [0] (qba ht hq.at_ sEq2) qa ?_)
 (repeat' ((conv=>whnf);first|refine Ob.auto ?_|(apply zB <;> intro hb <;> (try simp [-zd] at hb) <;> try (exfalso;omega))))
 ·have e1:took ts (qck ts part p).2 sEq2=adv (qck ts part p).2:=zb hb
  have hP':=hq.step (qh ht hq.at_ hb)
  have e2:qdu ts part p=(binT 2 (qck ts part p).1 (qck ts part (adv (qck ts part p).2)).1,(qck ts part (adv (qck ts part p).2)).2):=zb hb
  rw [e1,e2]
  (repeat' ((conv=>whnf);first|(refine qbc (fun _=>rfl) (by kernel_rfl) 300 ?_)|fail))
  ((conv=>whnf);refine CallY.trip [0] (hps _ hP') (by kernel_rfl) leA qa (by exact qb rfl) (by exact qb rfl) ?_)
  (conv=>whnf)
  refine CallY.con (qii 2 (qck ts part p).1 (qck ts part (adv (qck ts part p).2)).1) (by rfl) leA ?_
  ((conv=>whnf);refine AltG.far 4 [2] (by kernel_rfl) farA (EndG.go ?_))
  (repeat' ((conv=>whnf);first|refine Ob.auto ?_|fail))
  exact ⟨Le.refl _,qa⟩
 ·have e1:took ts (qck ts part p).2 sEq2=(qck ts part p).2:=za (by rw [hb];decide)
  have e2:qdu ts part p=qck ts part p:=za (by rw [hb];decide)
  rw [e1,e2]
  exact ⟨Le.refl _,qa⟩
theorem jua (ht:ToksOk ts) {part:Ps→Tr × Ps} (hr:Runs ts part) (hp:∀ q,Pre ts n q→RdT ts 154 part q):∀ q,Pre ts n q→RdT ts 127 (andF ts part) q:=by
 intro p h
 have h2:=ht.len
 have hps:=jtz ht hr hp
 have hrs:=qqe ht hr
 have hs:=hrs p h.at_
 have hq:=h.step hs
 refine zM {} 300 Tryz.func127 (fun c0 rdb mpb=>?_)
 ((conv=>whnf);refine zT 300 [0] (hps p h) qa ?_)
 ((conv=>whnf);refine qm (fun _=>rfl) 300 1 (fun _:Nat × Tr × Ps=>[]) (fun g=>[(2,.box 102 g.2.1.cells),(0,pso ts g.2.2)]) (fun g=>Pre ts n g.2.2∧qaz (qdu ts part) (fun p=>sees ts p qqa) (fun _=>1) g.1 g.2.1 g.2.2=andF ts part p∧(ts.length:Int) - g.2.2.at_≤g.1) (fun g=>((ts.length:Int) - g.2.2.at_).toNat) ((ts.length,(qdu ts part p).1,(qdu ts part p).2)) (⟨hq,rfl,by have:=hq.at_.lo;simp only;omega⟩) qa qa (fun _=>rfl) (by kernel_rfl) ?_;(conv=>whnf))
 rintro ⟨k,a,r⟩ ⟨hP,hj,hk⟩
 simp only at hP hj hk
 have h0:=hP.at_.lo
 have h1:=hP.at_.hi
 obtain ⟨k,rfl⟩:∃ k',k=k'+1:=⟨k - 1,by omega⟩
 ((conv=>whnf);refine zT 300 [0] (qba ht hP.at_ qqa) qa ?_)
 (repeat' ((conv=>whnf);first|refine Ob.auto ?_|(apply zB <;> intro hb <;> (try simp [-zd] at hb) <;> try (exfalso;omega))))
 ·have e1:took ts r qqa=adv r:=zb hb
  have hst:=qh ht hP.at_ hb
  have hP':=hP.step hst
  rw [qaz,zb hb] at hj
  have hle:=(hrs _ hP'.at_).le
  have hle':r.at_+1≤(qdu ts part (adv r)).2.at_:=hle
  dsimp only
  rw [e1]
  (repeat' ((conv=>whnf);first|(refine qbc (fun _=>rfl) (by kernel_rfl) 300 ?_)|fail))
  ((conv=>whnf);refine CallY.trip [0] (hps (adv r) hP') (by kernel_rfl) leA qa (by exact qb rfl) (by exact qb rfl) ?_)
  (conv=>whnf)
  refine CallY.con (qii 1 a (qdu ts part (adv r)).1) (by rfl) leA ?_
  ((conv=>whnf);refine AltG.far 4 [2] (by kernel_rfl) farA (EndG.go ?_))
  ((conv=>whnf);refine ⟨(k,binT 1 a (qdu ts part (adv r)).1,(qdu ts part (adv r)).2),⟨hP'.step (hrs _ hP'.at_),hj,by dsimp only;omega⟩,⟨qa,qa⟩,⟨qa,qa⟩,?_⟩;(first|omega|(dsimp only;omega)|skip))
 ·have e1:took ts r qqa=r:=za (by rw [hb];decide)
  rw [qaz,za (by rw [hb];decide)] at hj
  rw [← hj]
  dsimp only
  rw [e1]
  exact ⟨Le.refl _,qa⟩
theorem jge (ht:ToksOk ts) {part:Ps→Tr × Ps} (hr:Runs ts part) (hp:∀ q,Pre ts n q→RdT ts 154 part q):∀ q,Pre ts n q→RdT ts 97 (qeh ts part) q:=by
 intro p h
 have h2:=ht.len
 have hps:=jua ht hr hp
 have hrs:=qqf ht hr
 have hs:=hrs p h.at_
 have hq:=h.step hs
 refine zM {} 300 Tryz.func97 (fun c0 rdb mpb=>?_)
 ((conv=>whnf);refine zT 300 [0] (hps p h) qa ?_)
 ((conv=>whnf);refine qm (fun _=>rfl) 300 1 (fun _:Nat × Tr × Ps=>[]) (fun g=>[(2,.box 102 g.2.1.cells),(0,pso ts g.2.2)]) (fun g=>Pre ts n g.2.2∧qaz (andF ts part) (fun p=>sees ts p sOr2) (fun _=>0) g.1 g.2.1 g.2.2=qeh ts part p∧(ts.length:Int) - g.2.2.at_≤g.1) (fun g=>((ts.length:Int) - g.2.2.at_).toNat) ((ts.length,(andF ts part p).1,(andF ts part p).2)) (⟨hq,rfl,by have:=hq.at_.lo;simp only;omega⟩) qa qa (fun _=>rfl) (by kernel_rfl) ?_;(conv=>whnf))
 rintro ⟨k,a,r⟩ ⟨hP,hj,hk⟩
 simp only at hP hj hk
 have h0:=hP.at_.lo
 have h1:=hP.at_.hi
 obtain ⟨k,rfl⟩:∃ k',k=k'+1:=⟨k - 1,by omega⟩
 ((conv=>whnf);refine zT 300 [0] (qba ht hP.at_ sOr2) qa ?_)
 (repeat' ((conv=>whnf);first|refine Ob.auto ?_|(apply zB <;> intro hb <;> (try simp [-zd] at hb) <;> try (exfalso;omega))))
 ·have e1:took ts r sOr2=adv r:=zb hb
  have hst:=qh ht hP.at_ hb
  have hP':=hP.step hst
  rw [qaz,zb hb] at hj
  have hle:=(hrs _ hP'.at_).le
  have hle':r.at_+1≤(andF ts part (adv r)).2.at_:=hle
  dsimp only
  rw [e1]
  (repeat' ((conv=>whnf);first|(refine qbc (fun _=>rfl) (by kernel_rfl) 300 ?_)|fail))
  ((conv=>whnf);refine CallY.trip [0] (hps (adv r) hP') (by kernel_rfl) leA qa (by exact qb rfl) (by exact qb rfl) ?_)
  (conv=>whnf)
  refine CallY.con (qii 0 a (andF ts part (adv r)).1) (by rfl) leA ?_
  ((conv=>whnf);refine AltG.far 4 [2] (by kernel_rfl) farA (EndG.go ?_))
  ((conv=>whnf);refine ⟨(k,binT 0 a (andF ts part (adv r)).1,(andF ts part (adv r)).2),⟨hP'.step (hrs _ hP'.at_),hj,by dsimp only;omega⟩,⟨qa,qa⟩,⟨qa,qa⟩,?_⟩;(first|omega|(dsimp only;omega)|skip))
 ·have e1:took ts r sOr2=r:=za (by rw [hb];decide)
  rw [qaz,za (by rw [hb];decide)] at hj
  rw [← hj]
  dsimp only
  rw [e1]
  exact ⟨Le.refl _,qa⟩
end
end Go.Proofs.YtikahnkkfkoglaaGreatDoor
end
