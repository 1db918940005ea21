/- Contracts of the document's parser: items, the whole. -/
import Derived.Test.YtcfllgdfhfcicaaGreatDoorQPa8
import Derived.Test.YtcfllgdfhfcicaaGreatDoorQ2
namespace Go.Proofs.YtcfllgdfhfcicaaGreatDoor
open List renaming getD_eq_getElem?_getD → zd
open Go Go.Sx Go.RowKit Go.St Pa
set_option maxRecDepth 100000
set_option maxHeartbeats 8000000
section
variable {ts:List Lx.Tok} {p q:Ps} {n:Nat}
theorem jow {f:Nat→List AV} {a b c d:Int} (h:f 0=[iv a]) (h':f 1=[iv b]) (h'':f 2=[iv c]) (h''':f 3=[iv d]):Le (.slc 1 4 f) (ints [a,b,c,d]):=Le.slc rfl (fun i hi=>by
 rcases (by omega:i=0∨i=1∨i=2∨i=3) with rfl|rfl|rfl|rfl
 ·exact h
 ·exact h'
 ·exact h''
 ·exact h''')
theorem jox {l:List Tr} {t:Tr} {g:Nat→List AV} (hg:g 0=t.cells):∀ j,j<l.length+1→
  LeL (appF l.length (qca l) 1 g j) (qca (l++[t]) j):=by
 intro j hj
 refine LeL.of_eq ?_
 have e:qca (l++[t]) j=((l++[t]).getD j Tr.none).cells:=Tr.cellsL_get _ _ (by simp;omega)
 rw [e,qil]
 by_cases h:j<l.length
 ·rw [if_pos h,appF,if_pos h]
  exact Tr.cellsL_get _ _ h
 ·obtain rfl:j=l.length:=by omega
  rw [if_neg (by omega),if_pos rfl,appF,if_neg (by omega),if_pos (by omega),Nat.sub_self]
  exact hg
theorem joy (ht:ToksOk ts) (h:Pre ts n p):RdT ts 75 (itemF ts) p:=by
 have h2:=ht.len
 refine zM {} 600 Tryz.func75 (fun c0 rdb mpb=>?_)
 (repeat' ((conv=>whnf);first|refine zE 600 (qkg h.at_ _) ?_|fail))
 (repeat' ((conv=>whnf);first|refine zE 600 (qfa h.at_ _) ?_|(apply zB <;> intro hb <;> (try simp [-zd] at hb) <;> try (exfalso;omega))))
 ·have hv:sees ts p kVar=true:=by assumption
  have e5:itemF ts p=jr ts p:=if_pos hv
  rw [e5]
  ((conv=>whnf);refine zT 600 [0] (quz ht h) qa ?_)
  (repeat' ((conv=>whnf);first|refine Ob.auto ?_|fail))
  exact ⟨Le.refl _,qa⟩
 ·have hv:sees ts p kVar=false:=by assumption
  have hp:sees ts p qw=true:=by assumption
  have e5:itemF ts p=qdr ts p:=(if_neg (by rw [hv];decide)).trans (if_pos hp)
  rw [e5]
  ((conv=>whnf);refine zT 600 [0] (jov ht h) qa ?_)
  (repeat' ((conv=>whnf);first|refine Ob.auto ?_|fail))
  exact ⟨Le.refl _,qa⟩
 have hc0:¬ (sees ts p kVar=true):=by simp_all
 have hc1:¬ (sees ts p qw=true):=by simp_all
 ((conv=>whnf);refine zT 600 [0] (qas ht h.at_ qnm) qa ?_)
 cases hkC:sees ts p qnm with
 | true=>
  have tkC:took ts p qnm=adv p:=if_pos hkC
  have h1:Pre ts n (adv p):=h.step (qg ht h.at_ hkC)
  rw [tkC]
  (repeat' ((conv=>whnf);first|(apply zB <;> intro hb <;> (try simp [-zd] at hb) <;> try (exfalso;omega))))
  have h2':=h1.step (qao ht h1.at_)
  have h3:=h2'.step (qk ht h2'.at_ sLb)
  have h4:=h3.step (qbj ht h3.at_)
  have h5:=h4.step (qk ht h4.at_ sRb)
  have h6:=h5.step (qk ht h5.at_ kOf)
  have h7:=h6.step (qbj ht h6.at_)
  have h8:=h7.step (qhq ht h7.at_ qho)
  have h9:=h8.step (qhq ht h8.at_ qis)
  have e5:itemF ts p=(.mk 1 [jz ts (adv p)] [numN ts (must ts (qe ts (adv p)) sLb),numN ts (must ts (must ts (numP ts (must ts (qe ts (adv p)) sLb)) sRb) kOf),qgq ts (numP ts (must ts (must ts (numP ts (must ts (qe ts (adv p)) sLb)) sRb) kOf)) qho,qgq ts (took ts (numP ts (must ts (must ts (numP ts (must ts (qe ts (adv p)) sLb)) sRb) kOf)) qho) qis] (tk ts p).pos [],must ts (took ts (took ts (numP ts (must ts (must ts (numP ts (must ts (qe ts (adv p)) sLb)) sRb) kOf)) qho) qis) qq):=((if_neg hc0).trans (if_neg hc1)).trans (if_pos hkC)
  rw [e5]
  (repeat' ((conv=>whnf);first|(refine qbb (fun _=>rfl) (by kernel_rfl) 600 ?_)|fail))
  ((conv=>whnf);refine CallY.trip [0] (qhr ht h1.at_) (by kernel_rfl) leA qa (by exact qb rfl) (by exact qb rfl) ?_)
  (repeat' ((conv=>whnf);first|refine Ob.auto ?_|fail))
  ((conv=>whnf);refine AltG.far 9 [2] (by kernel_rfl) farA (EndG.go ?_))
  ((conv=>whnf);refine zT 600 [0] (qav ht h2'.at_ sLb) qa ?_)
  (repeat' ((conv=>whnf);first|(refine qbb (fun _=>rfl) (by kernel_rfl) 600 ?_)|fail))
  ((conv=>whnf);refine CallY.trip [0] (qkf ht h3.at_) (by kernel_rfl) leA qa (by exact qb rfl) (by exact qb rfl) ?_)
  (repeat' ((conv=>whnf);first|refine Ob.auto ?_|fail))
  ((conv=>whnf);refine AltG.far 9 [2] (by kernel_rfl) farA (EndG.go ?_))
  ((conv=>whnf);refine zT 600 [0] (qav ht h4.at_ sRb) qa ?_)
  ((conv=>whnf);refine zT 600 [0] (qav ht h5.at_ kOf) qa ?_)
  (repeat' ((conv=>whnf);first|(refine qbb (fun _=>rfl) (by kernel_rfl) 600 ?_)|fail))
  ((conv=>whnf);refine CallY.trip [0] (qkf ht h6.at_) (by kernel_rfl) leA qa (by exact qb rfl) (by exact qb rfl) ?_)
  (repeat' ((conv=>whnf);first|refine Ob.auto ?_|fail))
  ((conv=>whnf);refine AltG.far 9 [2] (by kernel_rfl) farA (EndG.go ?_))
  (repeat' ((conv=>whnf);first|(refine qbb (fun _=>rfl) (by kernel_rfl) 600 ?_)|fail))
  ((conv=>whnf);refine CallY.trip [0] (qux ht h7.at_ qho) (by kernel_rfl) leA qa (by exact qb rfl) (by exact qb rfl) ?_)
  (repeat' ((conv=>whnf);first|refine Ob.auto ?_|fail))
  ((conv=>whnf);refine AltG.far 9 [2] (by kernel_rfl) farA (EndG.go ?_))
  (repeat' ((conv=>whnf);first|(refine qbb (fun _=>rfl) (by kernel_rfl) 600 ?_)|fail))
  ((conv=>whnf);refine CallY.trip [0] (qux ht h8.at_ qis) (by kernel_rfl) leA qa (by exact qb rfl) (by exact qb rfl) ?_)
  (repeat' ((conv=>whnf);first|refine Ob.auto ?_|fail))
  ((conv=>whnf);refine AltG.far 9 [2] (by kernel_rfl) farA (EndG.go ?_))
  ((conv=>whnf);refine zT 600 [0] (qav ht h9.at_ qq) qa ?_)
  (repeat' ((conv=>whnf);first|refine Ob.auto ?_|fail))
  refine ⟨Le.agg ⟨Le.refl _,js rfl,jow rfl rfl rfl rfl,Le.refl _,Le.refl _,Le.nils _ _,trivial⟩,qa⟩
 | false=>
  have tkC:took ts p qnm=p:=if_neg (by rw [hkC];decide)
  rw [tkC]
  (repeat' ((conv=>whnf);first|(apply zB <;> intro hb <;> (try simp [-zd] at hb) <;> try (exfalso;omega))))
  ((conv=>whnf);refine zT 600 [0] (qas ht h.at_ qnn) qa ?_)
  cases hkS:sees ts p qnn with
  | true=>
   have tkS:took ts p qnn=adv p:=if_pos hkS
   have h1:Pre ts n (adv p):=h.step (qg ht h.at_ hkS)
   rw [tkS]
   (repeat' ((conv=>whnf);first|(apply zB <;> intro hb <;> (try simp [-zd] at hb) <;> try (exfalso;omega))))
   have e5:itemF ts p=(.mk 4 [] [] (tk ts p).pos [(eF ts (adv p)).1],must ts (eF ts (adv p)).2 qq):=(((if_neg hc0).trans (if_neg hc1)).trans (if_neg (by rw [hkC];decide))).trans (if_pos hkS)
   rw [e5]
   have h2':=h1.step (qbe ht _ h1.at_)
   ((conv=>whnf);refine qbd (fun _=>rfl) (by kernel_rfl) 600 [.turn [0] [.ptr 0 0] [pso ts (adv p)] (eF ts (adv p)).1.av [(0,pso ts (eF ts (adv p)).2)]] (by kernel_rfl) ?_)
   (repeat' ((conv=>whnf);first|refine Ob.auto ?_|refine Ob.intro ?_ ?_|fail))
   ·exact ⟨e_rd ht h1.full,by kernel_rfl,leA,qa,by exact qb rfl,by exact qb rfl⟩
   ((conv=>whnf);refine zT 600 [0] (qav ht h2'.at_ qq) qa ?_)
   (repeat' ((conv=>whnf);first|refine Ob.auto ?_|fail))
   (refine ⟨Le.agg ⟨Le.refl _,?_,?_,Le.refl _,Le.refl _,?_,trivial⟩,qa⟩ <;> first|exact Le.nils _ _|exact Le.refl _|exact jm rfl|exact js rfl|exact qae rfl|exact qac rfl rfl|exact qad rfl rfl|exact qaf rfl rfl|exact qag rfl rfl rfl|exact qah (fun _ _=>rfl))
  | false=>
   have tkS:took ts p qnn=p:=if_neg (by rw [hkS];decide)
   rw [tkS]
   have e5:itemF ts p=(.mk 5 [] [] (tk ts p).pos [],must ts (must ts p qlp) qq):=(((if_neg hc0).trans (if_neg hc1)).trans (if_neg (by rw [hkC];decide))).trans (if_neg (by rw [hkS];decide))
   rw [e5]
   have h1:Pre ts n (must ts p qlp):=h.step (qk ht h.at_ _)
   (repeat' ((conv=>whnf);first|(apply zB <;> intro hb <;> (try simp [-zd] at hb) <;> try (exfalso;omega))))
   ((conv=>whnf);refine zT 600 [0] (qav ht h.at_ qlp) qa ?_)
   ((conv=>whnf);refine zT 600 [0] (qav ht h1.at_ qq) qa ?_)
   (repeat' ((conv=>whnf);first|refine Ob.auto ?_|fail))
   (refine ⟨Le.agg ⟨Le.refl _,?_,?_,Le.refl _,Le.refl _,?_,trivial⟩,qa⟩ <;> first|exact Le.nils _ _|exact Le.refl _|exact jm rfl|exact js rfl|exact qae rfl|exact qac rfl rfl|exact qad rfl rfl|exact qaf rfl rfl|exact qag rfl rfl rfl|exact qah (fun _ _=>rfl))
theorem joz (ht:ToksOk ts) (h:Pre ts n p):RdT ts 40 (qcs ts) p:=by
 have h2:=ht.len
 refine zM {} 600 Tryz.func40 (fun c0 rdb mpb=>?_)
 (repeat' ((conv=>whnf);first|refine zE 600 (qkg h.at_ _) ?_|fail))
 ((conv=>whnf);refine qqs [0,1,2] 2 rfl frzA ?_)
 (conv=>whnf)
 refine qcd 2 5 99 6 rfl rfl ?_
 ((conv=>whnf);refine qp (fun _=>rfl) 600 1 (fun _:Nat × List Tr × Ps=>[]) (fun g=>[(3,.row [] 99 6 0 g.2.1.length (qca g.2.1)),(2,.box 99 [iv 0,.nils,.nils,.nils,iv (tk ts p).pos,.own 3 0 0 g.2.1.length]),(0,pso ts g.2.2)]) (fun g=>Pre ts n g.2.2∧qds ts g.1 g.2.1 g.2.2=qds ts ts.length [] p∧(g.2.2.err=0→(ts.length:Int) - g.2.2.at_≤g.1)∧g.2.1.length+g.1≤ts.length) (fun g=>g.1) ((ts.length,[],p)) (⟨h,rfl,by have:=h.at_.lo;simp only;omega,by simp⟩) qa ⟨⟨⟨rfl,rfl,rfl⟩,rfl,rfl,fun j hj=>absurd hj (Nat.not_lt_zero j)⟩,⟨rfl,Le.refl _,Le.refl _,Le.refl _,Le.refl _,Le.refl _,Le.refl _,trivial⟩,SoLe.refl _,trivial⟩ (fun _=>rfl) (by kernel_rfl) ?_;(conv=>whnf))
 rintro ⟨m,l,r⟩ ⟨hP,hj,hk,hl⟩
 simp only at hP hj hk hl
 (repeat' ((conv=>whnf);first|refine Ob.auto ?_|refine zE 600 (qfq) ?_|refine zF 600 (fun hg=>qke hP.at_) ?_|(apply zB <;> intro hb <;> (try simp [-zd] at hb) <;> try (exfalso;omega))))
 ·obtain ⟨he',hk3⟩:=hb
  have hQ:=hP
  have hm:1≤m:=by have:=hk he';have:=hP.at_.hi;omega
  obtain ⟨m,rfl⟩:∃ m',m=m'+1:=⟨m - 1,by omega⟩
  rw [qds,if_pos ⟨he',hk3⟩] at hj
  dsimp only
  ((conv=>whnf);refine qbd (fun _=>rfl) (by kernel_rfl) 600 [.turn [0] [.ptr 0 0] [pso ts r] (itemF ts r).1.av [(0,pso ts (itemF ts r).2)]] (by kernel_rfl) ?_)
  (repeat' ((conv=>whnf);first|refine Ob.auto ?_|refine Ob.intro ?_ ?_|fail))
  ·exact ⟨joy ht hP,by kernel_rfl,leA,qa,by exact qb rfl,by exact qb rfl⟩
  have hst:=qus ht r hP.at_
  have hk':(itemF ts r).2.err=0→(ts.length:Int) - (itemF ts r).2.at_≤m:=fun h=>by have:=jbi ht r hP.at_ h;have:=hk he';omega
  have hlen:l.length+1=(l++[(itemF ts r).1]).length:=by rw [List.length_append];rfl
  ((conv=>whnf);refine ⟨(m,l++[(itemF ts r).1],(itemF ts r).2),⟨hP.step hst,hj,hk',by simp;omega⟩,⟨qa,⟨⟨⟨rfl,rfl,rfl⟩,rfl,hlen,jox (t:=(itemF ts r).1) rfl⟩,⟨rfl,Le.refl _,Le.refl _,Le.refl _,Le.refl _,Le.refl _,Le.of_eq (congrArg (AV.own _ _ _) hlen),trivial⟩,qa⟩⟩,⟨qa,qa⟩,?_⟩;(first|omega|(dsimp only;omega)|skip))
 ·have hn:¬ (r.err=0∧(tk ts r).kind≠3):=fun h=>h.2 (hb h.1)
  have e2:qds ts ts.length [] p=(l,r):=by
   rw [← hj]
   cases m with
   | zero=>rfl
   | succ m=>rw [qds,if_neg hn]
  have e5:qcs ts p=(.mk 0 [] [] (tk ts p).pos l,r):=by unfold qcs;rw [e2]
  rw [e5]
  (refine ⟨Le.agg ⟨Le.refl _,?_,?_,Le.refl _,Le.refl _,?_,trivial⟩,qa⟩ <;> first|exact Le.nils _ _|exact Le.refl _|exact jm rfl|exact js rfl|exact qae rfl|exact qac rfl rfl|exact qad rfl rfl|exact qaf rfl rfl|exact qag rfl rfl rfl|exact qah (fun _ _=>rfl))
end
end Go.Proofs.YtcfllgdfhfcicaaGreatDoor
