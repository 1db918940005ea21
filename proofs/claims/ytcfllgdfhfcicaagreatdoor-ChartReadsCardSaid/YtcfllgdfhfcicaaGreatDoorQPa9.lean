/- Contracts of the document's parser: items, the whole. -/
import Derived.Test.YtcfllgdfhfcicaaGreatDoorQPa8
import Derived.Test.YtcfllgdfhfcicaaGreatDoorQ2
namespace Go.Proofs.YtcfllgdfhfcicaaGreatDoor
open List renaming getD_eq_getElem?_getD → zd
open Go Go.Sx Go.RowKit Go.St Pa
set_option maxRecDepth 100000
set_option maxHeartbeats 8000000
section
variable {ts:List Lx.Tok} {p q:Ps} {n:Nat}
theorem jou {f:Nat→List AV} {a b c d:Int} (h:f 0=[iv a]) (h':f 1=[iv b]) (h'':f 2=[iv c]) (h''':f 3=[iv d]):Le (.slc 1 4 f) (ints [a,b,c,d]):=Le.slc rfl (fun i hi=>by
 rcases (by omega:i=0∨i=1∨i=2∨i=3) with rfl|rfl|rfl|rfl
 ·exact h
 ·exact h'
 ·exact h''
 ·exact h''')
theorem jov {l:List Tr} {t:Tr} {g:Nat→List AV} (hg:g 0=t.cells):∀ j,j<l.length+1→
  LeL (appF l.length (qby l) 1 g j) (qby (l++[t]) j):=by
 intro j hj
 refine LeL.of_eq ?_
 have e:qby (l++[t]) j=((l++[t]).getD j Tr.none).cells:=Tr.cellsL_get _ _ (by simp;omega)
 rw [e,qks]
 by_cases h:j<l.length
 ·rw [if_pos h,appF,if_pos h]
  exact Tr.cellsL_get _ _ h
 ·obtain rfl:j=l.length:=by omega
  rw [if_neg (by omega),if_pos rfl,appF,if_neg (by omega),if_pos (by omega),Nat.sub_self]
  exact hg
theorem jow (ht:ToksOk ts) (h:Pre ts n p):RdT ts 75 (itemF ts) p:=by
 have h2:=ht.len
 refine zM {} 600 Tryz.func75 (fun c0 rdb mpb=>?_)
 (repeat' ((conv=>whnf);first|refine zE 600 (qjp h.at_ _) ?_|fail))
 (repeat' ((conv=>whnf);first|refine zE 600 (qeu h.at_ _) ?_|(apply zB <;> intro hb <;> (try simp [-zd] at hb) <;> try (exfalso;omega))))
 ·have hv:sees ts p kVar=true:=by assumption
  have e5:itemF ts p=jn ts p:=if_pos hv
  rw [e5]
  ((conv=>whnf);refine zT 600 [0] (que ht h) qa ?_)
  (repeat' ((conv=>whnf);first|refine Ob.auto ?_|fail))
  exact ⟨Le.refl _,qa⟩
 ·have hv:sees ts p kVar=false:=by assumption
  have hp:sees ts p qu=true:=by assumption
  have e5:itemF ts p=qdi ts p:=(if_neg (by rw [hv];decide)).trans (if_pos hp)
  rw [e5]
  ((conv=>whnf);refine zT 600 [0] (jot ht h) qa ?_)
  (repeat' ((conv=>whnf);first|refine Ob.auto ?_|fail))
  exact ⟨Le.refl _,qa⟩
 have hc0:¬ (sees ts p kVar=true):=by simp_all
 have hc1:¬ (sees ts p qu=true):=by simp_all
 ((conv=>whnf);refine zT 600 [0] (qam ht h.at_ qms) qa ?_)
 cases hkC:sees ts p qms with
 | true=>
  have tkC:took ts p qms=adv p:=if_pos hkC
  have h1:Pre ts n (adv p):=h.step (qg ht h.at_ hkC)
  rw [tkC]
  (repeat' ((conv=>whnf);first|(apply zB <;> intro hb <;> (try simp [-zd] at hb) <;> try (exfalso;omega))))
  have h2':=h1.step (qai ht h1.at_)
  have h3:=h2'.step (qi ht h2'.at_ sLb)
  have h4:=h3.step (qbf ht h3.at_)
  have h5:=h4.step (qi ht h4.at_ sRb)
  have h6:=h5.step (qi ht h5.at_ kOf)
  have h7:=h6.step (qbf ht h6.at_)
  have h8:=h7.step (qhg ht h7.at_ qhe)
  have h9:=h8.step (qhg ht h8.at_ qih)
  have e5:itemF ts p=(.mk 1 [ju ts (adv p)] [numN ts (must ts (qe ts (adv p)) sLb),numN ts (must ts (must ts (numP ts (must ts (qe ts (adv p)) sLb)) sRb) kOf),qge ts (numP ts (must ts (must ts (numP ts (must ts (qe ts (adv p)) sLb)) sRb) kOf)) qhe,qge ts (took ts (numP ts (must ts (must ts (numP ts (must ts (qe ts (adv p)) sLb)) sRb) kOf)) qhe) qih] (tk ts p).pos [],must ts (took ts (took ts (numP ts (must ts (must ts (numP ts (must ts (qe ts (adv p)) sLb)) sRb) kOf)) qhe) qih) qo):=((if_neg hc0).trans (if_neg hc1)).trans (if_pos hkC)
  rw [e5]
  (repeat' ((conv=>whnf);first|(refine qav (fun _=>rfl) (by kernel_rfl) 600 ?_)|fail))
  ((conv=>whnf);refine CallY.trip [0] (qhh ht h1.at_) (by kernel_rfl) leA qa (by exact qb rfl) (by exact qb rfl) ?_)
  (repeat' ((conv=>whnf);first|refine Ob.auto ?_|fail))
  ((conv=>whnf);refine AltG.far 9 [2] (by kernel_rfl) farA (EndG.go ?_))
  ((conv=>whnf);refine zT 600 [0] (qaq ht h2'.at_ sLb) qa ?_)
  (repeat' ((conv=>whnf);first|(refine qav (fun _=>rfl) (by kernel_rfl) 600 ?_)|fail))
  ((conv=>whnf);refine CallY.trip [0] (qjo ht h3.at_) (by kernel_rfl) leA qa (by exact qb rfl) (by exact qb rfl) ?_)
  (repeat' ((conv=>whnf);first|refine Ob.auto ?_|fail))
  ((conv=>whnf);refine AltG.far 9 [2] (by kernel_rfl) farA (EndG.go ?_))
  ((conv=>whnf);refine zT 600 [0] (qaq ht h4.at_ sRb) qa ?_)
  ((conv=>whnf);refine zT 600 [0] (qaq ht h5.at_ kOf) qa ?_)
  (repeat' ((conv=>whnf);first|(refine qav (fun _=>rfl) (by kernel_rfl) 600 ?_)|fail))
  ((conv=>whnf);refine CallY.trip [0] (qjo ht h6.at_) (by kernel_rfl) leA qa (by exact qb rfl) (by exact qb rfl) ?_)
  (repeat' ((conv=>whnf);first|refine Ob.auto ?_|fail))
  ((conv=>whnf);refine AltG.far 9 [2] (by kernel_rfl) farA (EndG.go ?_))
  (repeat' ((conv=>whnf);first|(refine qav (fun _=>rfl) (by kernel_rfl) 600 ?_)|fail))
  ((conv=>whnf);refine CallY.trip [0] (quc ht h7.at_ qhe) (by kernel_rfl) leA qa (by exact qb rfl) (by exact qb rfl) ?_)
  (repeat' ((conv=>whnf);first|refine Ob.auto ?_|fail))
  ((conv=>whnf);refine AltG.far 9 [2] (by kernel_rfl) farA (EndG.go ?_))
  (repeat' ((conv=>whnf);first|(refine qav (fun _=>rfl) (by kernel_rfl) 600 ?_)|fail))
  ((conv=>whnf);refine CallY.trip [0] (quc ht h8.at_ qih) (by kernel_rfl) leA qa (by exact qb rfl) (by exact qb rfl) ?_)
  (repeat' ((conv=>whnf);first|refine Ob.auto ?_|fail))
  ((conv=>whnf);refine AltG.far 9 [2] (by kernel_rfl) farA (EndG.go ?_))
  ((conv=>whnf);refine zT 600 [0] (qaq ht h9.at_ qo) qa ?_)
  (repeat' ((conv=>whnf);first|refine Ob.auto ?_|fail))
  refine ⟨Le.agg ⟨Le.refl _,jo rfl,jou rfl rfl rfl rfl,Le.refl _,Le.refl _,Le.nils _ _,trivial⟩,qa⟩
 | false=>
  have tkC:took ts p qms=p:=if_neg (by rw [hkC];decide)
  rw [tkC]
  (repeat' ((conv=>whnf);first|(apply zB <;> intro hb <;> (try simp [-zd] at hb) <;> try (exfalso;omega))))
  ((conv=>whnf);refine zT 600 [0] (qam ht h.at_ qmt) qa ?_)
  cases hkS:sees ts p qmt with
  | true=>
   have tkS:took ts p qmt=adv p:=if_pos hkS
   have h1:Pre ts n (adv p):=h.step (qg ht h.at_ hkS)
   rw [tkS]
   (repeat' ((conv=>whnf);first|(apply zB <;> intro hb <;> (try simp [-zd] at hb) <;> try (exfalso;omega))))
   have e5:itemF ts p=(.mk 4 [] [] (tk ts p).pos [(eF ts (adv p)).1],must ts (eF ts (adv p)).2 qo):=(((if_neg hc0).trans (if_neg hc1)).trans (if_neg (by rw [hkC];decide))).trans (if_pos hkS)
   rw [e5]
   have h2':=h1.step (qay ht _ h1.at_)
   ((conv=>whnf);refine qbe (fun _=>rfl) (by kernel_rfl) 600 [.turn [0] [.ptr 0 0] [pso ts (adv p)] (eF ts (adv p)).1.av [(0,pso ts (eF ts (adv p)).2)]] (by kernel_rfl) ?_)
   (repeat' ((conv=>whnf);first|refine Ob.auto ?_|refine Ob.intro ?_ ?_|fail))
   ·exact ⟨e_rd ht h1.full,by kernel_rfl,leA,qa,by exact qb rfl,by exact qb rfl⟩
   ((conv=>whnf);refine zT 600 [0] (qaq ht h2'.at_ qo) qa ?_)
   (repeat' ((conv=>whnf);first|refine Ob.auto ?_|fail))
   (refine ⟨Le.agg ⟨Le.refl _,?_,?_,Le.refl _,Le.refl _,?_,trivial⟩,qa⟩ <;> first|exact Le.nils _ _|exact Le.refl _|exact ji rfl|exact jo rfl|exact jz rfl|exact jx rfl rfl|exact jy rfl rfl|exact qaa rfl rfl|exact qab rfl rfl rfl|exact qac (fun _ _=>rfl))
  | false=>
   have tkS:took ts p qmt=p:=if_neg (by rw [hkS];decide)
   rw [tkS]
   have e5:itemF ts p=(.mk 5 [] [] (tk ts p).pos [],must ts (must ts p qla) qo):=(((if_neg hc0).trans (if_neg hc1)).trans (if_neg (by rw [hkC];decide))).trans (if_neg (by rw [hkS];decide))
   rw [e5]
   have h1:Pre ts n (must ts p qla):=h.step (qi ht h.at_ _)
   (repeat' ((conv=>whnf);first|(apply zB <;> intro hb <;> (try simp [-zd] at hb) <;> try (exfalso;omega))))
   ((conv=>whnf);refine zT 600 [0] (qaq ht h.at_ qla) qa ?_)
   ((conv=>whnf);refine zT 600 [0] (qaq ht h1.at_ qo) qa ?_)
   (repeat' ((conv=>whnf);first|refine Ob.auto ?_|fail))
   (refine ⟨Le.agg ⟨Le.refl _,?_,?_,Le.refl _,Le.refl _,?_,trivial⟩,qa⟩ <;> first|exact Le.nils _ _|exact Le.refl _|exact ji rfl|exact jo rfl|exact jz rfl|exact jx rfl rfl|exact jy rfl rfl|exact qaa rfl rfl|exact qab rfl rfl rfl|exact qac (fun _ _=>rfl))
theorem jox (ht:ToksOk ts) (h:Pre ts n p):RdT ts 40 (qci ts) p:=by
 have h2:=ht.len
 refine zM {} 600 Tryz.func40 (fun c0 rdb mpb=>?_)
 (repeat' ((conv=>whnf);first|refine zE 600 (qjp h.at_ _) ?_|fail))
 ((conv=>whnf);refine qpv [0,1,2] 2 rfl frzA ?_)
 (conv=>whnf)
 refine qec 2 5 99 6 rfl rfl ?_
 ((conv=>whnf);refine qm (fun _=>rfl) 600 1 (fun _:Nat × List Tr × Ps=>[]) (fun g=>[(3,.row [] 99 6 0 g.2.1.length (qby g.2.1)),(2,.box 99 [iv 0,.nils,.nils,.nils,iv (tk ts p).pos,.own 3 0 0 g.2.1.length]),(0,pso ts g.2.2)]) (fun g=>Pre ts n g.2.2∧qdj ts g.1 g.2.1 g.2.2=qdj ts ts.length [] p∧(g.2.2.err=0→(ts.length:Int) - g.2.2.at_≤g.1)∧g.2.1.length+g.1≤ts.length) (fun g=>g.1) ((ts.length,[],p)) (⟨h,rfl,by have:=h.at_.lo;simp only;omega,by simp⟩) qa ⟨⟨⟨rfl,rfl,rfl⟩,rfl,rfl,fun j hj=>absurd hj (Nat.not_lt_zero j)⟩,⟨rfl,Le.refl _,Le.refl _,Le.refl _,Le.refl _,Le.refl _,Le.refl _,trivial⟩,SoLe.refl _,trivial⟩ (fun _=>rfl) (by kernel_rfl) ?_;(conv=>whnf))
 rintro ⟨m,l,r⟩ ⟨hP,hj,hk,hl⟩
 simp only at hP hj hk hl
 (repeat' ((conv=>whnf);first|refine Ob.auto ?_|refine zE 600 (qfk) ?_|refine zF 600 (fun hg=>qjn hP.at_) ?_|(apply zB <;> intro hb <;> (try simp [-zd] at hb) <;> try (exfalso;omega))))
 ·obtain ⟨he',hk3⟩:=hb
  have hQ:=hP
  have hm:1≤m:=by have:=hk he';have:=hP.at_.hi;omega
  obtain ⟨m,rfl⟩:∃ m',m=m'+1:=⟨m - 1,by omega⟩
  rw [qdj,if_pos ⟨he',hk3⟩] at hj
  dsimp only
  ((conv=>whnf);refine qbe (fun _=>rfl) (by kernel_rfl) 600 [.turn [0] [.ptr 0 0] [pso ts r] (itemF ts r).1.av [(0,pso ts (itemF ts r).2)]] (by kernel_rfl) ?_)
  (repeat' ((conv=>whnf);first|refine Ob.auto ?_|refine Ob.intro ?_ ?_|fail))
  ·exact ⟨jow ht hP,by kernel_rfl,leA,qa,by exact qb rfl,by exact qb rfl⟩
  have hst:=qtx ht r hP.at_
  have hk':(itemF ts r).2.err=0→(ts.length:Int) - (itemF ts r).2.at_≤m:=fun h=>by have:=jbf ht r hP.at_ h;have:=hk he';omega
  have hlen:l.length+1=(l++[(itemF ts r).1]).length:=by rw [List.length_append];rfl
  ((conv=>whnf);refine ⟨(m,l++[(itemF ts r).1],(itemF ts r).2),⟨hP.step hst,hj,hk',by simp;omega⟩,⟨qa,⟨⟨⟨rfl,rfl,rfl⟩,rfl,hlen,jov (t:=(itemF ts r).1) rfl⟩,⟨rfl,Le.refl _,Le.refl _,Le.refl _,Le.refl _,Le.refl _,Le.of_eq (congrArg (AV.own _ _ _) hlen),trivial⟩,qa⟩⟩,⟨qa,qa⟩,?_⟩;(first|omega|(dsimp only;omega)|skip))
 ·have hn:¬ (r.err=0∧(tk ts r).kind≠3):=fun h=>h.2 (hb h.1)
  have e2:qdj ts ts.length [] p=(l,r):=by
   rw [← hj]
   cases m with
   | zero=>rfl
   | succ m=>rw [qdj,if_neg hn]
  have e5:qci ts p=(.mk 0 [] [] (tk ts p).pos l,r):=by unfold qci;rw [e2]
  rw [e5]
  (refine ⟨Le.agg ⟨Le.refl _,?_,?_,Le.refl _,Le.refl _,?_,trivial⟩,qa⟩ <;> first|exact Le.nils _ _|exact Le.refl _|exact ji rfl|exact jo rfl|exact jz rfl|exact jx rfl rfl|exact jy rfl rfl|exact qaa rfl rfl|exact qab rfl rfl rfl|exact qac (fun _ _=>rfl))
end
end Go.Proofs.YtcfllgdfhfcicaaGreatDoor
