/- Some texts of the library, one behind the other. -/
import Derived.Test.YtikahnkkfkoglaaGreatDoorY226
import Derived.Test.YtikahnkkfkoglaaGreatDoorY22
set_option linter.unusedSimpArgs false
set_option linter.unusedVariables false
section
namespace Go.Proofs.YtikahnkkfkoglaaGreatDoor
open List renaming getD_eq_getElem?_getD → zd
open Go Go.Sx Go.RowKit Go.St Pa
set_option maxRecDepth 100000
set_option maxHeartbeats 4000000
structure PreW (ts:List Lx.Tok) (n:Nat) (p:Ps):Prop where
 at_:AtOk ts p
 deep:0≤p.deep∧p.deep≤p.at_+2
 ok:p.err=0→p.deep≤p.at_+1
 left:(ts.length:Int) - p.at_≤n
section
variable {ts:List Lx.Tok} {p q:Ps} {n:Nat}
theorem PreW.pre (h:PreW ts n p) (he:p.err=0):Pre ts n p:=⟨h.at_,⟨h.deep.1,h.ok he⟩,h.left⟩
theorem PreW.step (h:PreW ts n p) (k:Step ts p q) (he:p.err=0):PreW ts n q:=
 ⟨k.ok h.at_,by have:=h.deep;have:=k.deep;have:=k.le;omega,fun _=>by have:=h.ok he;have:=k.deep;have:=k.le;omega,by have:=h.left;have:=k.le;omega⟩
abbrev qcl (l:List Tr):Nat→List AV:=fun i=>(Tr.cellsL l).getD i []
theorem jgk:∀ (pre old new:List AV),old.length=new.length→qaw (pre++old) pre.length new=pre++new
 | pre,[],[],_=>rfl
 | pre,x::old,y::new,h=>by
  have e:(pre++x::old).set pre.length y=(pre++[y])++old:=by simp
  have:=jgk (pre++[y]) old new (by simpa using h)
  rw [zg] at this
  rw [qaw,e]
  simpa using this
 | pre,[],_::_,h=>by simp at h
 | pre,_::_,[],h=>by simp at h
theorem qqi {l:List Tr} {t:Tr} {n:Nat} {g:Nat→List AV} (hn:n=l.length) (hg:(g 0).length=6):∀ j,j<l.length+1→
  LeL (if j=n then qaw (appF l.length (qcl l) 1 g n) 0 t.cells else appF l.length (qcl l) 1 g j) (qcl (l++[t]) j):=by
 intro j hj
 refine LeL.of_eq ?_
 subst hn
 have e:qcl (l++[t]) j=((l++[t]).getD j Tr.none).cells:=Tr.cellsL_get _ _ (by simp;omega)
 rw [e,qko]
 by_cases h:j<l.length
 ·rw [za (by omega),zb h,appF,zb h]
  exact Tr.cellsL_get _ _ h
 ·obtain rfl:j=l.length:=by omega
  rw [zb rfl,za (by omega),zb rfl,appF,za (by omega)]
  rw [zb (by omega),zai]
  exact jgk [] _ _ hg
theorem juf (ht : ToksOk ts) {stat : Ps → Tr × Ps} (hr : Runs ts stat) (hg : qhj ts stat) (hs : ∀ q, Pre ts n q → RdT ts 135 stat q) (h : PreW ts n p) (k a : Int) :
    Trip Tryz.prog 125 [.ptr 0 0,.ptr 1 0] [pso ts p,.box 102 [iv k,.nils,.nils,.nils,iv a,.nils]] (.tup [])
      [(0,pso ts (jp ts stat ts.length [] p).2),(1,.box 102 [iv k,.nils,.nils,.nils,iv a,.own 2 0 0 (jp ts stat ts.length [] p).1.length]),
       (2,.row [] 102 6 0 (jp ts stat ts.length [] p).1.length (qcl (jp ts stat ts.length [] p).1))] 3:=by
  have h2:=ht.len
  refine zM {} 600 Tryz.func125 (fun c0 rdb mpb=>?_)
  refine qdh 1 5 102 6 rfl rfl ?_
  ((conv=>whnf);refine qm (fun _=>rfl) 600 1 (fun _:Nat × List Tr × Ps=>[]) (fun g=>[(2,.row [] 102 6 0 g.2.1.length (qcl g.2.1)),(1,.box 102 [iv k,.nils,.nils,.nils,iv a,.own 2 0 0 g.2.1.length]),(0,pso ts g.2.2)]) (fun g=>PreW ts n g.2.2∧jp ts stat g.1 g.2.1 g.2.2=jp ts stat ts.length [] p∧(g.2.2.err=0→(ts.length:Int) - g.2.2.at_≤g.1)∧g.2.1.length+g.1≤ts.length) (fun g=>g.1) ((ts.length,[],p)) (⟨h,rfl,by have:=h.at_.lo;simp only;omega,by simp⟩) qa qa (fun _=>rfl) (by kernel_rfl) ?_;(conv=>whnf))
  rintro ⟨m,l,r⟩ ⟨hP,hj,hk,hl⟩
  simp only at hP hj hk hl
  (repeat' ((conv=>whnf);first|(refine qi (fun _=>rfl) 600 (qgg) qc (by (repeat' (first|exact trivial|exact Le.refl _|(refine And.intro ?_ ?_))) <;> fail) (by rfl) (by kernel_rfl) ?_)|fail))
  refine qxe (fun _=>rfl) 600 (.bool false) (by kernel_rfl) qz (fun he=>?_) (fun he=>?_)
  · have he':r.err=0:=by simpa using he
    ((conv=>whnf);refine zT 600 [0] (qba ht hP.at_ sRc) qa ?_)
    (repeat' ((conv=>whnf);first|refine Ob.auto ?_|(apply zB <;> intro hb <;> (try simp [-zd] at hb) <;> try (exfalso;omega))))
    · have e1:took ts r sRc=r:=za (by rw [hb.2];decide)
      have hQ:=hP.pre he'
      have hm:1≤m:=by have:=hk he';have:=hP.at_.hi;omega
      obtain ⟨m,rfl⟩:∃ m',m=m'+1:=⟨m - 1,by omega⟩
      rw [jp,zb he',za (by rw [hb.2];decide)] at hj
      dsimp only
      rw [e1]
      ((conv=>whnf);refine qbm (fun _=>rfl) (by kernel_rfl) 600 [.turn [0] [.ptr 0 0] [pso ts r] (stat r).1.av [(0,pso ts (stat r).2)]] (by kernel_rfl) ?_)
      (repeat' ((conv=>whnf);first|refine Ob.auto ?_|refine Ob.intro ?_ ?_|fail))
      · exact ⟨hs r hQ,by kernel_rfl,leA,qa,by exact qb rfl,by exact qb rfl⟩
      have hst:=hr r hP.at_
      have hk':(stat r).2.err=0→(ts.length:Int) - (stat r).2.at_≤m:=fun h=>by have:=hg r hP.at_ h;have:=hk he';omega
      ((conv=>whnf);refine ⟨(m,l++[(stat r).1],(stat r).2),⟨hP.step hst he',hj,hk',by simp;omega⟩,⟨qa,⟨⟨⟨rfl,rfl,rfl⟩,rfl,by simp,qqi (t:=(stat r).1) (by simp) rfl⟩,⟨rfl,Le.refl _,Le.refl _,Le.refl _,Le.refl _,Le.refl _,Le.of_eq (congrArg (AV.own _ _ _) (by simp)),trivial⟩,qa⟩⟩,⟨qa,qa⟩,?_⟩;(first|omega|(dsimp only;omega)|skip))
    · have e1:took ts r sRc=adv r:=zb (hb he')
      have e2:(l,adv r)=jp ts stat ts.length [] p:=by
        rw [← hj]
        cases m with
        | zero=>have:=hk he';have:=hP.at_.hi;omega
        | succ m=>rw [jp,zb he',zb (hb he')]
      rw [← e2]
      dsimp only
      rw [e1]
      exact ⟨Le.refl _,qa⟩
  · have he':¬ (r.err=0):=by simpa using he
    (repeat' ((conv=>whnf);first|refine Ob.auto ?_|(apply zB <;> intro hb <;> (try simp [-zd] at hb) <;> try (exfalso;omega))))
    have e2:(l,r)=jp ts stat ts.length [] p:=by
      rw [← hj]
      cases m with
      | zero=>rfl
      | succ m=>rw [jp,za he']
    rw [← e2]
    exact ⟨Le.refl _,qa⟩
theorem jgl (ht : ToksOk ts) {stat : Ps → Tr × Ps} (hr : Runs ts stat) (hg : qhj ts stat) (hs : ∀ q, Pre ts n q → RdT ts 135 stat q) (h : PreW ts n p) (k a : Int) (w : List (List UInt8)) (ns : List Int) (l0 : List Tr) (hl0 : l0.length ≤ 10000) :
    Trip Tryz.prog 125 [.ptr 0 0,.ptr 1 0] [pso ts p,.box 102 [iv k,strs w,ints ns,.nils,iv a,.own 2 0 0 l0.length],.row [] 102 6 0 l0.length (qcl l0)] (.tup [])
      [(0,pso ts (jp ts stat ts.length l0 p).2),(1,.box 102 [iv k,strs w,ints ns,.nils,iv a,.own 2 0 0 (jp ts stat ts.length l0 p).1.length]),
       (2,.row [] 102 6 0 (jp ts stat ts.length l0 p).1.length (qcl (jp ts stat ts.length l0 p).1))] 3:=by
  have h2:=ht.len
  refine zM {} 600 Tryz.func125 (fun c0 rdb mpb=>?_)
  ((conv=>whnf);refine qm (fun _=>rfl) 600 1 (fun _:Nat × List Tr × Ps=>[]) (fun g=>[(2,.row [] 102 6 0 g.2.1.length (qcl g.2.1)),(1,.box 102 [iv k,strs w,ints ns,.nils,iv a,.own 2 0 0 g.2.1.length]),(0,pso ts g.2.2)]) (fun g=>PreW ts n g.2.2∧jp ts stat g.1 g.2.1 g.2.2=jp ts stat ts.length l0 p∧(g.2.2.err=0→(ts.length:Int) - g.2.2.at_≤g.1)∧g.2.1.length+g.1≤l0.length+ts.length) (fun g=>g.1) ((ts.length,l0,p)) (⟨h,rfl,by have:=h.at_.lo;simp only;omega,zl _⟩) qa qa (fun _=>rfl) (by kernel_rfl) ?_;(conv=>whnf))
  rintro ⟨m,l,r⟩ ⟨hP,hj,hk,hl⟩
  simp only at hP hj hk hl
  (repeat' ((conv=>whnf);first|(refine qi (fun _=>rfl) 600 (qgg) qc (by (repeat' (first|exact trivial|exact Le.refl _|(refine And.intro ?_ ?_))) <;> fail) (by rfl) (by kernel_rfl) ?_)|fail))
  refine qxe (fun _=>rfl) 600 (.bool false) (by kernel_rfl) qz (fun he=>?_) (fun he=>?_)
  · have he':r.err=0:=by simpa using he
    ((conv=>whnf);refine zT 600 [0] (qba ht hP.at_ sRc) qa ?_)
    (repeat' ((conv=>whnf);first|refine Ob.auto ?_|(apply zB <;> intro hb <;> (try simp [-zd] at hb) <;> try (exfalso;omega))))
    · have e1:took ts r sRc=r:=za (by rw [hb.2];decide)
      have hQ:=hP.pre he'
      have hm:1≤m:=by have:=hk he';have:=hP.at_.hi;omega
      obtain ⟨m,rfl⟩:∃ m',m=m'+1:=⟨m - 1,by omega⟩
      rw [jp,zb he',za (by rw [hb.2];decide)] at hj
      dsimp only
      rw [e1]
      ((conv=>whnf);refine qbm (fun _=>rfl) (by kernel_rfl) 600 [.turn [0] [.ptr 0 0] [pso ts r] (stat r).1.av [(0,pso ts (stat r).2)]] (by kernel_rfl) ?_)
      (repeat' ((conv=>whnf);first|refine Ob.auto ?_|refine Ob.intro ?_ ?_|fail))
      · exact ⟨hs r hQ,by kernel_rfl,leA,qa,by exact qb rfl,by exact qb rfl⟩
      have hst:=hr r hP.at_
      have hk':(stat r).2.err=0→(ts.length:Int) - (stat r).2.at_≤m:=fun h=>by have:=hg r hP.at_ h;have:=hk he';omega
      ((conv=>whnf);refine ⟨(m,l++[(stat r).1],(stat r).2),⟨hP.step hst he',hj,hk',by simp;omega⟩,⟨qa,⟨⟨⟨rfl,rfl,rfl⟩,rfl,by simp,qqi (t:=(stat r).1) (by simp) rfl⟩,⟨rfl,Le.refl _,Le.refl _,Le.refl _,Le.refl _,Le.refl _,Le.of_eq (congrArg (AV.own _ _ _) (by simp)),trivial⟩,qa⟩⟩,⟨qa,qa⟩,?_⟩;(first|omega|(dsimp only;omega)|skip))
    · have e1:took ts r sRc=adv r:=zb (hb he')
      have e2:(l,adv r)=jp ts stat ts.length l0 p:=by
        rw [← hj]
        cases m with
        | zero=>have:=hk he';have:=hP.at_.hi;omega
        | succ m=>rw [jp,zb he',zb (hb he')]
      rw [← e2]
      dsimp only
      rw [e1]
      exact ⟨Le.refl _,qa⟩
  · have he':¬ (r.err=0):=by simpa using he
    (repeat' ((conv=>whnf);first|refine Ob.auto ?_|(apply zB <;> intro hb <;> (try simp [-zd] at hb) <;> try (exfalso;omega))))
    have e2:(l,r)=jp ts stat ts.length l0 p:=by
      rw [← hj]
      cases m with
      | zero=>rfl
      | succ m=>rw [jp,za he']
    rw [← e2]
    exact ⟨Le.refl _,qa⟩
end
section
variable {ts:List Lx.Tok} {p q:Ps} {n:Nat}
theorem Pre.inW (h:Pre ts n p) (k:Step ts p q) (hg:q.err=0→p.at_<q.at_):PreW ts n (inP ts q):=by
 obtain ⟨i1,i2,i3,i4⟩:=qcz (k.ok h.at_)
 have h1:=h.deep
 have h2:=h.left
 have h3:=k.le
 have h4:=k.deep
 refine ⟨i1,by omega,fun he=>?_,by omega⟩
 have:q.err=0:=Classical.byContradiction fun hn=>by have:=(i4 hn).1;omega
 have:=hg this
 omega
theorem qaq {l:List Tr} {f:Nat→List AV} (h:∀ i,i<l.length→f i=qcl l i):Le (.slc 6 l.length f) (qmy l):=Le.slc rfl h
theorem jug (ht:ToksOk ts) {stat:Ps→Tr × Ps} (hr:Runs ts stat) (hg:qhj ts stat) (hs:∀ q,Pre ts n q→RdT ts 135 stat q) (h:Pre ts n p):RdT ts 143 (qy ts stat) p:=by
 have h2:=ht.len
 have h3:=h.deep
 have h4:=h.at_.hi
 have hst:=qn ht h.at_ sLc
 have hq:=h.step hst
 have hqd:=hst.deep
 have hw:=h.inW hst (fun he=>by have:=(qhi he).2;omega)
 have hso:=qhh ht hr ts.length [] _ hw.at_
 have hd:=hso.deep
 have hi:=(qcz hq.at_).2.2.1
 refine zM {} 600 Tryz.func143 (fun c0 rdb mpb=>?_)
 (repeat' ((conv=>whnf);first|(refine qi (fun _=>rfl) 600 (qlg h.at_ _) qc (by (repeat' (first|exact trivial|exact Le.refl _|(refine And.intro ?_ ?_))) <;> fail) (by rfl) (by kernel_rfl) ?_)|fail))
 ((conv=>whnf);refine zT 600 [0] (qbh ht h.at_ sLc) qa ?_)
 ((conv=>whnf);refine zT 600 [0] (qna hq.at_ (by omega)) qa ?_)
 ((conv=>whnf);refine zT 600 [0,2] (juf ht hr hg hs hw 16 (tk ts p).pos) qa ?_)
 (repeat' ((conv=>whnf);first|refine Ob.auto ?_|fail))
 (refine ⟨Le.agg ⟨Le.refl _,?_,?_,Le.refl _,Le.refl _,?_,trivial⟩,qa⟩ <;> first|exact Le.nils _ _|exact Le.refl _|exact jr rfl|exact qaa rfl|exact qan rfl|exact qal rfl rfl|exact qam rfl rfl|exact qao rfl rfl|exact qap rfl rfl rfl|exact qaq (fun _ _=>rfl))
theorem Pre.full (h:Pre ts n p):Pre ts ts.length p:=⟨h.at_,h.deep,by have:=h.at_.lo;omega⟩
theorem jgm (ht : ToksOk ts) (h : Pre ts n p) (hs : sees ts p qdt = true) (i a : Int) :
    Trip Tryz.prog 142 [.ptr 0 0,.ptr 1 0] [pso ts p,.box 102 [iv 6,.nils,ints [i],.nils,iv a,.nils]] (.tup [])
      [(0,pso ts (must ts (qf ts (qf ts (adv p))) qx)),(1,.box 102 [iv 8,.own 2 0 0 2,ints [i],.nils,iv a,.nils]),
       (2,.row [] 9 1 0 2 (encL (fun s=>[.str s]) [] [qai ts (adv p),qai ts (qf ts (adv p))]))] 3:=by
  have h1:=h.step (qh ht h.at_ hs)
  have e1:took ts p qdt=adv p:=zb hs
  refine zM {} 600 Tryz.func142 (fun c0 rdb mpb=>?_)
  ((conv=>whnf);refine zT 600 [0] (qba ht h.at_ qdt) qa ?_)
  rw [hs,e1]
  (repeat' ((conv=>whnf);first|(apply zB <;> intro hb <;> (try simp [-zd] at hb) <;> try (exfalso;omega))))
  have h2:=h1.step (qav ht h1.at_)
  have h3:=h2.step (qav ht h2.at_)
  (repeat' ((conv=>whnf);first|(refine qbc (fun _=>rfl) (by kernel_rfl) 600 ?_)|fail))
  ((conv=>whnf);refine CallY.trip [0] (qih ht h1.at_) (by kernel_rfl) leA qa (by exact qb rfl) (by exact qb rfl) ?_)
  (repeat' ((conv=>whnf);first|refine Ob.auto ?_|fail))
  ((conv=>whnf);refine AltG.far 13 [1] (by kernel_rfl) farA (EndG.go ?_))
  (repeat' ((conv=>whnf);first|(refine qbc (fun _=>rfl) (by kernel_rfl) 600 ?_)|fail))
  ((conv=>whnf);refine CallY.trip [0] (qih ht h2.at_) (by kernel_rfl) leA qa (by exact qb rfl) (by exact qb rfl) ?_)
  (repeat' ((conv=>whnf);first|refine Ob.auto ?_|fail))
  ((conv=>whnf);refine AltG.far 13 [1] (by kernel_rfl) farA (EndG.go ?_))
  ((conv=>whnf);refine zT 600 [0] (qbh ht h3.at_ qx) qa ?_)
  (repeat' ((conv=>whnf);first|refine Ob.auto ?_|fail))
  exact ⟨Le.refl _,SoLe.refl _,⟨rfl,Le.refl _,Le.refl _,Le.refl _,Le.refl _,Le.refl _,Le.refl _,trivial⟩,⟨⟨rfl,rfl,rfl⟩,rfl,rfl,fun j hj=>by match j,hj with|0,_=>exact LeL.refl _|1,_=>exact LeL.refl _⟩,trivial⟩
theorem jgn (ht : ToksOk ts) (h : Pre ts n p) (hr : sees ts p qdt = false) (hs : sees ts p qfk = true) (i a : Int) :
    Trip Tryz.prog 142 [.ptr 0 0,.ptr 1 0] [pso ts p,.box 102 [iv 6,.nils,ints [i],.nils,iv a,.nils]] (.tup [])
      [(0,pso ts (must ts (eF ts (adv p)).2 qx)),(1,.box 102 [iv 9,.nils,ints [i],.nils,iv a,.own 10 0 0 1]),
       (10,.row [] 102 6 0 1 (qcl [(eF ts (adv p)).1]))] 11:=by
  have h1:=h.step (qh ht h.at_ hs)
  have e0:took ts p qdt=p:=za (by rw [hr];decide)
  have e1:took ts p qfk=adv p:=zb hs
  refine zM {} 600 Tryz.func142 (fun c0 rdb mpb=>?_)
  ((conv=>whnf);refine zT 600 [0] (qba ht h.at_ qdt) qa ?_)
  rw [hr,e0]
  (repeat' ((conv=>whnf);first|(apply zB <;> intro hb <;> (try simp [-zd] at hb) <;> try (exfalso;omega))))
  ((conv=>whnf);refine zT 600 [0] (qba ht h.at_ qfk) qa ?_)
  rw [hs,e1]
  (repeat' ((conv=>whnf);first|(apply zB <;> intro hb <;> (try simp [-zd] at hb) <;> try (exfalso;omega))))
  have h2:=h1.step (qbo ht _ h1.at_)
  ((conv=>whnf);refine qbm (fun _=>rfl) (by kernel_rfl) 600 [.turn [0] [.ptr 0 0] [pso ts (adv p)] (eF ts (adv p)).1.av [(0,pso ts (eF ts (adv p)).2)]] (by kernel_rfl) ?_)
  (repeat' ((conv=>whnf);first|refine Ob.auto ?_|refine Ob.intro ?_ ?_|fail))
  · exact ⟨e_rd ht h1.full,by kernel_rfl,leA,qa,by exact qb rfl,by exact qb rfl⟩
  ((conv=>whnf);refine zT 600 [0] (qbh ht h2.at_ qx) qa ?_)
  (repeat' ((conv=>whnf);first|refine Ob.auto ?_|fail))
  exact ⟨Le.refl _,SoLe.refl _,⟨rfl,Le.refl _,Le.refl _,Le.refl _,Le.refl _,Le.refl _,Le.refl _,trivial⟩,⟨⟨rfl,rfl,rfl⟩,rfl,rfl,fun j hj=>by match j,hj with|0,_=>exact LeL.of_eq ((show _=(eF ts (adv p)).1.cells from rfl).trans (Tr.cellsL_get [(eF ts (adv p)).1] 0 (Nat.zero_lt_succ _)).symm)⟩,trivial⟩
theorem jgo (ht : ToksOk ts) {blk : Ps → Tr × Ps} (hB : Runs ts blk) (hbt : ∀ q, Pre ts n q → RdT ts 143 blk q) {m : Nat} (h : Pre ts m p) (hq : Pre ts n (must ts p jk)) (hr : sees ts p qdt = false) (hw : sees ts p qfk = false) (i a : Int) :
    Trip Tryz.prog 142 [.ptr 0 0,.ptr 1 0] [pso ts p,.box 102 [iv 6,.nils,ints [i],.nils,iv a,.nils]] (.tup [])
      [(0,pso ts (orL ts blk ts.length [(blk (must ts p jk)).1] (blk (must ts p jk)).2).2),(1,.box 102 [iv 10,.nils,ints [i],.nils,iv a,.own 10 0 0 (orL ts blk ts.length [(blk (must ts p jk)).1] (blk (must ts p jk)).2).1.length]),
       (10,.row [] 102 6 0 (orL ts blk ts.length [(blk (must ts p jk)).1] (blk (must ts p jk)).2).1.length (qcl (orL ts blk ts.length [(blk (must ts p jk)).1] (blk (must ts p jk)).2).1))] 11:=by
  have e0:took ts p qdt=p:=za (by rw [hr];decide)
  have e1:took ts p qfk=p:=za (by rw [hw];decide)
  refine zM {} 600 Tryz.func142 (fun c0 rdb mpb=>?_)
  ((conv=>whnf);refine zT 600 [0] (qba ht h.at_ qdt) qa ?_)
  rw [hr,e0]
  (repeat' ((conv=>whnf);first|(apply zB <;> intro hb <;> (try simp [-zd] at hb) <;> try (exfalso;omega))))
  ((conv=>whnf);refine zT 600 [0] (qba ht h.at_ qfk) qa ?_)
  rw [hw,e1]
  (repeat' ((conv=>whnf);first|(apply zB <;> intro hb <;> (try simp [-zd] at hb) <;> try (exfalso;omega))))
  ((conv=>whnf);refine zT 600 [0] (qbh ht h.at_ jk) qa ?_)
  have hqb:=hq.step (hB _ hq.at_)
  ((conv=>whnf);refine qbm (fun _=>rfl) (by kernel_rfl) 600 [.turn [0] [.ptr 0 0] [pso ts (must ts p jk)] (blk (must ts p jk)).1.av [(0,pso ts (blk (must ts p jk)).2)]] (by kernel_rfl) ?_)
  (repeat' ((conv=>whnf);first|refine Ob.auto ?_|refine Ob.intro ?_ ?_|fail))
  · exact ⟨hbt _ hq,by kernel_rfl,leA,qa,by exact qb rfl,by exact qb rfl⟩
  ((conv=>whnf);refine qm (fun _=>rfl) 600 1 (fun _:Nat × List Tr × Ps=>[]) (fun g=>[(10,.row [] 102 6 0 g.2.1.length (qcl g.2.1)),(1,.box 102 [iv 10,.nils,ints [i],.nils,iv a,.own 10 0 0 g.2.1.length]),(0,pso ts g.2.2)]) (fun g=>Pre ts n g.2.2∧orL ts blk g.1 g.2.1 g.2.2=orL ts blk ts.length [(blk (must ts p jk)).1] (blk (must ts p jk)).2∧(ts.length:Int) - g.2.2.at_≤g.1∧g.2.1.length+g.1≤1+ts.length) (fun g=>g.1) ((ts.length,[(blk (must ts p jk)).1],(blk (must ts p jk)).2)) (⟨hqb,rfl,by have:=hqb.at_.lo;simp only;omega,by simp⟩) qa ⟨⟨⟨rfl,rfl,rfl⟩,rfl,rfl,fun j hj=>by match j,hj with|0,_=>exact LeL.of_eq ((show _=(blk (must ts p jk)).1.cells from rfl).trans (Tr.cellsL_get [(blk (must ts p jk)).1] 0 (Nat.zero_lt_succ _)).symm)⟩,⟨rfl,Le.refl _,Le.refl _,Le.refl _,Le.refl _,Le.refl _,Le.refl _,trivial⟩,SoLe.refl _,trivial⟩ (fun _=>rfl) (by kernel_rfl) ?_;(conv=>whnf))
  rintro ⟨m,l,r⟩ ⟨hP,hj,hk,hl⟩
  simp only at hP hj hk hl
  have h8:=ht.len
  ((conv=>whnf);refine zT 600 [0] (qba ht hP.at_ kOr) qa ?_)
  (repeat' ((conv=>whnf);first|refine Ob.auto ?_|(apply zB <;> intro hb <;> (try simp [-zd] at hb) <;> try (exfalso;omega))))
  · have e2:took ts r kOr=adv r:=zb (by assumption)
    have hsO:sees ts r kOr=true:=by assumption
    have hQ:=hP.step (qh ht hP.at_ hsO)
    have hm:1≤m:=by have:=hP.at_.hi;omega
    obtain ⟨m,rfl⟩:∃ m',m=m'+1:=⟨m - 1,by omega⟩
    rw [orL,zb hsO] at hj
    dsimp only
    rw [e2]
    ((conv=>whnf);refine qbm (fun _=>rfl) (by kernel_rfl) 600 [.turn [0] [.ptr 0 0] [pso ts (adv r)] (blk (adv r)).1.av [(0,pso ts (blk (adv r)).2)]] (by kernel_rfl) ?_)
    (repeat' ((conv=>whnf);first|refine Ob.auto ?_|refine Ob.intro ?_ ?_|fail))
    · exact ⟨hbt _ hQ,by kernel_rfl,leA,qa,by exact qb rfl,by exact qb rfl⟩
    have hst:=hB _ hQ.at_
    have hle:r.at_+1≤(blk (adv r)).2.at_:=hst.le
    ((conv=>whnf);refine ⟨(m,l++[(blk (adv r)).1],(blk (adv r)).2),⟨hQ.step hst,hj,by simp only;omega,by simp;omega⟩,⟨qa,⟨⟨⟨rfl,rfl,rfl⟩,rfl,by simp,qqi (t:=(blk (adv r)).1) (by simp) rfl⟩,⟨rfl,Le.refl _,Le.refl _,Le.refl _,Le.refl _,Le.refl _,Le.of_eq (congrArg (AV.own _ _ _) (by simp)),trivial⟩,qa⟩⟩,⟨qa,qa⟩,?_⟩;(first|omega|(dsimp only;omega)|skip))
  · have hsO:sees ts r kOr=false:=by assumption
    have e2:took ts r kOr=r:=za (by rw [hsO];decide)
    have e3:(l,r)=orL ts blk ts.length [(blk (must ts p jk)).1] (blk (must ts p jk)).2:=by
      rw [← hj]
      cases m with
      | zero=>rfl
      | succ m=>rw [orL,za (by rw [hsO];decide)]
    rw [← e3]
    dsimp only
    rw [e2]
    exact ⟨Le.refl _,qa⟩
end
end Go.Proofs.YtikahnkkfkoglaaGreatDoor
end
