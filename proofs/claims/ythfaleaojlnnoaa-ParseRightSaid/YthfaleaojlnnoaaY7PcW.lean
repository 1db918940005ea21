/- Contracts of the program's parser: what waits. -/
import Derived.Test.YthfaleaojlnnoaaY7PcJ
import Derived.Test.YthfaleaojlnnoaaY72
set_option linter.unusedSimpArgs false
set_option linter.unusedVariables false
namespace Go.Proofs.Ythfaleaojlnnoaa
open List renaming getD_eq_getElem?_getD → zd
open Go Go.Sx Go.RowKit Go.St Pa
set_option maxRecDepth 100000
set_option maxHeartbeats 4000000
section
variable {ts:List Lx.Tok} {p q r g:Ps} {n:Nat}
theorem PreC.full (h:PreC ts n p):PreC ts ts.length p:=⟨h.at_,h.err,h.deep,by have:=h.at_.lo;omega⟩
abbrev RdE (ts:List Lx.Tok) (p:Ps):Prop:=MTrip Try.prog 62 [.ptr 0 0,iv 0] [psc ts p] ((eF ts p).2.err == 0) (eF ts p).1.pv [(0,psc ts (eF ts p).2)] 1 (pfl (eF ts p).2)
theorem jmk {f:Nat→List AV} {v w:List UInt8} (h:f 0=[.str v]) (h':f 1=[.str w]):Le (.slc 1 2 f) (strs [v,w]):=Le.slc rfl (fun i hi=>by
 match i,hi with
 | 0,_=>exact h
 | 1,_=>exact h')
theorem quq {f:Nat→List AV} {a:Tr} (h:f 0=[a.pv]):SoLe (.row [] 54 1 0 1 f) (rowB [a]):=⟨⟨rfl,rfl,rfl⟩,rfl,rfl,fun j hj=>by
 match j,hj with
 | 0,_=>exact LeL.of_eq (h.trans (congrArg (fun x=>[x]) (Tr.pvL_get [a] 0 (Nat.zero_lt_succ _)).symm))⟩
theorem jap (hc:TC ts) (h:PreC ts n r) (i a:Int):MTrip Try.prog 106 [.ptr 0 0,.ptr 1 0,.str jy,iv i] [psc ts r,brO 6 .nils .nils a .nils] ((must ts (qd ts (qd ts r)) qj).err == 0) (.tup [])
  [(0,psc ts (must ts (qd ts (qd ts r)) qj)),(1,brO 8 (strs [jn ts r,jn ts (qd ts r)]) (ints [i]) a .nils)] 2 (pfl (must ts (qd ts (qd ts r)) qj)):=by
 have ht:=hc.ok
 have t1:=qek hc h
 have a1:=jl ht h.at_
 generalize qd ts r=p1 at *
 have A1:=a1.ok h.at_
 have t2:=fun h':PreC ts n p1=>qek hc h'
 have a2:=jl ht A1
 generalize qd ts p1=p2 at *
 have A2:=a2.ok A1
 have t3:=fun h':PreC ts n p2=>qad hc h' (s:=qj) (by decide +kernel)
 have a3:=qe ht A2 qj
 generalize must ts p2 qj=z at *
 refine qcw (T:=tab Try.prog) (C:={}) 600 (fun _=>rfl) Try.func106 rfl (by kernel_rfl) (by kernel_rfl) (fun c0 rdb mpb=>?_)
 (repeat' ((conv=>whnf);first|refine zA ?_|refine zO ?_|refine Ob.auto ?_|refine zD 600 ?_|(apply zB <;> intro hb <;> (try simp [-zd] at hb) <;> try (exfalso;omega))|refine Ob.intro ?_ ?_))
 ((conv=>whnf);refine qm (fun _=>rfl) 600 [0] (t1) (by kernel_rfl) (by kernel_rfl) leA qa (by exact qb rfl) (by exact qb rfl) (by kernel_rfl) (fun hk=>js (a2.trans a3) hk) (fun hok=>?_))
 have h1:=h.step a1 hok
 (repeat' ((conv=>whnf);first|refine zA ?_|refine zO ?_|refine Ob.auto ?_|refine zD 600 ?_|(apply zB <;> intro hb <;> (try simp [-zd] at hb) <;> try (exfalso;omega))|refine Ob.intro ?_ ?_))
 ((conv=>whnf);refine qm (fun _=>rfl) 600 [0] (t2 h1) (by kernel_rfl) (by kernel_rfl) leA qa (by exact qb rfl) (by exact qb rfl) (by kernel_rfl) (fun hk=>js a3 hk) (fun hok=>?_))
 have h2:=h1.step a2 hok
 (repeat' ((conv=>whnf);first|refine zA ?_|refine zO ?_|refine Ob.auto ?_|refine zD 600 ?_|(apply zB <;> intro hb <;> (try simp [-zd] at hb) <;> try (exfalso;omega))|refine Ob.intro ?_ ?_))
 (((conv=>whnf);refine jr frzA ?_);(conv=>whnf);refine qm (fun _=>rfl) 600 [0] (t3 h2) (by kernel_rfl) (by kernel_rfl) ⟨Le.refl _,jf rfl,trivial⟩ qa (by exact qb rfl) (by exact qb rfl) (by kernel_rfl) (fun hk=>⟨hk,rfl⟩) (fun hok=>?_))
 (repeat' ((conv=>whnf);first|refine zA ?_|refine zO ?_|refine Ob.auto ?_|refine zD 600 ?_|(apply zB <;> intro hb <;> (try simp [-zd] at hb) <;> try (exfalso;omega))|refine Ob.intro ?_ ?_))
 exact ⟨hok,Le.refl _,SoLe.refl _,⟨rfl,Le.refl _,jmk rfl rfl,qht rfl,Le.refl _,Le.refl _,Le.refl _,trivial⟩,trivial⟩
theorem jaq (hc:TC ts) (hE:∀ q,PreC ts ts.length q→RdE ts q) (h:PreC ts n r) (i a:Int):MTrip Try.prog 106 [.ptr 0 0,.ptr 1 0,.str qac,iv i] [psc ts r,brO 6 .nils .nils a .nils] ((must ts (eF ts r).2 qj).err == 0) (.tup [])
  [(0,psc ts (must ts (eF ts r).2 qj)),(1,brO 9 .nils (ints [i]) a (.own 2 0 0 1)),(2,rowB [(eF ts r).1])] 3 (pfl (must ts (eF ts r).2 qj)):=by
 have ht:=hc.ok
 have t1:=hE r h.full
 rw [RdE] at t1
 have a1:=qas ht r h.at_
 generalize eF ts r=y at *
 have A1:=a1.ok h.at_
 have t3:=fun h':PreC ts n y.2=>qad hc h' (s:=qj) (by decide +kernel)
 have a3:=qe ht A1 qj
 generalize must ts y.2 qj=z at *
 refine qcw (T:=tab Try.prog) (C:={}) 600 (fun _=>rfl) Try.func106 rfl (by kernel_rfl) (by kernel_rfl) (fun c0 rdb mpb=>?_)
 (repeat' ((conv=>whnf);first|refine zA ?_|refine zO ?_|refine Ob.auto ?_|refine zD 600 ?_|(apply zB <;> intro hb <;> (try simp [-zd] at hb) <;> try (exfalso;omega))|refine Ob.intro ?_ ?_))
 cases hk:(y.2.err == 0) with
 | false=>
  (repeat' ((conv=>whnf);first|refine zA ?_|refine zO ?_|refine Ob.auto ?_|refine zD 600 ?_|(refine qi (fun _=>rfl) (by kernel_rfl) 600 ?_)|(apply zB <;> intro hb <;> (try simp [-zd] at hb) <;> try (exfalso;omega))|refine Ob.intro ?_ ?_))
  ((conv=>whnf);refine CallY.mpan 99 [0] (t1) hk (js a3 hk) (by kernel_rfl) (by kernel_rfl) leA qa (by exact qb rfl) ?_)
  (repeat' ((conv=>whnf);first|refine zO ?_|refine Ob.auto ?_|refine zD 600 ?_|(refine qi (fun _=>rfl) (by kernel_rfl) 600 ?_)|(apply zB <;> intro hb <;> (try simp [-zd] at hb) <;> try (exfalso;omega))|refine Ob.intro ?_ ?_))
  ((conv=>whnf);refine AltG.far 11 [1] (by kernel_rfl) farA (EndG.dead 99 (by rfl)))
 | true=>
  have h1:=h.step a1 hk
  (repeat' ((conv=>whnf);first|refine zA ?_|refine zO ?_|refine Ob.auto ?_|refine zD 600 ?_|(refine qi (fun _=>rfl) (by kernel_rfl) 600 ?_)|(apply zB <;> intro hb <;> (try simp [-zd] at hb) <;> try (exfalso;omega))|refine Ob.intro ?_ ?_))
  ((conv=>whnf);refine CallY.trip [0] (t1.trip hk) (by kernel_rfl) leA qa (by exact qb rfl) (by exact qb rfl) ?_)
  (repeat' ((conv=>whnf);first|refine zO ?_|refine Ob.auto ?_|refine zD 600 ?_|(refine qi (fun _=>rfl) (by kernel_rfl) 600 ?_)|(apply zB <;> intro hb <;> (try simp [-zd] at hb) <;> try (exfalso;omega))|refine Ob.intro ?_ ?_))
  ((conv=>whnf);refine AltG.far 11 [1] (by kernel_rfl) farA (EndG.go ?_))
  (repeat' ((conv=>whnf);first|refine zA ?_|refine zO ?_|refine Ob.auto ?_|refine zD 600 ?_|(apply zB <;> intro hb <;> (try simp [-zd] at hb) <;> try (exfalso;omega))|refine Ob.intro ?_ ?_))
  (((conv=>whnf);refine jr frzA ?_);(conv=>whnf);refine qm (fun _=>rfl) 600 [0] (t3 h1) (by kernel_rfl) (by kernel_rfl) ⟨Le.refl _,jf rfl,trivial⟩ qa (by exact qb rfl) (by exact qb rfl) (by kernel_rfl) (fun hk=>⟨hk,rfl⟩) (fun hok=>?_))
  (repeat' ((conv=>whnf);first|refine zA ?_|refine zO ?_|refine Ob.auto ?_|refine zD 600 ?_|(apply zB <;> intro hb <;> (try simp [-zd] at hb) <;> try (exfalso;omega))|refine Ob.intro ?_ ?_))
  exact ⟨hok,Le.refl _,SoLe.refl _,⟨rfl,Le.refl _,Le.refl _,qht rfl,Le.refl _,Le.refl _,Le.refl _,trivial⟩,quq rfl,trivial⟩
theorem jar (hc:TC ts) {blk:Ps→Tr × Ps} (hB:Runs ts blk) (hbt:∀ q,PreC ts n q→RdM ts 107 blk q) (h:PreC ts n r) (i a:Int):MTrip Try.prog 106 [.ptr 0 0,.ptr 1 0,.str ji,iv i] [psc ts r,brO 6 .nils .nils a .nils] ((orL ts blk ts.length [(blk r).1] (blk r).2).2.err == 0) (.tup [])
  [(0,psc ts (orL ts blk ts.length [(blk r).1] (blk r).2).2),(1,brO 10 .nils (ints [i]) a (.own 2 0 0 (orL ts blk ts.length [(blk r).1] (blk r).2).1.length)),(2,rowB (orL ts blk ts.length [(blk r).1] (blk r).2).1)] 3 (pfl (orL ts blk ts.length [(blk r).1] (blk r).2).2):=by
 have ht:=hc.ok
 have h2:=ht.len
 have t1:=hbt r h
 rw [RdM] at t1
 have a1:=hB r h.at_
 have stop:∀ m l y,y.err≠0→orL ts blk m l y=(l,y):=fun m l y he=>by
  cases m with
  | zero=>rfl
  | succ m=>rw [orL,za (by rw [qnc he];decide)]
 generalize hz:orL ts blk ts.length [(blk r).1] (blk r).2=z
 have s1:(blk r).2.err≠0→z.2.err=(blk r).2.err∧z.2.fat=(blk r).2.fat:=fun he=>by rw [← hz,stop _ _ _ he];exact ⟨rfl,rfl⟩
 generalize blk r=y at *
 refine qcw (T:=tab Try.prog) (C:={}) 600 (fun _=>rfl) Try.func106 rfl (by kernel_rfl) (by kernel_rfl) (fun c0 rdb mpb=>?_)
 (repeat' ((conv=>whnf);first|refine zA ?_|refine zO ?_|refine Ob.auto ?_|refine zD 600 ?_|(apply zB <;> intro hb <;> (try simp [-zd] at hb) <;> try (exfalso;omega))|refine Ob.intro ?_ ?_))
 cases hk:(y.2.err == 0) with
 | false=>
  (repeat' ((conv=>whnf);first|refine zA ?_|refine zO ?_|refine Ob.auto ?_|refine zD 600 ?_|(refine qi (fun _=>rfl) (by kernel_rfl) 600 ?_)|(apply zB <;> intro hb <;> (try simp [-zd] at hb) <;> try (exfalso;omega))|refine Ob.intro ?_ ?_))
  ((conv=>whnf);refine CallY.mpan 99 [0] (t1) hk (qde s1 hk) (by kernel_rfl) (by kernel_rfl) leA qa (by exact qb rfl) ?_)
  (repeat' ((conv=>whnf);first|refine zO ?_|refine Ob.auto ?_|refine zD 600 ?_|(refine qi (fun _=>rfl) (by kernel_rfl) 600 ?_)|(apply zB <;> intro hb <;> (try simp [-zd] at hb) <;> try (exfalso;omega))|refine Ob.intro ?_ ?_))
  ((conv=>whnf);refine AltG.far 11 [1] (by kernel_rfl) farA (EndG.dead 99 (by rfl)))
 | true=>
  have h1:=h.step a1 hk
  (repeat' ((conv=>whnf);first|refine zA ?_|refine zO ?_|refine Ob.auto ?_|refine zD 600 ?_|(refine qi (fun _=>rfl) (by kernel_rfl) 600 ?_)|(apply zB <;> intro hb <;> (try simp [-zd] at hb) <;> try (exfalso;omega))|refine Ob.intro ?_ ?_))
  ((conv=>whnf);refine CallY.trip [0] (t1.trip hk) (by kernel_rfl) leA qa (by exact qb rfl) (by exact qb rfl) ?_)
  (repeat' ((conv=>whnf);first|refine zO ?_|refine Ob.auto ?_|refine zD 600 ?_|(refine qi (fun _=>rfl) (by kernel_rfl) 600 ?_)|(apply zB <;> intro hb <;> (try simp [-zd] at hb) <;> try (exfalso;omega))|refine Ob.intro ?_ ?_))
  ((conv=>whnf);refine AltG.far 11 [1] (by kernel_rfl) farA (EndG.go ?_))
  (repeat' ((conv=>whnf);first|refine zA ?_|refine zO ?_|refine Ob.auto ?_|refine zD 600 ?_|(apply zB <;> intro hb <;> (try simp [-zd] at hb) <;> try (exfalso;omega))|refine Ob.intro ?_ ?_))
  ((conv=>whnf);refine qbb (fun _=>rfl) 600 1 (fun _:Nat × List Tr × Ps=>[]) (fun g=>[(2,rowB g.2.1),(1,brO 10 .nils (ints [i]) a (.own 2 0 0 g.2.1.length)),(0,psc ts g.2.2)]) (fun g=>PreC ts n g.2.2∧orL ts blk g.1 g.2.1 g.2.2=z∧(ts.length:Int) - g.2.2.at_≤g.1∧g.2.1.length+g.1≤1+ts.length) (fun g=>g.1) ((ts.length,[y.1],y.2)) (⟨h1,hz,by have:=h1.at_.lo;simp only;omega,by simp⟩) qa ⟨quq rfl,⟨rfl,Le.refl _,Le.refl _,qht rfl,Le.refl _,Le.refl _,Le.refl _,trivial⟩,SoLe.refl _,trivial⟩ (fun _=>rfl) (by kernel_rfl) ?_;(conv=>whnf))
  rintro ⟨m,l,v⟩ ⟨hP,hj,hkk,hl⟩
  simp only at hP hj hkk hl
  have g1:=hP.at_.hi
  obtain ⟨m,rfl⟩:∃ m',m=m'+1:=⟨m - 1,by omega⟩
  have t5:=qfg hc hP (s:=kOr) (by decide +kernel)
  (repeat' ((conv=>whnf);first|refine zA ?_|refine zO ?_|refine Ob.auto ?_|refine zD 600 ?_|(apply zB <;> intro hb <;> (try simp [-zd] at hb) <;> try (exfalso;omega))|refine Ob.intro ?_ ?_))
  ((conv=>whnf);refine zT 600 [0] (t5) qa ?_)
  cases hs:sees ts v kOr with
  | true=>
   have e2:took ts v kOr=adv v:=zb hs
   have e3:qaf ts v kOr=1:=zb hs
   have hQ:=hP.step (qh ht hP.at_ hs) (qbw hP.err)
   rw [orL,zb hs] at hj
   have t2:=hbt (adv v) hQ
   rw [RdM] at t2
   have a2:=hB (adv v) hQ.at_
   have hle:v.at_+1≤(blk (adv v)).2.at_:=a2.le
   have s2:(blk (adv v)).2.err≠0→z.2.err=(blk (adv v)).2.err∧z.2.fat=(blk (adv v)).2.fat:=fun he=>by rw [← hj,stop _ _ _ he];exact ⟨rfl,rfl⟩
   rw [e2,e3]
   generalize blk (adv v)=u at *
   (repeat' ((conv=>whnf);first|refine zA ?_|refine zO ?_|refine Ob.auto ?_|refine zD 600 ?_|(apply zB <;> intro hb <;> (try simp [-zd] at hb) <;> try (exfalso;omega))|refine Ob.intro ?_ ?_))
   cases hk2:(u.2.err == 0) with
   | false=>
    have hk:=hk2
    (repeat' ((conv=>whnf);first|refine zA ?_|refine zO ?_|refine Ob.auto ?_|refine zI ?_|refine zD 600 ?_|(refine qi (fun _=>rfl) (by kernel_rfl) 600 ?_)|(apply zB <;> intro hb <;> (try simp [-zd] at hb) <;> try (exfalso;omega))|refine Ob.intro ?_ ?_))
    ((conv=>whnf);refine CallY.mpan 99 [0] (t2) hk (qde s2 hk) (by kernel_rfl) (by kernel_rfl) leA qa (by exact qb rfl) ?_)
    (repeat' ((conv=>whnf);first|refine zO ?_|refine Ob.auto ?_|refine zI ?_|refine zD 600 ?_|(refine qi (fun _=>rfl) (by kernel_rfl) 600 ?_)|(apply zB <;> intro hb <;> (try simp [-zd] at hb) <;> try (exfalso;omega))|refine Ob.intro ?_ ?_))
    ((conv=>whnf);refine AltG.far 11 [1] (by kernel_rfl) farA (EndG.dead 99 (by rfl)))
   | true=>
    (repeat' ((conv=>whnf);first|refine zA ?_|refine zO ?_|refine Ob.auto ?_|refine zI ?_|refine zD 600 ?_|(refine qi (fun _=>rfl) (by kernel_rfl) 600 ?_)|(apply zB <;> intro hb <;> (try simp [-zd] at hb) <;> try (exfalso;omega))|refine Ob.intro ?_ ?_))
    ((conv=>whnf);refine CallY.trip [0] (t2.trip hk2) (by kernel_rfl) leA qa (by exact qb rfl) (by exact qb rfl) ?_)
    (repeat' ((conv=>whnf);first|refine zO ?_|refine Ob.auto ?_|refine zI ?_|refine zD 600 ?_|(refine qi (fun _=>rfl) (by kernel_rfl) 600 ?_)|(apply zB <;> intro hb <;> (try simp [-zd] at hb) <;> try (exfalso;omega))|refine Ob.intro ?_ ?_))
    ((conv=>whnf);refine AltG.far 11 [1] (by kernel_rfl) farA (EndG.go ?_))
    (repeat' ((conv=>whnf);first|refine zA ?_|refine zO ?_|refine Ob.auto ?_|refine zD 600 ?_|(apply zB <;> intro hb <;> (try simp [-zd] at hb) <;> try (exfalso;omega))|refine Ob.intro ?_ ?_))
    ((conv=>whnf);refine ⟨(m,l++[u.1],u.2),⟨hQ.step a2 hk2,hj,by dsimp only;omega,by simp;omega⟩,⟨qa,⟨⟨⟨rfl,rfl,rfl⟩,rfl,by simp,qnl rfl rfl⟩,⟨rfl,Le.refl _,Le.refl _,Le.refl _,Le.refl _,Le.refl _,Le.of_eq (congrArg (AV.own _ _ _) (by simp)),trivial⟩,qa⟩⟩,⟨qa,qa⟩,?_⟩;(first|omega|(dsimp only;omega)|skip))
  | false=>
   have e2:took ts v kOr=v:=za (by rw [hs];decide)
   have e3:qaf ts v kOr=0:=za (by rw [hs];decide)
   rw [orL,za (by rw [hs];decide)] at hj
   rw [e2,e3]
   subst hj
   (repeat' ((conv=>whnf);first|refine zA ?_|refine zO ?_|refine Ob.auto ?_|refine zD 600 ?_|(apply zB <;> intro hb <;> (try simp [-zd] at hb) <;> try (exfalso;omega))|refine Ob.intro ?_ ?_))
   exact ⟨by rw [hP.err];rfl,Le.refl _,qa⟩
end
end Go.Proofs.Ythfaleaojlnnoaa
