/- Contracts of the program's parser: levels of expressions. -/
import Derived.Test.YthfaleaojlnnoaaY320
import Derived.Test.YthfaleaojlnnoaaY32
set_option linter.unusedSimpArgs false
set_option linter.unusedVariables false
namespace Go.Proofs.Ythfaleaojlnnoaa
open List renaming getD_eq_getElem?_getD → zd
open Go Go.Sx Go.RowKit Go.St Pa
set_option maxRecDepth 100000
set_option maxHeartbeats 4000000
section
variable {ts:List Lx.Tok} {p q r:Ps} {n:Nat}
theorem qua {l:List Tr} {f:Nat→List AV} (h:∀ i,i<l.length→f i=[(l.getD i Tr.none).pv]):Le (.slc 1 l.length f) (qmw l):=Le.slc rfl (fun i hi=>by rw [h i hi,Tr.pvL_get l i hi])
theorem qpt {f:Nat→List AV} {a:Tr} (h:f 0=[a.pv]):Le (.slc 1 1 f) (qmw [a]):=qua (l:=[a]) (fun i hi=>by
 match i,hi with
 | 0,_=>exact h)
theorem qpu {f:Nat→List AV} {a b:Tr} (h:f 0=[a.pv]) (h':f 1=[b.pv]):Le (.slc 1 2 f) (qmw [a,b]):=qua (l:=[a,b]) (fun i hi=>by
 match i,hi with
 | 0,_=>exact h
 | 1,_=>exact h')
theorem jlk {f:Nat→List AV} {a b c:Tr} (h:f 0=[a.pv]) (h':f 1=[b.pv]) (h'':f 2=[c.pv]):Le (.slc 1 3 f) (qmw [a,b,c]):=qua (l:=[a,b,c]) (fun i hi=>by
 match i,hi with
 | 0,_=>exact h
 | 1,_=>exact h'
 | 2,_=>exact h'')
abbrev RdL (ts:List Lx.Tok) (part:Ps→Tr × Ps) (m:Int) (p:Ps):Prop:=MTrip Try.prog 62 [.ptr 0 0,iv m] [psc ts p] ((qco ts part m p).2.err == 0) (qco ts part m p).1.pv [(0,psc ts (qco ts part m p).2)] 1 (pfl (qco ts part m p).2)
theorem TurnR.meltS {E:Env} {sl:List (Nat × AV)} {st:List (Nat × SO)} {nx:Nat} (ks:List Nat) (t:Nat) (hok:qcm (qt ks st) 4 (ASt.get ⟨sl,st,nx⟩ t)) :
  TurnR E ⟨sl,st,nx⟩ ⟨(t,frzC (qt ks st) 4 (ASt.get ⟨sl,st,nx⟩ t))::sl,qag st ks,nx⟩:=by
 intro rd mp a w hs hrd
 have hd:=hs.mem.dropped ks
 have hf:=hs.mem.freeze ks
 refine ⟨_,mp,⟨fun t'=>?_,hs.defers,hf⟩,hrd.step qcr (Mp.le.refl _)⟩
 by_cases e:t'=t
 ·subst e
  have:ASt.get ⟨(t',frzC (qt ks st) 4 (ASt.get ⟨sl,st,nx⟩ t'))::sl,qag st ks,nx⟩ t'=frzC (qt ks st) 4 (ASt.get ⟨sl,st,nx⟩ t'):=by
   conv=>lhs;unfold ASt.get;rw [qo,zb rfl];rfl
   rfl
  rw [this]
  exact (qlt hd 4 _ _ hok (hs.slots t')).mono (Rd.le.refl _) (Mp.none_le _)
 ·have:ASt.get ⟨(t,frzC (qt ks st) 4 (ASt.get ⟨sl,st,nx⟩ t))::sl,qag st ks,nx⟩ t'=ASt.get ⟨sl,st,nx⟩ t':=by
   conv=>lhs;unfold ASt.get;rw [qo,za (fun h=>e h.symm)];rfl
   rfl
  rw [this]
  exact (hs.slots t').mono qcr (Mp.le.refl _)
theorem jll {part:Ps→Tr × Ps} (hp:∀ q,PreC ts n q→RdM ts 87 part q) (q:Ps) (h:PreC ts n q):RdL ts part 6 q:=by
 have t1:MTrip Try.prog 87 [.ptr 0 0] [psc ts q] ((qco ts part 6 q).2.err == 0) (qco ts part 6 q).1.pv [(0,psc ts (qco ts part 6 q).2)] 1 (pfl (qco ts part 6 q).2):=hp q h
 refine qaq (T:=tab Try.prog) (C:={}) 600 (fun _=>rfl) Try.func62 rfl (by kernel_rfl) (by kernel_rfl) (fun c0 rdb mpb=>?_)
 (repeat' ((conv=>whnf);first|refine zA ?_|refine zO ?_|refine Ob.auto ?_|refine zD 600 ?_|(apply zB <;> intro hb <;> (try simp [-zd] at hb) <;> try (exfalso;omega))|refine Ob.intro ?_ ?_))
 ((conv=>whnf);refine qm (fun _=>rfl) 600 [0] (t1) (by kernel_rfl) (by kernel_rfl) leA qa (by exact qb rfl) (by exact qb rfl) (by kernel_rfl) (fun hk=>⟨hk,rfl⟩) (fun hok=>?_))
 (repeat' ((conv=>whnf);first|refine zA ?_|refine zO ?_|refine Ob.auto ?_|refine zD 600 ?_|(apply zB <;> intro hb <;> (try simp [-zd] at hb) <;> try (exfalso;omega))|refine Ob.intro ?_ ?_))
 exact ⟨hok,Le.refl _,qa⟩
theorem qky (hc:TC ts) {part:Ps→Tr × Ps} (hr:Runs ts part) {m:Int} (h0:0≤m) (h5:m≤5) (hp:∀ q,PreC ts n q→RdL ts part (m+1) q) (p:Ps) (h:PreC ts n p):RdL ts part m p:=by
 have ht:=hc.ok
 have h2:=ht.len
 have hrs:=jlh ht hr (n:=m+1) (by omega) (by omega)
 have hF:=jle ts part h0 h5 p
 rw [RdL]
 have hpq:∀ q,PreC ts n q→MTrip Try.prog 62 [.ptr 0 0,iv (m+1)] [psc ts q] ((qco ts part (m+1) q).2.err == 0) (qco ts part (m+1) q).1.pv [(0,psc ts (qco ts part (m+1) q).2)] 1 (pfl (qco ts part (m+1) q).2):=hp
 clear hp
 have t1:=hpq p h
 have hs1:=hrs p h.at_
 generalize qco ts part (m+1)=f at hpq hrs hF t1 hs1
 generalize qco ts part m p=z at hF ⊢
 have hlen:0<ts.length:=by have:=h.at_.hi;have:=h.at_.lo;omega
 have hstk:(f p).2.err≠0→z=f p:=fun he=>by
  rw [hF,qzo]
  cases e:lvC ts m (f p).2 with
  | false=>rfl
  | true=>
   obtain ⟨s,hs⟩:=qzp h0 h5 e
   exact absurd (qtf hs) he
 refine qaq (T:=tab Try.prog) (C:={}) 600 (fun _=>rfl) Try.func62 rfl (by kernel_rfl) (by kernel_rfl) (fun c0 rdb mpb=>?_)
 (repeat' ((conv=>whnf);first|refine zA ?_|refine zO ?_|refine Ob.auto ?_|(refine Ob.intro (by (exact qw (by omega) (by omega))) ?_)|refine zD 600 ?_|(apply zB <;> intro hb <;> (try simp [-zd] at hb) <;> try (exfalso;omega))|refine Ob.intro ?_ ?_))
 ((conv=>whnf);refine qm (fun _=>rfl) 600 [0] (t1) (by kernel_rfl) (by kernel_rfl) leA qa (by exact qb rfl) (by exact qb rfl) (by kernel_rfl) (fun hk=>qdd (fun he=>by rw [hstk he];exact ⟨rfl,rfl⟩) hk) (fun hok=>?_))
 have hq:=h.step hs1 hok
 have hop:=fun (r:Ps) (hr:PreC ts n r)=>lv_op hc.kind hr.at_ hr.err h0 h5
 (repeat' ((conv=>whnf);first|refine zA ?_|refine zO ?_|refine Ob.auto ?_|refine zD 600 ?_|(apply zB <;> intro hb <;> (try simp [-zd] at hb) <;> try (exfalso;omega))|refine Ob.intro ?_ ?_))
 ((conv=>whnf);refine jlj (fun _=>rfl) 600 1 (fun g:Nat × Tr × Ps=>[(5,g.2.1.pv)]) (fun g=>[(0,psc ts g.2.2)]) (fun g=>PreC ts n g.2.2∧lvJ ts f m g.1 g.2.1 g.2.2=z∧(ts.length:Int) - g.2.2.at_≤g.1) (fun g=>((ts.length:Int) - g.2.2.at_).toNat) ((ts.length,(f p).1,(f p).2)) (⟨hq,hF.symm,by have:=hq.at_.lo;simp only;omega⟩) qa qa (fun _=>rfl) (by kernel_rfl) ?_;(conv=>whnf))
 rintro ⟨k,a,r⟩ ⟨hP,hj,hkk⟩
 simp only at hP hj hkk
 have g0:=hP.at_.lo
 have g1:=hP.at_.hi
 obtain ⟨k,rfl⟩:∃ k',k=k'+1:=⟨k - 1,by omega⟩
 obtain ⟨hop1,hop2⟩:=hop r hP
 (repeat' ((conv=>whnf);first|refine zA ?_|refine zO ?_|refine Ob.auto ?_|(refine Ob.intro (by (exact qw (by dsimp only;omega) (by dsimp only;omega))) ?_)|refine zC 600 (qp hP.at_) ?_|refine zG 600 (fun hg=>qp hP.at_) ?_|(refine CallY.con (qp hP.at_) (by rfl) leA ?_)|(refine CallZ.con (fun hg=>qp hP.at_) qu (by rfl) ?_)|refine zC 600 (qkx m (tk ts r).s h0 h5) ?_|refine zG 600 (fun hg=>qkx m (tk ts r).s h0 h5) ?_|(refine CallY.con (qkx m (tk ts r).s h0 h5) (by rfl) leA ?_)|(refine CallZ.con (fun hg=>qkx m (tk ts r).s h0 h5) qu (by rfl) ?_)|(refine ql (fun _=>rfl) 600 (qp hP.at_) qc (by (repeat' (first|exact trivial|exact Le.refl _|(refine And.intro ?_ ?_))) <;> fail) (by rfl) (by kernel_rfl) ?_)|(refine qv (fun _=>rfl) 600 (fun hg=>qp hP.at_) (fun hg=>qc) (fun hg=>(by (repeat' (first|exact trivial|exact Le.refl _|exact Le.cnd hg|(refine And.intro ?_ ?_))) <;> fail)) (by rfl) (by kernel_rfl) ?_)|(refine ql (fun _=>rfl) 600 (qkx m (tk ts r).s h0 h5) qc (by (repeat' (first|exact trivial|exact Le.refl _|(refine And.intro ?_ ?_))) <;> fail) (by rfl) (by kernel_rfl) ?_)|(refine qv (fun _=>rfl) 600 (fun hg=>qkx m (tk ts r).s h0 h5) (fun hg=>qc) (fun hg=>(by (repeat' (first|exact trivial|exact Le.refl _|exact Le.cnd hg|(refine And.intro ?_ ?_))) <;> fail)) (by rfl) (by kernel_rfl) ?_)|refine zD 600 ?_|(apply zB <;> intro hb <;> (try simp [-zd] at hb) <;> try (exfalso;omega))|refine Ob.intro ?_ ?_))
 ·have hc':lvC ts m r=false:=by rw [hop1];exact zv (by omega)
  rw [qzo hc'] at hj
  subst hj
  exact ⟨by rw [hP.err];rfl,Le.refl _,qa⟩
 ·have hc':lvC ts m r=true:=by rw [hop1];exact zan hb
  have hsg:=hop2 hc'
  have hlv:=jlg h0 h5 hb
  obtain ⟨s,hs⟩:=qzp h0 h5 hc'
  have hst:=qg ht hP.at_ hs
  have hP':=hP.step hst (qca hP.err)
  have t2:=hpq (adv r) hP'
  have hs2:=hrs (adv r) hP'.at_
  have hle:r.at_+1≤(f (adv r)).2.at_:=hs2.le
  rw [jlf hc',hsg] at hj
  have hstk2:(f (adv r)).2.err≠0→z.2.err=(f (adv r)).2.err∧z.2.fat=(f (adv r)).2.fat:=fun he=>by
   rw [← hj]
   split
   ·exact ⟨rfl,rfl⟩
   ·rename_i hn
    rw [(jli ht hrs h0 h5 k _ _ (hs2.ok hP'.at_) hn).err he]
    exact ⟨rfl,rfl⟩
  cases hk:((f (adv r)).2.err == 0) with
  | false=>
   (repeat' ((conv=>whnf);first|refine zA ?_|refine zO ?_|refine Ob.auto ?_|(refine Ob.intro (by (exact qw (by dsimp only;omega) (by dsimp only;omega))) ?_)|refine zD 600 ?_|(refine qh (fun _=>rfl) (by kernel_rfl) 600 ?_)|(apply zB <;> intro hb <;> (try simp [-zd] at hb) <;> try (exfalso;omega))|refine Ob.intro ?_ ?_))
   ((conv=>whnf);refine CallY.mpan 99 [0] (t2) hk (qdd hstk2 hk) (by kernel_rfl) (by kernel_rfl) leA qa (by exact qb rfl) ?_)
   (repeat' ((conv=>whnf);first|refine zO ?_|refine Ob.auto ?_|refine zD 600 ?_|(refine qh (fun _=>rfl) (by kernel_rfl) 600 ?_)|(apply zB <;> intro hb <;> (try simp [-zd] at hb) <;> try (exfalso;omega))|refine Ob.intro ?_ ?_))
   ((conv=>whnf);refine AltG.far 14 [1] (by kernel_rfl) farA (EndG.dead 99 (by rfl)))
  | true=>
   have hQ:=hP'.step hs2 hk
   (repeat' ((conv=>whnf);first|refine zA ?_|refine zO ?_|refine Ob.auto ?_|(refine Ob.intro (by (exact qw (by dsimp only;omega) (by dsimp only;omega))) ?_)|refine zD 600 ?_|(refine qh (fun _=>rfl) (by kernel_rfl) 600 ?_)|(apply zB <;> intro hb <;> (try simp [-zd] at hb) <;> try (exfalso;omega))|refine Ob.intro ?_ ?_))
   ((conv=>whnf);refine CallY.trip [0] (t2.trip hk) (by kernel_rfl) leA qa (by exact qb rfl) (by exact qb rfl) ?_)
   (repeat' ((conv=>whnf);first|refine zO ?_|refine Ob.auto ?_|refine zD 600 ?_|(refine qh (fun _=>rfl) (by kernel_rfl) 600 ?_)|(apply zB <;> intro hb <;> (try simp [-zd] at hb) <;> try (exfalso;omega))|refine Ob.intro ?_ ?_))
   ((conv=>whnf);refine AltG.far 14 [1] (by kernel_rfl) farA (EndG.go ?_))
   (repeat' ((conv=>whnf);first|refine zA ?_|refine zO ?_|refine Ob.auto ?_|refine zD 600 ?_|(apply zB <;> intro hb <;> (try simp [-zd] at hb) <;> try (exfalso;omega))|refine Ob.intro ?_ ?_))
   ·rw [zb (hlv.1 hb)] at hj
    subst hj
    exact ⟨hk,Le.rptrL ⟨Le.refl _,Le.nils _ _,qhm rfl,Le.refl _,Le.refl _,qpu rfl rfl,trivial⟩,qa⟩
   ·rw [za (fun h=>by have:=hlv.2 h;omega)] at hj
    ((conv=>whnf);refine ⟨(k,binT (opF m (tk ts r).s) a (f (adv r)).1,(f (adv r)).2),⟨hQ,hj,by dsimp only;omega⟩,⟨_,TurnR.meltS [0] 5 frzA,⟨⟨Le.rptrL ⟨Le.refl _,Le.nils _ _,qhm rfl,Le.refl _,Le.refl _,qpu rfl rfl,trivial⟩,trivial⟩,qa⟩,⟨qa,qa⟩⟩,?_⟩;(first|omega|(dsimp only;omega)|skip))
end
end Go.Proofs.Ythfaleaojlnnoaa
