/- Contracts of the program's parser: levels of expressions. -/
import Derived.Test.YthfaleaojlnnoaaY719
import Derived.Test.YthfaleaojlnnoaaY72
set_option linter.unusedSimpArgs false
set_option linter.unusedVariables false
namespace Go.Proofs.Ythfaleaojlnnoaa
open List renaming getD_eq_getElem?_getD → zd
open Go Go.Sx Go.RowKit Go.St Pa
set_option maxRecDepth 100000
set_option maxHeartbeats 4000000
section
variable {ts:List Lx.Tok} {p q r:Ps} {n:Nat}
theorem qup {l:List Tr} {f:Nat→List AV} (h:∀ i,i<l.length→f i=[(l.getD i Tr.none).pv]):Le (.slc 1 l.length f) (qnj l):=Le.slc rfl (fun i hi=>by rw [h i hi,Tr.pvL_get l i hi])
theorem qqb {f:Nat→List AV} {a:Tr} (h:f 0=[a.pv]):Le (.slc 1 1 f) (qnj [a]):=qup (l:=[a]) (fun i hi=>by
 match i,hi with
 | 0,_=>exact h)
theorem qqc {f:Nat→List AV} {a b:Tr} (h:f 0=[a.pv]) (h':f 1=[b.pv]):Le (.slc 1 2 f) (qnj [a,b]):=qup (l:=[a,b]) (fun i hi=>by
 match i,hi with
 | 0,_=>exact h
 | 1,_=>exact h')
theorem jmb {f:Nat→List AV} {a b c:Tr} (h:f 0=[a.pv]) (h':f 1=[b.pv]) (h'':f 2=[c.pv]):Le (.slc 1 3 f) (qnj [a,b,c]):=qup (l:=[a,b,c]) (fun i hi=>by
 match i,hi with
 | 0,_=>exact h
 | 1,_=>exact h'
 | 2,_=>exact h'')
abbrev RdL (ts:List Lx.Tok) (part:Ps→Tr × Ps) (m:Int) (p:Ps):Prop:=MTrip Try.prog 62 [.ptr 0 0,iv m] [psc ts p] ((qcq ts part m p).2.err == 0) (qcq ts part m p).1.pv [(0,psc ts (qcq ts part m p).2)] 1 (pfl (qcq ts part m p).2)
theorem TurnR.meltS {E:Env} {sl:List (Nat × AV)} {st:List (Nat × SO)} {nx:Nat} (ks:List Nat) (t:Nat) (hok:qcm (qu ks st) 4 (ASt.get ⟨sl,st,nx⟩ t)) :
  TurnR E ⟨sl,st,nx⟩ ⟨(t,frzC (qu ks st) 4 (ASt.get ⟨sl,st,nx⟩ t))::sl,qae st ks,nx⟩:=by
 intro rd mp a w hs hrd
 have hd:=hs.mem.dropped ks
 have hf:=hs.mem.freeze ks
 refine ⟨_,mp,⟨fun t'=>?_,hs.defers,hf⟩,hrd.step qct (Mp.le.refl _)⟩
 by_cases e:t'=t
 ·subst e
  have:ASt.get ⟨(t',frzC (qu ks st) 4 (ASt.get ⟨sl,st,nx⟩ t'))::sl,qae st ks,nx⟩ t'=frzC (qu ks st) 4 (ASt.get ⟨sl,st,nx⟩ t'):=by
   conv=>lhs;unfold ASt.get;rw [qq,zb rfl];rfl
   rfl
  rw [this]
  exact (qlz hd 4 _ _ hok (hs.slots t')).mono (Rd.le.refl _) (Mp.none_le _)
 ·have:ASt.get ⟨(t,frzC (qu ks st) 4 (ASt.get ⟨sl,st,nx⟩ t))::sl,qae st ks,nx⟩ t'=ASt.get ⟨sl,st,nx⟩ t':=by
   conv=>lhs;unfold ASt.get;rw [qq,za (fun h=>e h.symm)];rfl
   rfl
  rw [this]
  exact (hs.slots t').mono qct (Mp.le.refl _)
theorem jmc {part:Ps→Tr × Ps} (hp:∀ q,PreC ts n q→RdM ts 87 part q) (q:Ps) (h:PreC ts n q):RdL ts part 6 q:=by
 have t1:MTrip Try.prog 87 [.ptr 0 0] [psc ts q] ((qcq ts part 6 q).2.err == 0) (qcq ts part 6 q).1.pv [(0,psc ts (qcq ts part 6 q).2)] 1 (pfl (qcq ts part 6 q).2):=hp q h
 refine qat (T:=tab Try.prog) (C:={}) 600 (fun _=>rfl) Try.func62 rfl (by kernel_rfl) (by kernel_rfl) (fun c0 rdb mpb=>?_)
 (repeat' ((conv=>whnf);first|refine zA ?_|refine zO ?_|refine Ob.auto ?_|refine zD 600 ?_|(apply zB <;> intro hb <;> (try simp [-zd] at hb) <;> try (exfalso;omega))|refine Ob.intro ?_ ?_))
 ((conv=>whnf);refine qm (fun _=>rfl) 600 [0] (t1) (by kernel_rfl) (by kernel_rfl) leA qa (by exact qb rfl) (by exact qb rfl) (by kernel_rfl) (fun hk=>⟨hk,rfl⟩) (fun hok=>?_))
 (repeat' ((conv=>whnf);first|refine zA ?_|refine zO ?_|refine Ob.auto ?_|refine zD 600 ?_|(apply zB <;> intro hb <;> (try simp [-zd] at hb) <;> try (exfalso;omega))|refine Ob.intro ?_ ?_))
 exact ⟨hok,Le.refl _,qa⟩
theorem qlg (hc:TC ts) {part:Ps→Tr × Ps} (hr:Runs ts part) {m:Int} (h0:0≤m) (h5:m≤5) (hp:∀ q,PreC ts n q→RdL ts part (m+1) q) (p:Ps) (h:PreC ts n p):RdL ts part m p:=by
 have ht:=hc.ok
 have h2:=ht.len
 have hrs:=jly ht hr (n:=m+1) (by omega) (by omega)
 have hF:=jlv ts part h0 h5 p
 rw [RdL]
 have hpq:∀ q,PreC ts n q→MTrip Try.prog 62 [.ptr 0 0,iv (m+1)] [psc ts q] ((qcq ts part (m+1) q).2.err == 0) (qcq ts part (m+1) q).1.pv [(0,psc ts (qcq ts part (m+1) q).2)] 1 (pfl (qcq ts part (m+1) q).2):=hp
 clear hp
 have t1:=hpq p h
 have hs1:=hrs p h.at_
 generalize qcq ts part (m+1)=f at hpq hrs hF t1 hs1
 generalize qcq ts part m p=z at hF ⊢
 have hlen:0<ts.length:=by have:=h.at_.hi;have:=h.at_.lo;omega
 have hstk:(f p).2.err≠0→z=f p:=fun he=>by
  rw [hF,jal]
  cases e:lvC ts m (f p).2 with
  | false=>rfl
  | true=>
   obtain ⟨s,hs⟩:=jam h0 h5 e
   exact absurd (qtn hs) he
 refine qat (T:=tab Try.prog) (C:={}) 600 (fun _=>rfl) Try.func62 rfl (by kernel_rfl) (by kernel_rfl) (fun c0 rdb mpb=>?_)
 (repeat' ((conv=>whnf);first|refine zA ?_|refine zO ?_|refine Ob.auto ?_|(refine Ob.intro (by (exact qv (by omega) (by omega))) ?_)|refine zD 600 ?_|(apply zB <;> intro hb <;> (try simp [-zd] at hb) <;> try (exfalso;omega))|refine Ob.intro ?_ ?_))
 ((conv=>whnf);refine qm (fun _=>rfl) 600 [0] (t1) (by kernel_rfl) (by kernel_rfl) leA qa (by exact qb rfl) (by exact qb rfl) (by kernel_rfl) (fun hk=>qde (fun he=>by rw [hstk he];exact ⟨rfl,rfl⟩) hk) (fun hok=>?_))
 have hq:=h.step hs1 hok
 have hop:=fun (r:Ps) (hr:PreC ts n r)=>lv_op hc.kind hr.at_ hr.err h0 h5
 (repeat' ((conv=>whnf);first|refine zA ?_|refine zO ?_|refine Ob.auto ?_|refine zD 600 ?_|(apply zB <;> intro hb <;> (try simp [-zd] at hb) <;> try (exfalso;omega))|refine Ob.intro ?_ ?_))
 ((conv=>whnf);refine jma (fun _=>rfl) 600 1 (fun g:Nat × Tr × Ps=>[(5,g.2.1.pv)]) (fun g=>[(0,psc ts g.2.2)]) (fun g=>PreC ts n g.2.2∧lvJ ts f m g.1 g.2.1 g.2.2=z∧(ts.length:Int) - g.2.2.at_≤g.1) (fun g=>((ts.length:Int) - g.2.2.at_).toNat) ((ts.length,(f p).1,(f p).2)) (⟨hq,hF.symm,by have:=hq.at_.lo;simp only;omega⟩) qa qa (fun _=>rfl) (by kernel_rfl) ?_;(conv=>whnf))
 rintro ⟨k,a,r⟩ ⟨hP,hj,hkk⟩
 simp only at hP hj hkk
 have g0:=hP.at_.lo
 have g1:=hP.at_.hi
 obtain ⟨k,rfl⟩:∃ k',k=k'+1:=⟨k - 1,by omega⟩
 obtain ⟨hop1,hop2⟩:=hop r hP
 (repeat' ((conv=>whnf);first|refine zA ?_|refine zO ?_|refine Ob.auto ?_|(refine Ob.intro (by (exact qv (by dsimp only;omega) (by dsimp only;omega))) ?_)|refine zC 600 (qr hP.at_) ?_|refine zG 600 (fun hg=>qr hP.at_) ?_|(refine CallY.con (qr hP.at_) (by rfl) leA ?_)|(refine CallZ.con (fun hg=>qr hP.at_) qn (by rfl) ?_)|refine zC 600 (qlf m (tk ts r).s h0 h5) ?_|refine zG 600 (fun hg=>qlf m (tk ts r).s h0 h5) ?_|(refine CallY.con (qlf m (tk ts r).s h0 h5) (by rfl) leA ?_)|(refine CallZ.con (fun hg=>qlf m (tk ts r).s h0 h5) qn (by rfl) ?_)|(refine ql (fun _=>rfl) 600 (qr hP.at_) qc (by (repeat' (first|exact trivial|exact Le.refl _|(refine And.intro ?_ ?_))) <;> fail) (by rfl) (by kernel_rfl) ?_)|(refine qp (fun _=>rfl) 600 (fun hg=>qr hP.at_) (fun hg=>qc) (fun hg=>(by (repeat' (first|exact trivial|exact Le.refl _|exact Le.cnd hg|(refine And.intro ?_ ?_))) <;> fail)) (by rfl) (by kernel_rfl) ?_)|(refine ql (fun _=>rfl) 600 (qlf m (tk ts r).s h0 h5) qc (by (repeat' (first|exact trivial|exact Le.refl _|(refine And.intro ?_ ?_))) <;> fail) (by rfl) (by kernel_rfl) ?_)|(refine qp (fun _=>rfl) 600 (fun hg=>qlf m (tk ts r).s h0 h5) (fun hg=>qc) (fun hg=>(by (repeat' (first|exact trivial|exact Le.refl _|exact Le.cnd hg|(refine And.intro ?_ ?_))) <;> fail)) (by rfl) (by kernel_rfl) ?_)|refine zD 600 ?_|(apply zB <;> intro hb <;> (try simp [-zd] at hb) <;> try (exfalso;omega))|refine Ob.intro ?_ ?_))
 ·have hc':lvC ts m r=false:=by rw [hop1];exact zt (by omega)
  rw [jal hc'] at hj
  subst hj
  exact ⟨by rw [hP.err];rfl,Le.refl _,qa⟩
 ·have hc':lvC ts m r=true:=by rw [hop1];exact xw hb
  have hsg:=hop2 hc'
  have hlv:=jlx h0 h5 hb
  obtain ⟨s,hs⟩:=jam h0 h5 hc'
  have hst:=qh ht hP.at_ hs
  have hP':=hP.step hst (qbw hP.err)
  have t2:=hpq (adv r) hP'
  have hs2:=hrs (adv r) hP'.at_
  have hle:r.at_+1≤(f (adv r)).2.at_:=hs2.le
  rw [jlw hc',hsg] at hj
  have hstk2:(f (adv r)).2.err≠0→z.2.err=(f (adv r)).2.err∧z.2.fat=(f (adv r)).2.fat:=fun he=>by
   rw [← hj]
   split
   ·exact ⟨rfl,rfl⟩
   ·rename_i hn
    rw [(jlz ht hrs h0 h5 k _ _ (hs2.ok hP'.at_) hn).err he]
    exact ⟨rfl,rfl⟩
  cases hk:((f (adv r)).2.err == 0) with
  | false=>
   (repeat' ((conv=>whnf);first|refine zA ?_|refine zO ?_|refine Ob.auto ?_|(refine Ob.intro (by (exact qv (by dsimp only;omega) (by dsimp only;omega))) ?_)|refine zD 600 ?_|(refine qi (fun _=>rfl) (by kernel_rfl) 600 ?_)|(apply zB <;> intro hb <;> (try simp [-zd] at hb) <;> try (exfalso;omega))|refine Ob.intro ?_ ?_))
   ((conv=>whnf);refine CallY.mpan 99 [0] (t2) hk (qde hstk2 hk) (by kernel_rfl) (by kernel_rfl) leA qa (by exact qb rfl) ?_)
   (repeat' ((conv=>whnf);first|refine zO ?_|refine Ob.auto ?_|refine zD 600 ?_|(refine qi (fun _=>rfl) (by kernel_rfl) 600 ?_)|(apply zB <;> intro hb <;> (try simp [-zd] at hb) <;> try (exfalso;omega))|refine Ob.intro ?_ ?_))
   ((conv=>whnf);refine AltG.far 14 [1] (by kernel_rfl) farA (EndG.dead 99 (by rfl)))
  | true=>
   have hQ:=hP'.step hs2 hk
   (repeat' ((conv=>whnf);first|refine zA ?_|refine zO ?_|refine Ob.auto ?_|(refine Ob.intro (by (exact qv (by dsimp only;omega) (by dsimp only;omega))) ?_)|refine zD 600 ?_|(refine qi (fun _=>rfl) (by kernel_rfl) 600 ?_)|(apply zB <;> intro hb <;> (try simp [-zd] at hb) <;> try (exfalso;omega))|refine Ob.intro ?_ ?_))
   ((conv=>whnf);refine CallY.trip [0] (t2.trip hk) (by kernel_rfl) leA qa (by exact qb rfl) (by exact qb rfl) ?_)
   (repeat' ((conv=>whnf);first|refine zO ?_|refine Ob.auto ?_|refine zD 600 ?_|(refine qi (fun _=>rfl) (by kernel_rfl) 600 ?_)|(apply zB <;> intro hb <;> (try simp [-zd] at hb) <;> try (exfalso;omega))|refine Ob.intro ?_ ?_))
   ((conv=>whnf);refine AltG.far 14 [1] (by kernel_rfl) farA (EndG.go ?_))
   (repeat' ((conv=>whnf);first|refine zA ?_|refine zO ?_|refine Ob.auto ?_|refine zD 600 ?_|(apply zB <;> intro hb <;> (try simp [-zd] at hb) <;> try (exfalso;omega))|refine Ob.intro ?_ ?_))
   ·rw [zb (hlv.1 hb)] at hj
    subst hj
    exact ⟨hk,Le.rptrL ⟨Le.refl _,Le.nils _ _,qht rfl,Le.refl _,Le.refl _,qqc rfl rfl,trivial⟩,qa⟩
   ·rw [za (fun h=>by have:=hlv.2 h;omega)] at hj
    ((conv=>whnf);refine ⟨(k,binT (opF m (tk ts r).s) a (f (adv r)).1,(f (adv r)).2),⟨hQ,hj,by dsimp only;omega⟩,⟨_,TurnR.meltS [0] 5 frzA,⟨⟨Le.rptrL ⟨Le.refl _,Le.nils _ _,qht rfl,Le.refl _,Le.refl _,qqc rfl rfl,trivial⟩,trivial⟩,qa⟩,⟨qa,qa⟩⟩,?_⟩;(first|omega|(dsimp only;omega)|skip))
end
end Go.Proofs.Ythfaleaojlnnoaa
