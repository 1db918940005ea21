/- Some texts of the library, one behind the other. -/
import Derived.Test.YthfaleaojlnnoaaY6PcC
import Derived.Test.YthfaleaojlnnoaaY617
import Derived.Test.YthfaleaojlnnoaaY62
set_option linter.unusedSimpArgs false
set_option linter.unusedVariables false
section
namespace Go.Proofs.Ythfaleaojlnnoaa
open Go Go.Sx Go.RowKit Go.St Pa
set_option maxRecDepth 100000
set_option maxHeartbeats 4000000
theorem qly (n:Int) (s:List UInt8) (h0:0≤n) (h5:n≤5):Con Try.prog 88 [iv n,.str s] (iv (opF n s)):=by
 refine zK {} 300 Try.func88 (fun c0 rdb=>?_)
 (repeat' ((conv=>whnf);first|refine zA ?_|refine zO ?_|refine Ob.auto ?_|refine zC 300 (qlx _) ?_|refine zG 300 (fun hg=>qlx _) ?_|(refine CallY.con (qlx _) (by rfl) leA ?_)|(refine CallZ.con (fun hg=>qlx _) qz (by rfl) ?_)|(refine qj (fun _=>rfl) 300 (qlx _) qc (by (repeat' (first|exact trivial|exact Le.refl _|(refine And.intro ?_ ?_))) <;> fail) (by rfl) (by kernel_rfl) ?_)|(refine qv (fun _=>rfl) 300 (fun hg=>qlx _) (fun hg=>qc) (fun hg=>(by (repeat' (first|exact trivial|exact Le.refl _|exact Le.cnd hg|(refine And.intro ?_ ?_))) <;> fail)) (by rfl) (by kernel_rfl) ?_)|refine zD 300 ?_|(apply zB <;> intro hb <;> (try simp [-List.getD_eq_getElem?_getD] at hb) <;> try (exfalso;omega))|refine Ob.intro ?_ ?_))
 all_goals
  refine Le.of_eq (congrArg (AV.int _) ?_)
  simp only [opF]
  (repeat' split) <;> first|rfl|omega|(exfalso;simp_all;done)|simp_all
end Go.Proofs.Ythfaleaojlnnoaa
end
section
namespace Go.Proofs.Ythfaleaojlnnoaa
namespace Pa
open Go Go.Sx
def lvC (ts:List Lx.Tok) (n:Int) (p:Ps):Bool:=
 if n=0 then sees ts p sOr2 else if n=1 then sees ts p qhg else if n=2 then sees ts p sEq2 else if n=3 then sees ts p sLt else if n=4 then sumC ts p else qdn ts p
def lvS (ts:List Lx.Tok) (n:Int) (p:Ps):Int:=
 if n=0 then 0 else if n=1 then 1 else if n=2 then 2 else if n=3 then 3 else if n=4 then sumS ts p else qfp ts p
def lvJ (ts:List Lx.Tok) (f:Ps→Tr × Ps) (n:Int) (k:Nat) (a:Tr) (r:Ps):Tr × Ps:=
 if n=2∨n=3 then (if lvC ts n r=true then (binT (lvS ts n r) a (f (adv r)).1,(f (adv r)).2) else (a,r)) else jv f (lvC ts n) (lvS ts n) k a r
theorem jmy (ts:List Lx.Tok) (part:Ps→Tr × Ps) {n:Int} (h0:0≤n) (h5:n≤5) (p:Ps):qdc ts part n p=lvJ ts (qdc ts part (n+1)) n ts.length (qdc ts part (n+1) p).1 (qdc ts part (n+1) p).2:=by
 obtain rfl|rfl|rfl|rfl|rfl|rfl:n=0∨n=1∨n=2∨n=3∨n=4∨n=5:=by omega
 ·rfl
 ·rfl
 ·exact (zb (Or.inl rfl:(2:Int)=2∨(2:Int)=3)).symm
 ·exact (zb (Or.inr rfl:(3:Int)=2∨(3:Int)=3)).symm
 ·rfl
 ·rfl
theorem jmz {ts:List Lx.Tok} {f:Ps→Tr × Ps} {n:Int} {k:Nat} {a:Tr} {r:Ps} (h:lvC ts n r=true):lvJ ts f n (k+1) a r=if n=2∨n=3 then (binT (lvS ts n r) a (f (adv r)).1,(f (adv r)).2) else lvJ ts f n k (binT (lvS ts n r) a (f (adv r)).1) (f (adv r)).2:=by
 unfold lvJ
 by_cases hn:n=2∨n=3
 ·rw [zb hn,zb hn,zb h]
 ·rw [za hn,za hn,za hn,jv,zb h]
theorem jbg {ts:List Lx.Tok} {f:Ps→Tr × Ps} {n:Int} {k:Nat} {a:Tr} {r:Ps} (h:lvC ts n r=false):lvJ ts f n k a r=(a,r):=by
 unfold lvJ
 split
 ·rw [za (by rw [h];decide)]
 ·cases k with
  | zero=>rfl
  | succ k=>rw [jv,za (by rw [h];decide)]
theorem jna {n:Int} {s:List UInt8} (h0:0≤n) (h5:n≤5) (h:0≤opF n s):(opF n s=2∨opF n s=3↔n=2∨n=3):=by
 obtain rfl|rfl|rfl|rfl|rfl|rfl:n=0∨n=1∨n=2∨n=3∨n=4∨n=5:=by omega
 all_goals
  simp only [opF,Int.reduceEq,if_true,if_false] at h ⊢
  (repeat' split) <;> first|omega|(split at h <;> omega)|simp_all
section
variable {ts:List Lx.Tok} {p:Ps} (hk:TokK ts) (h:AtOk ts p) (he:p.err=0)
include hk h he
theorem lv_op {n:Int} (h0:0≤n) (h5:n≤5):lvC ts n p=decide (0≤opF n (tk ts p).s)∧(lvC ts n p=true→lvS ts n p=opF n (tk ts p).s):=by
 have key:∀ s,kwB s=true→sees ts p s=((tk ts p).s == s):=fun s hs=>qdi hk h he hs
 obtain rfl|rfl|rfl|rfl|rfl|rfl:n=0∨n=1∨n=2∨n=3∨n=4∨n=5:=by omega
 ·simp only [lvC,lvS,opF,if_true,key sOr2 (by decide +kernel)]
  split <;> simp [*]
 ·simp only [lvC,lvS,opF,Int.reduceEq,if_true,if_false,key qhg (by decide +kernel)]
  split <;> simp [*]
 ·simp only [lvC,lvS,opF,Int.reduceEq,if_true,if_false,key sEq2 (by decide +kernel)]
  split <;> simp [*]
 ·simp only [lvC,lvS,opF,Int.reduceEq,if_true,if_false,key sLt (by decide +kernel)]
  split <;> simp [*]
 ·simp only [lvC,lvS,opF,Int.reduceEq,if_true,if_false,sumC,sumS,key qli (by decide +kernel),key qaj (by decide +kernel)]
  by_cases e1:(tk ts p).s=qli
  ·simp [e1]
  ·by_cases e2:(tk ts p).s=qaj
   ·simp [e2]
   ·simp [e1,e2]
 ·simp only [lvC,lvS,opF,Int.reduceEq,if_true,if_false,qdn,qfp,key qbg (by decide +kernel),key qlj (by decide +kernel),key sPct (by decide +kernel)]
  by_cases e1:(tk ts p).s=qbg
  ·simp [e1]
  ·by_cases e2:(tk ts p).s=qlj
   ·simp [e2]
   ·by_cases e3:(tk ts p).s=sPct
    ·simp [e3]
    ·simp [e1,e2,e3]
omit hk h he in
theorem jbh {n:Int} (h0:0≤n) (h5:n≤5) (hc:lvC ts n p=true):∃ s,sees ts p s=true:=by
 obtain rfl|rfl|rfl|rfl|rfl|rfl:n=0∨n=1∨n=2∨n=3∨n=4∨n=5:=by omega
 ·exact ⟨_,hc⟩
 ·exact ⟨_,hc⟩
 ·exact ⟨_,hc⟩
 ·exact ⟨_,hc⟩
 ·exact qnq hc
 ·exact qnp hc
end
theorem jnb {ts:List Lx.Tok} (ht:ToksOk ts) {part:Ps→Tr × Ps} (hp:Runs ts part) {n:Int} (h0:0≤n) (h5:n≤6):Runs ts (qdc ts part n):=by
 obtain rfl|rfl|rfl|rfl|rfl|rfl|rfl:n=0∨n=1∨n=2∨n=3∨n=4∨n=5∨n=6:=by omega
 ·exact qjt ht hp
 ·exact qjs ht hp
 ·exact qjr ht hp
 ·exact qns ht hp
 ·exact qnr ht hp
 ·exact qjq ht hp
 ·exact hp
theorem jnc {ts:List Lx.Tok} (ht:ToksOk ts) {f:Ps→Tr × Ps} (hf:Runs ts f) {n:Int} (h0:0≤n) (h5:n≤5) (k:Nat) (a:Tr) (r:Ps) (hr:AtOk ts r) (hn:¬ (n=2∨n=3)):Step ts r (lvJ ts f n k a r).2:=by
 unfold lvJ
 rw [za hn]
 refine qgr ht hf (fun q hq=>?_) k a r hr
 obtain rfl|rfl|rfl|rfl:n=0∨n=1∨n=4∨n=5:=by omega
 ·exact ⟨_,hq⟩
 ·exact ⟨_,hq⟩
 ·exact qnq hq
 ·exact qnp hq
end Pa
end Go.Proofs.Ythfaleaojlnnoaa
end
section
namespace Go.Proofs.Ythfaleaojlnnoaa
open List renaming getD_eq_getElem?_getD → zd
open Go Go.Sx Go.RowKit Go.St Pa
set_option maxRecDepth 100000
set_option maxHeartbeats 4000000
section
variable {ts:List Lx.Tok} {p q r:Ps} {n:Nat}
theorem qvk {l:List Tr} {f:Nat→List AV} (h:∀ i,i<l.length→f i=[(l.getD i Tr.none).pv]):Le (.slc 1 l.length f) (qob l):=Le.slc rfl (fun i hi=>by rw [h i hi,Tr.pvL_get l i hi])
theorem qqx {f:Nat→List AV} {a:Tr} (h:f 0=[a.pv]):Le (.slc 1 1 f) (qob [a]):=qvk (l:=[a]) (fun i hi=>by
 match i,hi with
 | 0,_=>exact h)
theorem qqy {f:Nat→List AV} {a b:Tr} (h:f 0=[a.pv]) (h':f 1=[b.pv]):Le (.slc 1 2 f) (qob [a,b]):=qvk (l:=[a,b]) (fun i hi=>by
 match i,hi with
 | 0,_=>exact h
 | 1,_=>exact h')
theorem jne {f:Nat→List AV} {a b c:Tr} (h:f 0=[a.pv]) (h':f 1=[b.pv]) (h'':f 2=[c.pv]):Le (.slc 1 3 f) (qob [a,b,c]):=qvk (l:=[a,b,c]) (fun i hi=>by
 match i,hi with
 | 0,_=>exact h
 | 1,_=>exact h'
 | 2,_=>exact h'')
abbrev RdL (ts:List Lx.Tok) (part:Ps→Tr × Ps) (m:Int) (p:Ps):Prop:=MTrip Try.prog 62 [.ptr 0 0,iv m] [psc ts p] ((qdc ts part m p).2.err == 0) (qdc ts part m p).1.pv [(0,psc ts (qdc ts part m p).2)] 1 (pfl (qdc ts part m p).2)
theorem TurnR.meltS {E:Env} {sl:List (Nat × AV)} {st:List (Nat × SO)} {nx:Nat} (ks:List Nat) (t:Nat) (hok:qcw (qu ks st) 4 (ASt.get ⟨sl,st,nx⟩ t)) :
  TurnR E ⟨sl,st,nx⟩ ⟨(t,frzC (qu ks st) 4 (ASt.get ⟨sl,st,nx⟩ t))::sl,qac st ks,nx⟩:=by
 intro rd mp a w hs hrd
 have hd:=hs.mem.dropped ks
 have hf:=hs.mem.freeze ks
 refine ⟨_,mp,⟨fun t'=>?_,hs.defers,hf⟩,hrd.step qcs (Mp.le.refl _)⟩
 by_cases e:t'=t
 ·subst e
  have:ASt.get ⟨(t',frzC (qu ks st) 4 (ASt.get ⟨sl,st,nx⟩ t'))::sl,qac st ks,nx⟩ t'=frzC (qu ks st) 4 (ASt.get ⟨sl,st,nx⟩ t'):=by
   conv=>lhs;unfold ASt.get;rw [qt,zb rfl];rfl
   rfl
  rw [this]
  exact (qmt hd 4 _ _ hok (hs.slots t')).mono (Rd.le.refl _) (Mp.none_le _)
 ·have:ASt.get ⟨(t,frzC (qu ks st) 4 (ASt.get ⟨sl,st,nx⟩ t))::sl,qac st ks,nx⟩ t'=ASt.get ⟨sl,st,nx⟩ t':=by
   conv=>lhs;unfold ASt.get;rw [qt,za (fun h=>e h.symm)];rfl
   rfl
  rw [this]
  exact (hs.slots t').mono qcs (Mp.le.refl _)
theorem jnf {part:Ps→Tr × Ps} (hp:∀ q,PreC ts n q→RdM ts 87 part q) (q:Ps) (h:PreC ts n q):RdL ts part 6 q:=by
 have t1:MTrip Try.prog 87 [.ptr 0 0] [psc ts q] ((qdc ts part 6 q).2.err == 0) (qdc ts part 6 q).1.pv [(0,psc ts (qdc ts part 6 q).2)] 1 (pfl (qdc ts part 6 q).2):=hp q h
 refine qbb (T:=tab Try.prog) (C:={}) 600 (fun _=>rfl) Try.func62 rfl (by kernel_rfl) (by kernel_rfl) (fun c0 rdb mpb=>?_)
 (repeat' ((conv=>whnf);first|refine zA ?_|refine zO ?_|refine Ob.auto ?_|refine zD 600 ?_|(apply zB <;> intro hb <;> (try simp [-zd] at hb) <;> try (exfalso;omega))|refine Ob.intro ?_ ?_))
 ((conv=>whnf);refine qr (fun _=>rfl) 600 [0] (t1) (by kernel_rfl) (by kernel_rfl) leA qa (by exact qb rfl) (by exact qb rfl) (by kernel_rfl) (fun hk=>⟨hk,rfl⟩) (fun hok=>?_))
 (repeat' ((conv=>whnf);first|refine zA ?_|refine zO ?_|refine Ob.auto ?_|refine zD 600 ?_|(apply zB <;> intro hb <;> (try simp [-zd] at hb) <;> try (exfalso;omega))|refine Ob.intro ?_ ?_))
 exact ⟨hok,Le.refl _,qa⟩
theorem qlz (hc:TC ts) {part:Ps→Tr × Ps} (hr:Runs ts part) {m:Int} (h0:0≤m) (h5:m≤5) (hp:∀ q,PreC ts n q→RdL ts part (m+1) q) (p:Ps) (h:PreC ts n p):RdL ts part m p:=by
 have ht:=hc.ok
 have h2:=ht.len
 have hrs:=jnb ht hr (n:=m+1) (by omega) (by omega)
 have hF:=jmy ts part h0 h5 p
 rw [RdL]
 have hpq:∀ q,PreC ts n q→MTrip Try.prog 62 [.ptr 0 0,iv (m+1)] [psc ts q] ((qdc ts part (m+1) q).2.err == 0) (qdc ts part (m+1) q).1.pv [(0,psc ts (qdc ts part (m+1) q).2)] 1 (pfl (qdc ts part (m+1) q).2):=hp
 clear hp
 have t1:=hpq p h
 have hs1:=hrs p h.at_
 generalize qdc ts part (m+1)=f at hpq hrs hF t1 hs1
 generalize qdc ts part m p=z at hF ⊢
 have hlen:0<ts.length:=by have:=h.at_.hi;have:=h.at_.lo;omega
 have hstk:(f p).2.err≠0→z=f p:=fun he=>by
  rw [hF,jbg]
  cases e:lvC ts m (f p).2 with
  | false=>rfl
  | true=>
   obtain ⟨s,hs⟩:=jbh h0 h5 e
   exact absurd (qum hs) he
 refine qbb (T:=tab Try.prog) (C:={}) 600 (fun _=>rfl) Try.func62 rfl (by kernel_rfl) (by kernel_rfl) (fun c0 rdb mpb=>?_)
 (repeat' ((conv=>whnf);first|refine zA ?_|refine zO ?_|refine Ob.auto ?_|(refine Ob.intro (by (exact qx (by omega) (by omega))) ?_)|refine zD 600 ?_|(apply zB <;> intro hb <;> (try simp [-zd] at hb) <;> try (exfalso;omega))|refine Ob.intro ?_ ?_))
 ((conv=>whnf);refine qr (fun _=>rfl) 600 [0] (t1) (by kernel_rfl) (by kernel_rfl) leA qa (by exact qb rfl) (by exact qb rfl) (by kernel_rfl) (fun hk=>qdr (fun he=>by rw [hstk he];exact ⟨rfl,rfl⟩) hk) (fun hok=>?_))
 have hq:=h.step hs1 hok
 have hop:=fun (r:Ps) (hr:PreC ts n r)=>lv_op hc.kind hr.at_ hr.err h0 h5
 (repeat' ((conv=>whnf);first|refine zA ?_|refine zO ?_|refine Ob.auto ?_|refine zD 600 ?_|(apply zB <;> intro hb <;> (try simp [-zd] at hb) <;> try (exfalso;omega))|refine Ob.intro ?_ ?_))
 ((conv=>whnf);refine jnd (fun _=>rfl) 600 1 (fun g:Nat × Tr × Ps=>[(5,g.2.1.pv)]) (fun g=>[(0,psc ts g.2.2)]) (fun g=>PreC ts n g.2.2∧lvJ ts f m g.1 g.2.1 g.2.2=z∧(ts.length:Int) - g.2.2.at_≤g.1) (fun g=>((ts.length:Int) - g.2.2.at_).toNat) ((ts.length,(f p).1,(f p).2)) (⟨hq,hF.symm,by have:=hq.at_.lo;simp only;omega⟩) qa qa (fun _=>rfl) (by kernel_rfl) ?_;(conv=>whnf))
 rintro ⟨k,a,r⟩ ⟨hP,hj,hkk⟩
 simp only at hP hj hkk
 have g0:=hP.at_.lo
 have g1:=hP.at_.hi
 obtain ⟨k,rfl⟩:∃ k',k=k'+1:=⟨k - 1,by omega⟩
 obtain ⟨hop1,hop2⟩:=hop r hP
 (repeat' ((conv=>whnf);first|refine zA ?_|refine zO ?_|refine Ob.auto ?_|(refine Ob.intro (by (exact qx (by dsimp only;omega) (by dsimp only;omega))) ?_)|refine zC 600 (qw hP.at_) ?_|refine zG 600 (fun hg=>qw hP.at_) ?_|(refine CallY.con (qw hP.at_) (by rfl) leA ?_)|(refine CallZ.con (fun hg=>qw hP.at_) qz (by rfl) ?_)|refine zC 600 (qly m (tk ts r).s h0 h5) ?_|refine zG 600 (fun hg=>qly m (tk ts r).s h0 h5) ?_|(refine CallY.con (qly m (tk ts r).s h0 h5) (by rfl) leA ?_)|(refine CallZ.con (fun hg=>qly m (tk ts r).s h0 h5) qz (by rfl) ?_)|(refine qj (fun _=>rfl) 600 (qw hP.at_) qc (by (repeat' (first|exact trivial|exact Le.refl _|(refine And.intro ?_ ?_))) <;> fail) (by rfl) (by kernel_rfl) ?_)|(refine qv (fun _=>rfl) 600 (fun hg=>qw hP.at_) (fun hg=>qc) (fun hg=>(by (repeat' (first|exact trivial|exact Le.refl _|exact Le.cnd hg|(refine And.intro ?_ ?_))) <;> fail)) (by rfl) (by kernel_rfl) ?_)|(refine qj (fun _=>rfl) 600 (qly m (tk ts r).s h0 h5) qc (by (repeat' (first|exact trivial|exact Le.refl _|(refine And.intro ?_ ?_))) <;> fail) (by rfl) (by kernel_rfl) ?_)|(refine qv (fun _=>rfl) 600 (fun hg=>qly m (tk ts r).s h0 h5) (fun hg=>qc) (fun hg=>(by (repeat' (first|exact trivial|exact Le.refl _|exact Le.cnd hg|(refine And.intro ?_ ?_))) <;> fail)) (by rfl) (by kernel_rfl) ?_)|refine zD 600 ?_|(apply zB <;> intro hb <;> (try simp [-zd] at hb) <;> try (exfalso;omega))|refine Ob.intro ?_ ?_))
 ·have hc':lvC ts m r=false:=by rw [hop1];exact zw (by omega)
  rw [jbg hc'] at hj
  subst hj
  exact ⟨by rw [hP.err];rfl,Le.refl _,qa⟩
 ·have hc':lvC ts m r=true:=by rw [hop1];exact zaj hb
  have hsg:=hop2 hc'
  have hlv:=jna h0 h5 hb
  obtain ⟨s,hs⟩:=jbh h0 h5 hc'
  have hst:=qg ht hP.at_ hs
  have hP':=hP.step hst (qcq hP.err)
  have t2:=hpq (adv r) hP'
  have hs2:=hrs (adv r) hP'.at_
  have hle:r.at_+1≤(f (adv r)).2.at_:=hs2.le
  rw [jmz hc',hsg] at hj
  have hstk2:(f (adv r)).2.err≠0→z.2.err=(f (adv r)).2.err∧z.2.fat=(f (adv r)).2.fat:=fun he=>by
   rw [← hj]
   split
   ·exact ⟨rfl,rfl⟩
   ·rename_i hn
    rw [(jnc ht hrs h0 h5 k _ _ (hs2.ok hP'.at_) hn).err he]
    exact ⟨rfl,rfl⟩
  cases hk:((f (adv r)).2.err == 0) with
  | false=>
   (repeat' ((conv=>whnf);first|refine zA ?_|refine zO ?_|refine Ob.auto ?_|(refine Ob.intro (by (exact qx (by dsimp only;omega) (by dsimp only;omega))) ?_)|refine zD 600 ?_|(refine qh (fun _=>rfl) (by kernel_rfl) 600 ?_)|(apply zB <;> intro hb <;> (try simp [-zd] at hb) <;> try (exfalso;omega))|refine Ob.intro ?_ ?_))
   ((conv=>whnf);refine CallY.mpan 99 [0] (t2) hk (qdr hstk2 hk) (by kernel_rfl) (by kernel_rfl) leA qa (by exact qb rfl) ?_)
   (repeat' ((conv=>whnf);first|refine zO ?_|refine Ob.auto ?_|refine zD 600 ?_|(refine qh (fun _=>rfl) (by kernel_rfl) 600 ?_)|(apply zB <;> intro hb <;> (try simp [-zd] at hb) <;> try (exfalso;omega))|refine Ob.intro ?_ ?_))
   ((conv=>whnf);refine AltG.far 14 [1] (by kernel_rfl) farA (EndG.dead 99 (by rfl)))
  | true=>
   have hQ:=hP'.step hs2 hk
   (repeat' ((conv=>whnf);first|refine zA ?_|refine zO ?_|refine Ob.auto ?_|(refine Ob.intro (by (exact qx (by dsimp only;omega) (by dsimp only;omega))) ?_)|refine zD 600 ?_|(refine qh (fun _=>rfl) (by kernel_rfl) 600 ?_)|(apply zB <;> intro hb <;> (try simp [-zd] at hb) <;> try (exfalso;omega))|refine Ob.intro ?_ ?_))
   ((conv=>whnf);refine CallY.trip [0] (t2.trip hk) (by kernel_rfl) leA qa (by exact qb rfl) (by exact qb rfl) ?_)
   (repeat' ((conv=>whnf);first|refine zO ?_|refine Ob.auto ?_|refine zD 600 ?_|(refine qh (fun _=>rfl) (by kernel_rfl) 600 ?_)|(apply zB <;> intro hb <;> (try simp [-zd] at hb) <;> try (exfalso;omega))|refine Ob.intro ?_ ?_))
   ((conv=>whnf);refine AltG.far 14 [1] (by kernel_rfl) farA (EndG.go ?_))
   (repeat' ((conv=>whnf);first|refine zA ?_|refine zO ?_|refine Ob.auto ?_|refine zD 600 ?_|(apply zB <;> intro hb <;> (try simp [-zd] at hb) <;> try (exfalso;omega))|refine Ob.intro ?_ ?_))
   ·rw [zb (hlv.1 hb)] at hj
    subst hj
    exact ⟨hk,Le.rptrL ⟨Le.refl _,Le.nils _ _,qil rfl,Le.refl _,Le.refl _,qqy rfl rfl,trivial⟩,qa⟩
   ·rw [za (fun h=>by have:=hlv.2 h;omega)] at hj
    ((conv=>whnf);refine ⟨(k,binT (opF m (tk ts r).s) a (f (adv r)).1,(f (adv r)).2),⟨hQ,hj,by dsimp only;omega⟩,⟨_,TurnR.meltS [0] 5 frzA,⟨⟨Le.rptrL ⟨Le.refl _,Le.nils _ _,qil rfl,Le.refl _,Le.refl _,qqy rfl rfl,trivial⟩,trivial⟩,qa⟩,⟨qa,qa⟩⟩,?_⟩;(first|omega|(dsimp only;omega)|skip))
end
end Go.Proofs.Ythfaleaojlnnoaa
end
