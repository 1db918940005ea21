/- Contracts: automata by the document's answer: blocks, statements. -/
import Derived.Test.YtikahnkkfkoglaaGreatDoorY234
import Derived.Test.YtikahnkkfkoglaaGreatDoorY235
import Derived.Test.YtikahnkkfkoglaaGreatDoorY22
set_option linter.unusedSimpArgs false
set_option linter.unusedVariables false
namespace Go.Proofs.YtikahnkkfkoglaaGreatDoor
open List renaming getD_eq_getElem?_getD → zd
open Go Go.Sx Go.RowKit Go.St
set_option maxRecDepth 100000
set_option maxHeartbeats 8000000
structure SPre (m:Md) (nw:Nat) (it:Int) (g:Nat) (p:Pr) (a n frm to:Int):Prop where
 at_:At m.tree g a n it
 ok:PrOk m.tree.length nw m.chans.length p
 need:Need m.tree it p.vars.length m.chans.length
 frm:0≤frm∧frm<p.places
 to:0≤to∧to<p.places
 ed:(p.edges.length:Int)+4 * (n - a)≤40000
 pl:p.places+4 * (n - a)≤40000
section
variable (m:Md) (ht:Tree m.tree) (nw:Nat) (it:Int) (nv:Nat) (fv:Nat→List AV) (np:Nat) (fp:Nat→List AV)
def qyr (f:Nat):Prop:=∀ (g:Nat),g≤f→∀ (p:Pr) (a n frm to:Int),SPre m nw it g p a n frm to→6≤qv m.tree a∧qv m.tree a≤15→
 qik 67 [mdO m nv np,prV p,iv a,iv frm,iv to] [vrSO nv fv,pcSO np fp] (qe m.tree m.chans f p a frm to)
include ht in
theorem block_trip (f:Nat) (ih:qyr m nw it nv fv np fp f) (g:Nat) (hg:g≤f+1) (p:Pr) (b n frm to:Int) (hp:SPre m nw it g p b n frm to) (hk:qv m.tree b=16) :
  qik 104 [mdO m nv np,prV p,iv b,iv frm,iv to] [vrSO nv fv,pcSO np fp] (qbj (qe m.tree m.chans f) b p (m.tree.getD b.toNat nd0).kids frm to):=by
 obtain ⟨g',rfl,hw,hi⟩:=hp.at_.kids ht
 have hb:=hp.at_.pos
 have hlen:=ht.len
 have hkl:=(ht.kidsLen (j:=b.toNat) (by omega)).1
 have hsev:=jho m nv fv np fp (qe m.tree m.chans f) b
  (fun ks p frm to=>∃ next n:Int,(0<next∧walkL (walkF m.tree g') m.tree.length ks next=(n,true)∧∀ k∈ks,itemF m.tree k=it∧6≤qv m.tree k∧qv m.tree k≤15)∧PrOk m.tree.length nw m.chans.length p∧Need m.tree it p.vars.length m.chans.length∧(0≤frm∧frm<p.places)∧(0≤to∧to<p.places)∧(p.edges.length:Int)+4 * (n - next)+1≤40000∧p.places+4 * (n - next)+1≤40000)
  (fun ks p frm to h=>by
   obtain ⟨next,n,⟨h0,h1,h2⟩,h3,h4,h5,h6,h7,h8⟩:=h
   have hg:=qff m.tree (walkF m.tree g') (qaj m.tree g') ks next n (by omega) h1
   have hs:=qsv m.tree g' ks next n (by omega) h1
   have hsl:=qsw ks next n hs hg.2.1
   have:=h3.rl
   have:=h3.pl
   refine ⟨⟨by omega,by omega,by omega,by omega⟩,?_⟩
   by_cases hn:next≤m.tree.length
   ·have:=hg.1.2 hn;omega
   ·cases ks with
    | nil=>simp
    | cons k ks=>obtain ⟨_,h,_⟩:=qak h1;omega)
  (fun k p frm to h=>by
   obtain ⟨next,n,⟨h0,h1,h2⟩,h3,h4,h5,h6,h7,h8⟩:=h
   obtain ⟨rfl,h9,m',h10,h11⟩:=qak h1
   simp only [walkL,Prod.mk.injEq,and_true] at h11
   subst h11
   have:=h2 k (zp ..)
   exact ih g' (by omega) p k m' frm to ⟨⟨⟨h0,h9⟩,h10,this.1⟩,h3,h4,h5,h6,by omega,by omega⟩ this.2)
  (fun k k' ks p frm to h=>by
   obtain ⟨next,n,⟨h0,h1,h2⟩,h3,h4,h5,h6,h7,h8⟩:=h
   obtain ⟨rfl,h9,m',h10,h11⟩:=qak h1
   have hkk:=h2 k (zp ..)
   have hat:At m.tree g' k m' it:=⟨⟨h0,h9⟩,h10,hkk.1⟩
   have hlt:=hat.lt
   have hge:=(qff m.tree (walkF m.tree g') (qaj m.tree g') (k'::ks) m' n (by omega) h11).1.1
   have g1:=qgb h3
   have hv1:(qg p).vars.length=p.vars.length:=by rw [g1.same.2.2.2.2]
   have hpl:(qg p).places=p.places+1:=rfl
   have hpe:(qg p).edges=p.edges:=rfl
   have hpp:=h3.pl
   obtain ⟨_,h12,_⟩:=qak h11
   have hlt2:m'<n:=by
    obtain ⟨e1,e2,m2,e3,e4⟩:=qak h11
    have:=(qaj m.tree g' m' m2 (by omega) e3).1.1
    have:=(qff m.tree (walkF m.tree g') (qaj m.tree g') ks m2 n (by omega) e4).1.1
    omega
   have g2:=qmi ht (nv:=nw) m.chans f g' (by omega) (qg p) k m' frm p.places hat hkk.2 g1.ok (by rw [hv1];exact h4) (by omega) (by omega)
   have hv2:(qe m.tree m.chans f (qg p) k frm p.places).vars.length=p.vars.length:=by rw [g2.same.2.2.2.2,hv1]
   have h13:=g2.pl
   have h14:=g2.ed
   rw [hpe] at h14
   refine ⟨ih g' (by omega) (qg p) k m' frm p.places ⟨hat,g1.ok,by rw [hv1];exact h4,by omega,by omega,by rw [hpe];omega,by omega⟩ hkk.2,m',n,⟨by omega,h11,fun q hq=>h2 q (zq _ hq)⟩,g2.ok,by rw [hv2];exact h4,by omega,by omega,by omega,by omega⟩)
  (m.tree.getD b.toNat nd0).kids p frm to ⟨b+1,n,⟨by omega,hw,fun k hk'=>⟨hi k hk',by
   obtain ⟨q,hq,rfl⟩:=List.mem_iff_getElem.1 hk'
   have hkk:=ht.kind b.toNat (by omega) q hq
   have hk16:(m.tree.getD b.toNat nd0).kind=16:=hk
   rw [← qky (l:=m.tree) (n:=m.tree.getD b.toNat nd0) (i:=q) (by rw [zd,ze hq];rfl)]
   exact ⟨(hkk.2.2.1 (by omega) (by omega)).1,hkk.2.2.2.1 hk16⟩⟩⟩,hp.ok,hp.need,hp.frm,hp.to,by have:=hp.ed;omega,by have:=hp.pl;omega⟩
 refine qdj (T:=tab Tryz.prog) (C:={}) 5 300 (fun _=>rfl) Tryz.func104 rfl (by kernel_rfl) (by kernel_rfl) (fun c0 rdb mpb=>?_)
 (repeat' ((conv=>whnf);first|refine Ob.auto ?_|(refine zQ 300 ?_)|fail))
 ((conv=>whnf);refine CallY.trip [0,1] (hsev) (by kernel_rfl) leA qa (by exact qb rfl) (by exact qb rfl) ?_)
 (repeat' ((conv=>whnf);first|refine zA ?_|refine Ob.auto ?_|fail))
 (refine ⟨⟨Le.refl _,qa⟩,qdi rfl (SoLe.refl _)⟩)
theorem qtv {α:Type} (L:List α) (i:Nat) (d:α) (h:i<L.length):L.take (i+1)=L.take i++[L.getD i d]:=by
 rw [zbb,ze h,zd,ze h];rfl
theorem jvy {l:List Nd} (ht:Tree l) {cs:List Ch} {nw:Nat} {it:Int} {f g':Nat} (hg:g'≤f+1) {a n frm to:Int} {ks:List Int} (p0:Pr)
  (hall:∀ k∈ks,itemF l k=it∧qv l k=16) (h0:0<a) (hw:walkL (walkF l g') l.length ks a=(n,true)) (hp:PrOk l.length nw cs.length p0) (hn:Need l it p0.vars.length cs.length) (hf:0≤frm∧frm<p0.places) (hto:0≤to∧to<p0.places) :
  ∀ i,i<ks.length→∃ m0 m1:Int,At l g' (ks.getD i 0) m1 it∧a≤ks.getD i 0∧m1≤n∧m0=ks.getD i 0 ∧
   Grow l.length nw cs.length p0 ((ks.take i).foldl (qib l (fun (p:Pr) (b frm to:Int)=>qbj (qe l cs f) b p (l.getD b.toNat nd0).kids frm to) frm to) p0) (4 * (ks.getD i 0 - a)):=by
 induction ks generalizing a p0 with
 | nil=>intro i hi;simp at hi
 | cons k ks ih=>
  obtain ⟨rfl,h2,m,h3,h4⟩:=qak hw
  have hkk:=hall k (zp ..)
  have hat:At l g' k m it:=⟨⟨h0,h2⟩,h3,hkk.1⟩
  have hlt:=hat.lt
  have hge:=(qff l (walkF l g') (qaj l g') ks m n (by omega) h4).1.1
  intro i hi
  cases i with
  | zero=>exact ⟨k,m,hat,xb _,hge,rfl,(Grow.refl hp).le (by simp)⟩
  | succ i=>
   have g1:=jdl ht hg (qmi ht cs f) p0 k m frm to hat hkk.2 hp hn hf hto
   have h5:=g1.pl
   obtain ⟨m0,m1,h6,h7,h8,h9,h10⟩:=ih _ (fun q hq=>hall q (zq _ hq)) (by omega) h4 g1.ok (by rw [g1.same.2.2.2.2];exact hn) (by omega) (by omega) i (by simpa using hi)
   refine ⟨m0,m1,by simpa using h6,by simp only [List.getD_cons_succ];omega,h8,by simpa using h9,?_⟩
   rw [List.take_succ_cons,zbp]
   exact (g1.trans h10).le (by simp only [List.getD_cons_succ];omega)
variable (hC:m.chans.length≤1000000)
include ht hC in
theorem stat_trip:∀ f,qyr m nw it nv fv np fp f:=by
 intro f
 induction f with
 | zero=>
  intro g hg p a n frm to hp
  obtain ⟨g',h,_⟩:=hp.at_.kids ht
  omega
 | succ f ih=>
  intro g hg p a n frm to hp hk
  obtain ⟨g',rfl,hw,hi⟩:=hp.at_.kids ht
  have hat0:=hp.at_.pos
  have hlt:=hp.at_.lt
  have hlen:=ht.len
  have hln:=ht.lens a.toNat (by omega)
  have hkd:=ht.kind a.toNat (by omega)
  have hbk:=ht.kids a.toNat (by omega)
  have hkl:=(ht.kidsLen (j:=a.toNat) (by omega)).1
  have hnd:=hp.need a.toNat (by omega) (by rw [show ((a.toNat:Nat):Int)=a by omega];exact hp.at_.item)
  have hpp:=hp.ok.pl
  have hrl:=hp.ok.rl
  have hnm:=hp.ok.nm
  have hed:=hp.ed
  have hpl:=hp.pl
  have hfr:=hp.frm
  have hto:=hp.to
  have hkn:qv m.tree a=(m.tree.getD a.toNat nd0).kind:=rfl
  have B:=block_trip m ht nw it nv fv np fp f ih g' (by omega)
  have K:∀ i,i<(m.tree.getD a.toNat nd0).kids.length→kidK m.tree (m.tree.getD a.toNat nd0) i=qv m.tree ((m.tree.getD a.toNat nd0).kids.getD i 0):=fun i _=>rfl
  have I:∀ i,i<(m.tree.getD a.toNat nd0).kids.length→itemF m.tree ((m.tree.getD a.toNat nd0).kids.getD i 0)=it:=fun i h=>hi _ (qk _ i 0 h)
  rw [qe]
  simp only
  by_cases e6:(m.tree.getD a.toNat nd0).kind=6
  ·rw [zb e6]
   exact stat6_trip m nv fv np fp p a frm to (by omega) (by omega) e6 (hln.k1 (by omega)) (hln.w1 (by omega)) (by omega) hnm (qwp (by have:=hnd.1 (by omega);omega))
  rw [za e6]
  by_cases e7:(m.tree.getD a.toNat nd0).kind=7
  ·rw [zb e7]
   exact stat7_trip m nv fv np fp p a frm to (by omega) (by omega) e7 (hln.k1 (by omega)) (hln.w1 (by omega)) (by omega) hC
  rw [za e7]
  by_cases e8:(m.tree.getD a.toNat nd0).kind=8
  ·rw [zb e8]
   exact stat8_trip m nv fv np fp p a frm to (by omega) (by omega) e8 (hln.n1 (by omega)) (hln.w2 e8) (by omega) hC hnm (qwp (by have:=hnd.1 (by omega);omega)) (by omega) (by omega)
  rw [za e8]
  by_cases e9:(m.tree.getD a.toNat nd0).kind=9
  ·rw [zb e9]
   exact stat9_trip m nv fv np fp p a frm to (by omega) (by omega) e9 (hln.k1 (by omega)) (hln.n1 (by omega)) (by omega) (by omega) (by omega)
  rw [za e9]
  by_cases e10:(m.tree.getD a.toNat nd0).kind=10
  ·rw [zb e10]
   have hall:∀ k∈(m.tree.getD a.toNat nd0).kids,itemF m.tree k=it∧qv m.tree k=16:=fun k hk'=>⟨hi k hk',by
    obtain ⟨q,hq,rfl⟩:=List.mem_iff_getElem.1 hk'
    rw [← qky (l:=m.tree) (n:=(m.tree.getD a.toNat nd0)) (i:=q) (by rw [zd,ze hq];rfl)]
    exact (hkd q hq).2.2.2.2.1 e10⟩
   have g0:=qsx hp.ok frm ((m.tree.getD a.toNat nd0).nums.getD 0 0)
   have hch:=jvy ht (cs:=m.chans) (nw:=nw) (it:=it) (f:=f) (g':=g') (by omega) (frm:=frm) (to:=to) (qad p frm ((m.tree.getD a.toNat nd0).nums.getD 0 0)) hall (by omega) hw g0.ok hp.need hfr hto
   have hre:(qad p frm ((m.tree.getD a.toNat nd0).nums.getD 0 0)).edges.length=p.edges.length:=rfl
   have hrp:(qad p frm ((m.tree.getD a.toNat nd0).nums.getD 0 0)).places=p.places:=rfl
   refine stat10_trip m nv fv np fp p a frm to (by omega) (by omega)
    (fun i q=>qib m.tree (fun (p:Pr) (b frm to:Int)=>qbj (qe m.tree m.chans f) b p (m.tree.getD b.toNat nd0).kids frm to) frm to q ((m.tree.getD a.toNat nd0).kids.getD i 0))
    (fun i q=>q=((m.tree.getD a.toNat nd0).kids.take i).foldl (qib m.tree (fun (p:Pr) (b frm to:Int)=>qbj (qe m.tree m.chans f) b p (m.tree.getD b.toNat nd0).kids frm to) frm to) (qad p frm ((m.tree.getD a.toNat nd0).nums.getD 0 0)))
    e10 (hln.n1 (by omega)) ⟨hln.kc e10,hkl⟩ (by omega) (by omega) (by omega) (fun i hi'=>?_) (by simp) (fun i q hi' hq=>?_) _ (fun r hr=>by rw [hr,zay])
   ·have h1:=hbk _ (qk (m.tree.getD a.toNat nd0).kids i 0 hi')
    have h2:=ht.kids ((m.tree.getD a.toNat nd0).kids.getD i 0).toNat (by omega)
    have h3:=(ht.kidsLen (j:=((m.tree.getD a.toNat nd0).kids.getD i 0).toNat) (by omega)).1
    refine ⟨⟨zbq (zao _) (Int.le_of_lt h1.1),h1.2⟩,fun h=>?_,h3⟩
    have h4:=h2 _ (qk _ 0 0 (Nat.pos_of_ne_zero h))
    exact ⟨zbq (zao _) (Int.le_of_lt h4.1),h4.2⟩
   ·obtain ⟨m0,m1,h1,h2,h3,h4,h5⟩:=hch i hi'
    rw [← hq] at h5
    have h6:=h5.ed
    have h7:=h5.pl
    have h8:=h5.ok.rl
    have h9:=h1.lt
    have hqp:=h5.ok.pl
    have hqn:Need m.tree it q.vars.length m.chans.length:=by rw [h5.same.2.2.2.2];exact hp.need
    have hk16:=(hall _ (qk (m.tree.getD a.toNat nd0).kids i 0 hi')).2
    refine ⟨⟨by omega,by omega,by omega⟩,?_,fun h=>?_,fun h=>?_⟩
    ·have e:=qtv (m.tree.getD a.toNat nd0).kids i 0 hi'
     rw [e,xx,← hq];rfl
    ·have hcf:qib m.tree (fun (p:Pr) (b frm to:Int)=>qbj (qe m.tree m.chans f) b p (m.tree.getD b.toNat nd0).kids frm to) frm to q ((m.tree.getD a.toNat nd0).kids.getD i 0)=_:=zb h
     rw [hcf]
     have g1:=qgb h5.ok
     have g2:=qcn (frm:=frm) (to:=q.places) (act:=0) (node:=(m.tree.getD a.toNat nd0).kids.getD i 0) (expr:=-1) (v:=-1) (c:=-1) g1.ok (qpe (by simp only [qg];omega) (by simp only [qg];omega))
     have hx:(putF (qg q) frm q.places 0 ((m.tree.getD a.toNat nd0).kids.getD i 0) (-1) (-1) (-1)).places=q.places+1:=rfl
     have hy:(putF (qg q) frm q.places 0 ((m.tree.getD a.toNat nd0).kids.getD i 0) (-1) (-1) (-1)).edges.length=q.edges.length+1:=by simp [putF,qg]
     exact B (putF (qg q) frm q.places 0 ((m.tree.getD a.toNat nd0).kids.getD i 0) (-1) (-1) (-1)) ((m.tree.getD a.toNat nd0).kids.getD i 0) m1 q.places to ⟨h1,g2.ok,hqn,by omega,by omega,by omega,by omega⟩ hk16
    ·have hcf:qib m.tree (fun (p:Pr) (b frm to:Int)=>qbj (qe m.tree m.chans f) b p (m.tree.getD b.toNat nd0).kids frm to) frm to q ((m.tree.getD a.toNat nd0).kids.getD i 0)=_:=za h
     rw [hcf]
     exact B q ((m.tree.getD a.toNat nd0).kids.getD i 0) m1 frm to ⟨h1,h5.ok,hqn,by omega,by omega,by omega,by omega⟩ hk16
  rw [za e10]
  by_cases e11:(m.tree.getD a.toNat nd0).kind=11
  ·rw [zb e11]
   have hk3:=hln.k3 e11
   have hl2:2≤(m.tree.getD a.toNat nd0).kids.length:=by omega
   have he:=hbk _ (qk (m.tree.getD a.toNat nd0).kids 0 0 (by omega))
   have he':0≤(m.tree.getD a.toNat nd0).kids.getD 0 0∧(m.tree.getD a.toNat nd0).kids.getD 0 0<m.tree.length:=by omega
   have K1:qv m.tree ((m.tree.getD a.toNat nd0).kids.getD 1 0)=16:=(hkd 1 (by omega)).2.2.2.2.2.1 (.inl e11) (by omega)
   have I1:=I 1 (by omega)
   have g1:=qgb hp.ok
   have g2:=qcn (frm:=frm) (to:=p.places) (act:=4) (node:=a) (expr:=(m.tree.getD a.toNat nd0).kids.getD 0 0) (v:=-1) (c:=-1) g1.ok (qhb 4 (.inl rfl) (by simp only [qg];omega) (by simp only [qg];omega) he')
   have g12:=g1.trans g2
   have hx:(putF (qg p) frm p.places 4 a ((m.tree.getD a.toNat nd0).kids.getD 0 0) (-1) (-1)).places=p.places+1:=rfl
   have hy:(putF (qg p) frm p.places 4 a ((m.tree.getD a.toNat nd0).kids.getD 0 0) (-1) (-1)).edges.length=p.edges.length+1:=by simp [putF,qg]
   have hneed:Need m.tree it (putF (qg p) frm p.places 4 a ((m.tree.getD a.toNat nd0).kids.getD 0 0) (-1) (-1)).vars.length m.chans.length:=hp.need
   obtain ⟨m1,m2,hA1,hm1,hrest⟩:∃ m1 m2:Int,At m.tree g' ((m.tree.getD a.toNat nd0).kids.getD 1 0) m2 it∧(a+1<(m.tree.getD a.toNat nd0).kids.getD 1 0∧m2≤n)∧((m.tree.getD a.toNat nd0).kids.length=3→At m.tree g' ((m.tree.getD a.toNat nd0).kids.getD 2 0) n it∧m2=(m.tree.getD a.toNat nd0).kids.getD 2 0):=by
    match hks:(m.tree.getD a.toNat nd0).kids,hk3 with
    | [e,b],_=>
     rw [hks] at hw I1
     obtain ⟨rfl,h2,m1,h3,h4⟩:=qak hw
     obtain ⟨rfl,h6,m2,h7,h8⟩:=qak h4
     simp only [walkL,Prod.mk.injEq,and_true] at h8
     have hl1:=(qaj m.tree g' (a+1) b (by omega) h3).1
     exact ⟨0,m2,⟨⟨by simp;omega,by simpa using h6⟩,by simpa using h7,I1⟩,⟨by simp;omega,by omega⟩,fun h=>by simp at h⟩
    | [e,b,b'],_=>
     have I2:=I 2 (by rw [hks];simp)
     rw [hks] at hw I1 I2
     obtain ⟨rfl,h2,m1,h3,h4⟩:=qak hw
     obtain ⟨rfl,h6,m2,h7,h8⟩:=qak h4
     obtain ⟨rfl,h10,m3,h11,h12⟩:=qak h8
     simp only [walkL,Prod.mk.injEq,and_true] at h12
     subst h12
     have hl1:=(qaj m.tree g' (a+1) b (by omega) h3).1
     have hl2:=(qaj m.tree g' b b' (by omega) h7).1
     have hl3:=(qaj m.tree g' b' m3 (by omega) h11).1
     exact ⟨0,b',⟨⟨by simp;omega,by simpa using h6⟩,by simpa using h7,I1⟩,⟨by simp;omega,by omega⟩,fun h=>⟨⟨⟨by simp;omega,by simpa using h10⟩,by simpa using h11,I2⟩,by simp⟩⟩
   have hlt1:=hA1.lt
   have hB1:=B _ _ m2 p.places to ⟨hA1,g12.ok,hneed,by omega,by omega,by omega,by omega⟩ K1
   have g3:=qpf ht (T:=m.tree.length) (nv:=nw) (nc:=m.chans.length) (g:=g') (f:=f) (by omega) (qmi ht m.chans f) (putF (qg p) frm p.places 4 a ((m.tree.getD a.toNat nd0).kids.getD 0 0) (-1) (-1)) ((m.tree.getD a.toNat nd0).kids.getD 1 0) m2 p.places to hA1 K1 g12.ok hneed (by omega) (by omega)
   have g13:=g12.trans g3
   have h13e:=g13.ed
   have h13p:=g13.pl
   have h13r:=g13.ok.rl
   have h13q:=g13.ok.pl
   by_cases hk2:(m.tree.getD a.toNat nd0).kids.length=2
   ·rw [zb hk2]
    exact stat11_trip m nv fv np fp p a frm to (by omega) (by omega) _ p e11 hk2 (by omega) (by omega) (by omega) hB1 (by omega)
   ·rw [za hk2]
    obtain ⟨hA2,hm2⟩:=hrest (by omega)
    have hlt2:=hA2.lt
    have K2:qv m.tree ((m.tree.getD a.toNat nd0).kids.getD 2 0)=16:=(hkd 2 (by omega)).2.2.2.2.2.1 (.inl e11) (by omega)
    generalize hq1:qbj (qe m.tree m.chans f) ((m.tree.getD a.toNat nd0).kids.getD 1 0) (putF (qg p) frm p.places 4 a ((m.tree.getD a.toNat nd0).kids.getD 0 0) (-1) (-1)) (m.tree.getD ((m.tree.getD a.toNat nd0).kids.getD 1 0).toNat nd0).kids p.places to=q1 at hB1 g3 g13 h13e h13p h13r h13q ⊢
    have g4:=qgb g13.ok
    have g5:=qcn (frm:=frm) (to:=q1.places) (act:=5) (node:=a) (expr:=(m.tree.getD a.toNat nd0).kids.getD 0 0) (v:=-1) (c:=-1) g4.ok (qhb 5 (.inr rfl) (by simp only [qg];omega) (by simp only [qg];omega) he')
    have g15:=g13.trans (g4.trans g5)
    have hx1:(putF (qg q1) frm q1.places 5 a ((m.tree.getD a.toNat nd0).kids.getD 0 0) (-1) (-1)).places=q1.places+1:=rfl
    have hy1:(putF (qg q1) frm q1.places 5 a ((m.tree.getD a.toNat nd0).kids.getD 0 0) (-1) (-1)).edges.length=q1.edges.length+1:=by simp [putF,qg]
    have hB2:=B _ _ n q1.places to ⟨hA2,g15.ok,by rw [g15.same.2.2.2.2];exact hp.need,by omega,by omega,by omega,by omega⟩ K2
    exact stat11b_trip m nv fv np fp p a frm to (by omega) (by omega) q1 _ e11 (by omega) (by omega) (by omega) (by omega) hB1 (by omega) (by omega) (by omega) hB2
  rw [za e11]
  by_cases e12:(m.tree.getD a.toNat nd0).kind=12
  ·rw [zb e12]
   have hk2:=hln.k2 (by omega)
   have he:=hbk _ (qk (m.tree.getD a.toNat nd0).kids 0 0 (by omega))
   have he':0≤(m.tree.getD a.toNat nd0).kids.getD 0 0∧(m.tree.getD a.toNat nd0).kids.getD 0 0<m.tree.length:=by omega
   have K1:qv m.tree ((m.tree.getD a.toNat nd0).kids.getD 1 0)=16:=(hkd 1 (by omega)).2.2.2.2.2.1 (.inr e12) (by omega)
   have I1:=I 1 (by omega)
   have g1:=qgb hp.ok
   have g2:=qcn (frm:=frm) (to:=p.places) (act:=4) (node:=a) (expr:=(m.tree.getD a.toNat nd0).kids.getD 0 0) (v:=-1) (c:=-1) g1.ok (qhb 4 (.inl rfl) (by simp only [qg];omega) (by simp only [qg];omega) he')
   have g12:=g1.trans g2
   have g3:=qcn (frm:=frm) (to:=to) (act:=5) (node:=a) (expr:=(m.tree.getD a.toNat nd0).kids.getD 0 0) (v:=-1) (c:=-1) g12.ok (qhb 5 (.inr rfl) (by simp only [putF,qg];omega) (by simp only [putF,qg];omega) he')
   have g13:=g12.trans g3
   have hx:(putF (putF (qg p) frm p.places 4 a ((m.tree.getD a.toNat nd0).kids.getD 0 0) (-1) (-1)) frm to 5 a ((m.tree.getD a.toNat nd0).kids.getD 0 0) (-1) (-1)).places=p.places+1:=rfl
   have hy:(putF (putF (qg p) frm p.places 4 a ((m.tree.getD a.toNat nd0).kids.getD 0 0) (-1) (-1)) frm to 5 a ((m.tree.getD a.toNat nd0).kids.getD 0 0) (-1) (-1)).edges.length=p.edges.length+2:=by simp [putF,qg]
   obtain ⟨m2,hA1,hm1⟩:∃ m2:Int,At m.tree g' ((m.tree.getD a.toNat nd0).kids.getD 1 0) m2 it∧(a+1<(m.tree.getD a.toNat nd0).kids.getD 1 0∧m2≤n):=by
    match hks:(m.tree.getD a.toNat nd0).kids,hk2 with
    | [e,b],_=>
     rw [hks] at hw I1
     obtain ⟨rfl,h2,m1,h3,h4⟩:=qak hw
     obtain ⟨rfl,h6,m2,h7,h8⟩:=qak h4
     simp only [walkL,Prod.mk.injEq,and_true] at h8
     have hl1:=(qaj m.tree g' (a+1) b (by omega) h3).1
     exact ⟨m2,⟨⟨by simp;omega,by simpa using h6⟩,by simpa using h7,I1⟩,⟨by simp;omega,by omega⟩⟩
   have hlt1:=hA1.lt
   exact stat12_trip m nv fv np fp p a frm to (by omega) (by omega) _ e12 hk2 (by omega) (by omega) (by omega) (B _ _ m2 p.places frm ⟨hA1,g13.ok,hp.need,by omega,by omega,by omega,by omega⟩ K1)
  rw [za e12]
  by_cases e13:(m.tree.getD a.toNat nd0).kind=13
  ·rw [zb e13]
   have hk1:=hln.k1 (by omega)
   have K0:qv m.tree ((m.tree.getD a.toNat nd0).kids.getD 0 0)=16:=(hkd 0 (by omega)).2.2.2.2.2.2 e13
   have I0:=I 0 (by omega)
   obtain ⟨m2,hA1,hm1⟩:∃ m2:Int,At m.tree g' ((m.tree.getD a.toNat nd0).kids.getD 0 0) m2 it∧(a<(m.tree.getD a.toNat nd0).kids.getD 0 0∧m2≤n):=by
    match hks:(m.tree.getD a.toNat nd0).kids,hk1 with
    | [b],_=>
     rw [hks] at hw I0
     obtain ⟨rfl,h2,m1,h3,h4⟩:=qak hw
     simp only [walkL,Prod.mk.injEq,and_true] at h4
     exact ⟨m1,⟨⟨by simp;omega,by simpa using h2⟩,by simpa using h3,I0⟩,⟨by simp;omega,by omega⟩⟩
   have hlt1:=hA1.lt
   have g3:=qpf ht (T:=m.tree.length) (nv:=nw) (nc:=m.chans.length) (g:=g') (f:=f) (by omega) (qmi ht m.chans f) p ((m.tree.getD a.toNat nd0).kids.getD 0 0) m2 frm to hA1 K0 hp.ok hp.need hfr hto
   have h13e:=g3.ed
   exact stat13_trip m nv fv np fp p a frm to (by omega) (by omega) _ e13 hk1 (by omega) (B p _ m2 frm to ⟨hA1,hp.ok,hp.need,hfr,hto,by omega,by omega⟩ K0) (by omega) (by omega)
  rw [za e13]
  by_cases e15:(m.tree.getD a.toNat nd0).kind=15
  ·rw [zb e15]
   exact stat15_trip m nv fv np fp p a frm to (by omega) (by omega) e15 (by omega)
  ·rw [za e15]
   exact stat14_trip m nv fv np fp p a frm to (by omega) (by omega) (by omega) (by omega)
end
end Go.Proofs.YtikahnkkfkoglaaGreatDoor
