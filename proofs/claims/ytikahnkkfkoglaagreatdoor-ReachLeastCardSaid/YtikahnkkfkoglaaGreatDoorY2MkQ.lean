/- Automata by the document's answer: they are well formed, in plain Lean. -/
import Derived.Test.YtikahnkkfkoglaaGreatDoorY2MkP
import Derived.Test.YtikahnkkfkoglaaGreatDoorY22
set_option linter.unusedSimpArgs false
set_option linter.unusedVariables false
namespace Go.St
open Go Go.Sx
theorem qak {l:List Nd} {w:Int→Int × Bool} {k:Int} {ks:List Int} {next n:Int} (h:walkL w l.length (k::ks) next=(n,true)) :
  k=next∧next<l.length∧∃ m,w next=(m,true)∧walkL w l.length ks m=(n,true):=by
 rw [walkL] at h
 split at h
 ·simp at h
 ·rename_i hk
  split at h
  ·simp at h
  ·rename_i hb
   refine ⟨by omega,by omega,(w next).1,?_,h⟩
   cases hx:w next with
   | mk a b=>rw [hx] at hb;cases b <;> simp_all
theorem jdj {l:List Nd} {g:Nat} {a n:Int} (h:walkF l g a=(n,true)):∃ g',g=g'+1∧walkL (walkF l g') l.length (l.getD a.toNat nd0).kids (a+1)=(n,true):=by
 cases g with
 | zero=>simp [walkF] at h
 | succ g'=>exact ⟨g',rfl,by rw [walkF] at h;exact h⟩
structure EdOk (T nv nc:Nat) (pl:Int) (e:Ed):Prop where
 frm:0≤e.frm∧e.frm<pl
 to:0≤e.to∧e.to<pl
 act:0≤e.act∧e.act≤5
 ex:e.act=1∨e.act=2∨e.act=4∨e.act=5→0≤e.expr∧e.expr<T
 nex:e.act=0∨e.act=3→e.expr=-1
 var:e.act=1∨e.act=3→0≤e.var∧e.var<nv
 chn:e.act=2∨e.act=3→0≤e.chn∧e.chn<nc
theorem EdOk.mono {T nv nc nv':Nat} {pl pl':Int} {e:Ed} (h:EdOk T nv nc pl e) (h1:pl≤pl') (h2:nv≤nv'):EdOk T nv' nc pl' e:=
 ⟨by have:=h.frm;omega,by have:=h.to;omega,h.act,h.ex,h.nex,fun hh=>by have:=h.var hh;omega,h.chn⟩
structure PrOk (T nv nc:Nat) (p:Pr):Prop where
 nm:p.names.length=p.vars.length∧p.names.length≤100000
 vr:∀ v∈p.vars,0≤v∧v<nv
 pl:2≤p.places
 rl:(p.rest.length:Int)=p.places
 ed:∀ e∈p.edges,EdOk T nv nc p.places e
theorem PrOk.mono {T nv nc nv':Nat} {p:Pr} (h:PrOk T nv nc p) (h2:nv≤nv'):PrOk T nv' nc p:=
 ⟨h.nm,fun v hv=>by have:=h.vr v hv;omega,h.pl,h.rl,fun e he=>(h.ed e he).mono (xb _) h2⟩
def Same (p q:Pr):Prop:=q.name=p.name∧q.copy=p.copy∧q.locals=p.locals∧q.names=p.names∧q.vars=p.vars
structure Grow (T nv nc:Nat) (p q:Pr) (d:Int):Prop where
 ok:PrOk T nv nc q
 same:Same p q
 pl:p.places≤q.places∧q.places≤p.places+d
 ed:(p.edges.length:Int)≤q.edges.length∧(q.edges.length:Int)≤p.edges.length+d
section
variable {T nv nc:Nat} {p q r:Pr} {d d':Int}
theorem Grow.trans (h:Grow T nv nc p q d) (k:Grow T nv nc q r d'):Grow T nv nc p r (d+d'):=by
 obtain ⟨a1,a2,a3,a4,a5⟩:=h.same
 obtain ⟨b1,b2,b3,b4,b5⟩:=k.same
 exact ⟨k.ok,⟨b1.trans a1,b2.trans a2,b3.trans a3,b4.trans a4,b5.trans a5⟩,by have:=h.pl;have:=k.pl;omega,by have:=h.ed;have:=k.ed;omega⟩
theorem Grow.le (h:Grow T nv nc p q d) (hd:d≤d'):Grow T nv nc p q d':=
 ⟨h.ok,h.same,by have:=h.pl;omega,by have:=h.ed;omega⟩
theorem Grow.refl (h:PrOk T nv nc p):Grow T nv nc p p 0:=⟨h,⟨rfl,rfl,rfl,rfl,rfl⟩,by omega,by omega⟩
theorem qgb (h:PrOk T nv nc p):Grow T nv nc p (qg p) 1:=
 ⟨⟨h.nm,h.vr,by have:=h.pl;simp only [qg];omega,by have:=h.rl;simp only [qg,zg,zz];push_cast;omega,fun e he=>(h.ed e he).mono (by simp only [qg];omega) (zl _)⟩,
  ⟨rfl,rfl,rfl,rfl,rfl⟩,by simp only [qg];omega,by simp only [qg];omega⟩
theorem qcn (h:PrOk T nv nc p) {frm to act node expr v c:Int} (he:EdOk T nv nc p.places ⟨frm,to,act,expr,v,c,false,node⟩):Grow T nv nc p (putF p frm to act node expr v c) 1:=
 ⟨⟨h.nm,h.vr,h.pl,h.rl,fun e hm=>by
   simp only [putF,xk,zw] at hm
   rcases hm with hm|rfl
   ·exact h.ed e hm
   ·exact he⟩,
  ⟨rfl,rfl,rfl,rfl,rfl⟩,by simp only [putF];omega,by simp only [putF,zg,zz];push_cast;omega⟩
theorem qsx (h:PrOk T nv nc p) (a idle:Int):Grow T nv nc p (qad p a idle) 0:=
 ⟨⟨h.nm,h.vr,h.pl,by have:=h.rl;simp only [qad];split <;> simp [this],h.ed⟩,⟨rfl,rfl,rfl,rfl,rfl⟩,by simp only [qad];omega,by simp only [qad];omega⟩
theorem qpe {pl frm to node:Int} (hf:0≤frm∧frm<pl) (ht:0≤to∧to<pl):EdOk T nv nc pl ⟨frm,to,0,-1,-1,-1,false,node⟩:=
 ⟨hf,ht,by simp,fun h=>by simp at h,fun _=>rfl,fun h=>by simp at h,fun h=>by simp at h⟩
theorem qhb {pl frm to node e:Int} (act:Int) (ha:act=4∨act=5) (hf:0≤frm∧frm<pl) (ht:0≤to∧to<pl) (he:0≤e∧e<T):EdOk T nv nc pl ⟨frm,to,act,e,-1,-1,false,node⟩:=
 ⟨hf,ht,by simp only;omega,fun _=>he,fun h=>by simp only at h;omega,fun h=>by simp only at h;omega,fun h=>by simp only at h;omega⟩
end
def Need (l:List Nd) (it:Int) (nvar nc:Nat):Prop:=∀ j:Nat,j<l.length→itemF l j=it→((l.getD j nd0).kind=6∨(l.getD j nd0).kind=8→1≤nvar)∧((l.getD j nd0).kind=7∨(l.getD j nd0).kind=8→1≤nc)
theorem qwp {L:List (List UInt8)} {s:List UInt8} (h:1≤L.length):0≤qcm L s∧qcm L s<L.length:=by
 have:=qjb (· == s) L
 unfold qcm
 split <;> omega
theorem jdk {L:List Ch} {s:List UInt8} (h:1≤L.length):0≤qfg L s∧qfg L s<L.length:=by
 have:=qjb (fun c:Ch=>c.name == s) L
 unfold qfg
 split <;> omega
structure At (l:List Nd) (g:Nat) (a n it:Int):Prop where
 pos:0<a∧a<l.length
 walk:walkF l g a=(n,true)
 item:itemF l a=it
theorem At.lt {l:List Nd} {g:Nat} {a n it:Int} (h:At l g a n it):a<n∧n≤l.length:=by
 have:=(qaj l g a n (by have:=h.pos;omega) h.walk).1
 exact ⟨this.1,this.2 h.pos.2⟩
theorem At.kids {l:List Nd} (ht:Tree l) {g:Nat} {a n it:Int} (h:At l g a n it):∃ g',g=g'+1∧walkL (walkF l g') l.length (l.getD a.toNat nd0).kids (a+1)=(n,true)∧∀ k∈(l.getD a.toNat nd0).kids,itemF l k=it:=by
 obtain ⟨g',h1,h2⟩:=jdj h.walk
 refine ⟨g',h1,h2,fun k hk=>?_⟩
 have h0:=h.pos
 have:=(ht.item (j:=a.toNat) (by omega) (by omega)).2.1 k hk
 rw [show ((a.toNat:Nat):Int)=a by omega] at this
 exact this.trans h.item
theorem qwq {l:List Nd} (ht:Tree l) {T nv nc:Nat} {st:Pr→Int→Int→Int→Pr} {g:Nat} {it:Int} (node:Int)
  (hst:∀ (p:Pr) (a n frm to:Int),At l g a n it→6≤qv l a∧qv l a≤15→PrOk T nv nc p→Need l it p.vars.length nc→(0≤frm∧frm<p.places)→(0≤to∧to<p.places)→Grow T nv nc p (st p a frm to) (4 * (n - a) - 1)) :
  ∀ (ks:List Int) (p:Pr) (next n frm to:Int),0<next→walkL (walkF l g) l.length ks next=(n,true)→(∀ k∈ks,itemF l k=it∧6≤qv l k∧qv l k≤15)→PrOk T nv nc p→Need l it p.vars.length nc→(0≤frm∧frm<p.places)→(0≤to∧to<p.places)→
   Grow T nv nc p (qbj st node p ks frm to) (4 * (n - next)+1)
 | [],p,next,n,frm,to,h0,hw,hk,hp,hn,hf,hto=>by
  simp only [walkL,Prod.mk.injEq,and_true] at hw
  rw [qbj]
  exact (qcn hp (qpe hf hto)).le (by omega)
 | [k],p,next,n,frm,to,h0,hw,hk,hp,hn,hf,hto=>by
  obtain ⟨rfl,h2,m,h3,h4⟩:=qak hw
  simp only [walkL,Prod.mk.injEq,and_true] at h4
  subst h4
  have:=hk k (zp ..)
  rw [qbj]
  exact (hst p k m frm to ⟨⟨h0,h2⟩,h3,this.1⟩ this.2 hp hn hf hto).le (by omega)
 | k::k'::ks,p,next,n,frm,to,h0,hw,hk,hp,hn,hf,hto=>by
  obtain ⟨rfl,h2,m,h3,h4⟩:=qak hw
  have hkk:=hk k (zp ..)
  have hat:At l g k m it:=⟨⟨h0,h2⟩,h3,hkk.1⟩
  have hlt:=hat.lt
  have g1:=qgb hp
  have hv1:(qg p).vars.length=p.vars.length:=by rw [g1.same.2.2.2.2]
  have hpl:(qg p).places=p.places+1:=rfl
  have g2:=hst (qg p) k m frm p.places hat hkk.2 g1.ok (by rw [hv1];exact hn) (by omega) (by have:=hp.pl;omega)
  have hv2:(st (qg p) k frm p.places).vars.length=p.vars.length:=by rw [g2.same.2.2.2.2,hv1]
  have hp2:=g2.pl
  have g3:=qwq ht node hst (k'::ks) (st (qg p) k frm p.places) m n p.places to (by omega) h4 (fun q hq=>hk q (zq _ hq)) g2.ok (by rw [hv2];exact hn) (by have:=hp.pl;omega) (by omega)
  rw [qbj]
  exact ((g1.trans g2).trans g3).le (by omega)
theorem qpf {l:List Nd} (ht:Tree l) {T nv nc:Nat} {st:Pr→Int→Int→Int→Pr} {g f:Nat} (hg:g≤f+1) {it:Int}
  (hst:∀ (g:Nat),g≤f→∀ (p:Pr) (a n frm to:Int),At l g a n it→6≤qv l a∧qv l a≤15→PrOk T nv nc p→Need l it p.vars.length nc→(0≤frm∧frm<p.places)→(0≤to∧to<p.places)→Grow T nv nc p (st p a frm to) (4 * (n - a) - 1))
  (p:Pr) (b n frm to:Int) (hat:At l g b n it) (hk:qv l b=16) (hp:PrOk T nv nc p) (hn:Need l it p.vars.length nc) (hf:0≤frm∧frm<p.places) (hto:0≤to∧to<p.places) :
  Grow T nv nc p (qbj st b p (l.getD b.toNat nd0).kids frm to) (4 * (n - b) - 3):=by
 obtain ⟨g',rfl,hw,hi⟩:=hat.kids ht
 have hb:=hat.pos
 refine (qwq ht b (hst g' (by omega)) _ p (b+1) n frm to (by omega) hw (fun k hk'=>⟨hi k hk',?_⟩) hp hn hf hto).le (by omega)
 obtain ⟨q,hq,rfl⟩:=List.mem_iff_getElem.1 hk'
 have hkk:=ht.kind b.toNat (by omega) q hq
 have e:kidK l (l.getD b.toNat nd0) q=qv l ((l.getD b.toNat nd0).kids[q]):=by
  rw [kidK,qv,List.getD_eq_getElem?_getD (l:=(l.getD b.toNat nd0).kids),ze hq];rfl
 have hk16:(l.getD b.toNat nd0).kind=16:=hk
 rw [← e]
 exact ⟨(hkk.2.2.1 (by omega) (by omega)).1,hkk.2.2.2.1 hk16⟩
theorem qky {l:List Nd} {n:Nd} {k:Int} {i:Nat} (h:n.kids.getD i 0=k):kidK l n i=qv l k:=by rw [kidK,h];rfl
theorem jdl {l:List Nd} (ht:Tree l) {T nv nc:Nat} {st:Pr→Int→Int→Int→Pr} {g f:Nat} (hg:g≤f+1) {it:Int}
  (hst:∀ (g:Nat),g≤f→∀ (p:Pr) (a n frm to:Int),At l g a n it→6≤qv l a∧qv l a≤15→PrOk T nv nc p→Need l it p.vars.length nc→(0≤frm∧frm<p.places)→(0≤to∧to<p.places)→Grow T nv nc p (st p a frm to) (4 * (n - a) - 1))
  (p:Pr) (b n frm to:Int) (hat:At l g b n it) (hk:qv l b=16) (hp:PrOk T nv nc p) (hn:Need l it p.vars.length nc) (hf:0≤frm∧frm<p.places) (hto:0≤to∧to<p.places) :
  Grow T nv nc p (qib l (fun (p:Pr) (b frm to:Int)=>qbj st b p (l.getD b.toNat nd0).kids frm to) frm to p b) (4 * (n - b) - 1):=by
 unfold qib
 split
 ·have g1:=qgb hp
  have hpl:(qg p).places=p.places+1:=rfl
  have hpp:=hp.pl
  have g2:=qcn (frm:=frm) (to:=p.places) (act:=0) (node:=b) (expr:=-1) (v:=-1) (c:=-1) g1.ok (qpe (by omega) (by omega))
  have g12:=g1.trans g2
  have h2:=g12.pl
  have h3:(putF (qg p) frm p.places 0 b (-1) (-1) (-1)).places=p.places+1:=rfl
  exact (g12.trans (qpf ht hg hst _ b n p.places to hat hk g12.ok (by rw [g12.same.2.2.2.2];exact hn) (by omega) (by omega))).le (by omega)
 ·exact (qpf ht hg hst p b n frm to hat hk hp hn hf hto).le (by omega)
theorem jdm {l:List Nd} (ht:Tree l) {T nv nc:Nat} {st:Pr→Int→Int→Int→Pr} {g f:Nat} (hg:g≤f+1) {it:Int}
  (hst:∀ (g:Nat),g≤f→∀ (p:Pr) (a n frm to:Int),At l g a n it→6≤qv l a∧qv l a≤15→PrOk T nv nc p→Need l it p.vars.length nc→(0≤frm∧frm<p.places)→(0≤to∧to<p.places)→Grow T nv nc p (st p a frm to) (4 * (n - a) - 1)) (frm to:Int) :
  ∀ (ks:List Int) (p:Pr) (next n:Int),0<next→walkL (walkF l g) l.length ks next=(n,true)→(∀ k∈ks,itemF l k=it∧qv l k=16)→PrOk T nv nc p→Need l it p.vars.length nc→(0≤frm∧frm<p.places)→(0≤to∧to<p.places)→
   Grow T nv nc p (ks.foldl (qib l (fun (p:Pr) (b frm to:Int)=>qbj st b p (l.getD b.toNat nd0).kids frm to) frm to) p) (4 * (n - next))
 | [],p,next,n,h0,hw,hk,hp,hn,hf,hto=>by
  simp only [walkL,Prod.mk.injEq,and_true] at hw
  exact (Grow.refl hp).le (by omega)
 | k::ks,p,next,n,h0,hw,hk,hp,hn,hf,hto=>by
  obtain ⟨rfl,h2,m,h3,h4⟩:=qak hw
  have hkk:=hk k (zp ..)
  have hat:At l g k m it:=⟨⟨h0,h2⟩,h3,hkk.1⟩
  have hlt:=hat.lt
  have g1:=jdl ht hg hst p k m frm to hat hkk.2 hp hn hf hto
  have h5:=g1.pl
  have g2:=jdm ht hg hst frm to ks _ m n (by omega) h4 (fun q hq=>hk q (zq _ hq)) g1.ok (by rw [g1.same.2.2.2.2];exact hn) (by omega) (by omega)
  rw [zbp]
  exact (g1.trans g2).le (by omega)
theorem jqt {T nv nc:Nat} {p q:Pr} {d:Int} (h:Grow T nv nc p q d) (to:Int) (k:Nat):Grow T nv nc p { q with edges:=q.edges.take k++(q.edges.drop k).map (qer to) } d:=by
 refine ⟨⟨h.ok.nm,h.ok.vr,h.ok.pl,h.ok.rl,fun e he=>?_⟩,h.same,h.pl,?_⟩
 ·simp only [xk,List.mem_map] at he
  rcases he with he|⟨e',he,rfl⟩
  ·exact h.ok.ed e (List.mem_of_mem_take he)
  ·have:=h.ok.ed e' (List.mem_of_mem_drop he)
   exact ⟨this.frm,this.to,this.act,this.ex,this.nex,this.var,this.chn⟩
 ·have:=h.ed
  simp only [zg,xc,xh,xj]
  omega
theorem qmi {l:List Nd} (ht:Tree l) {nv:Nat} (cs:List Ch) {it:Int}:∀ (f g:Nat),g≤f→∀ (p:Pr) (a n frm to:Int),At l g a n it→6≤qv l a∧qv l a≤15→PrOk l.length nv cs.length p→Need l it p.vars.length cs.length→(0≤frm∧frm<p.places)→(0≤to∧to<p.places)→
  Grow l.length nv cs.length p (qe l cs f p a frm to) (4 * (n - a) - 1):=by
 intro f
 induction f with
 | zero=>
  intro g hg p a n frm to hat
  obtain ⟨g',h,_⟩:=hat.kids ht
  omega
 | succ f ih=>
  intro g hg p a n frm to hat hk hp hn hf hto
  obtain ⟨g',rfl,hw,hi⟩:=hat.kids ht
  have hat0:=hat.pos
  have hlt:=hat.lt
  have hln:=ht.lens a.toNat (by omega)
  have hkd:=ht.kind a.toNat (by omega)
  have hbk:=ht.kids a.toNat (by omega)
  have hnd:=hn a.toNat (by omega) (by rw [show ((a.toNat:Nat):Int)=a by omega];exact hat.item)
  have hpp:=hp.pl
  have hkn:qv l a=(l.getD a.toNat nd0).kind:=rfl
  have hex:1≤(l.getD a.toNat nd0).kids.length→0≤(l.getD a.toNat nd0).kids.getD 0 0∧(l.getD a.toNat nd0).kids.getD 0 0<l.length:=fun h=>by
   have:=hbk _ (qk _ 0 0 (by omega));omega
  have hvr:1≤p.vars.length→∀ s,0≤p.vars.getD (qcm p.names s).toNat 0∧p.vars.getD (qcm p.names s).toNat 0<nv:=fun h s=>by
   have h1:=qwp (L:=p.names) (s:=s) (by have:=hp.nm;omega)
   exact hp.vr _ (qk _ _ 0 (by have:=hp.nm;omega))
  have B:∀ (q:Pr) (b m frm to:Int),At l g' b m it→qv l b=16→PrOk l.length nv cs.length q→q.vars=p.vars→(0≤frm∧frm<q.places)→(0≤to∧to<q.places)→
    Grow l.length nv cs.length q (qbj (qe l cs f) b q (l.getD b.toNat nd0).kids frm to) (4 * (m - b) - 3):=fun q b m frm to h1 h2 h3 h4 h5 h6=>
   qpf ht (by omega) ih q b m frm to h1 h2 h3 (by rw [h4];exact hn) h5 h6
  rw [qe]
  simp only
  generalize hN:l.getD a.toNat nd0=N at *
  by_cases e6:N.kind=6
  ·rw [zb e6]
   have:=hex (by have:=hln.k1;omega)
   have hv:=hvr (hnd.1 (by omega)) (N.words.getD 0 [])
   exact (qcn hp ⟨hf,hto,by simp,fun _=>this,fun h=>by simp at h,fun _=>hv,fun h=>by simp at h⟩).le (by omega)
  rw [za e6]
  by_cases e7:N.kind=7
  ·rw [zb e7]
   have:=hex (by have:=hln.k1;omega)
   have hc:=jdk (L:=cs) (s:=N.words.getD 0 []) (hnd.2 (by omega))
   exact (qcn hp ⟨hf,hto,by simp,fun _=>this,fun h=>by simp at h,fun h=>by simp at h,fun _=>hc⟩).le (by omega)
  rw [za e7]
  by_cases e8:N.kind=8
  ·rw [zb e8]
   have g1:=qsx hp frm (N.nums.getD 0 0)
   have hv:=hvr (hnd.1 (by omega)) (N.words.getD 1 [])
   have hc:=jdk (L:=cs) (s:=N.words.getD 0 []) (hnd.2 (by omega))
   exact (g1.trans (qcn g1.ok ⟨hf,hto,by simp,fun h=>by simp at h,fun _=>rfl,fun _=>hv,fun _=>hc⟩)).le (by omega)
  rw [za e8]
  by_cases e9:N.kind=9
  ·rw [zb e9]
   have:=hex (by have:=hln.k1;omega)
   have g1:=qsx hp frm (N.nums.getD 0 0)
   exact (g1.trans (qcn g1.ok (qhb 4 (.inl rfl) hf hto this))).le (by omega)
  rw [za e9]
  by_cases e10:N.kind=10
  ·rw [zb e10]
   have g1:=qsx hp frm (N.nums.getD 0 0)
   have g2:=jdm ht (g:=g') (f:=f) (by omega) ih frm to N.kids (qad p frm (N.nums.getD 0 0)) (a+1) n (by omega) hw (fun k hk'=>⟨hi k hk',by
    obtain ⟨q,hq,rfl⟩:=List.mem_iff_getElem.1 hk'
    rw [← qky (l:=l) (n:=N) (i:=q) (by rw [List.getD_eq_getElem?_getD,ze hq];rfl)]
    exact (hkd q hq).2.2.2.2.1 e10⟩) g1.ok (by rw [g1.same.2.2.2.2];exact hn) hf hto
   exact (g1.trans g2).le (by omega)
  rw [za e10]
  by_cases e11:N.kind=11
  ·rw [zb e11]
   have hk3:=hln.k3 e11
   have he:=hex (by omega)
   have K:∀ i,1≤i→i<N.kids.length→qv l (N.kids.getD i 0)=16:=fun i h1 h2=>by
    rw [← qky (l:=l) (n:=N) rfl];exact (hkd i h2).2.2.2.2.2.1 (.inl e11) h1
   have I:∀ i,i<N.kids.length→itemF l (N.kids.getD i 0)=it:=fun i h=>hi _ (qk _ i 0 h)
   have g1:=qgb hp
   have g2:=qcn (frm:=frm) (to:=p.places) (act:=4) (node:=a) (expr:=N.kids.getD 0 0) (v:=-1) (c:=-1) g1.ok (qhb 4 (.inl rfl) (by simp only [qg];omega) (by simp only [qg];omega) he)
   have g12:=g1.trans g2
   have hp12:(putF (qg p) frm p.places 4 a (N.kids.getD 0 0) (-1) (-1)).places=p.places+1:=rfl
   match hks:N.kids,hk3 with
   | [e,b],_=>
    rw [hks] at hw
    obtain ⟨rfl,h2,m1,h3,h4⟩:=qak hw
    obtain ⟨rfl,h6,m2,h7,h8⟩:=qak h4
    simp only [walkL,Prod.mk.injEq,and_true] at h8
    subst h8
    have K1:=K 1 (by omega) (by rw [hks];simp)
    have I1:=I 1 (by rw [hks];simp)
    rw [hks] at K1 I1 g12 hp12
    have hl1:=(qaj l g' (a+1) b (by omega) h3).1
    have g3:=B _ b m2 p.places to ⟨⟨by omega,h6⟩,h7,I1⟩ K1 g12.ok g12.same.2.2.2.2 (by omega) (by omega)
    have g13:=g12.trans g3
    rw [hks] at he
    have h13:=g13.pl
    have g4:=qcn (frm:=frm) (to:=to) (act:=5) (node:=a) (expr:=(a+1)) (v:=-1) (c:=-1) g13.ok (qhb 5 (.inr rfl) (by omega) (by omega) he)
    exact (g13.trans g4).le (by omega)
   | [e,b,b'],_=>
    rw [hks] at hw
    obtain ⟨rfl,h2,m1,h3,h4⟩:=qak hw
    obtain ⟨rfl,h6,m2,h7,h8⟩:=qak h4
    obtain ⟨rfl,h10,m3,h11,h12⟩:=qak h8
    simp only [walkL,Prod.mk.injEq,and_true] at h12
    subst h12
    have K1:=K 1 (by omega) (by rw [hks];simp)
    have I1:=I 1 (by rw [hks];simp)
    have K2:=K 2 (by omega) (by rw [hks];simp)
    have I2:=I 2 (by rw [hks];simp)
    rw [hks] at K1 I1 K2 I2 g12 hp12
    have hl1:=(qaj l g' (a+1) b (by omega) h3).1
    have hl2:=(qaj l g' b b' (by omega) h7).1
    have g3:=B _ b b' p.places to ⟨⟨by omega,h6⟩,h7,I1⟩ K1 g12.ok g12.same.2.2.2.2 (by omega) (by omega)
    have g13:=g12.trans g3
    rw [hks] at he
    have h13:=g13.pl
    have g4:=qgb g13.ok
    have g14:=g13.trans g4
    have h14:=g14.pl
    simp only [xg,zap,List.getD_cons_zero,List.getD_cons_succ] at *
    rw [za (by decide)]
    have h4p:=g4.pl
    have hq2:∀ q:Pr,(qg q).places=q.places+1:=fun _=>rfl
    have g5:=qcn (frm:=frm) (node:=a) (expr:=(a+1)) (v:=-1) (c:=-1) (act:=5) (to:=(qbj (qe l cs f) b (putF (qg p) frm p.places 4 a (a+1) (-1) (-1)) (l.getD b.toNat nd0).kids p.places to).places) g14.ok (qhb 5 (.inr rfl) (by omega) (by rw [hq2];omega) he)
    have g15:=g14.trans g5
    have hpe:∀ (q:Pr) (a b c d e f g:Int),(putF q a b c d e f g).places=q.places:=fun _ _ _ _ _ _ _ _=>rfl
    have g6:=B _ b' m3 (qbj (qe l cs f) b (putF (qg p) frm p.places 4 a (a+1) (-1) (-1)) (l.getD b.toNat nd0).kids p.places to).places to ⟨⟨by omega,h10⟩,h11,I2⟩ K2 g15.ok g15.same.2.2.2.2 (by rw [hpe,hq2];omega) (by rw [hpe,hq2];omega)
    exact (g15.trans g6).le (by omega)
  rw [za e11]
  by_cases e12:N.kind=12
  ·rw [zb e12]
   have hk2:=hln.k2 (by omega)
   have he:=hex (by omega)
   have K1:qv l (N.kids.getD 1 0)=16:=by
    rw [← qky (l:=l) (n:=N) rfl];exact (hkd 1 (by omega)).2.2.2.2.2.1 (.inr e12) (by omega)
   have I1:itemF l (N.kids.getD 1 0)=it:=hi _ (qk _ 1 0 (by omega))
   have g1:=qgb hp
   have g2:=qcn (frm:=frm) (to:=p.places) (act:=4) (node:=a) (expr:=N.kids.getD 0 0) (v:=-1) (c:=-1) g1.ok (qhb 4 (.inl rfl) (by simp only [qg];omega) (by simp only [qg];omega) he)
   have g12:=g1.trans g2
   have g3:=qcn (frm:=frm) (to:=to) (act:=5) (node:=a) (expr:=N.kids.getD 0 0) (v:=-1) (c:=-1) g12.ok (qhb 5 (.inr rfl) (by simp only [putF,qg];omega) (by simp only [putF,qg];omega) he)
   have g13:=g12.trans g3
   have hp13:(putF (putF (qg p) frm p.places 4 a (N.kids.getD 0 0) (-1) (-1)) frm to 5 a (N.kids.getD 0 0) (-1) (-1)).places=p.places+1:=rfl
   match hks:N.kids,hk2 with
   | [e,b],_=>
    rw [hks] at hw
    obtain ⟨rfl,h2,m1,h3,h4⟩:=qak hw
    obtain ⟨rfl,h6,m2,h7,h8⟩:=qak h4
    simp only [walkL,Prod.mk.injEq,and_true] at h8
    subst h8
    rw [hks] at K1 I1 g13 hp13
    have hl1:=(qaj l g' (a+1) b (by omega) h3).1
    exact (g13.trans (B _ b m2 p.places frm ⟨⟨by omega,h6⟩,h7,I1⟩ K1 g13.ok g13.same.2.2.2.2 (by omega) (by omega))).le (by omega)
  rw [za e12]
  by_cases e13:N.kind=13
  ·rw [zb e13]
   have hk1:=hln.k1 (by omega)
   have K0:qv l (N.kids.getD 0 0)=16:=by
    rw [← qky (l:=l) (n:=N) rfl];exact (hkd 0 (by omega)).2.2.2.2.2.2 e13
   have I0:itemF l (N.kids.getD 0 0)=it:=hi _ (qk _ 0 0 (by omega))
   match hks:N.kids,hk1 with
   | [b],_=>
    rw [hks] at hw K0 I0
    obtain ⟨rfl,h2,m1,h3,h4⟩:=qak hw
    simp only [walkL,Prod.mk.injEq,and_true] at h4
    subst h4
    exact (jqt (B p (a+1) m1 frm to ⟨⟨by omega,h2⟩,h3,I0⟩ K0 hp rfl hf hto) to p.edges.length).le (by omega)
  rw [za e13]
  by_cases e15:N.kind=15
  ·rw [zb e15]
   exact (qcn hp (qpe hf (by omega))).le (by omega)
  ·rw [za e15]
   exact (qcn hp (qpe hf hto)).le (by omega)
end Go.St
