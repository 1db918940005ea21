/- Some texts of the library, one behind the other. -/
import Derived.Test.YtikahnkkfkoglaaGreatDoorY2MkQ
import Derived.Test.YtikahnkkfkoglaaGreatDoorY22
set_option linter.unusedSimpArgs false
set_option linter.unusedVariables false
section
namespace Go.St
open Go Go.Sx
theorem jdn {α:Type} {p:α→Bool} {L:List α} (h:Go.St.idx p L<0):∀ x∈L,p x=false:=by
 unfold Go.St.idx at h
 cases hf:L.findIdx? p with
 | none=>rw [List.findIdx?_eq_none_iff] at hf;exact hf
 | some i=>rw [hf] at h;simp only at h;omega
theorem qpg {l:List Nd} (h:(qcg l).1=0):(∀ i,i<l.length→badF l i=false)∧∀ i,i<l.length→qbn l i=0:=by
 unfold qcg at h
 by_cases h1:(qhz l).1≠0
 ·rw [zb h1] at h;exact absurd h h1
 ·rw [za h1] at h
  refine ⟨fun i hi=>?_,fun i hi=>?_⟩
  ·have h2:(qhz l).1=0:=by simpa using h1
   unfold qhz at h2
   split at h2
   ·rename_i hx;exact jdn hx i (List.mem_range.2 hi)
   ·simp at h2
  ·split at h
   ·rename_i hx
    have:=jdn hx i (List.mem_range.2 hi)
    simpa using this
   ·rename_i hx
    exfalso
    have hy:=hx
    unfold Go.St.idx at hy h
    cases hf:(List.range l.length).findIdx? (fun i=>qbn l i != 0) with
    | none=>rw [hf] at hy;simp at hy
    | some j=>
     rw [hf] at h
     rw [zaq] at hf
     obtain ⟨hj,h3,_⟩:=hf
     simp only [List.getElem_range] at h3
     simp only [zr] at h
     rw [h] at h3
     simp at h3
theorem jqu {l:List Nd} {i:Nat} (h:qbn l i=0) (hk:(l.getD i nd0).kind=1):1≤(l.getD i nd0).nums.getD 0 0∧(l.getD i nd0).nums.getD 0 0≤3:=by
 unfold qbn at h
 rw [zb hk] at h
 split at h
 ·simp at h
 ·omega
theorem qwr {l:List Nd} {i:Nat} (h:qbn l i=0) (hk:(l.getD i nd0).kind=3):1≤(l.getD i nd0).nums.getD 0 0∧sumF l 3 (i+1)≤4:=by
 unfold qbn at h
 rw [za (by omega),za (by omega),zb hk] at h
 split at h
 ·simp at h
 ·omega
/-! How many processes there are. -/
theorem qws (l:List Nd) (kind:Int) (i:Nat):sumF l kind (i+1)=qia l kind (sumF l kind i) i:=by
 unfold sumF
 rw [zbj,xx];rfl
theorem jqv {l:List Nd} (ht:Tree l) (i:Nat) (h1:i<l.length):0≤qga l i:=by
 have hlen:=ht.len
 unfold qga qv
 split
 ·rename_i h
  have hlt:(itemF l i).toNat<l.length:=by
   by_cases h0:i=0
   ·subst h0
    have:itemF l (0:Nat)=0:=qsu _ _ 0 fun k hk=>(ht.kids 0 (by omega) k hk).1
    rw [this];simp;omega
   ·have:=(ht.item (j:=i) (by omega) h1).1
    omega
  exact ((ht.lens _ hlt).num (by omega)).1
 ·omega
theorem qsy {l:List Nd} (ht:Tree l) (kind:Int) (i:Nat):∀ j,i≤j→j≤l.length→sumF l kind i≤sumF l kind j:=by
 intro j hij
 induction hij with
 | refl=>intro _;exact xb _
 | step hij ih=>
  intro hj
  have h1:=ih (by omega)
  rename_i m
  have h2:=jqv ht m (by omega)
  rw [qws]
  unfold qia
  (repeat' split) <;> omega
theorem jdo {l:List Nd} (ht:Tree l) {k:Nat} (hk:k<l.length) (hk3:(l.getD k nd0).kind=3) (h4:sumF l 3 (k+1)≤4) (h1:1≤(l.getD k nd0).nums.getD 0 0) :
  sumF l 3 (k+1)=sumF l 3 k+(l.getD k nd0).nums.getD 0 0∧0≤sumF l 3 k:=by
 have hm:=qsy ht 3 k (k+1) (by omega) (by omega)
 have h0:=qsy ht 3 0 k (by omega) (by omega)
 have hz:sumF l 3 0=0:=rfl
 have hk0:0<k:=by
  rcases zak k with rfl|h
  ·have:=ht.root;omega
  ·exact h
 have hit:=(ht.item hk0 hk).2.2 (ht.top hk (by omega))
 have hc:qga l k=(l.getD k nd0).nums.getD 0 0:=by
  unfold qga qv
  rw [hit,zr,zb hk3]
 have hs:=qws l 3 k
 unfold qia at hs
 rw [zb (by omega),zb hk3,za (by omega),hc] at hs
 omega
/-! Names that are there. -/
theorem jdp (at_:Int):∀ (ks:List Int) (o:Int),ks.Pairwise (· < ·)→(∀ k∈ks,o≤k)→∀ c∈ks,c≤at_→c≤qbf at_ ks o
 | [],_,_,_,c,hc,_=>by cases hc
 | k::ks,o,hs,ho,c,hc,hle=>by
  cases hs with
  | cons h1 h2=>
   rw [qbf]
   by_cases hk:k≤at_
   ·rw [zb hk]
    rcases List.mem_cons.1 hc with rfl|hc
    ·have key:∀ (ks:List Int) (o:Int),(∀ q∈ks,o<q)→o≤qbf at_ ks o:=by
      intro ks
      induction ks with
      | nil=>intro o _;exact xb _
      | cons q ks ih=>
       intro o hq
       rw [qbf]
       split
       ·have hoq:=hq q (zp ..)
        have key2:∀ (ks:List Int) (a b:Int),a≤b→qbf at_ ks a≤qbf at_ ks b:=by
         intro ks
         induction ks with
         | nil=>intro a b h;exact h
         | cons q ks ih=>intro a b h;simp only [qbf];split <;> apply ih <;> omega
        have:=ih o fun r hr=>hq r (zq _ hr)
        exact zbq this (key2 ks o q (by omega))
       ·exact ih o fun r hr=>hq r (zq _ hr)
     exact key ks c h1
    ·exact jdp at_ ks k h2 (fun q hq=>by have:=h1 q hq;omega) c hc hle
   ·rw [za hk]
    rcases List.mem_cons.1 hc with rfl|hc
    ·omega
    ·have:=h1 c hc;omega
theorem jdq {l:List Nd} (ht:Tree l) {j k:Nat} (hj:j<l.length) (hk3:(l.getD k nd0).kind=3) (hit:itemF l j=k) (w:List UInt8) (hn:inF (qdk l j 2) w=true) :
  (∃ i:Nat,(i:Int)∈(l.getD 0 nd0).kids∧(l.getD i nd0).kind=2∧i<k)∨1≤varsN l (l.getD k nd0):=by
 have hlen:=ht.len
 obtain ⟨i,h1,h2,h3⟩:=qwo l (itemF l j) 2 w _ hn
 rw [zr] at h1
 rcases ht.var (j:=i) (by omega) h2 with h4|⟨p,h4,h5,h6,h7,h8⟩
 ·left
  refine ⟨i,h4,h2,?_⟩
  have hs:=(ht.kidsLen (j:=0) (by omega)).2
  have:=jdp j (l.getD 0 nd0).kids 0 hs (fun k hk=>by have:=(ht.kids 0 (by omega) k hk).1;omega) i h4 (by omega)
  have hit':qbf j (l.getD 0 nd0).kids 0=k:=hit
  rw [hit'] at this
  have hne:i≠k:=fun e=>by rw [e] at h2;omega
  omega
 ·right
  rcases h3 with h3|h3
  ·rw [h7] at h3
   have:p=i:=by omega
   omega
  ·rw [h7,hit] at h3
   have:p=k:=by omega
   rw [← this];exact h8
theorem jdr {l:List Nd} (ht:Tree l) {j:Nat} (hj:j<l.length) (w:List UInt8) (hn:inF (qdk l j 1) w=true):∃ i:Nat,(i:Int)∈(l.getD 0 nd0).kids∧(l.getD i nd0).kind=1:=by
 obtain ⟨i,h1,h2,_⟩:=qwo l (itemF l j) 1 w _ hn
 rw [zr] at h1
 exact ⟨i,ht.top (by omega) (.inl h2),h2⟩
theorem jqw {l:List Nd} (ht:Tree l) (hb:∀ i,i<l.length→badF l i=false) {k:Nat} (hk3:(l.getD k nd0).kind=3) {nvar nc:Nat}
  (hv:(∃ i:Nat,(i:Int)∈(l.getD 0 nd0).kids∧(l.getD i nd0).kind=2∧i<k)∨1≤varsN l (l.getD k nd0)→1≤nvar)
  (hc:(∃ i:Nat,(i:Int)∈(l.getD 0 nd0).kids∧(l.getD i nd0).kind=1)→1≤nc):Need l k nvar nc:=by
 intro j hj hit
 have hbj:=hb j hj
 unfold badF at hbj
 refine ⟨fun h=>?_,fun h=>?_⟩
 ·rcases h with h|h
  ·rw [za (by omega),zb (by omega)] at hbj
   exact hv (jdq ht hj hk3 hit _ (by simpa using hbj))
  ·rw [za (by omega),za (by omega),za (by omega),zb (by omega),xq] at hbj
   exact hv (jdq ht hj hk3 hit _ (by simpa using hbj.2))
 ·rcases h with h|h
  ·rw [za (by omega),za (by omega),zb (by omega)] at hbj
   exact hc (jdr ht hj _ (by simpa using hbj))
  ·rw [za (by omega),za (by omega),za (by omega),zb (by omega),xq] at hbj
   exact hc (jdr ht hj _ (by simpa using hbj.1))
theorem jds {l:List Nd} {g:Nat}:∀ (ks:List Int) (next n:Int) (v:Nat),0≤next→walkL (walkF l g) l.length ks next=(n,true)→∃ next',next≤next'∧next'≤n∧walkL (walkF l g) l.length (ks.drop v) next'=(n,true)
 | ks,next,n,0,h0,h=>⟨next,xb _,(qff l (walkF l g) (qaj l g) ks next n h0 h).1.1,h⟩
 | [],next,n,v+1,h0,h=>by
  refine ⟨next,xb _,?_,by simpa using h⟩
  simp only [walkL,Prod.mk.injEq,and_true] at h;omega
 | k::ks,next,n,v+1,h0,h=>by
  obtain ⟨rfl,h2,m,h3,h4⟩:=qak h
  have hlt:=(qaj l g k m h0 h3).1.1
  obtain ⟨next',h5,h6,h7⟩:=jds ks m n v (by omega) h4
  exact ⟨next',by omega,h6,by simpa using h7⟩
/-! The variables of a process. -/
structure LInv (seen i:Nat) (vs:List Vr) (x:Pr × List Vr):Prop where
 nm:x.1.names.length=x.1.vars.length∧x.1.names.length=seen+i
 vr:∀ v∈x.1.vars,0≤v∧v<x.2.length
 len:x.2.length=vs.length+i
 ex:∃ e,x.2=vs++e
 st:x.1.places=2∧x.1.rest=[false,true]∧x.1.edges=[]
theorem jdt (l:List Nd) (vs:List Vr) (seen:Nat) (hs:seen≤vs.length) (k c:Int):LInv seen 0 vs (qkx l vs seen k c,vs):=
 ⟨⟨by simp [qkx];omega,by simp [qkx];omega⟩,fun v hv=>by
  simp only [qkx,List.mem_map,List.mem_range] at hv
  obtain ⟨i,hi,rfl⟩:=hv
  simp only;omega,by simp,⟨[],by simp⟩,rfl,rfl,rfl⟩
theorem jqx {l:List Nd} {seen i:Nat} {vs:List Vr} {x:Pr × List Vr} (h:LInv seen i vs x) (k:Int):LInv seen (i+1) vs (qee l x k):=
 ⟨⟨by simp [qee,h.nm.1],by simp only [qee,zg,zz];have:=h.nm.2;omega⟩,fun v hv=>by
  simp only [qee,xk,zw,zg,zz] at hv ⊢
  rcases hv with hv|rfl
  ·have:=h.vr v hv;push_cast;omega
  ·push_cast;omega,by simp only [qee,zg,zz];have:=h.len;omega,by
   obtain ⟨e,he⟩:=h.ex
   exact ⟨e++[_],by simp only [qee];rw [he,zn]⟩,h.st⟩
theorem qwt {l:List Nd} {seen:Nat} {vs:List Vr}:∀ (ks:List Int) (i:Nat) (x:Pr × List Vr),LInv seen i vs x→LInv seen (i+ks.length) vs (ks.foldl (qee l) x)
 | [],i,x,h=>h
 | k::ks,i,x,h=>by
  rw [zbp,xg,show i+(ks.length+1)=i+1+ks.length by omega]
  exact qwt ks (i+1) _ (jqx h k)
theorem LInv.ok {T nc seen i:Nat} {vs:List Vr} {x:Pr × List Vr} (h:LInv seen i vs x) (hn:seen+i≤100000):PrOk T x.2.length nc x.1:=
 ⟨⟨h.nm.1,by have:=h.nm.2;omega⟩,h.vr,by rw [h.st.1];omega,by rw [h.st.1,h.st.2.1];rfl,fun e he=>by rw [h.st.2.2] at he;cases he⟩
/-! The variables and processes so far. -/
structure VInv (T nc:Nat) (gl vs:List Vr) (ps:List Pr):Prop where
 ex:∃ e,vs=gl++e
 len:vs.length≤gl.length+800 * ps.length
 ok:∀ q∈ps,PrOk T vs.length nc q∧q.edges.length≤40000∧q.places≤40000
theorem jdu {l:List Nd} (ht:Tree l) {k:Nat} (hk:k<l.length) (hk3:(l.getD k nd0).kind=3):∃ g n next:Int,True∧∃ g':Nat,g'≤20∧(0<next∧next≤n∧n≤l.length)∧walkL (walkF l g') l.length ((l.getD k nd0).kids.drop (varsN l (l.getD k nd0))) next=(n,true) ∧
  ∀ c∈(l.getD k nd0).kids.drop (varsN l (l.getD k nd0)),itemF l c=k∧6≤qv l c∧qv l c≤15:=by
 have hk0:0<k:=by
  rcases zak k with rfl|h
  ·have:=ht.root;omega
  ·exact h
 have hw:walkF l 20 0=((l.length:Int),true):=by rw [walkF];exact ht.walk
 obtain ⟨g,n',hg,hgk⟩:=qwm l 20 0 _ (xb _) hw k (by omega) (by omega)
 obtain ⟨g',rfl,hwk⟩:=jdj hgk
 rw [zr] at hwk
 obtain ⟨next',h5,h6,h7⟩:=jds _ _ _ (varsN l (l.getD k nd0)) (by omega) hwk
 have hn:=(qaj l (g'+1) k n' (by omega) hgk).1.2 (by omega)
 have hit:=ht.item hk0 hk
 have hik:=hit.2.2 (ht.top hk (by omega))
 refine ⟨0,n',next',trivial,g',by omega,⟨by omega,h6,hn⟩,h7,fun c hc=>?_⟩
 have hc':=List.mem_of_mem_drop hc
 refine ⟨(hit.2.1 c hc').trans hik,?_⟩
 obtain ⟨q,hq,rfl⟩:=List.mem_iff_getElem.1 hc
 rw [xj] at hq
 have hkk:=(ht.kind k hk (varsN l (l.getD k nd0)+q) (by omega)).2.1 hk3
 have:=hkk.2 (by omega)
 have e:(l.getD k nd0).kids.getD (varsN l (l.getD k nd0)+q) 0=((l.getD k nd0).kids.drop (varsN l (l.getD k nd0)))[q]:=by
  rw [List.getElem_drop,List.getD_eq_getElem?_getD,ze (by omega)];rfl
 rw [qky e] at this
 exact this
theorem jqy {l:List Nd} (ht:Tree l) {k:Nat} (hk:k<l.length) (hk3:(l.getD k nd0).kind=3) {gl vs:List Vr} {ps:List Pr} {cs:List Ch} {seen:Nat} (hseen:seen≤gl.length) (hgl:gl.length≤800)
  (hn:Need l k (seen+varsN l (l.getD k nd0)) cs.length) (h:VInv l.length cs.length gl vs ps) (hps:ps.length≤4) (c:Nat) :
  VInv l.length cs.length gl (qdq l cs k seen (vs,ps) c).1 (qdq l cs k seen (vs,ps) c).2∧(qdq l cs k seen (vs,ps) c).2.length=ps.length+1:=by
 have hlen:=ht.len
 have hkl:=(ht.kidsLen hk).1
 have hvn:=(qwl l (l.getD k nd0)).1
 obtain ⟨e,he⟩:=h.ex
 have hvl:vs.length=gl.length+e.length:=by rw [he,zg]
 have li:=qwt (l:=l) ((l.getD k nd0).kids.take (varsN l (l.getD k nd0))) 0 _ (jdt l vs seen (by omega) k c)
 rw [xc,Nat.min_eq_left hvn,zo] at li
 unfold qdq
 simp only [zr]
 generalize hy:((l.getD k nd0).kids.take (varsN l (l.getD k nd0))).foldl (qee l) (qkx l vs seen k c,vs)=y at li ⊢
 have hyl:=li.len
 obtain ⟨_,n,next,_,g',hg',hnn,hw,hks⟩:=jdu ht hk hk3
 have hok:PrOk l.length y.2.length cs.length y.1:=li.ok (by omega)
 have hyv:y.1.vars.length=seen+varsN l (l.getD k nd0):=by have:=li.nm;omega
 have hg:=qwq ht (T:=l.length) (nv:=y.2.length) (nc:=cs.length) (st:=qe l cs 20) (g:=g') (it:=k) k (qmi ht cs 20 g' hg') _ y.1 next n 0 1 hnn.1 hw hks hok (by rw [hyv];exact hn) (by have:=li.st.1;omega) (by have:=li.st.1;omega)
 have hge:=hg.ed
 have hgp:=hg.pl
 rw [li.st.2.2] at hge
 rw [li.st.1] at hgp
 simp only [zap] at hge
 refine ⟨⟨?_,?_,fun q hq=>?_⟩,by simp⟩
 ·obtain ⟨e',he'⟩:=li.ex
  exact ⟨e++e',by rw [he',he,zn]⟩
 ·have:=h.len
  simp only [zg,zz];omega
 ·simp only [xk,zw] at hq
  rcases hq with hq|rfl
  ·have:=h.ok q hq
   exact ⟨this.1.mono (by omega),this.2⟩
  ·exact ⟨hg.ok,by omega,by omega⟩
theorem qwu {l:List Nd} (ht:Tree l) {k:Nat} (hk:k<l.length) (hk3:(l.getD k nd0).kind=3) {gl vs:List Vr} {ps:List Pr} {cs:List Ch} {seen:Nat} (hseen:seen≤gl.length) (hgl:gl.length≤800)
  (hn:Need l k (seen+varsN l (l.getD k nd0)) cs.length) (h:VInv l.length cs.length gl vs ps):∀ c:Nat,ps.length+c≤5→
  VInv l.length cs.length gl ((List.range c).foldl (qdq l cs k seen) (vs,ps)).1 ((List.range c).foldl (qdq l cs k seen) (vs,ps)).2∧((List.range c).foldl (qdq l cs k seen) (vs,ps)).2.length=ps.length+c
 | 0,_=>⟨h,rfl⟩
 | c+1,hc=>by
  obtain ⟨h1,h2⟩:=qwu ht hk hk3 hseen hgl hn h c (by omega)
  rw [zbj,xx,zbp,List.foldl_nil]
  have:=jqy ht hk hk3 hseen hgl hn h1 (by omega) c
  exact ⟨this.1,by rw [this.2,h2];omega⟩
def isK (l:List Nd) (a k:Int):Bool:=qv l k == a
structure IInv (l:List Nd) (pre:List Int) (M:Md):Prop where
 tree:M.tree=l∧M.globals=0∧M.procs=[]
 vars:M.vars.length=(pre.filter (isK l 2)).length
 chans:M.chans.length=(pre.filter (isK l 1)).length
 room:∀ c∈M.chans,0≤c.room∧c.room≤3
 safe:(∀ k∈M.safe,0≤k∧k<l.length)∧M.safe.length≤pre.length
theorem qwv {l:List Nd} (ht:Tree l) (hw:∀ i,i<l.length→qbn l i=0):∀ (rest pre:List Int) (M:Md),(∀ k∈rest,0≤k∧k<l.length)→IInv l pre M→IInv l (pre++rest) (rest.foldl (qha l) M)
 | [],pre,M,_,h=>by simpa using h
 | k::rest,pre,M,hr,h=>by
  have hk:=hr k (zp ..)
  rw [zbp,show pre++k::rest=(pre++[k])++rest by simp]
  refine qwv ht hw rest (pre++[k]) _ (fun q hq=>hr q (zq _ hq)) ?_
  have hln:=ht.lens k.toNat (by omega)
  have hkd:qv l k=(l.getD k.toNat nd0).kind:=rfl
  unfold qha
  simp only
  have F:∀ a,((pre++[k]).filter (isK l a)).length=(pre.filter (isK l a)).length+(if qv l k=a then 1 else 0):=fun a=>by
   rw [List.filter_append,zg]
   by_cases e:qv l k=a
   ·rw [zb e];simp [isK,e]
   ·rw [za e];simp [isK,e]
  split
  ·rename_i e
   have h1:=jqu (hw k.toNat (by omega)) e
   refine ⟨h.tree,by rw [F,za (by omega)];exact h.vars,by rw [F,zb (by omega)];simp [h.chans],fun c hc=>?_,h.safe.1,by have:=h.safe.2;simp;omega⟩
   simp only [xk,zw] at hc
   rcases hc with hc|rfl
   ·exact h.room c hc
   ·simp only;omega
  split
  ·rename_i e1 e
   exact ⟨h.tree,by rw [F,zb (by omega)];simp [h.vars],by rw [F,za (by omega)];exact h.chans,h.room,h.safe.1,by have:=h.safe.2;simp;omega⟩
  split
  ·rename_i e1 e2 e
   have h1:=hln.k1 (by omega)
   have h2:=ht.kids k.toNat (by omega) _ (qk _ 0 0 (by omega:0<(l.getD k.toNat nd0).kids.length))
   refine ⟨h.tree,by rw [F,za (by omega)];exact h.vars,by rw [F,za (by omega)];exact h.chans,h.room,fun q hq=>?_,by have:=h.safe.2;simp;omega⟩
   simp only [xk,zw] at hq
   rcases hq with hq|rfl
   ·exact h.safe.1 q hq
   ·omega
  split
  ·exact ⟨h.tree,by rw [F,za (by omega)];exact h.vars,by rw [F,za (by omega)];exact h.chans,h.room,h.safe.1,by have:=h.safe.2;simp;omega⟩
  ·exact ⟨h.tree,by rw [F,za (by omega)];exact h.vars,by rw [F,za (by omega)];exact h.chans,h.room,h.safe.1,by have:=h.safe.2;simp;omega⟩
structure PInv (l:List Nd) (cs:List Ch) (gl:List Vr) (pre:List Int) (x:Nat × List Vr × List Pr):Prop where
 seen:x.1=(pre.filter (isK l 2)).length
 v:VInv l.length cs.length gl x.2.1 x.2.2
 cnt:∀ m:Nat,m≤l.length→(∀ k∈pre,k<m)→(x.2.2.length:Int)≤sumF l 3 m
theorem jdv {l:List Nd} (ht:Tree l) (hb:∀ i,i<l.length→badF l i=false) {pre rest:List Int} {k:Nat} (hks:(l.getD 0 nd0).kids=pre++(k:Int)::rest) (hk3:(l.getD k nd0).kind=3) {cs:List Ch}
  (hcs:cs.length=((l.getD 0 nd0).kids.filter (isK l 1)).length):Need l k ((pre.filter (isK l 2)).length+varsN l (l.getD k nd0)) cs.length:=by
 have hlen:=ht.len
 have hs:=(ht.kidsLen (j:=0) (by omega)).2
 rw [hks] at hs
 refine jqw ht hb hk3 (fun h=>?_) (fun h=>?_)
 ·rcases h with ⟨i,h1,h2,h3⟩|h
  ·rw [hks] at h1
   rcases List.mem_append.1 h1 with h1|h1
   ·have:0<(pre.filter (isK l 2)).length:=List.length_pos_iff_exists_mem.2 ⟨i,List.mem_filter.2 ⟨h1,by unfold isK qv;rw [zr,h2];rfl⟩⟩
    omega
   ·rcases List.mem_cons.1 h1 with h1|h1
    ·omega
    ·have:=((List.pairwise_append.1 hs).2.1)
     cases this with
     | cons h4 _=>have:=h4 _ h1;omega
  ·omega
 ·obtain ⟨i,h1,h2⟩:=h
  have:0<((l.getD 0 nd0).kids.filter (isK l 1)).length:=List.length_pos_iff_exists_mem.2 ⟨i,List.mem_filter.2 ⟨h1,by unfold isK qv;rw [zr,h2];rfl⟩⟩
  omega
theorem jqz {l:List Nd} (ht:Tree l) (hb:∀ i,i<l.length→badF l i=false) (hw:∀ i,i<l.length→qbn l i=0) {cs:List Ch} {gl:List Vr} (hcs:cs.length=((l.getD 0 nd0).kids.filter (isK l 1)).length) (hgl:gl.length=((l.getD 0 nd0).kids.filter (isK l 2)).length)
  {rest pre:List Int} {k:Int} {x:Nat × List Vr × List Pr} (hks:(l.getD 0 nd0).kids=pre++k::rest) (h:PInv l cs gl pre x):PInv l cs gl (pre++[k]) (qcv l cs x k):=by
 have hlen:=ht.len
 have hkm:k∈(l.getD 0 nd0).kids:=by rw [hks];simp
 have hk:=ht.kids 0 (by omega) k hkm
 have hs:=(ht.kidsLen (j:=0) (by omega)).2
 have hkl:=(ht.kidsLen (j:=0) (by omega)).1
 have F:((pre++[k]).filter (isK l 2)).length=(pre.filter (isK l 2)).length+(if qv l k=2 then 1 else 0):=by
  rw [List.filter_append,zg]
  by_cases e:qv l k=2
  ·rw [zb e];simp [isK,e]
  ·rw [za e];simp [isK,e]
 have hkd:qv l k=(l.getD k.toNat nd0).kind:=rfl
 have hpk:∀ q∈pre,q<k:=fun q hq=>by
  rw [hks] at hs
  exact (List.pairwise_append.1 hs).2.2 q hq k (zp ..)
 have hgl2:gl.length≤800:=by rw [hgl];exact xa (zas _ _) hkl
 unfold qcv
 simp only
 by_cases e3:(l.getD k.toNat nd0).kind=3
 ·have h1:=qwr (hw k.toNat (by omega)) e3
  have h2:=jdo ht (k:=k.toNat) (by omega) e3 h1.2 h1.1
  have h3:=h.cnt k.toNat (by omega) (fun q hq=>by have:=hpk q hq;omega)
  rw [za (by omega),zb e3]
  have hkk:((k.toNat:Nat):Int)=k:=by omega
  have hseen:x.1≤gl.length:=by
   rw [h.seen,hgl,hks,List.filter_append,zg];omega
  have hnd:=jdv ht hb (k:=k.toNat) (pre:=pre) (rest:=rest) (by rw [hkk];exact hks) e3 hcs
  rw [← h.seen] at hnd
  have hci:=qwu ht (k:=k.toNat) (by omega) e3 hseen hgl2 hnd h.v ((l.getD k.toNat nd0).nums.getD 0 0).toNat (by omega)
  rw [hkk] at hci
  have hx2:(x.2.1,x.2.2)=x.2:=rfl
  rw [hx2] at hci
  refine ⟨by rw [F,za (by omega),← h.seen];rfl,hci.1,fun m hm hq=>?_⟩
  have h4:=hq k (by simp)
  have h5:=qsy ht 3 (k.toNat+1) m (by omega) hm
  have h6:((List.foldl (qdq l cs k x.1) x.2 (List.range ((l.getD k.toNat nd0).nums.getD 0 0).toNat)).2.length:Int)=x.2.2.length+((l.getD k.toNat nd0).nums.getD 0 0).toNat:=by rw [hci.2];push_cast;rfl
  rw [h6]
  omega
 ·rw [za e3]
  refine ⟨?_,h.v,fun m hm hq=>h.cnt m hm (fun q hq'=>hq q (zbo _ hq'))⟩
  rw [F,← h.seen]
  simp only [hkd]
  split <;> rfl
theorem qww {l:List Nd} (ht:Tree l) (hb:∀ i,i<l.length→badF l i=false) (hw:∀ i,i<l.length→qbn l i=0) {cs:List Ch} {gl:List Vr} (hcs:cs.length=((l.getD 0 nd0).kids.filter (isK l 1)).length) (hgl:gl.length=((l.getD 0 nd0).kids.filter (isK l 2)).length) :
  ∀ i,i≤(l.getD 0 nd0).kids.length→PInv l cs gl ((l.getD 0 nd0).kids.take i) (((l.getD 0 nd0).kids.take i).foldl (qcv l cs) (0,gl,[]))
 | 0,_=>⟨rfl,⟨⟨[],by simp⟩,by simp,fun q hq=>by simp at hq⟩,fun m hm _=>by
   have:=qsy ht 3 0 m (by omega) hm
   exact this⟩
 | i+1,hi=>by
  have ih:=qww ht hb hw hcs hgl i (by omega)
  have e:(l.getD 0 nd0).kids.take (i+1)=(l.getD 0 nd0).kids.take i++[(l.getD 0 nd0).kids.getD i 0]:=by
   generalize (l.getD 0 nd0).kids=K at hi
   rw [zbb,ze hi,List.getD_eq_getElem?_getD,ze hi];rfl
  rw [e,xx]
  refine jqz ht hb hw hcs hgl (rest:=(l.getD 0 nd0).kids.drop (i+1)) ?_ ih
  rw [← qgz _ i 0 (by omega),List.take_append_drop]
theorem qwx {l:List Nd} (ht:Tree l) (hw:∀ i,i<l.length→qbn l i=0):IInv l (l.getD 0 nd0).kids (qcw l):=by
 have hlen:=ht.len
 have:=qwv ht hw (l.getD 0 nd0).kids [] { tree:=l } (fun k hk=>by have:=ht.kids 0 (by omega) k hk;omega) ⟨⟨rfl,rfl,rfl⟩,rfl,rfl,fun c hc=>by simp at hc,fun k hk=>by simp at hk,zl _⟩
 rw [List.nil_append] at this
 exact this
theorem jra {l:List Nd} (ht:Tree l) (hc:(qcg l).1=0):PInv l (qcw l).chans (qcw l).vars (l.getD 0 nd0).kids ((l.getD 0 nd0).kids.foldl (qcv l (qcw l).chans) (0,(qcw l).vars,[])):=by
 obtain ⟨hb,hw⟩:=qpg hc
 have hi:=qwx ht hw
 have:=qww ht hb hw (cs:=(qcw l).chans) (gl:=(qcw l).vars) hi.chans hi.vars (l.getD 0 nd0).kids.length (zl _)
 rw [zay] at this
 exact this
theorem jrb {l:List Nd} (ht:Tree l) (i:Nat) (hi:i<l.length):NdOk l.length i (l.getD i nd0):=by
 have hln:=ht.lens i hi
 have hk:=ht.kids i hi
 have K:∀ q,q<(l.getD i nd0).kids.length→(i:Int)<(l.getD i nd0).kids.getD q 0∧(l.getD i nd0).kids.getD q 0<l.length:=fun q hq=>hk _ (qk _ q 0 hq)
 refine ⟨fun h=>by have:=hln.n1 (by omega);omega,fun h=>by have:=hln.w1 (by omega);omega,fun h=>?_,fun h=>?_⟩
 ·have:=hln.k1 (by omega)
  exact ⟨by omega,K 0 (by omega)⟩
 ·have h1:=hln.k2 (by omega)
  have h2:=hln.n1 (by omega)
  have h3:=hln.sign h
  exact ⟨⟨by omega,by omega⟩,K 0 (by omega),K 1 (by omega),h3⟩
structure ModOk (m:Md):Prop where
 ok:MOk m
 pr:∀ q∈m.procs,PrOk m.tree.length m.vars.length m.chans.length q
 sz:m.vars.length≤4000∧m.procs.length≤4∧m.chans.length≤800∧m.safe.length≤800∧m.tree.length≤800
 psz:∀ q∈m.procs,q.edges.length≤40000∧q.places≤40000
theorem jdw {l:List Nd} (ht:Tree l) (hc:(qcg l).1=0):ModOk (qfh l):=by
 have hlen:=ht.len
 obtain ⟨hb,hw⟩:=qpg hc
 have hi:=qwx ht hw
 have hp:=jra ht hc
 have hkl:=(ht.kidsLen (j:=0) (by omega)).1
 have hv8:(qcw l).vars.length≤800:=by rw [hi.vars];exact xa (zas _ _) hkl
 have hc8:(qcw l).chans.length≤800:=by rw [hi.chans];exact xa (zas _ _) hkl
 have hcnt:=hp.cnt l.length (zl _) (fun k hk=>(ht.kids 0 (by omega) k hk).2)
 have hsum:sumF l 3 l.length≤4:=by
  have key:∀ j,j≤l.length→sumF l 3 j≤4:=by
   intro j
   induction j with
   | zero=>intro _;simp [sumF]
   | succ j ih=>
    intro hj
    have h1:=ih (by omega)
    by_cases e:(l.getD j nd0).kind=3
    ·exact (qwr (hw j (by omega)) e).2
    ·rw [qws]
     unfold qia
     rw [za e]
     split <;> exact h1
  exact key _ (zl _)
 generalize hx:(l.getD 0 nd0).kids.foldl (qcv l (qcw l).chans) (0,(qcw l).vars,[])=x at hp hcnt
 have hm:qfh l={ qcw l with globals:=(qcw l).vars.length,vars:=x.2.1,procs:=x.2.2 }:=by
  unfold qfh;simp only;rw [hx]
 obtain ⟨e,he⟩:=hp.v.ex
 have hvl:=hp.v.len
 have hve:x.2.1.length=(qcw l).vars.length+e.length:=by rw [he,zg]
 have htr:=hi.tree.1
 rw [hm]
 refine ⟨⟨?_,?_,?_,?_,?_,?_,?_,?_⟩,?_,?_,?_⟩
 ·intro i hi';simp only [htr] at hi' ⊢;exact jrb ht i hi'
 ·simp only;omega
 ·intro q hq;have:=(hp.v.ok q hq).1;exact ⟨by have:=this.nm;omega,this.vr⟩
 ·simp only [htr];have:=hi.safe.2;omega
 ·intro q hq;have:=hp.v.ok q hq;exact ⟨by have:=this.1.nm;omega,by omega⟩
 ·intro k hk;simp only [htr];exact hi.safe.1 k hk
 ·exact hi.room
 ·intro q hq;have:=hp.v.ok q hq;exact ⟨by have:=this.1.pl;omega,by omega⟩
 ·intro q hq;simp only [htr];exact (hp.v.ok q hq).1
 ·simp only [htr];have:=hi.safe.2;omega
 ·intro q hq;exact (hp.v.ok q hq).2
end Go.St
end
