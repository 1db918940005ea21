/- The model by the document's answer is well formed, in plain Lean. -/
import Derived.Test.YtikahnkkfkoglaaGreatDoorY1MkQ
import Derived.Test.YtikahnkkfkoglaaGreatDoorY12
set_option linter.unusedSimpArgs false
set_option linter.unusedVariables false
namespace Go.St
open Go Go.Sx
theorem jcc {α:Type} {p:α→Bool} {L:List α} (h:Go.St.idx p L<0):∀ x∈L,p x=false:=by
 unfold Go.St.idx at h
 cases hf:L.findIdx? p with
 | none=>rw [List.findIdx?_eq_none_iff] at hf;exact hf
 | some i=>rw [hf] at h;simp only at h;omega
theorem qnx {l:List Nd} (h:(qbx l).1=0):(∀ i,i<l.length→badF l i=false)∧∀ i,i<l.length→qbi l i=0:=by
 unfold qbx at h
 by_cases h1:(qhk l).1≠0
 ·rw [zb h1] at h;exact absurd h h1
 ·rw [za h1] at h
  refine ⟨fun i hi=>?_,fun i hi=>?_⟩
  ·have h2:(qhk l).1=0:=by simpa using h1
   unfold qhk at h2
   split at h2
   ·rename_i hx;exact jcc hx i (List.mem_range.2 hi)
   ·simp at h2
  ·split at h
   ·rename_i hx
    have:=jcc hx i (List.mem_range.2 hi)
    simpa using this
   ·rename_i hx
    exfalso
    have hy:=hx
    unfold Go.St.idx at hy h
    cases hf:(List.range l.length).findIdx? (fun i=>qbi l i != 0) with
    | none=>rw [hf] at hy;simp at hy
    | some j=>
     rw [hf] at h
     rw [zao] at hf
     obtain ⟨hj,h3,_⟩:=hf
     simp only [List.getElem_range] at h3
     simp only [zy] at h
     rw [h] at h3
     simp at h3
theorem joo {l:List Nd} {i:Nat} (h:qbi l i=0) (hk:(l.getD i nd0).kind=1):1≤(l.getD i nd0).nums.getD 0 0∧(l.getD i nd0).nums.getD 0 0≤3:=by
 unfold qbi at h
 rw [zb hk] at h
 split at h
 ·simp at h
 ·omega
theorem qve {l:List Nd} {i:Nat} (h:qbi l i=0) (hk:(l.getD i nd0).kind=3):1≤(l.getD i nd0).nums.getD 0 0∧sumF l 3 (i+1)≤4:=by
 unfold qbi at h
 rw [za (by omega),za (by omega),zb hk] at h
 split at h
 ·simp at h
 ·omega
/-! How many processes there are. -/
theorem qvf (l:List Nd) (kind:Int) (i:Nat):sumF l kind (i+1)=qhl l kind (sumF l kind i) i:=by
 unfold sumF
 rw [zbl,zae];rfl
theorem jop {l:List Nd} (ht:Tree l) (i:Nat) (h1:i<l.length):0≤qfr l i:=by
 have hlen:=ht.len
 unfold qfr qp
 split
 ·rename_i h
  have hlt:(itemF l i).toNat<l.length:=by
   by_cases h0:i=0
   ·subst h0
    have:itemF l (0:Nat)=0:=qro _ _ 0 fun k hk=>(ht.kids 0 (by omega) k hk).1
    rw [this];simp;omega
   ·have:=(ht.item (j:=i) (by omega) h1).1
    omega
  exact ((ht.lens _ hlt).num (by omega)).1
 ·omega
theorem qrs {l:List Nd} (ht:Tree l) (kind:Int) (i:Nat):∀ j,i≤j→j≤l.length→sumF l kind i≤sumF l kind j:=by
 intro j hij
 induction hij with
 | refl=>intro _;exact zw _
 | step hij ih=>
  intro hj
  have h1:=ih (by omega)
  rename_i m
  have h2:=jop ht m (by omega)
  rw [qvf]
  unfold qhl
  (repeat' split) <;> omega
theorem jcd {l:List Nd} (ht:Tree l) {k:Nat} (hk:k<l.length) (hk3:(l.getD k nd0).kind=3) (h4:sumF l 3 (k+1)≤4) (h1:1≤(l.getD k nd0).nums.getD 0 0) :
  sumF l 3 (k+1)=sumF l 3 k+(l.getD k nd0).nums.getD 0 0∧0≤sumF l 3 k:=by
 have hm:=qrs ht 3 k (k+1) (by omega) (by omega)
 have h0:=qrs ht 3 0 k (by omega) (by omega)
 have hz:sumF l 3 0=0:=rfl
 have hk0:0<k:=by
  rcases zaf k with rfl|h
  ·have:=ht.root;omega
  ·exact h
 have hit:=(ht.item hk0 hk).2.2 (ht.top hk (by omega))
 have hc:qfr l k=(l.getD k nd0).nums.getD 0 0:=by
  unfold qfr qp
  rw [hit,zy,zb hk3]
 have hs:=qvf l 3 k
 unfold qhl at hs
 rw [zb (by omega),zb hk3,za (by omega),hc] at hs
 omega
/-! Names that are there. -/
theorem jce (at_:Int):∀ (ks:List Int) (o:Int),ks.Pairwise (· < ·)→(∀ k∈ks,o≤k)→∀ c∈ks,c≤at_→c≤qba at_ ks o
 | [],_,_,_,c,hc,_=>by cases hc
 | k::ks,o,hs,ho,c,hc,hle=>by
  cases hs with
  | cons h1 h2=>
   rw [qba]
   by_cases hk:k≤at_
   ·rw [zb hk]
    rcases List.mem_cons.1 hc with rfl|hc
    ·have key:∀ (ks:List Int) (o:Int),(∀ q∈ks,o<q)→o≤qba at_ ks o:=by
      intro ks
      induction ks with
      | nil=>intro o _;exact zw _
      | cons q ks ih=>
       intro o hq
       rw [qba]
       split
       ·have hoq:=hq q (zt ..)
        have key2:∀ (ks:List Int) (a b:Int),a≤b→qba at_ ks a≤qba at_ ks b:=by
         intro ks
         induction ks with
         | nil=>intro a b h;exact h
         | cons q ks ih=>intro a b h;simp only [qba];split <;> apply ih <;> omega
        have:=ih o fun r hr=>hq r (zu _ hr)
        exact zbm this (key2 ks o q (by omega))
       ·exact ih o fun r hr=>hq r (zu _ hr)
     exact key ks c h1
    ·exact jce at_ ks k h2 (fun q hq=>by have:=h1 q hq;omega) c hc hle
   ·rw [za hk]
    rcases List.mem_cons.1 hc with rfl|hc
    ·omega
    ·have:=h1 c hc;omega
theorem jcf {l:List Nd} (ht:Tree l) {j k:Nat} (hj:j<l.length) (hk3:(l.getD k nd0).kind=3) (hit:itemF l j=k) (w:List UInt8) (hn:inF (qdd l j 2) w=true) :
  (∃ i:Nat,(i:Int)∈(l.getD 0 nd0).kids∧(l.getD i nd0).kind=2∧i<k)∨1≤varsN l (l.getD k nd0):=by
 have hlen:=ht.len
 obtain ⟨i,h1,h2,h3⟩:=qvb l (itemF l j) 2 w _ hn
 rw [zy] at h1
 rcases ht.var (j:=i) (by omega) h2 with h4|⟨p,h4,h5,h6,h7,h8⟩
 ·left
  refine ⟨i,h4,h2,?_⟩
  have hs:=(ht.kidsLen (j:=0) (by omega)).2
  have:=jce j (l.getD 0 nd0).kids 0 hs (fun k hk=>by have:=(ht.kids 0 (by omega) k hk).1;omega) i h4 (by omega)
  have hit':qba j (l.getD 0 nd0).kids 0=k:=hit
  rw [hit'] at this
  have hne:i≠k:=fun e=>by rw [e] at h2;omega
  omega
 ·right
  rcases h3 with h3|h3
  ·rw [h7] at h3
   have:p=i:=by omega
   omega
  ·rw [h7,hit] at h3
   have:p=k:=by omega
   rw [← this];exact h8
theorem jcg {l:List Nd} (ht:Tree l) {j:Nat} (hj:j<l.length) (w:List UInt8) (hn:inF (qdd l j 1) w=true):∃ i:Nat,(i:Int)∈(l.getD 0 nd0).kids∧(l.getD i nd0).kind=1:=by
 obtain ⟨i,h1,h2,_⟩:=qvb l (itemF l j) 1 w _ hn
 rw [zy] at h1
 exact ⟨i,ht.top (by omega) (.inl h2),h2⟩
theorem joq {l:List Nd} (ht:Tree l) (hb:∀ i,i<l.length→badF l i=false) {k:Nat} (hk3:(l.getD k nd0).kind=3) {nvar nc:Nat}
  (hv:(∃ i:Nat,(i:Int)∈(l.getD 0 nd0).kids∧(l.getD i nd0).kind=2∧i<k)∨1≤varsN l (l.getD k nd0)→1≤nvar)
  (hc:(∃ i:Nat,(i:Int)∈(l.getD 0 nd0).kids∧(l.getD i nd0).kind=1)→1≤nc):Need l k nvar nc:=by
 intro j hj hit
 have hbj:=hb j hj
 unfold badF at hbj
 refine ⟨fun h=>?_,fun h=>?_⟩
 ·rcases h with h|h
  ·rw [za (by omega),zb (by omega)] at hbj
   exact hv (jcf ht hj hk3 hit _ (by simpa using hbj))
  ·rw [za (by omega),za (by omega),za (by omega),zb (by omega),xy] at hbj
   exact hv (jcf ht hj hk3 hit _ (by simpa using hbj.2))
 ·rcases h with h|h
  ·rw [za (by omega),za (by omega),zb (by omega)] at hbj
   exact hc (jcg ht hj _ (by simpa using hbj))
  ·rw [za (by omega),za (by omega),za (by omega),zb (by omega),xy] at hbj
   exact hc (jcg ht hj _ (by simpa using hbj.1))
theorem jch {l:List Nd} {g:Nat}:∀ (ks:List Int) (next n:Int) (v:Nat),0≤next→walkL (walkF l g) l.length ks next=(n,true)→∃ next',next≤next'∧next'≤n∧walkL (walkF l g) l.length (ks.drop v) next'=(n,true)
 | ks,next,n,0,h0,h=>⟨next,zw _,(qet l (walkF l g) (qae l g) ks next n h0 h).1.1,h⟩
 | [],next,n,v+1,h0,h=>by
  refine ⟨next,zw _,?_,by simpa using h⟩
  simp only [walkL,Prod.mk.injEq,and_true] at h;omega
 | k::ks,next,n,v+1,h0,h=>by
  obtain ⟨rfl,h2,m,h3,h4⟩:=qaf h
  have hlt:=(qae l g k m h0 h3).1.1
  obtain ⟨next',h5,h6,h7⟩:=jch ks m n v (by omega) h4
  exact ⟨next',by omega,h6,by simpa using h7⟩
/-! The variables of a process. -/
structure LInv (seen i:Nat) (vs:List Vr) (x:Pr × List Vr):Prop where
 nm:x.1.names.length=x.1.vars.length∧x.1.names.length=seen+i
 vr:∀ v∈x.1.vars,0≤v∧v<x.2.length
 len:x.2.length=vs.length+i
 ex:∃ e,x.2=vs++e
 st:x.1.places=2∧x.1.rest=[false,true]∧x.1.edges=[]
theorem jci (l:List Nd) (vs:List Vr) (seen:Nat) (hs:seen≤vs.length) (k c:Int):LInv seen 0 vs (qjy l vs seen k c,vs):=
 ⟨⟨by simp [qjy];omega,by simp [qjy];omega⟩,fun v hv=>by
  simp only [qjy,List.mem_map,List.mem_range] at hv
  obtain ⟨i,hi,rfl⟩:=hv
  simp only;omega,by simp,⟨[],by simp⟩,rfl,rfl,rfl⟩
theorem jor {l:List Nd} {seen i:Nat} {vs:List Vr} {x:Pr × List Vr} (h:LInv seen i vs x) (k:Int):LInv seen (i+1) vs (qdv l x k):=
 ⟨⟨by simp [qdv,h.nm.1],by simp only [qdv,zg,xf];have:=h.nm.2;omega⟩,fun v hv=>by
  simp only [qdv,xn,zq,zg,xf] at hv ⊢
  rcases hv with hv|rfl
  ·have:=h.vr v hv;push_cast;omega
  ·push_cast;omega,by simp only [qdv,zg,xf];have:=h.len;omega,by
   obtain ⟨e,he⟩:=h.ex
   exact ⟨e++[_],by simp only [qdv];rw [he,zz]⟩,h.st⟩
theorem qvg {l:List Nd} {seen:Nat} {vs:List Vr}:∀ (ks:List Int) (i:Nat) (x:Pr × List Vr),LInv seen i vs x→LInv seen (i+ks.length) vs (ks.foldl (qdv l) x)
 | [],i,x,h=>h
 | k::ks,i,x,h=>by
  rw [List.foldl_cons,xk,show i+(ks.length+1)=i+1+ks.length by omega]
  exact qvg ks (i+1) _ (jor h k)
theorem LInv.ok {T nc seen i:Nat} {vs:List Vr} {x:Pr × List Vr} (h:LInv seen i vs x) (hn:seen+i≤100000):PrOk T x.2.length nc x.1:=
 ⟨⟨h.nm.1,by have:=h.nm.2;omega⟩,h.vr,by rw [h.st.1];omega,by rw [h.st.1,h.st.2.1];rfl,fun e he=>by rw [h.st.2.2] at he;cases he⟩
/-! The variables and processes so far. -/
structure VInv (T nc:Nat) (gl vs:List Vr) (ps:List Pr):Prop where
 ex:∃ e,vs=gl++e
 len:vs.length≤gl.length+800 * ps.length
 ok:∀ q∈ps,PrOk T vs.length nc q∧q.edges.length≤40000∧q.places≤40000
theorem jcj {l:List Nd} (ht:Tree l) {k:Nat} (hk:k<l.length) (hk3:(l.getD k nd0).kind=3):∃ g n next:Int,True∧∃ g':Nat,g'≤20∧(0<next∧next≤n∧n≤l.length)∧walkL (walkF l g') l.length ((l.getD k nd0).kids.drop (varsN l (l.getD k nd0))) next=(n,true) ∧
  ∀ c∈(l.getD k nd0).kids.drop (varsN l (l.getD k nd0)),itemF l c=k∧6≤qp l c∧qp l c≤15:=by
 have hk0:0<k:=by
  rcases zaf k with rfl|h
  ·have:=ht.root;omega
  ·exact h
 have hw:walkF l 20 0=((l.length:Int),true):=by rw [walkF];exact ht.walk
 obtain ⟨g,n',hg,hgk⟩:=quz l 20 0 _ (zw _) hw k (by omega) (by omega)
 obtain ⟨g',rfl,hwk⟩:=jby hgk
 rw [zy] at hwk
 obtain ⟨next',h5,h6,h7⟩:=jch _ _ _ (varsN l (l.getD k nd0)) (by omega) hwk
 have hn:=(qae l (g'+1) k n' (by omega) hgk).1.2 (by omega)
 have hit:=ht.item hk0 hk
 have hik:=hit.2.2 (ht.top hk (by omega))
 refine ⟨0,n',next',trivial,g',by omega,⟨by omega,h6,hn⟩,h7,fun c hc=>?_⟩
 have hc':=List.mem_of_mem_drop hc
 refine ⟨(hit.2.1 c hc').trans hik,?_⟩
 obtain ⟨q,hq,rfl⟩:=List.mem_iff_getElem.1 hc
 rw [xg] at hq
 have hkk:=(ht.kind k hk (varsN l (l.getD k nd0)+q) (by omega)).2.1 hk3
 have:=hkk.2 (by omega)
 have e:(l.getD k nd0).kids.getD (varsN l (l.getD k nd0)+q) 0=((l.getD k nd0).kids.drop (varsN l (l.getD k nd0)))[q]:=by
  rw [List.getElem_drop,List.getD_eq_getElem?_getD,ze (by omega)];rfl
 rw [qjz e] at this
 exact this
end Go.St
