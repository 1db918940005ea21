/- The model by the document's answer is well formed: the whole, in plain Lean. -/
import Derived.Test.YtikahnkkfkoglaaGreatDoorY1MkR
import Derived.Test.YtikahnkkfkoglaaGreatDoorY12
set_option linter.unusedSimpArgs false
set_option linter.unusedVariables false
namespace Go.St
open Go Go.Sx
theorem jos {l:List Nd} (ht:Tree l) {k:Nat} (hk:k<l.length) (hk3:(l.getD k nd0).kind=3) {gl vs:List Vr} {ps:List Pr} {cs:List Ch} {seen:Nat} (hseen:seen≤gl.length) (hgl:gl.length≤800)
  (hn:Need l k (seen+varsN l (l.getD k nd0)) cs.length) (h:VInv l.length cs.length gl vs ps) (hps:ps.length≤4) (c:Nat) :
  VInv l.length cs.length gl (qdk l cs k seen (vs,ps) c).1 (qdk l cs k seen (vs,ps) c).2∧(qdk l cs k seen (vs,ps) c).2.length=ps.length+1:=by
 have hlen:=ht.len
 have hkl:=(ht.kidsLen hk).1
 have hvn:=(quy l (l.getD k nd0)).1
 obtain ⟨e,he⟩:=h.ex
 have hvl:vs.length=gl.length+e.length:=by rw [he,zg]
 have li:=qvg (l:=l) ((l.getD k nd0).kids.take (varsN l (l.getD k nd0))) 0 _ (jci l vs seen (by omega) k c)
 rw [xa,Nat.min_eq_left hvn,zo] at li
 unfold qdk
 simp only [zy]
 generalize hy:((l.getD k nd0).kids.take (varsN l (l.getD k nd0))).foldl (qdv l) (qjy l vs seen k c,vs)=y at li ⊢
 have hyl:=li.len
 obtain ⟨_,n,next,_,g',hg',hnn,hw,hks⟩:=jcj ht hk hk3
 have hok:PrOk l.length y.2.length cs.length y.1:=li.ok (by omega)
 have hyv:y.1.vars.length=seen+varsN l (l.getD k nd0):=by have:=li.nm;omega
 have hg:=qvd ht (T:=l.length) (nv:=y.2.length) (nc:=cs.length) (st:=qd l cs 20) (g:=g') (it:=k) k (qlm ht cs 20 g' hg') _ y.1 next n 0 1 hnn.1 hw hks hok (by rw [hyv];exact hn) (by have:=li.st.1;omega) (by have:=li.st.1;omega)
 have hge:=hg.ed
 have hgp:=hg.pl
 rw [li.st.2.2] at hge
 rw [li.st.1] at hgp
 simp only [zam] at hge
 refine ⟨⟨?_,?_,fun q hq=>?_⟩,by simp⟩
 ·obtain ⟨e',he'⟩:=li.ex
  exact ⟨e++e',by rw [he',he,zz]⟩
 ·have:=h.len
  simp only [zg,xf];omega
 ·simp only [xn,zq] at hq
  rcases hq with hq|rfl
  ·have:=h.ok q hq
   exact ⟨this.1.mono (by omega),this.2⟩
  ·exact ⟨hg.ok,by omega,by omega⟩
theorem qvh {l:List Nd} (ht:Tree l) {k:Nat} (hk:k<l.length) (hk3:(l.getD k nd0).kind=3) {gl vs:List Vr} {ps:List Pr} {cs:List Ch} {seen:Nat} (hseen:seen≤gl.length) (hgl:gl.length≤800)
  (hn:Need l k (seen+varsN l (l.getD k nd0)) cs.length) (h:VInv l.length cs.length gl vs ps):∀ c:Nat,ps.length+c≤5→
  VInv l.length cs.length gl ((List.range c).foldl (qdk l cs k seen) (vs,ps)).1 ((List.range c).foldl (qdk l cs k seen) (vs,ps)).2∧((List.range c).foldl (qdk l cs k seen) (vs,ps)).2.length=ps.length+c
 | 0,_=>⟨h,rfl⟩
 | c+1,hc=>by
  obtain ⟨h1,h2⟩:=qvh ht hk hk3 hseen hgl hn h c (by omega)
  rw [zbl,zae,List.foldl_cons,List.foldl_nil]
  have:=jos ht hk hk3 hseen hgl hn h1 (by omega) c
  exact ⟨this.1,by rw [this.2,h2];omega⟩
def isK (l:List Nd) (a k:Int):Bool:=qp l k == a
structure IInv (l:List Nd) (pre:List Int) (M:Md):Prop where
 tree:M.tree=l∧M.globals=0∧M.procs=[]
 vars:M.vars.length=(pre.filter (isK l 2)).length
 chans:M.chans.length=(pre.filter (isK l 1)).length
 room:∀ c∈M.chans,0≤c.room∧c.room≤3
 safe:(∀ k∈M.safe,0≤k∧k<l.length)∧M.safe.length≤pre.length
theorem qvi {l:List Nd} (ht:Tree l) (hw:∀ i,i<l.length→qbi l i=0):∀ (rest pre:List Int) (M:Md),(∀ k∈rest,0≤k∧k<l.length)→IInv l pre M→IInv l (pre++rest) (rest.foldl (qgj l) M)
 | [],pre,M,_,h=>by simpa using h
 | k::rest,pre,M,hr,h=>by
  have hk:=hr k (zt ..)
  rw [List.foldl_cons,show pre++k::rest=(pre++[k])++rest by simp]
  refine qvi ht hw rest (pre++[k]) _ (fun q hq=>hr q (zu _ hq)) ?_
  have hln:=ht.lens k.toNat (by omega)
  have hkd:qp l k=(l.getD k.toNat nd0).kind:=rfl
  unfold qgj
  simp only
  have F:∀ a,((pre++[k]).filter (isK l a)).length=(pre.filter (isK l a)).length+(if qp l k=a then 1 else 0):=fun a=>by
   rw [List.filter_append,zg]
   by_cases e:qp l k=a
   ·rw [zb e];simp [isK,e]
   ·rw [za e];simp [isK,e]
  split
  ·rename_i e
   have h1:=joo (hw k.toNat (by omega)) e
   refine ⟨h.tree,by rw [F,za (by omega)];exact h.vars,by rw [F,zb (by omega)];simp [h.chans],fun c hc=>?_,h.safe.1,by have:=h.safe.2;simp;omega⟩
   simp only [xn,zq] at hc
   rcases hc with hc|rfl
   ·exact h.room c hc
   ·simp only;omega
  split
  ·rename_i e1 e
   exact ⟨h.tree,by rw [F,zb (by omega)];simp [h.vars],by rw [F,za (by omega)];exact h.chans,h.room,h.safe.1,by have:=h.safe.2;simp;omega⟩
  split
  ·rename_i e1 e2 e
   have h1:=hln.k1 (by omega)
   have h2:=ht.kids k.toNat (by omega) _ (qm _ 0 0 (by omega:0<(l.getD k.toNat nd0).kids.length))
   refine ⟨h.tree,by rw [F,za (by omega)];exact h.vars,by rw [F,za (by omega)];exact h.chans,h.room,fun q hq=>?_,by have:=h.safe.2;simp;omega⟩
   simp only [xn,zq] at hq
   rcases hq with hq|rfl
   ·exact h.safe.1 q hq
   ·omega
  split
  ·exact ⟨h.tree,by rw [F,za (by omega)];exact h.vars,by rw [F,za (by omega)];exact h.chans,h.room,h.safe.1,by have:=h.safe.2;simp;omega⟩
  ·exact ⟨h.tree,by rw [F,za (by omega)];exact h.vars,by rw [F,za (by omega)];exact h.chans,h.room,h.safe.1,by have:=h.safe.2;simp;omega⟩
structure PInv (l:List Nd) (cs:List Ch) (gl:List Vr) (pre:List Int) (x:Nat × List Vr × List Pr):Prop where
 seen:x.1=(pre.filter (isK l 2)).length
 v:VInv l.length cs.length gl x.2.1 x.2.2
 cnt:∀ m:Nat,m≤l.length→(∀ k∈pre,k<m)→(x.2.2.length:Int)≤sumF l 3 m
theorem jck {l:List Nd} (ht:Tree l) (hb:∀ i,i<l.length→badF l i=false) {pre rest:List Int} {k:Nat} (hks:(l.getD 0 nd0).kids=pre++(k:Int)::rest) (hk3:(l.getD k nd0).kind=3) {cs:List Ch}
  (hcs:cs.length=((l.getD 0 nd0).kids.filter (isK l 1)).length):Need l k ((pre.filter (isK l 2)).length+varsN l (l.getD k nd0)) cs.length:=by
 have hlen:=ht.len
 have hs:=(ht.kidsLen (j:=0) (by omega)).2
 rw [hks] at hs
 refine joq ht hb hk3 (fun h=>?_) (fun h=>?_)
 ·rcases h with ⟨i,h1,h2,h3⟩|h
  ·rw [hks] at h1
   rcases List.mem_append.1 h1 with h1|h1
   ·have:0<(pre.filter (isK l 2)).length:=List.length_pos_iff_exists_mem.2 ⟨i,List.mem_filter.2 ⟨h1,by unfold isK qp;rw [zy,h2];rfl⟩⟩
    omega
   ·rcases List.mem_cons.1 h1 with h1|h1
    ·omega
    ·have:=((List.pairwise_append.1 hs).2.1)
     cases this with
     | cons h4 _=>have:=h4 _ h1;omega
  ·omega
 ·obtain ⟨i,h1,h2⟩:=h
  have:0<((l.getD 0 nd0).kids.filter (isK l 1)).length:=List.length_pos_iff_exists_mem.2 ⟨i,List.mem_filter.2 ⟨h1,by unfold isK qp;rw [zy,h2];rfl⟩⟩
  omega
theorem jot {l:List Nd} (ht:Tree l) (hb:∀ i,i<l.length→badF l i=false) (hw:∀ i,i<l.length→qbi l i=0) {cs:List Ch} {gl:List Vr} (hcs:cs.length=((l.getD 0 nd0).kids.filter (isK l 1)).length) (hgl:gl.length=((l.getD 0 nd0).kids.filter (isK l 2)).length)
  {rest pre:List Int} {k:Int} {x:Nat × List Vr × List Pr} (hks:(l.getD 0 nd0).kids=pre++k::rest) (h:PInv l cs gl pre x):PInv l cs gl (pre++[k]) (qco l cs x k):=by
 have hlen:=ht.len
 have hkm:k∈(l.getD 0 nd0).kids:=by rw [hks];simp
 have hk:=ht.kids 0 (by omega) k hkm
 have hs:=(ht.kidsLen (j:=0) (by omega)).2
 have hkl:=(ht.kidsLen (j:=0) (by omega)).1
 have F:((pre++[k]).filter (isK l 2)).length=(pre.filter (isK l 2)).length+(if qp l k=2 then 1 else 0):=by
  rw [List.filter_append,zg]
  by_cases e:qp l k=2
  ·rw [zb e];simp [isK,e]
  ·rw [za e];simp [isK,e]
 have hkd:qp l k=(l.getD k.toNat nd0).kind:=rfl
 have hpk:∀ q∈pre,q<k:=fun q hq=>by
  rw [hks] at hs
  exact (List.pairwise_append.1 hs).2.2 q hq k (zt ..)
 have hgl2:gl.length≤800:=by rw [hgl];exact zv (zaq _ _) hkl
 unfold qco
 simp only
 by_cases e3:(l.getD k.toNat nd0).kind=3
 ·have h1:=qve (hw k.toNat (by omega)) e3
  have h2:=jcd ht (k:=k.toNat) (by omega) e3 h1.2 h1.1
  have h3:=h.cnt k.toNat (by omega) (fun q hq=>by have:=hpk q hq;omega)
  rw [za (by omega),zb e3]
  have hkk:((k.toNat:Nat):Int)=k:=by omega
  have hseen:x.1≤gl.length:=by
   rw [h.seen,hgl,hks,List.filter_append,zg];omega
  have hnd:=jck ht hb (k:=k.toNat) (pre:=pre) (rest:=rest) (by rw [hkk];exact hks) e3 hcs
  rw [← h.seen] at hnd
  have hci:=qvh ht (k:=k.toNat) (by omega) e3 hseen hgl2 hnd h.v ((l.getD k.toNat nd0).nums.getD 0 0).toNat (by omega)
  rw [hkk] at hci
  have hx2:(x.2.1,x.2.2)=x.2:=rfl
  rw [hx2] at hci
  refine ⟨by rw [F,za (by omega),← h.seen];rfl,hci.1,fun m hm hq=>?_⟩
  have h4:=hq k (by simp)
  have h5:=qrs ht 3 (k.toNat+1) m (by omega) hm
  have h6:((List.foldl (qdk l cs k x.1) x.2 (List.range ((l.getD k.toNat nd0).nums.getD 0 0).toNat)).2.length:Int)=x.2.2.length+((l.getD k.toNat nd0).nums.getD 0 0).toNat:=by rw [hci.2];push_cast;rfl
  rw [h6]
  omega
 ·rw [za e3]
  refine ⟨?_,h.v,fun m hm hq=>h.cnt m hm (fun q hq'=>hq q (zbk _ hq'))⟩
  rw [F,← h.seen]
  simp only [hkd]
  split <;> rfl
theorem qvj {l:List Nd} (ht:Tree l) (hb:∀ i,i<l.length→badF l i=false) (hw:∀ i,i<l.length→qbi l i=0) {cs:List Ch} {gl:List Vr} (hcs:cs.length=((l.getD 0 nd0).kids.filter (isK l 1)).length) (hgl:gl.length=((l.getD 0 nd0).kids.filter (isK l 2)).length) :
  ∀ i,i≤(l.getD 0 nd0).kids.length→PInv l cs gl ((l.getD 0 nd0).kids.take i) (((l.getD 0 nd0).kids.take i).foldl (qco l cs) (0,gl,[]))
 | 0,_=>⟨rfl,⟨⟨[],by simp⟩,by simp,fun q hq=>by simp at hq⟩,fun m hm _=>by
   have:=qrs ht 3 0 m (by omega) hm
   exact this⟩
 | i+1,hi=>by
  have ih:=qvj ht hb hw hcs hgl i (by omega)
  have e:(l.getD 0 nd0).kids.take (i+1)=(l.getD 0 nd0).kids.take i++[(l.getD 0 nd0).kids.getD i 0]:=by
   generalize (l.getD 0 nd0).kids=K at hi
   rw [List.take_add_one,ze hi,List.getD_eq_getElem?_getD,ze hi];rfl
  rw [e,zae]
  refine jot ht hb hw hcs hgl (rest:=(l.getD 0 nd0).kids.drop (i+1)) ?_ ih
  rw [← qhj _ i 0 (by omega),List.take_append_drop]
theorem qvk {l:List Nd} (ht:Tree l) (hw:∀ i,i<l.length→qbi l i=0):IInv l (l.getD 0 nd0).kids (qcp l):=by
 have hlen:=ht.len
 have:=qvi ht hw (l.getD 0 nd0).kids [] { tree:=l } (fun k hk=>by have:=ht.kids 0 (by omega) k hk;omega) ⟨⟨rfl,rfl,rfl⟩,rfl,rfl,fun c hc=>by simp at hc,fun k hk=>by simp at hk,zi _⟩
 rw [List.nil_append] at this
 exact this
theorem jou {l:List Nd} (ht:Tree l) (hc:(qbx l).1=0):PInv l (qcp l).chans (qcp l).vars (l.getD 0 nd0).kids ((l.getD 0 nd0).kids.foldl (qco l (qcp l).chans) (0,(qcp l).vars,[])):=by
 obtain ⟨hb,hw⟩:=qnx hc
 have hi:=qvk ht hw
 have:=qvj ht hb hw (cs:=(qcp l).chans) (gl:=(qcp l).vars) hi.chans hi.vars (l.getD 0 nd0).kids.length (zi _)
 rw [zbc] at this
 exact this
theorem jov {l:List Nd} (ht:Tree l) (i:Nat) (hi:i<l.length):NdOk l.length i (l.getD i nd0):=by
 have hln:=ht.lens i hi
 have hk:=ht.kids i hi
 have K:∀ q,q<(l.getD i nd0).kids.length→(i:Int)<(l.getD i nd0).kids.getD q 0∧(l.getD i nd0).kids.getD q 0<l.length:=fun q hq=>hk _ (qm _ q 0 hq)
 refine ⟨fun h=>by have:=hln.n1 (by omega);omega,fun h=>by have:=hln.w1 (by omega);omega,fun h=>?_,fun h=>?_⟩
 ·have:=hln.k1 (by omega)
  exact ⟨by omega,K 0 (by omega)⟩
 ·have h1:=hln.k2 (by omega)
  have h2:=hln.n1 (by omega)
  have h3:=hln.sign h
  exact ⟨⟨by omega,by omega⟩,K 0 (by omega),K 1 (by omega),h3⟩
structure ModOk (m:Md):Prop where
 ok:MOk m
 pr:∀ q∈m.procs,PrOk m.tree.length m.vars.length m.chans.length q
 sz:m.vars.length≤4000∧m.procs.length≤4∧m.chans.length≤800∧m.safe.length≤800∧m.tree.length≤800
 psz:∀ q∈m.procs,q.edges.length≤40000∧q.places≤40000
theorem jcl {l:List Nd} (ht:Tree l) (hc:(qbx l).1=0):ModOk (qev l):=by
 have hlen:=ht.len
 obtain ⟨hb,hw⟩:=qnx hc
 have hi:=qvk ht hw
 have hp:=jou ht hc
 have hkl:=(ht.kidsLen (j:=0) (by omega)).1
 have hv8:(qcp l).vars.length≤800:=by rw [hi.vars];exact zv (zaq _ _) hkl
 have hc8:(qcp l).chans.length≤800:=by rw [hi.chans];exact zv (zaq _ _) hkl
 have hcnt:=hp.cnt l.length (zi _) (fun k hk=>(ht.kids 0 (by omega) k hk).2)
 have hsum:sumF l 3 l.length≤4:=by
  have key:∀ j,j≤l.length→sumF l 3 j≤4:=by
   intro j
   induction j with
   | zero=>intro _;simp [sumF]
   | succ j ih=>
    intro hj
    have h1:=ih (by omega)
    by_cases e:(l.getD j nd0).kind=3
    ·exact (qve (hw j (by omega)) e).2
    ·rw [qvf]
     unfold qhl
     rw [za e]
     split <;> exact h1
  exact key _ (zi _)
 generalize hx:(l.getD 0 nd0).kids.foldl (qco l (qcp l).chans) (0,(qcp l).vars,[])=x at hp hcnt
 have hm:qev l={ qcp l with globals:=(qcp l).vars.length,vars:=x.2.1,procs:=x.2.2 }:=by
  unfold qev;simp only;rw [hx]
 obtain ⟨e,he⟩:=hp.v.ex
 have hvl:=hp.v.len
 have hve:x.2.1.length=(qcp l).vars.length+e.length:=by rw [he,zg]
 have htr:=hi.tree.1
 rw [hm]
 refine ⟨⟨?_,?_,?_,?_,?_,?_,?_,?_⟩,?_,?_,?_⟩
 ·intro i hi';simp only [htr] at hi' ⊢;exact jov ht i hi'
 ·simp only;omega
 ·intro q hq;have:=(hp.v.ok q hq).1;exact ⟨by have:=this.nm;omega,this.vr⟩
 ·simp only [htr];have:=hi.safe.2;omega
 ·intro q hq;have:=hp.v.ok q hq;exact ⟨by have:=this.1.nm;omega,by omega⟩
 ·intro k hk;simp only [htr];exact hi.safe.1 k hk
 ·exact hi.room
 ·intro q hq;have:=hp.v.ok q hq;exact ⟨by have:=this.1.pl;omega,by omega⟩
 ·intro q hq;simp only [htr];exact (hp.v.ok q hq).1
 ·simp only [htr];have:=hi.safe.2;omega
 ·intro q hq;exact (hp.v.ok q hq).2
end Go.St
