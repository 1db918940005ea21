/- Some texts of the library, one behind the other. -/
import Derived.Test.YtikahnkkfkoglaaGreatDoorY211
import Derived.Test.YtikahnkkfkoglaaGreatDoorY2Mk5
import Derived.Test.YtikahnkkfkoglaaGreatDoorY22
set_option linter.unusedSimpArgs false
set_option linter.unusedVariables false
section
namespace Go.St
open List renaming getD_eq_getElem?_getD → zd
open Go Go.Sx
structure CopyAt (l:List Nd) (cs:List Ch) (gl:List Vr) (k:Int) (seen:Nat) (us:List Vr) (qs:List Pr):Prop where
 hk:0<k∧k<l.length
 hs:seen≤gl.length∧gl.length≤us.length∧us.length≤4800
 hq:qs.length≤5
 hn:Need l k (seen+varsN l (l.getD k.toNat nd0)) cs.length
theorem jvz {l:List Nd} (ht:Tree l) (hb:∀ i,i<l.length→badF l i=false) (hw:∀ i,i<l.length→qbn l i=0) {cs:List Ch} {gl:List Vr} (hcs:cs.length=((l.getD 0 nd0).kids.filter (isK l 1)).length) (hgl:gl.length=((l.getD 0 nd0).kids.filter (isK l 2)).length)
  {i:Nat} (hi:i<(l.getD 0 nd0).kids.length) {seen:Nat} {vs:List Vr} {ps:List Pr} (h:PInv l cs gl ((l.getD 0 nd0).kids.take i) (seen,vs,ps)) (hk3:qv l ((l.getD 0 nd0).kids.getD i 0)=3) {c:Nat}
  (hc:c≤((l.getD ((l.getD 0 nd0).kids.getD i 0).toNat nd0).nums.getD 0 0).toNat) {us:List Vr} {qs:List Pr} (hx:(us,qs)=(List.range c).foldl (qdq l cs ((l.getD 0 nd0).kids.getD i 0) seen) (vs,ps)) :
  CopyAt l cs gl ((l.getD 0 nd0).kids.getD i 0) seen us qs:=by
 have hlen:=ht.len
 have hks:(l.getD 0 nd0).kids=(l.getD 0 nd0).kids.take i++(l.getD 0 nd0).kids.getD i 0::(l.getD 0 nd0).kids.drop (i+1):=by
  rw [← qgz _ i 0 hi,List.take_append_drop]
 generalize (l.getD 0 nd0).kids.getD i 0=k at *
 generalize (l.getD 0 nd0).kids.take i=pre at *
 generalize (l.getD 0 nd0).kids.drop (i+1)=rest at *
 have hkm:k∈(l.getD 0 nd0).kids:=by rw [hks];simp
 have hk:=ht.kids 0 (by omega) k hkm
 have hs:=(ht.kidsLen (j:=0) (by omega)).2
 have hkl:=(ht.kidsLen (j:=0) (by omega)).1
 have hkd:qv l k=(l.getD k.toNat nd0).kind:=rfl
 have hpk:∀ q∈pre,q<k:=fun q hq=>by
  rw [hks] at hs
  exact (List.pairwise_append.1 hs).2.2 q hq k (zp ..)
 have hgl2:gl.length≤800:=by rw [hgl];exact xa (zas _ _) hkl
 have h1:=qwr (hw k.toNat (by omega)) (by omega)
 have h2:=jdo ht (k:=k.toNat) (by omega) (by omega) h1.2 h1.1
 have h3:=h.cnt k.toNat (by omega) (fun q hq=>by have:=hpk q hq;omega)
 have hkk:((k.toNat:Nat):Int)=k:=by omega
 have hseen:seen≤gl.length:=by
  have:=h.seen
  simp only at this
  rw [this,hgl,hks,List.filter_append,zg];omega
 have hnd:=jdv ht hb (k:=k.toNat) (pre:=pre) (rest:=rest) (by rw [hkk];exact hks) (by omega) hcs
 have hsn:=h.seen
 simp only at hsn h3
 rw [← hsn] at hnd
 have hv:VInv l.length cs.length gl vs ps:=h.v
 have hci:=qwu ht (k:=k.toNat) (by omega) (by omega) hseen hgl2 hnd hv c (by omega)
 rw [hkk] at hci
 rw [← hx] at hci
 simp only at hci
 obtain ⟨e,he⟩:=hci.1.ex
 have hl:=hci.1.len
 have hel:us.length=gl.length+e.length:=by rw [he,zg]
 rw [hkk] at hnd
 exact ⟨⟨by omega,hk.2⟩,⟨hseen,by omega,by omega⟩,by omega,hnd⟩
def locX (l:List Nd) (us:List Vr) (seen:Nat) (K c:Int) (k:Nat):Pr × List Vr:=((l.getD K.toNat nd0).kids.take k).foldl (qee l) (qkx l us seen K c,us)
theorem jhp {l:List Nd} {us:List Vr} {seen:Nat} {K c:Int} {k:Nat} (h:k<(l.getD K.toNat nd0).kids.length):locX l us seen K c (k+1)=qee l (locX l us seen K c k) ((l.getD K.toNat nd0).kids.getD k 0):=by
 unfold locX
 generalize (l.getD K.toNat nd0).kids=L at *
 rw [zbb,ze h,zd,ze h,xx];rfl
structure LocAt (l:List Nd) (us:List Vr) (seen:Nat) (K c:Int) (k:Nat) (x:Pr × List Vr):Prop where
 st:x.1.name=(l.getD K.toNat nd0).words.getD 0 []∧x.1.copy=c∧x.1.places=2∧x.1.rest=[false,true]∧x.1.edges=[]
 nm:x.1.names.length=seen+k
 vr:x.1.vars.length=seen+k
 lc:x.1.locals.length=k
 len:x.2.length=us.length+k
theorem jhq {l:List Nd} {us:List Vr} {seen:Nat} {K c:Int} (hs:seen≤us.length):∀ k,k≤(l.getD K.toNat nd0).kids.length→LocAt l us seen K c k (locX l us seen K c k)
 | 0,_=>⟨⟨rfl,rfl,rfl,rfl,rfl⟩,by
   show ((us.take seen).map (·.name)).length=seen+0
   rw [xh,xc];omega,by
   show ((List.range seen).map fun (i:Nat)=>(i:Int)).length=seen+0
   rw [xh,List.length_range];omega,rfl,rfl⟩
 | k+1,h=>by
  have ih:=jhq (l:=l) (K:=K) (c:=c) hs k (by omega)
  rw [jhp (by omega)]
  refine ⟨ih.st,?_,?_,?_,?_⟩
  ·show ((locX l us seen K c k).1.names++[_]).length=_
   rw [zg,ih.nm];rfl
  ·show ((locX l us seen K c k).1.vars++[_]).length=_
   rw [zg,ih.vr];rfl
  ·show ((locX l us seen K c k).1.locals++[_]).length=_
   rw [zg,ih.lc];rfl
  ·show ((locX l us seen K c k).2++[_]).length=_
   rw [zg,ih.len];rfl
theorem jwa {l:List Nd} {cs:List Ch} {K:Int} {seen:Nat} {us:List Vr} {qs:List Pr} {c k:Nat} (hk:varsN l (l.getD K.toNat nd0)=k) :
  qdq l cs K seen (us,qs) c=((locX l us seen K c k).2,qs++[qbj (qe l cs 20) K (locX l us seen K c k).1 ((l.getD K.toNat nd0).kids.drop k) 0 1]):=by
 subst hk;rfl
theorem jwb {l:List Nd} {us:List Vr} {seen:Nat} {K c:Int} (hs:seen≤us.length) {j:Nat} (hj:j<seen):[AV.str (us.getD j vr0).name]=encL (fun s=>[.str s]) [] (locX l us seen K c 0).1.names j:=by
 show _=[AV.str (((us.take seen).map (·.name)).getD j [])]
 rw [zd,zd,zi,xz,zb hj,ze (by omega)];rfl
theorem vars0 {l:List Nd} {us:List Vr} {seen:Nat} {K c:Int} {j:Nat} (hj:j<seen):[iv (j:Int)]=encL (fun n=>[iv n]) 0 (locX l us seen K c 0).1.vars j:=by
 show _=[iv (((List.range seen).map fun (i:Nat)=>(i:Int)).getD j 0)]
 rw [zd,zi,List.getElem?_range hj];rfl
theorem jwc {l:List Nd} {us:List Vr} {seen:Nat} {K c:Int} {k T nc:Nat} (hs:seen≤us.length) (hk:k≤(l.getD K.toNat nd0).kids.length) (hz:seen+k≤100000):PrOk T (locX l us seen K c k).2.length nc (locX l us seen K c k).1:=by
 have li:=qwt (l:=l) ((l.getD K.toNat nd0).kids.take k) 0 _ (jdt l us seen hs K c)
 rw [xc,Nat.min_eq_left hk,zo] at li
 exact li.ok hz
theorem jwd {L:List Int} {k j:Nat}:encL (fun n=>[iv n]) 0 L (k+j)=encL (fun n=>[iv n]) 0 (L.drop k) j:=by
 unfold encL
 rw [zd,zd,xe]
end Go.St
end
section
namespace Go.Proofs.YtikahnkkfkoglaaGreatDoor
open Go Go.Sx Go.RowKit Go.St
set_option maxRecDepth 100000
set_option maxHeartbeats 8000000
section
variable (m:Md) (ht:Tree m.tree) (nw:Nat) (it:Int) (nv:Nat) (fv:Nat→List AV) (np:Nat) (fp:Nat→List AV)
include ht in
theorem row_trip (f:Nat) (ih:qyr m nw it nv fv np fp f) (g':Nat) (hg:g'≤f) (b:Int) (ks:List Int) (p:Pr) (frm to next n:Int)
  (hw:(0<next∧walkL (walkF m.tree g') m.tree.length ks next=(n,true)∧∀ k∈ks,itemF m.tree k=it∧6≤qv m.tree k∧qv m.tree k≤15))
  (hok:PrOk m.tree.length nw m.chans.length p) (hnd:Need m.tree it p.vars.length m.chans.length) (hfr:0≤frm∧frm<p.places) (hto:0≤to∧to<p.places)
  (hed:(p.edges.length:Int)+4 * (n - next)+1≤40000) (hpl:p.places+4 * (n - next)+1≤40000) :
  qik 40 [mdO m nv np,prV p,ints ks,iv b,iv frm,iv to] [vrSO nv fv,pcSO np fp] (qbj (qe m.tree m.chans f) b p ks frm to):=by
 have hlen:=ht.len
 refine jho m nv fv np fp (qe m.tree m.chans f) b
  (fun ks p frm to=>∃ next n:Int,(0<next∧walkL (walkF m.tree g') m.tree.length ks next=(n,true)∧∀ k∈ks,itemF m.tree k=it∧6≤qv m.tree k∧qv m.tree k≤15)∧PrOk m.tree.length nw m.chans.length p∧Need m.tree it p.vars.length m.chans.length∧(0≤frm∧frm<p.places)∧(0≤to∧to<p.places)∧(p.edges.length:Int)+4 * (n - next)+1≤40000∧p.places+4 * (n - next)+1≤40000)
  (fun ks p frm to h=>by
   obtain ⟨next,n,⟨h0,h1,h2⟩,h3,h4,h5,h6,h7,h8⟩:=h
   have hg:=qff m.tree (walkF m.tree g') (qaj m.tree g') ks next n (by omega) h1
   have hs:=qsv m.tree g' ks next n (by omega) h1
   have hsl:=qsw ks next n hs hg.2.1
   have:=h3.rl
   have:=h3.pl
   refine ⟨⟨by omega,by omega,by omega,by omega⟩,?_⟩
   by_cases hn:next≤m.tree.length
   ·have:=hg.1.2 hn;omega
   ·cases ks with
    | nil=>simp
    | cons k ks=>obtain ⟨_,h,_⟩:=qak h1;omega)
  (fun k p frm to h=>by
   obtain ⟨next,n,⟨h0,h1,h2⟩,h3,h4,h5,h6,h7,h8⟩:=h
   obtain ⟨rfl,h9,m',h10,h11⟩:=qak h1
   simp only [walkL,Prod.mk.injEq,and_true] at h11
   subst h11
   have:=h2 k (zp ..)
   exact ih g' (by omega) p k m' frm to ⟨⟨⟨h0,h9⟩,h10,this.1⟩,h3,h4,h5,h6,by omega,by omega⟩ this.2)
  (fun k k' ks p frm to h=>by
   obtain ⟨next,n,⟨h0,h1,h2⟩,h3,h4,h5,h6,h7,h8⟩:=h
   obtain ⟨rfl,h9,m',h10,h11⟩:=qak h1
   have hkk:=h2 k (zp ..)
   have hat:At m.tree g' k m' it:=⟨⟨h0,h9⟩,h10,hkk.1⟩
   have hlt:=hat.lt
   have hge:=(qff m.tree (walkF m.tree g') (qaj m.tree g') (k'::ks) m' n (by omega) h11).1.1
   have g1:=qgb h3
   have hv1:(qg p).vars.length=p.vars.length:=by rw [g1.same.2.2.2.2]
   have hpl:(qg p).places=p.places+1:=rfl
   have hpe:(qg p).edges=p.edges:=rfl
   have hpp:=h3.pl
   obtain ⟨_,h12,_⟩:=qak h11
   have hlt2:m'<n:=by
    obtain ⟨e1,e2,m2,e3,e4⟩:=qak h11
    have:=(qaj m.tree g' m' m2 (by omega) e3).1.1
    have:=(qff m.tree (walkF m.tree g') (qaj m.tree g') ks m2 n (by omega) e4).1.1
    omega
   have g2:=qmi ht (nv:=nw) m.chans f g' (by omega) (qg p) k m' frm p.places hat hkk.2 g1.ok (by rw [hv1];exact h4) (by omega) (by omega)
   have hv2:(qe m.tree m.chans f (qg p) k frm p.places).vars.length=p.vars.length:=by rw [g2.same.2.2.2.2,hv1]
   have h13:=g2.pl
   have h14:=g2.ed
   rw [hpe] at h14
   refine ⟨ih g' (by omega) (qg p) k m' frm p.places ⟨hat,g1.ok,by rw [hv1];exact h4,by omega,by omega,by rw [hpe];omega,by omega⟩ hkk.2,m',n,⟨by omega,h11,fun q hq=>h2 q (zq _ hq)⟩,g2.ok,by rw [hv2];exact h4,by omega,by omega,by omega,by omega⟩)
  ks p frm to ⟨next,n,hw,hok,hnd,hfr,hto,hed,hpl⟩
end
end Go.Proofs.YtikahnkkfkoglaaGreatDoor
end
