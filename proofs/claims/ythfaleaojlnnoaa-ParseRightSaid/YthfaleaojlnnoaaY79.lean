/- Some texts of the library, one behind the other. -/
import Derived.Test.YthfaleaojlnnoaaY78
import Derived.Test.YthfaleaojlnnoaaY72
import Derived.Test.YthfaleaojlnnoaaY73
set_option linter.unusedSimpArgs false
set_option linter.unusedVariables false
section
namespace Go.Proofs.Ythfaleaojlnnoaa
open List renaming getD_eq_getElem?_getD → zd
open Go Go.Sx Go.RowKit Go.St Pa
set_option maxRecDepth 100000
set_option maxHeartbeats 8000000
theorem Pa.Tr.size_eq (t:Tr):t.size=1+Tr.sizeL t.l:=by cases t;rw [Tr.size];rfl
theorem Pa.Tr.drop_cons {l:List Tr} {i:Nat} (h:i<l.length):l.drop i=l.getD i Tr.none::l.drop (i+1):=by
 rw [List.drop_eq_getElem_cons h,zd,ze h];rfl
theorem Pa.Tr.size_len:∀ l:List Tr,l.length≤Tr.sizeL l
 | []=>xv _
 | t::r=>by have:=Tr.size_len r;rw [Tr.sizeL,zq,t.size_eq];omega
mutual
theorem layT_len:∀ (n:Nat) (t:Tr),(layT n t).length=t.size
 | n,.mk k w ns a l=>by rw [layT,Tr.size,zq,layL_len (n+1) l];omega
theorem layL_len:∀ (n:Nat) (l:List Tr),(layL n l).length=Tr.sizeL l
 | _,[]=>rfl
 | n,t::r=>by rw [layL,Tr.sizeL,xa,layT_len n t,layL_len (n+t.size) r]
end
theorem qpr:∀ (n:Nat) (l:List Tr),(qx n l).length=l.length
 | _,[]=>rfl
 | n,t::r=>by rw [qx,zq,zq,qpr (n+t.size) r]
theorem qtu:∀ (n:Nat) (l:List Tr) (t:Tr),qx n (l++[t])=qx n l++[((n+Tr.sizeL l:Nat):Int)]
 | n,[],t=>rfl
 | n,x::r,t=>by
  rw [zac,qx,qtu (n+x.size) r t,qx,Tr.sizeL,zac,zad]
theorem qtv:∀ (n:Nat) (l:List Tr) (t:Tr),layL n (l++[t])=layL n l++layT (n+Tr.sizeL l) t
 | n,[],t=>by simp [layL,Tr.sizeL]
 | n,x::r,t=>by
  rw [zac,layL,qtv (n+x.size) r t,layL,Tr.sizeL,xj,zad]
theorem qps {l:List Tr} {i:Nat} (h:i<l.length):l.take (i+1)=l.take i++[l.getD i Tr.none]:=by
 rw [List.take_add_one,zd,ze h];rfl
theorem qtw:∀ (l:List Tr) (i:Nat),i<l.length→Tr.sizeL (l.take i)+(l.getD i Tr.none).size≤Tr.sizeL l
 | t::r,0,_=>by simp [Tr.sizeL]
 | t::r,i+1,h=>by
  have:=qtw r i (by simpa using h)
  simp only [List.take_succ_cons,Tr.sizeL,List.getD_cons_succ]
  omega
theorem qzo (n:Nat) (f g:Nat→List AV):appF n f 1 g n=g 0:=by
 unfold appF;rw [za (Nat.lt_irrefl n),zb (by omega),xy]
theorem jkd {n i:Nat} (h:i<n) (f g:Nat→List AV):appF n f 1 g i=f i:=by
 unfold appF;rw [zb h]
def lnd (ns:List Nd) (k:Int) (w:List (List UInt8)) (nu:List Int) (a:Int) (ks:List Int) (d:List Nd):List Nd:=ns++⟨k,w,nu,ks,a⟩::d
section
variable {ns:List Nd} {k a:Int} {w:List (List UInt8)} {nu ks:List Int} {d:List Nd}
theorem lnd_len:(lnd ns k w nu a ks d).length=ns.length+1+d.length:=by unfold lnd;rw [xa,zq];omega
theorem lnd_one:(lnd ns k w nu a ks []).length=ns.length+1:=lnd_len
theorem qgs:(lnd ns k w nu a ks d).getD ns.length nd0=⟨k,w,nu,ks,a⟩:=by
 unfold lnd;rw [zd,zm (zi _),xy];rfl
theorem qtx {j:Nat} (h:j≠ns.length) (ks':List Int):(lnd ns k w nu a ks d).getD j nd0=(lnd ns k w nu a ks' d).getD j nd0:=by
 unfold lnd
 rw [zd,zd]
 by_cases hj:j<ns.length
 ·rw [zp hj,zp hj]
 ·rw [zm (by omega),zm (by omega)]
  obtain ⟨m,hm⟩:∃ m,j - ns.length=m+1:=⟨j - ns.length - 1,by omega⟩
  rw [hm];rfl
theorem qty {j:Nat} (h:j<ns.length):(lnd ns k w nu a ks d).getD j nd0=ns.getD j nd0:=by
 unfold lnd
 rw [zd,zd,zp h]
end
def ndR (F:Nat) (ns:List Nd) (k:Nat):List AV:=
 [iv (ns.getD k nd0).kind,strs (ns.getD k nd0).words,ints (ns.getD k nd0).nums,.own F k 0 (ns.getD k nd0).kids.length,iv (ns.getD k nd0).at_]
def rowN (F:Nat) (ns:List Nd):SO:=.row [F] 33 5 0 ns.length (ndR F ns)
def famN (ns:List Nd):SO:=.fam 3 1 ns.length (fun _=>0) (fun k=>(ns.getD k nd0).kids.length) (fun k j=>[iv ((ns.getD k nd0).kids.getD j 0)])
theorem qzp {F j:Nat} {L L':List Nd} (h:L.getD j nd0=L'.getD j nd0):ndR F L j=ndR F L' j:=by unfold ndR;rw [h]
theorem jke {ns:List Nd} {k a:Int} {w:List (List UInt8)} {nu ks:List Int} {d:List Nd} {q:Nat} {x:Int} {g:Nat→List AV} (hq:q=ks.length) (hg:g 0=[iv x]) :
  SoLe (.fam 3 1 (lnd ns k w nu a ks d).length (upd (fun _=>0) ns.length 0) (upd (fun k'=>((lnd ns k w nu a ks d).getD k' nd0).kids.length) ns.length (q+1))
   (upd (fun k' j=>[iv (((lnd ns k w nu a ks d).getD k' nd0).kids.getD j 0)]) ns.length (appF q (fun j=>[iv (((lnd ns k w nu a ks d).getD ns.length nd0).kids.getD j 0)]) 1 g))) (famN (lnd ns k w nu a (ks++[x]) d)):=by
 have hl:(lnd ns k w nu a ks d).length=(lnd ns k w nu a (ks++[x]) d).length:=lnd_len.trans lnd_len.symm
 unfold famN
 rw [← hl]
 refine qsz (fun i _=>by unfold upd;split <;> rfl) (fun i _=>?_) (fun i j _ hj=>?_)
 ·unfold upd
  by_cases h:i=ns.length
  ·rw [zb h,h,qgs,hq];simp
  ·rw [za h,qtx h]
 ·unfold upd at hj ⊢
  by_cases h:i=ns.length
  ·rw [zb h] at hj ⊢
   rw [h,qgs,qgs]
   simp only
   unfold appF
   by_cases hjq:j<q
   ·rw [zb hjq]
    show [iv (ks.getD j 0)]=[iv ((ks++[x]).getD j 0)]
    rw [zd,zd,zp (by omega)]
   ·rw [za hjq,zb (by omega)]
    obtain rfl:j=q:=by omega
    rw [xy,hg,hq,zd,zm (zi _),xy]
    rfl
  ·rw [za h,qtx h]
theorem jkf {ns:List Nd} {k a:Int} {w:List (List UInt8)} {nu:List Int} {F:Nat} {g:Nat→List AV} (hg:g 0=[iv k,strs w,ints nu,.nils,iv a]):∀ j,j<ns.length+1→
  LeL (if j=ns.length then (appF ns.length (ndR F ns) 1 g ns.length).set 3 (.own F ns.length 0 0) else appF ns.length (ndR F ns) 1 g j) (ndR F (lnd ns k w nu a [] []) j):=fun j hj=>by
 refine LeL.of_eq ?_
 by_cases h:j=ns.length
 ·rw [zb h,h,qzo,hg]
  unfold ndR
  rw [qgs]
  rfl
 ·rw [za h,jkd (by omega)]
  exact qzp (qty (by omega)).symm
theorem jkg {ns:List Nd} {k a:Int} {w:List (List UInt8)} {nu:List Int}:SoLe (.fam 3 1 (ns.length+1) (fun k=>if k<ns.length then 0 else 0) (fun k=>if k<ns.length then (ns.getD k nd0).kids.length else 0) (fun k j=>[iv ((ns.getD k nd0).kids.getD j 0)]))
  (famN (lnd ns k w nu a [] [])):=by
 have hl:ns.length+1=(lnd ns k w nu a [] []).length:=lnd_one.symm
 unfold famN
 rw [← hl]
 refine qsz (fun i _=>by split <;> rfl) (fun i _=>?_) (fun i j _ hj=>?_)
 ·by_cases h:i<ns.length
  ·rw [zb h,qty h]
  ·obtain rfl:i=ns.length:=by omega
   rw [za h,qgs];rfl
 ·by_cases h:i<ns.length
  ·rw [qty h]
  ·rw [za h] at hj;omega
theorem qzq {ns d d':List Nd} {k a:Int} {w:List (List UInt8)} {nu ks:List Int}:lnd ns k w nu a ks d++d'=lnd ns k w nu a ks (d++d'):=by
 unfold lnd;rw [xj];rfl
theorem qzr:100001 * (tab Try.prog 3).bytes≤140737488355328:=by decide +kernel
theorem jkh {k a:Int} {w:List (List UInt8)} {nu:List Int} {F:Nat} {g:Nat→List AV} (hg:g 0=[iv k,strs w,ints nu,.nils,iv a]):∀ j,j<1→
  LeL (if j=0 then (g 0).set 3 (.own F 0 0 0) else g j) (ndR F (lnd [] k w nu a [] []) j):=fun j hj=>by
 obtain rfl:j=0:=by omega
 rw [zb rfl,hg]
 exact LeL.of_eq rfl
theorem jki {k a:Int} {w:List (List UInt8)} {nu:List Int}:SoLe (.fam 3 1 (0+1) (fun k=>if k<0 then 0 else 0) (fun k=>if k<0 then 0 else 0) (fun _ _=>[]))
  (famN (lnd [] k w nu a [] [])):=by
 refine qsz (fun i _=>by split <;> rfl) (fun i hi=>?_) (fun i j hi hj=>?_)
 ·obtain rfl:i=0:=by omega
  rfl
 ·rw [za (zv i)] at hj;omega
end Go.Proofs.Ythfaleaojlnnoaa
end
section
namespace Go.Proofs.Ythfaleaojlnnoaa
open Go Go.Sx Go.RowKit Go.St Pa
set_option maxRecDepth 100000
set_option maxHeartbeats 4000000

end Go.Proofs.Ythfaleaojlnnoaa
end
section
namespace Go.St
open Go Go.Sx
def walkL (w:Int→Int × Bool) (len:Int):List Int→Int→Int × Bool
 | [],next=>(next,true)
 | k::ks,next=>if k≠next∨len≤next then (next,false) else if (w next).2=false then ((w next).1,false) else walkL w len ks (w next).1
def walkF (l:List Nd):Nat→Int→Int × Bool
 | 0,at_=>(at_,false)
 | f+1,at_=>walkL (walkF l f) l.length (l.getD at_.toNat nd0).kids (at_+1)
theorem qtz (l:List Nd) (w:Int→Int × Bool)
  (hw:∀ a n,0≤a→w a=(n,true)→(a<n∧(a<l.length→n≤l.length))∧∀ j:Nat,a≤j→(j:Int)<n→∀ k∈(l.getD j nd0).kids,(j:Int)<k∧k<n) :
  ∀ (ks:List Int) (next n:Int),0≤next→walkL w l.length ks next=(n,true)→
   (next≤n∧(next≤l.length→n≤l.length))∧(∀ k∈ks,next≤k∧k<n)∧∀ j:Nat,next≤j→(j:Int)<n→∀ k∈(l.getD j nd0).kids,(j:Int)<k∧k<n
 | [],next,n,_,h=>by
  simp only [walkL,Prod.mk.injEq,and_true] at h
  subst h
  exact ⟨⟨zk _,id⟩,(fun k hk=>by cases hk),fun j h1 h2=>by omega⟩
 | k::ks,next,n,h0,h=>by
  rw [walkL] at h
  split at h
  ·simp at h
  ·rename_i hk
   split at h
   ·simp at h
   ·rename_i hb
    have hwn:w next=((w next).1,true):=by
     cases hx:w next with
     | mk a b=>rw [hx] at hb;cases b <;> simp_all
    obtain ⟨h1,h2⟩:=hw next _ h0 hwn
    have hk1:k=next∧next<l.length:=by omega
    obtain ⟨h3,h4,h5⟩:=qtz l w hw ks (w next).1 n (by omega) h
    refine ⟨⟨by omega,fun _=>h3.2 (h1.2 hk1.2)⟩,fun q hq=>?_,fun j hj1 hj2 q hq=>?_⟩
    ·rcases List.mem_cons.1 hq with rfl|hq
     ·omega
     ·have:=h4 q hq;omega
    ·by_cases hj:(j:Int)<(w next).1
     ·have:=h2 j hj1 hj q hq;omega
     ·exact h5 j (by omega) hj2 q hq
theorem qhs (l:List Nd):∀ (f:Nat) (a n:Int),0≤a→walkF l f a=(n,true)→(a<n∧(a<l.length→n≤l.length))∧∀ j:Nat,a≤j→(j:Int)<n→∀ k∈(l.getD j nd0).kids,(j:Int)<k∧k<n
 | 0,a,n,_,h=>by simp [walkF] at h
 | f+1,a,n,h0,h=>by
  rw [walkF] at h
  obtain ⟨h1,h2,h3⟩:=qtz l (walkF l f) (qhs l f) _ _ n (by omega) h
  refine ⟨⟨by omega,fun ha=>h1.2 (by omega)⟩,fun j hj1 hj2 k hk=>?_⟩
  by_cases hj:(j:Int)=a
  ·have:a.toNat=j:=by omega
   rw [this] at h2
   have:=h2 k hk
   omega
  ·exact h3 j (by omega) hj2 k hk
theorem qzs (w:Int→Int × Bool) (len:Int) (hw:∀ a,0≤a→a≤(w a).1):∀ (ks:List Int) (next:Int),0≤next→next≤(walkL w len ks next).1
 | [],next,_=>zk _
 | k::ks,next,h=>by
  rw [walkL]
  have:=hw next h
  split
  ·exact zk _
  split
  ·exact this
  ·have:=qzs w len hw ks (w next).1 (by omega);omega
theorem qzt (l:List Nd):∀ (f:Nat) (a:Int),0≤a→a≤(walkF l f a).1
 | 0,a,_=>zk _
 | f+1,a,h=>by
  rw [walkF]
  have:=qzs (walkF l f) l.length (qzt l f) (l.getD a.toNat nd0).kids (a+1) (by omega)
  omega
theorem qpt {α:Type} (l:List α) (i:Nat) (d:α) (h:i<l.length):l.drop i=l.getD i d::l.drop (i+1):=by
 rw [List.drop_eq_getElem_cons h,List.getD_eq_getElem?_getD,ze h];rfl
def qdm (l:List Nd):Bool:=
 !(decide (l.length=0) || decide (800<l.length) || (l.getD 0 nd0).kind != 0) && ((walkF l 20 0).2 && (walkF l 20 0).1 == l.length) && l.all (qaa l)
end Go.St
end
