/- Some texts of the library, one behind the other. -/
import Derived.Test.YthfaleaojlnnoaaY17
import Derived.Test.YthfaleaojlnnoaaY12
import Derived.Test.YthfaleaojlnnoaaY13
set_option linter.unusedSimpArgs false
set_option linter.unusedVariables false
section
namespace Go.Proofs.Ythfaleaojlnnoaa
open List renaming getD_eq_getElem?_getD → zd
open Go Go.Sx Go.RowKit Go.St Pa
set_option maxRecDepth 100000
set_option maxHeartbeats 8000000
theorem Pa.Tr.size_eq (t:Tr):t.size=1+Tr.sizeL t.l:=by cases t;rw [Tr.size];rfl
theorem Pa.Tr.drop_cons {l:List Tr} {i:Nat} (h:i<l.length):l.drop i=l.getD i Tr.none::l.drop (i+1):=by
 rw [List.drop_eq_getElem_cons h,zd,ze h];rfl
theorem Pa.Tr.size_len:∀ l:List Tr,l.length≤Tr.sizeL l
 | []=>xt _
 | t::r=>by have:=Tr.size_len r;rw [Tr.sizeL,zo,t.size_eq];omega
mutual
theorem layT_len:∀ (n:Nat) (t:Tr),(layT n t).length=t.size
 | n,.mk k w ns a l=>by rw [layT,Tr.size,zo,layL_len (n+1) l];omega
theorem layL_len:∀ (n:Nat) (l:List Tr),(layL n l).length=Tr.sizeL l
 | _,[]=>rfl
 | n,t::r=>by rw [layL,Tr.sizeL,xg,layT_len n t,layL_len (n+t.size) r]
end
theorem qon:∀ (n:Nat) (l:List Tr),(qt n l).length=l.length
 | _,[]=>rfl
 | n,t::r=>by rw [qt,zo,zo,qon (n+t.size) r]
theorem qsn:∀ (n:Nat) (l:List Tr) (t:Tr),qt n (l++[t])=qt n l++[((n+Tr.sizeL l:Nat):Int)]
 | n,[],t=>rfl
 | n,x::r,t=>by
  rw [zab,qt,qsn (n+x.size) r t,qt,Tr.sizeL,zab,zac]
theorem qso:∀ (n:Nat) (l:List Tr) (t:Tr),layL n (l++[t])=layL n l++layT (n+Tr.sizeL l) t
 | n,[],t=>by simp [layL,Tr.sizeL]
 | n,x::r,t=>by
  rw [zab,layL,qso (n+x.size) r t,layL,Tr.sizeL,xu,zac]
theorem qoo {l:List Tr} {i:Nat} (h:i<l.length):l.take (i+1)=l.take i++[l.getD i Tr.none]:=by
 rw [List.take_add_one,zd,ze h];rfl
theorem qsp:∀ (l:List Tr) (i:Nat),i<l.length→Tr.sizeL (l.take i)+(l.getD i Tr.none).size≤Tr.sizeL l
 | t::r,0,_=>by simp [Tr.sizeL]
 | t::r,i+1,h=>by
  have:=qsp r i (by simpa using h)
  simp only [List.take_succ_cons,Tr.sizeL,List.getD_cons_succ]
  omega
theorem qxt (n:Nat) (f g:Nat→List AV):appF n f 1 g n=g 0:=by
 unfold appF;rw [za (Nat.lt_irrefl n),zb (by omega),xx]
theorem jhp {n i:Nat} (h:i<n) (f g:Nat→List AV):appF n f 1 g i=f i:=by
 unfold appF;rw [zb h]
def lnd (ns:List Nd) (k:Int) (w:List (List UInt8)) (nu:List Int) (a:Int) (ks:List Int) (d:List Nd):List Nd:=ns++⟨k,w,nu,ks,a⟩::d
section
variable {ns:List Nd} {k a:Int} {w:List (List UInt8)} {nu ks:List Int} {d:List Nd}
theorem lnd_len:(lnd ns k w nu a ks d).length=ns.length+1+d.length:=by unfold lnd;rw [xg,zo];omega
theorem lnd_one:(lnd ns k w nu a ks []).length=ns.length+1:=lnd_len
theorem qgc:(lnd ns k w nu a ks d).getD ns.length nd0=⟨k,w,nu,ks,a⟩:=by
 unfold lnd;rw [zd,zl (zi _),xx];rfl
theorem qsq {j:Nat} (h:j≠ns.length) (ks':List Int):(lnd ns k w nu a ks d).getD j nd0=(lnd ns k w nu a ks' d).getD j nd0:=by
 unfold lnd
 rw [zd,zd]
 by_cases hj:j<ns.length
 ·rw [zn hj,zn hj]
 ·rw [zl (by omega),zl (by omega)]
  obtain ⟨m,hm⟩:∃ m,j - ns.length=m+1:=⟨j - ns.length - 1,by omega⟩
  rw [hm];rfl
theorem qsr {j:Nat} (h:j<ns.length):(lnd ns k w nu a ks d).getD j nd0=ns.getD j nd0:=by
 unfold lnd
 rw [zd,zd,zn h]
end
def ndR (F:Nat) (ns:List Nd) (k:Nat):List AV:=
 [iv (ns.getD k nd0).kind,strs (ns.getD k nd0).words,ints (ns.getD k nd0).nums,.own F k 0 (ns.getD k nd0).kids.length,iv (ns.getD k nd0).at_]
def rowN (F:Nat) (ns:List Nd):SO:=.row [F] 33 5 0 ns.length (ndR F ns)
def famN (ns:List Nd):SO:=.fam 3 1 ns.length (fun _=>0) (fun k=>(ns.getD k nd0).kids.length) (fun k j=>[iv ((ns.getD k nd0).kids.getD j 0)])
theorem qxu {F j:Nat} {L L':List Nd} (h:L.getD j nd0=L'.getD j nd0):ndR F L j=ndR F L' j:=by unfold ndR;rw [h]
theorem jhq {ns:List Nd} {k a:Int} {w:List (List UInt8)} {nu ks:List Int} {d:List Nd} {q:Nat} {x:Int} {g:Nat→List AV} (hq:q=ks.length) (hg:g 0=[iv x]) :
  SoLe (.fam 3 1 (lnd ns k w nu a ks d).length (upd (fun _=>0) ns.length 0) (upd (fun k'=>((lnd ns k w nu a ks d).getD k' nd0).kids.length) ns.length (q+1))
   (upd (fun k' j=>[iv (((lnd ns k w nu a ks d).getD k' nd0).kids.getD j 0)]) ns.length (appF q (fun j=>[iv (((lnd ns k w nu a ks d).getD ns.length nd0).kids.getD j 0)]) 1 g))) (famN (lnd ns k w nu a (ks++[x]) d)):=by
 have hl:(lnd ns k w nu a ks d).length=(lnd ns k w nu a (ks++[x]) d).length:=lnd_len.trans lnd_len.symm
 unfold famN
 rw [← hl]
 refine qru (fun i _=>by unfold upd;split <;> rfl) (fun i _=>?_) (fun i j _ hj=>?_)
 ·unfold upd
  by_cases h:i=ns.length
  ·rw [zb h,h,qgc,hq];simp
  ·rw [za h,qsq h]
 ·unfold upd at hj ⊢
  by_cases h:i=ns.length
  ·rw [zb h] at hj ⊢
   rw [h,qgc,qgc]
   simp only
   unfold appF
   by_cases hjq:j<q
   ·rw [zb hjq]
    show [iv (ks.getD j 0)]=[iv ((ks++[x]).getD j 0)]
    rw [zd,zd,zn (by omega)]
   ·rw [za hjq,zb (by omega)]
    obtain rfl:j=q:=by omega
    rw [xx,hg,hq,zd,zl (zi _),xx]
    rfl
  ·rw [za h,qsq h]
theorem jhr {ns:List Nd} {k a:Int} {w:List (List UInt8)} {nu:List Int} {F:Nat} {g:Nat→List AV} (hg:g 0=[iv k,strs w,ints nu,.nils,iv a]):∀ j,j<ns.length+1→
  LeL (if j=ns.length then (appF ns.length (ndR F ns) 1 g ns.length).set 3 (.own F ns.length 0 0) else appF ns.length (ndR F ns) 1 g j) (ndR F (lnd ns k w nu a [] []) j):=fun j hj=>by
 refine LeL.of_eq ?_
 by_cases h:j=ns.length
 ·rw [zb h,h,qxt,hg]
  unfold ndR
  rw [qgc]
  rfl
 ·rw [za h,jhp (by omega)]
  exact qxu (qsr (by omega)).symm
theorem jhs {ns:List Nd} {k a:Int} {w:List (List UInt8)} {nu:List Int}:SoLe (.fam 3 1 (ns.length+1) (fun k=>if k<ns.length then 0 else 0) (fun k=>if k<ns.length then (ns.getD k nd0).kids.length else 0) (fun k j=>[iv ((ns.getD k nd0).kids.getD j 0)]))
  (famN (lnd ns k w nu a [] [])):=by
 have hl:ns.length+1=(lnd ns k w nu a [] []).length:=lnd_one.symm
 unfold famN
 rw [← hl]
 refine qru (fun i _=>by split <;> rfl) (fun i _=>?_) (fun i j _ hj=>?_)
 ·by_cases h:i<ns.length
  ·rw [zb h,qsr h]
  ·obtain rfl:i=ns.length:=by omega
   rw [za h,qgc];rfl
 ·by_cases h:i<ns.length
  ·rw [qsr h]
  ·rw [za h] at hj;omega
theorem qxv {ns d d':List Nd} {k a:Int} {w:List (List UInt8)} {nu ks:List Int}:lnd ns k w nu a ks d++d'=lnd ns k w nu a ks (d++d'):=by
 unfold lnd;rw [xu];rfl
theorem qxw:100001 * (tab Try.prog 3).bytes≤140737488355328:=by decide +kernel
theorem jht {k a:Int} {w:List (List UInt8)} {nu:List Int} {F:Nat} {g:Nat→List AV} (hg:g 0=[iv k,strs w,ints nu,.nils,iv a]):∀ j,j<1→
  LeL (if j=0 then (g 0).set 3 (.own F 0 0 0) else g j) (ndR F (lnd [] k w nu a [] []) j):=fun j hj=>by
 obtain rfl:j=0:=by omega
 rw [zb rfl,hg]
 exact LeL.of_eq rfl
theorem jhu {k a:Int} {w:List (List UInt8)} {nu:List Int}:SoLe (.fam 3 1 (0+1) (fun k=>if k<0 then 0 else 0) (fun k=>if k<0 then 0 else 0) (fun _ _=>[]))
  (famN (lnd [] k w nu a [] [])):=by
 refine qru (fun i _=>by split <;> rfl) (fun i hi=>?_) (fun i j hi hj=>?_)
 ·obtain rfl:i=0:=by omega
  rfl
 ·rw [za (xq i)] at hj;omega
end Go.Proofs.Ythfaleaojlnnoaa
end
section
namespace Go.Proofs.Ythfaleaojlnnoaa
open Go Go.Sx Go.RowKit Go.St Pa
set_option maxRecDepth 100000
set_option maxHeartbeats 4000000

end Go.Proofs.Ythfaleaojlnnoaa
end
section
namespace Go.St
open Go Go.Sx
def walkL (w:Int→Int × Bool) (len:Int):List Int→Int→Int × Bool
 | [],next=>(next,true)
 | k::ks,next=>if k≠next∨len≤next then (next,false) else if (w next).2=false then ((w next).1,false) else walkL w len ks (w next).1
def walkF (l:List Nd):Nat→Int→Int × Bool
 | 0,at_=>(at_,false)
 | f+1,at_=>walkL (walkF l f) l.length (l.getD at_.toNat nd0).kids (at_+1)
def qss (l:List Nd):Bool:=
 !(decide (l.length=0) || decide (800<l.length) || (l.getD 0 nd0).kind != 0) && ((walkF l 20 0).2 && (walkF l 20 0).1 == l.length) && l.all (qaw l)
end Go.St
end
