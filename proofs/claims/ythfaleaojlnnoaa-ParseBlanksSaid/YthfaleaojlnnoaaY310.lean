/- Some texts of the library, one behind the other. -/
import Derived.Test.YthfaleaojlnnoaaY39
import Derived.Test.YthfaleaojlnnoaaY32
import Derived.Test.YthfaleaojlnnoaaY33
set_option linter.unusedSimpArgs false
set_option linter.unusedVariables false
section
namespace Go.Proofs.Ythfaleaojlnnoaa
open List renaming getD_eq_getElem?_getD → zd
open Go Go.Sx Go.RowKit Go.St Pa
set_option maxRecDepth 100000
set_option maxHeartbeats 8000000
theorem Pa.Tr.size_eq (t:Tr):t.size=1+Tr.sizeL t.l:=by cases t;rw [Tr.size];rfl
theorem Pa.Tr.drop_cons {l:List Tr} {i:Nat} (h:i<l.length):l.drop i=l.getD i Tr.none::l.drop (i+1):=by
 rw [zap h,zd,ze h];rfl
theorem Pa.Tr.size_len:∀ l:List Tr,l.length≤Tr.sizeL l
 | []=>xh _
 | t::r=>by have:=Tr.size_len r;rw [Tr.sizeL,zh,t.size_eq];omega
mutual
theorem layT_len:∀ (n:Nat) (t:Tr),(layT n t).length=t.size
 | n,.mk k w ns a l=>by rw [layT,Tr.size,zh,layL_len (n+1) l];omega
theorem layL_len:∀ (n:Nat) (l:List Tr),(layL n l).length=Tr.sizeL l
 | _,[]=>rfl
 | n,t::r=>by rw [layL,Tr.sizeL,zr,layT_len n t,layL_len (n+t.size) r]
end
theorem qpi:∀ (n:Nat) (l:List Tr),(qy n l).length=l.length
 | _,[]=>rfl
 | n,t::r=>by rw [qy,zh,zh,qpi (n+t.size) r]
theorem qtk:∀ (n:Nat) (l:List Tr) (t:Tr),qy n (l++[t])=qy n l++[((n+Tr.sizeL l:Nat):Int)]
 | n,[],t=>rfl
 | n,x::r,t=>by
  rw [xk,qy,qtk (n+x.size) r t,qy,Tr.sizeL,xk,zah]
theorem qtl:∀ (n:Nat) (l:List Tr) (t:Tr),layL n (l++[t])=layL n l++layT (n+Tr.sizeL l) t
 | n,[],t=>by simp [layL,Tr.sizeL]
 | n,x::r,t=>by
  rw [xk,layL,qtl (n+x.size) r t,layL,Tr.sizeL,xp,zah]
theorem qpj {l:List Tr} {i:Nat} (h:i<l.length):l.take (i+1)=l.take i++[l.getD i Tr.none]:=by
 rw [List.take_add_one,zd,ze h];rfl
theorem qtm:∀ (l:List Tr) (i:Nat),i<l.length→Tr.sizeL (l.take i)+(l.getD i Tr.none).size≤Tr.sizeL l
 | t::r,0,_=>by simp [Tr.sizeL]
 | t::r,i+1,h=>by
  have:=qtm r i (by simpa using h)
  simp only [xy,Tr.sizeL,List.getD_cons_succ]
  omega
theorem qyu (n:Nat) (f g:Nat→List AV):appF n f 1 g n=g 0:=by
 unfold appF;rw [za (Nat.lt_irrefl n),zb (by omega),zad]
theorem jjm {n i:Nat} (h:i<n) (f g:Nat→List AV):appF n f 1 g i=f i:=by
 unfold appF;rw [zb h]
def lnd (ns:List Nd) (k:Int) (w:List (List UInt8)) (nu:List Int) (a:Int) (ks:List Int) (d:List Nd):List Nd:=ns++⟨k,w,nu,ks,a⟩::d
section
variable {ns:List Nd} {k a:Int} {w:List (List UInt8)} {nu ks:List Int} {d:List Nd}
theorem lnd_len:(lnd ns k w nu a ks d).length=ns.length+1+d.length:=by unfold lnd;rw [zr,zh];omega
theorem lnd_one:(lnd ns k w nu a ks []).length=ns.length+1:=lnd_len
theorem qgo:(lnd ns k w nu a ks d).getD ns.length nd0=⟨k,w,nu,ks,a⟩:=by
 unfold lnd;rw [zd,zo (zj _),zad];rfl
theorem qtn {j:Nat} (h:j≠ns.length) (ks':List Int):(lnd ns k w nu a ks d).getD j nd0=(lnd ns k w nu a ks' d).getD j nd0:=by
 unfold lnd
 rw [zd,zd]
 by_cases hj:j<ns.length
 ·rw [zq hj,zq hj]
 ·rw [zo (by omega),zo (by omega)]
  obtain ⟨m,hm⟩:∃ m,j - ns.length=m+1:=⟨j - ns.length - 1,by omega⟩
  rw [hm];rfl
theorem qto {j:Nat} (h:j<ns.length):(lnd ns k w nu a ks d).getD j nd0=ns.getD j nd0:=by
 unfold lnd
 rw [zd,zd,zq h]
end
def ndR (F:Nat) (ns:List Nd) (k:Nat):List AV:=
 [iv (ns.getD k nd0).kind,strs (ns.getD k nd0).words,ints (ns.getD k nd0).nums,.own F k 0 (ns.getD k nd0).kids.length,iv (ns.getD k nd0).at_]
def rowN (F:Nat) (ns:List Nd):SO:=.row [F] 33 5 0 ns.length (ndR F ns)
def famN (ns:List Nd):SO:=.fam 3 1 ns.length (fun _=>0) (fun k=>(ns.getD k nd0).kids.length) (fun k j=>[iv ((ns.getD k nd0).kids.getD j 0)])
theorem qyv {F j:Nat} {L L':List Nd} (h:L.getD j nd0=L'.getD j nd0):ndR F L j=ndR F L' j:=by unfold ndR;rw [h]
theorem jjn {ns:List Nd} {k a:Int} {w:List (List UInt8)} {nu ks:List Int} {d:List Nd} {q:Nat} {x:Int} {g:Nat→List AV} (hq:q=ks.length) (hg:g 0=[iv x]) :
  SoLe (.fam 3 1 (lnd ns k w nu a ks d).length (upd (fun _=>0) ns.length 0) (upd (fun k'=>((lnd ns k w nu a ks d).getD k' nd0).kids.length) ns.length (q+1))
   (upd (fun k' j=>[iv (((lnd ns k w nu a ks d).getD k' nd0).kids.getD j 0)]) ns.length (appF q (fun j=>[iv (((lnd ns k w nu a ks d).getD ns.length nd0).kids.getD j 0)]) 1 g))) (famN (lnd ns k w nu a (ks++[x]) d)):=by
 have hl:(lnd ns k w nu a ks d).length=(lnd ns k w nu a (ks++[x]) d).length:=lnd_len.trans lnd_len.symm
 unfold famN
 rw [← hl]
 refine qss (fun i _=>by unfold upd;split <;> rfl) (fun i _=>?_) (fun i j _ hj=>?_)
 ·unfold upd
  by_cases h:i=ns.length
  ·rw [zb h,h,qgo,hq];simp
  ·rw [za h,qtn h]
 ·unfold upd at hj ⊢
  by_cases h:i=ns.length
  ·rw [zb h] at hj ⊢
   rw [h,qgo,qgo]
   simp only
   unfold appF
   by_cases hjq:j<q
   ·rw [zb hjq]
    show [iv (ks.getD j 0)]=[iv ((ks++[x]).getD j 0)]
    rw [zd,zd,zq (by omega)]
   ·rw [za hjq,zb (by omega)]
    obtain rfl:j=q:=by omega
    rw [zad,hg,hq,zd,zo (zj _),zad]
    rfl
  ·rw [za h,qtn h]
theorem jjo {ns:List Nd} {k a:Int} {w:List (List UInt8)} {nu:List Int} {F:Nat} {g:Nat→List AV} (hg:g 0=[iv k,strs w,ints nu,.nils,iv a]):∀ j,j<ns.length+1→
  LeL (if j=ns.length then (appF ns.length (ndR F ns) 1 g ns.length).set 3 (.own F ns.length 0 0) else appF ns.length (ndR F ns) 1 g j) (ndR F (lnd ns k w nu a [] []) j):=fun j hj=>by
 refine LeL.of_eq ?_
 by_cases h:j=ns.length
 ·rw [zb h,h,qyu,hg]
  unfold ndR
  rw [qgo]
  rfl
 ·rw [za h,jjm (by omega)]
  exact qyv (qto (by omega)).symm
theorem jjp {ns:List Nd} {k a:Int} {w:List (List UInt8)} {nu:List Int}:SoLe (.fam 3 1 (ns.length+1) (fun k=>if k<ns.length then 0 else 0) (fun k=>if k<ns.length then (ns.getD k nd0).kids.length else 0) (fun k j=>[iv ((ns.getD k nd0).kids.getD j 0)]))
  (famN (lnd ns k w nu a [] [])):=by
 have hl:ns.length+1=(lnd ns k w nu a [] []).length:=lnd_one.symm
 unfold famN
 rw [← hl]
 refine qss (fun i _=>by split <;> rfl) (fun i _=>?_) (fun i j _ hj=>?_)
 ·by_cases h:i<ns.length
  ·rw [zb h,qto h]
  ·obtain rfl:i=ns.length:=by omega
   rw [za h,qgo];rfl
 ·by_cases h:i<ns.length
  ·rw [qto h]
  ·rw [za h] at hj;omega
theorem qyw {ns d d':List Nd} {k a:Int} {w:List (List UInt8)} {nu ks:List Int}:lnd ns k w nu a ks d++d'=lnd ns k w nu a ks (d++d'):=by
 unfold lnd;rw [xp];rfl
theorem qyx:100001 * (tab Try.prog 3).bytes≤140737488355328:=by decide +kernel
theorem jjq {k a:Int} {w:List (List UInt8)} {nu:List Int} {F:Nat} {g:Nat→List AV} (hg:g 0=[iv k,strs w,ints nu,.nils,iv a]):∀ j,j<1→
  LeL (if j=0 then (g 0).set 3 (.own F 0 0 0) else g j) (ndR F (lnd [] k w nu a [] []) j):=fun j hj=>by
 obtain rfl:j=0:=by omega
 rw [zb rfl,hg]
 exact LeL.of_eq rfl
theorem jjr {k a:Int} {w:List (List UInt8)} {nu:List Int}:SoLe (.fam 3 1 (0+1) (fun k=>if k<0 then 0 else 0) (fun k=>if k<0 then 0 else 0) (fun _ _=>[]))
  (famN (lnd [] k w nu a [] [])):=by
 refine qss (fun i _=>by split <;> rfl) (fun i hi=>?_) (fun i j hi hj=>?_)
 ·obtain rfl:i=0:=by omega
  rfl
 ·rw [za (xw i)] at hj;omega
end Go.Proofs.Ythfaleaojlnnoaa
end
section
namespace Go.Proofs.Ythfaleaojlnnoaa
open List renaming getD_eq_getElem?_getD → zd
open Go Go.Sx Go.RowKit Go.St Pa
set_option maxRecDepth 100000
set_option maxHeartbeats 4000000
structure LikeN (x y:Nd):Prop where
 kind:x.kind=y.kind
 words:x.words=y.words
 nums:x.nums=y.nums
 kids:x.kids=y.kids
 lw:x.words.length≤100000
 ln:x.nums.length≤100000
 lk:x.kids.length≤100000
theorem jjs (a b:List Nd) (hl:a.length=b.length) (hb:a.length≤100000) (hz:∀ i,i<a.length→LikeN (a.getD i nd0) (b.getD i nd0)):Con Try.prog 13 [qcw a,qcw b] (.bool true):=by
 refine zK {} 300 Try.func13 (fun c0 rdb=>?_)
 (repeat' ((conv=>whnf);first|refine zA ?_|refine zO ?_|refine Ob.auto ?_|refine zD 300 ?_|(apply zB <;> intro hb <;> (try simp [-zd] at hb) <;> try (exfalso;omega))|refine Ob.intro ?_ ?_))
 ((conv=>whnf);refine qdc (fun _=>rfl) 300 1 (fun i:Nat=>[(5,iv i)]) (fun _=>[]) (fun i=>i≤a.length) (fun i=>a.length - i) (0) (xh _) qa qa (fun _=>rfl) (by kernel_rfl) ?_;(conv=>whnf))
 intro i hi
 by_cases hil:i<a.length
 ·have hx:=hz i hil
  generalize hX:a.getD i nd0=x at hx
  generalize hY:b.getD i nd0=y at hx
  have h1:=hx.kind
  have h2:=congrArg List.length hx.words
  have h3:=congrArg List.length hx.nums
  have h4:=congrArg List.length hx.kids
  have lw:=hx.lw
  have ln:=hx.ln
  have lk:=hx.lk
  subst hX hY
  (repeat' ((conv=>whnf);first|refine zA ?_|refine zO ?_|refine Ob.auto ?_|refine zI ?_|refine zD 300 ?_|(apply zB <;> intro hb <;> (try simp [-zd] at hb) <;> try (exfalso;omega))|refine Ob.intro ?_ ?_))
  ((conv=>whnf);refine qdc (fun _=>rfl) 300 2 (fun k:Nat=>[(8,iv k),(0,qcw a),(1,qcw b)]) (fun _=>[]) (fun k=>k≤(a.getD i nd0).words.length) (fun k=>(a.getD i nd0).words.length - k) (0) (xh _) qa qa (fun _=>rfl) (by kernel_rfl) ?_;(conv=>whnf))
  intro k2 hk2
  have e2:=congrArg (fun l=>l.getD k2 []) hx.words
  by_cases hkl2:k2<(a.getD i nd0).words.length
  ·(repeat' ((conv=>whnf);first|refine zA ?_|refine zO ?_|refine Ob.auto ?_|refine zI ?_|refine zD 300 ?_|(apply zB <;> intro hb <;> (try simp [-zd] at hb) <;> (try (exfalso;omega)) <;> (try contradiction))|refine Ob.intro ?_ ?_))
   ((conv=>whnf);refine ⟨k2+1,hkl2,⟨qa,qa⟩,⟨qa,qa⟩,?_⟩;(first|omega|(dsimp only;omega)|skip))
  have q2:k2=(a.getD i nd0).words.length:=by omega
  (repeat' ((conv=>whnf);first|refine zA ?_|refine zO ?_|refine Ob.auto ?_|refine zI ?_|refine zD 300 ?_|(apply zB <;> intro hb <;> (try simp [-zd] at hb) <;> try (exfalso;omega))|refine Ob.intro ?_ ?_))
  ((conv=>whnf);refine qdc (fun _=>rfl) 300 3 (fun k:Nat=>[(9,iv k),(0,qcw a),(1,qcw b)]) (fun _=>[]) (fun k=>k≤(a.getD i nd0).nums.length) (fun k=>(a.getD i nd0).nums.length - k) (0) (xh _) qa qa (fun _=>rfl) (by kernel_rfl) ?_;(conv=>whnf))
  intro k3 hk3
  have e3:=congrArg (fun l=>l.getD k3 0) hx.nums
  by_cases hkl3:k3<(a.getD i nd0).nums.length
  ·(repeat' ((conv=>whnf);first|refine zA ?_|refine zO ?_|refine Ob.auto ?_|refine zI ?_|refine zD 300 ?_|(apply zB <;> intro hb <;> (try simp [-zd] at hb) <;> (try (exfalso;omega)) <;> (try contradiction))|refine Ob.intro ?_ ?_))
   ((conv=>whnf);refine ⟨k3+1,hkl3,⟨qa,qa⟩,⟨qa,qa⟩,?_⟩;(first|omega|(dsimp only;omega)|skip))
  have q3:k3=(a.getD i nd0).nums.length:=by omega
  (repeat' ((conv=>whnf);first|refine zA ?_|refine zO ?_|refine Ob.auto ?_|refine zI ?_|refine zD 300 ?_|(apply zB <;> intro hb <;> (try simp [-zd] at hb) <;> try (exfalso;omega))|refine Ob.intro ?_ ?_))
  ((conv=>whnf);refine qdc (fun _=>rfl) 300 4 (fun k:Nat=>[(10,iv k),(0,qcw a),(1,qcw b)]) (fun _=>[]) (fun k=>k≤(a.getD i nd0).kids.length) (fun k=>(a.getD i nd0).kids.length - k) (0) (xh _) qa qa (fun _=>rfl) (by kernel_rfl) ?_;(conv=>whnf))
  intro k4 hk4
  have e4:=congrArg (fun l=>l.getD k4 0) hx.kids
  by_cases hkl4:k4<(a.getD i nd0).kids.length
  ·(repeat' ((conv=>whnf);first|refine zA ?_|refine zO ?_|refine Ob.auto ?_|refine zI ?_|refine zD 300 ?_|(apply zB <;> intro hb <;> (try simp [-zd] at hb) <;> (try (exfalso;omega)) <;> (try contradiction))|refine Ob.intro ?_ ?_))
   ((conv=>whnf);refine ⟨k4+1,hkl4,⟨qa,qa⟩,⟨qa,qa⟩,?_⟩;(first|omega|(dsimp only;omega)|skip))
  have q4:k4=(a.getD i nd0).kids.length:=by omega
  (repeat' ((conv=>whnf);first|refine zA ?_|refine zO ?_|refine Ob.auto ?_|refine zI ?_|refine zD 300 ?_|(apply zB <;> intro hb <;> (try simp [-zd] at hb) <;> try (exfalso;omega))|refine Ob.intro ?_ ?_))
  ((conv=>whnf);refine ⟨i+1,hil,⟨qa,qa⟩,⟨qa,qa⟩,?_⟩;(first|omega|(dsimp only;omega)|skip))
 ·(repeat' ((conv=>whnf);first|refine zA ?_|refine zO ?_|refine Ob.auto ?_|refine zD 300 ?_|(apply zB <;> intro hb <;> (try simp [-zd] at hb) <;> try (exfalso;omega))|refine Ob.intro ?_ ?_))
  exact Le.refl _
end Go.Proofs.Ythfaleaojlnnoaa
end
section
namespace Go.St
open Go Go.Sx
def walkL (w:Int→Int × Bool) (len:Int):List Int→Int→Int × Bool
 | [],next=>(next,true)
 | k::ks,next=>if k≠next∨len≤next then (next,false) else if (w next).2=false then ((w next).1,false) else walkL w len ks (w next).1
def walkF (l:List Nd):Nat→Int→Int × Bool
 | 0,at_=>(at_,false)
 | f+1,at_=>walkL (walkF l f) l.length (l.getD at_.toNat nd0).kids (at_+1)
def qtp (l:List Nd):Bool:=
 !(decide (l.length=0) || decide (800<l.length) || (l.getD 0 nd0).kind != 0) && ((walkF l 20 0).2 && (walkF l 20 0).1 == l.length) && l.all (qaz l)
end Go.St
end
