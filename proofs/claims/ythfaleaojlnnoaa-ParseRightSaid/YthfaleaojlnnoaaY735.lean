/- Some texts of the library, one behind the other. -/
import Derived.Test.YthfaleaojlnnoaaY734
import Derived.Test.YthfaleaojlnnoaaY7PcF
import Derived.Test.YthfaleaojlnnoaaY72
set_option linter.unusedSimpArgs false
set_option linter.unusedVariables false
section
namespace Go.Proofs.Ythfaleaojlnnoaa
open List renaming getD_eq_getElem?_getD → zd
namespace Pa
open List renaming getD_eq_getElem?_getD → zd
open Go Go.Sx Go.St
def setD (D:Nat→Int) (k:Nat) (v:Int):Nat→Int:=fun j=>if j=k then v else D j
def setK (i:Nat):List Int→(Nat→Int)→(Nat→Int)
 | [],D=>D
 | k::ks,D=>setK i ks (setD D k.toNat (D i+1))
def qdf (L:List Nd):Nat→Nat→(Nat→Int)→Int × Int
 | 0,_,_=>(0,0)
 | m+1,i,D=>if i<L.length then (if 20<D i then (12,(L.getD i nd0).at_) else qdf L m (i+1) (setK i (L.getD i nd0).kids D)) else (0,0)
theorem qqk {i:Nat}:∀ (ks:List Int) (D:Nat→Int) (j:Nat),(∀ k∈ks,k.toNat≠j)→setK i ks D j=D j
 | [],D,j,_=>rfl
 | k::ks,D,j,h=>by
  rw [setK,qqk ks _ j (fun x hx=>h x (xu _ hx))]
  unfold setD
  rw [za (fun e=>h k (xz ..) e.symm)]
theorem jbx {i:Nat}:∀ (ks:List Int) (D:Nat→Int),(∀ k∈ks,k.toNat≠i)→∀ k∈ks,setK i ks D k.toNat=D i+1
 | k::ks,D,h,x,hx=>by
  rw [setK]
  have e:setD D k.toNat (D i+1) i=D i:=by unfold setD;rw [za (fun e=>h k (xz ..) e.symm)]
  have h':=fun x hx=>h x (xu k hx)
  by_cases hin:∃ y∈ks,y.toNat=x.toNat
  ·obtain ⟨y,hy,hyx⟩:=hin
   rw [← hyx,jbx ks _ h' y hy,e]
  ·rcases List.mem_cons.1 hx with rfl|hx
   ·rw [qqk ks _ _ (fun y hy e=>hin ⟨y,hy,e⟩)]
    unfold setD
    rw [zb rfl]
   ·exact absurd ⟨x,hx,rfl⟩ hin
theorem qql:∀ (n:Nat) (l:List Tr),∀ k∈qx n l,(n:Int)≤k∧k<n+Tr.sizeL l
 | n,t::r,k,h=>by
  have ht:=qnq t
  rw [Tr.sizeL]
  rcases List.mem_cons.1 h with rfl|h
  ·have:(n:Int)<n+(t.size+Tr.sizeL r:Nat):=by omega
   exact ⟨zk _,by omega⟩
  ·have:=qql (n+t.size) r k h
   omega
mutual
theorem kids_upT (n:Nat):∀ (t:Tr) (j:Nat),j<t.size→∀ k∈((layT n t).getD j nd0).kids,((n+j:Nat):Int)<k∧k<((n+t.size:Nat):Int)
 | .mk kk w ns a l,j,hj,k,hk=>by
  rw [layT] at hk
  rw [Tr.size] at hj ⊢
  cases j with
  | zero=>
   have:=qql (n+1) l k hk
   omega
  | succ j=>
   have:=kids_upL (n+1) l j (by omega) k (by simpa using hk)
   omega
theorem kids_upL (n:Nat):∀ (l:List Tr) (j:Nat),j<Tr.sizeL l→∀ k∈((layL n l).getD j nd0).kids,((n+j:Nat):Int)<k∧k<((n+Tr.sizeL l:Nat):Int)
 | [],j,hj,k,hk=>absurd hj (zv j)
 | t::r,j,hj,k,hk=>by
  rw [layL,zd] at hk
  rw [Tr.sizeL] at hj ⊢
  have hlt:=lay_lenT n t
  by_cases h:j<t.size
  ·rw [zp (by omega),← zd] at hk
   have:=kids_upT n t j h k hk
   omega
  ·rw [zm (by omega),← zd,hlt] at hk
   have:=kids_upL (n+t.size) r (j - t.size) (by omega) k hk
   omega
end
def Lies (L:List Nd) (n:Nat) (l:List Nd):Prop:=∀ j,j<l.length→n+j<L.length∧L.getD (n+j) nd0=l.getD j nd0
mutual
theorem size_t (L:List Nd):∀ (t:Tr) (n m:Nat) (D:Nat→Int) (d:Int),Lies L n (layT n t)→t.allT (fun u=>0≤u.at_)→D n=d→t.size≤m→
  (0≤deepT t d∧qdf L m n D=(12,deepT t d))∨(¬ 0≤deepT t d∧∃ D',qdf L m n D=qdf L (m - t.size) (n+t.size) D'∧∀ j,n+t.size≤j→D' j=D j)
 | .mk kk w ns a l,n,m,D,d,hL,hq,hd,hm=>by
  have h0:=hL 0 (by rw [layT];exact Nat.zero_lt_succ _)
  rw [xf] at h0
  rw [Tr.size] at hm ⊢
  obtain ⟨m,rfl⟩:∃ m',m=m'+1:=⟨m - 1,by omega⟩
  have e0:L.getD n nd0=⟨kk,w,ns,qx (n+1) l,a⟩:=h0.2.trans (by rw [layT];rfl)
  rw [Tr.allT] at hq
  have ha:(0:Int)≤a:=hq.1
  rw [qdf,zb h0.1,hd,e0,deepT]
  by_cases hgt:20<d
  ·rw [zb hgt,zb hgt]
   exact .inl ⟨ha,rfl⟩
  ·rw [za hgt,za hgt]
   have hk:=qql (n+1) l
   have hne:∀ k∈qx (n+1) l,k.toNat≠n:=fun k hk'=>by have:=hk k hk';omega
   have hLl:Lies L (n+1) (layL (n+1) l):=fun j hj=>by
    have:=hL (j+1) (by rw [layT,zq];omega)
    rw [layT,List.getD_cons_succ,show n+(j+1)=n+1+j by omega] at this
    exact this
   rcases size_l L l (n+1) m (setK n (qx (n+1) l) D) d hLl hq.2 (fun k hk'=>by rw [jbx _ _ hne k hk',hd]) (by omega) with h|⟨h,D',h1,h2⟩
   ·exact .inl h
   ·refine .inr ⟨h,D',?_,fun j hj=>?_⟩
    ·rw [h1,show m+1 - (1+Tr.sizeL l)=m - Tr.sizeL l by omega,show n+(1+Tr.sizeL l)=n+1+Tr.sizeL l by omega]
    ·rw [h2 j (by omega),qqk _ _ _ (fun k hk'=>by have:=hk k hk';omega)]
theorem size_l (L:List Nd):∀ (l:List Tr) (n m:Nat) (D:Nat→Int) (d:Int),Lies L n (layL n l)→Tr.allL (fun u=>0≤u.at_) l→(∀ k∈qx n l,D k.toNat=d+1)→Tr.sizeL l≤m→
  (0≤deepL l d∧qdf L m n D=(12,deepL l d))∨(¬ 0≤deepL l d∧∃ D',qdf L m n D=qdf L (m - Tr.sizeL l) (n+Tr.sizeL l) D'∧∀ j,n+Tr.sizeL l≤j→D' j=D j)
 | [],n,m,D,d,_,_,_,_=>.inr ⟨by rw [deepL];decide,D,rfl,fun _ _=>rfl⟩
 | t::r,n,m,D,d,hL,hq,hd,hm=>by
  rw [Tr.sizeL] at hm ⊢
  rw [Tr.allL] at hq
  have hlt:=lay_lenT n t
  have hLt:Lies L n (layT n t):=fun j hj=>by
   have:=hL j (by rw [layL,xa];omega)
   rw [layL,zd (l:=layT n t++_),zp hj,← zd] at this
   exact this
  have hLr:Lies L (n+t.size) (layL (n+t.size) r):=fun j hj=>by
   have:=hL (t.size+j) (by rw [layL,xa];omega)
   rw [layL,zd (l:=layT n t++_),zm (by omega),← zd,hlt,Nat.add_sub_cancel_left,← zad] at this
   exact this
  have hdn:=hd n (by rw [qx];exact xz ..)
  rw [Int.toNat_natCast] at hdn
  rw [deepL]
  rcases size_t L t n m D (d+1) hLt hq.1 hdn (by omega) with ⟨h,h1⟩|⟨h,D',h1,h2⟩
  ·rw [zb h]
   exact .inl ⟨h,h1⟩
  ·rw [za h]
   have hr:∀ k∈qx (n+t.size) r,D' k.toNat=d+1:=fun k hk=>by
    have:=qql (n+t.size) r k hk
    rw [h2 _ (by omega)]
    exact hd k (by rw [qx];exact xu _ hk)
   rcases size_l L r (n+t.size) (m - t.size) D' d hLr hq.2 hr (by omega) with ⟨h3,h4⟩|⟨h3,D'',h4,h5⟩
   ·exact .inl ⟨h3,by rw [h1,h4]⟩
   ·refine .inr ⟨h3,D'',?_,fun j hj=>?_⟩
    ·rw [h1,h4,Nat.sub_sub,zad]
    ·rw [h5 j (by omega),h2 j (by omega)]
end
def qfi (L:List Nd):Int × Int:=if 800<L.length then (12,0) else qdf L L.length 0 (fun j=>if j=0 then 1 else 0)
theorem jby (t:Tr) (hq:t.allT (fun u=>0≤u.at_)):qfi (layT 0 t)=if 800<(layT 0 t).length then (12,0) else if 0≤deepT t 1 then (12,deepT t 1) else (0,0):=by
 unfold qfi
 split
 ·rfl
 ·have hl:=lay_lenT 0 t
  rcases size_t (layT 0 t) t 0 (layT 0 t).length (fun j=>if j=0 then 1 else 0) 1 (fun j hj=>⟨by omega,by rw [zn]⟩) hq rfl (by omega) with ⟨h,h1⟩|⟨h,D',h1,_⟩
  ·rw [zb h,h1]
  ·rw [za h,h1,hl,xy]
   rfl
end Pa
end Go.Proofs.Ythfaleaojlnnoaa
end
section
namespace Go.Proofs.Ythfaleaojlnnoaa
open List renaming getD_eq_getElem?_getD → zd
open Go Go.Sx Go.RowKit Go.St Pa
set_option maxRecDepth 100000
set_option maxHeartbeats 8000000
def qbx (L:List Nd):Nat→(Nat→Int)
 | 0=>fun j=>if j=0 then 1 else 0
 | i+1=>setK i (L.getD i nd0).kids (qbx L i)
theorem jbz (i:Nat) (k:Int):∀ (ks:List Int) (D:Nat→Int),setK i (ks++[k]) D=setD (setK i ks D) k.toNat (setK i ks D i+1)
 | [],D=>rfl
 | x::ks,D=>by
  rw [zac,setK,jbz i k ks,setK]
theorem jom {l:List Int} {q:Nat} (h:q<l.length):l.take (q+1)=l.take q++[l.getD q 0]:=by
 rw [List.take_add_one,zd,ze h];rfl
theorem jon (L:List Nd):∀ (m i:Nat),qdf L (m+1) i (qbx L i)=if i<L.length then (if 20<qbx L i i then (12,(L.getD i nd0).at_) else qdf L m (i+1) (qbx L (i+1))) else (0,0):=fun m i=>by rw [qdf];rfl
theorem joo (L:List Nd) (h0:0<L.length) (hl:L.length≤100000) (hk:∀ j,j<L.length→∀ k∈(L.getD j nd0).kids,(j:Int)<k∧k<L.length) (hkl:∀ j,j<L.length→(L.getD j nd0).kids.length≤100000):Con Try.prog 22 [qcv L] (flt (qfi L).1 (qfi L).2):=by
 refine zK {owns:=[(14,(3,1))]} 300 Try.func22 (fun c0 rdb=>?_)
 (repeat' ((conv=>whnf);first|refine zA ?_|refine zO ?_|refine Ob.auto ?_|(refine Ob.intro (by (exact qv (by omega) (by omega))) ?_)|refine zD 300 ?_|(apply zB <;> intro hb <;> (try simp [-zd] at hb) <;> try (exfalso;omega))|refine Ob.intro ?_ ?_))
 ·have e:qfi L=(12,0):=zb (by omega)
  rw [e]
  exact Le.refl _
 ·have hb8:((tab Try.prog 3).bytes:Int)=8:=by decide +kernel
  have:((L.length:Nat):Int) * ((tab Try.prog 3).bytes:Int)≤140737488355328:=by rw [hb8];omega
  exact ⟨by omega,by omega,by omega,this⟩
 have e0:qfi L=qdf L L.length 0 (qbx L 0):=za (by omega)
 rw [e0]
 generalize hZ:qdf L L.length 0 (qbx L 0)=Z
 ((conv=>whnf);refine qbb (fun _=>rfl) 300 1 (fun i:Nat=>[(19,iv i)]) (fun i=>[(1,.row [] 3 1 0 L.length (fun j=>[iv (qbx L i j)]))]) (fun i=>i≤L.length∧qdf L (L.length - i) i (qbx L i)=Z∧∀ j,0≤qbx L i j∧qbx L i j≤21) (fun i=>L.length - i) (0) (⟨xv _,hZ,fun j=>by unfold qbx;split <;> omega⟩) qa ⟨⟨⟨rfl,rfl,rfl⟩,rfl,by simp,fun j _=>if h:j=0 then (by subst h;exact ⟨Le.refl _,trivial⟩) else LeL.of_eq ((za (show ¬ j=Int.toNat 0 from h)).trans (by show _=[iv (if j=0 then 1 else 0)];rw [za h];rfl))⟩,trivial⟩ (fun _=>rfl) (by kernel_rfl) ?_;(conv=>whnf))
 rintro i ⟨hi,hj,hD⟩
 by_cases hil:i<L.length
 ·obtain ⟨m,hm⟩:∃ m,L.length - i=m+1:=⟨L.length - i - 1,by omega⟩
  rw [hm,jon,zb hil] at hj
  have hm':L.length - (i+1)=m:=by omega
  have hDi:=hD i
  (repeat' ((conv=>whnf);first|refine zA ?_|refine zO ?_|refine Ob.auto ?_|refine zI ?_|refine zD 300 ?_|(apply zB <;> intro hb <;> (try simp [-zd] at hb) <;> try (exfalso;omega))|refine Ob.intro ?_ ?_))
  ·rw [zb (by omega)] at hj
   subst hj
   exact Le.refl _
  ·rw [za (by omega)] at hj
   have hne:∀ k∈(L.getD i nd0).kids,k.toNat≠i:=fun k hk'=>by have:=hk i hil k hk';omega
   have hlen:=hkl i hil
   ((conv=>whnf);refine qbb (fun _=>rfl) 300 3 (fun q:Nat=>[(35,iv q),(17,qcv L),(18,iv L.length)]) (fun q=>[(1,.row [] 3 1 0 L.length (fun j=>[iv (setK i ((L.getD i nd0).kids.take q) (qbx L i) j)]))]) (fun q=>q≤(L.getD i nd0).kids.length∧∀ j,0≤setK i ((L.getD i nd0).kids.take q) (qbx L i) j∧setK i ((L.getD i nd0).kids.take q) (qbx L i) j≤21) (fun q=>(L.getD i nd0).kids.length - q) (0) (⟨xv _,hD⟩) qa qa (fun _=>rfl) (by kernel_rfl) ?_;(conv=>whnf))
   rintro q ⟨hq,hDq⟩
   by_cases hql:q<(L.getD i nd0).kids.length
   ·have hkq:=hk i hil _ (qiw (L.getD i nd0).kids q 0 hql)
    have hoi:setK i ((L.getD i nd0).kids.take q) (qbx L i) i=qbx L i i:=qqk _ _ _ (fun k hk'=>hne k (List.mem_of_mem_take hk'))
    have hts:(L.getD i nd0).kids.take (q+1)=(L.getD i nd0).kids.take q++[(L.getD i nd0).kids.getD q 0]:=jom hql
    have hDq2:∀ j,setK i ((L.getD i nd0).kids.take (q+1)) (qbx L i) j=if j=((L.getD i nd0).kids.getD q 0).toNat then qbx L i i+1 else setK i ((L.getD i nd0).kids.take q) (qbx L i) j:=fun j=>by
     rw [hts,jbz]
     unfold setD
     rw [hoi]
    rw [← hoi] at hDi
    (repeat' ((conv=>whnf);first|refine zA ?_|refine zO ?_|refine Ob.auto ?_|(refine Ob.intro (by (first|exact ⟨by omega,by omega⟩|exact qv (by omega) (by omega))) ?_)|refine zD 300 ?_|(apply zB <;> intro hb <;> (try simp [-zd] at hb) <;> try (exfalso;omega))|refine Ob.intro ?_ ?_))
    ·show inR .i64 (setK i ((L.getD i nd0).kids.take q) (qbx L i) i+1)
     exact qv (by omega) (by omega)
    ·refine ⟨⟨rfl,rfl⟩,(show 0≤(L.getD i nd0).kids.getD q 0 by omega),(show (L.getD i nd0).kids.getD q 0<(((L.length:Int).toNat:Nat):Int) by omega)⟩
    ((conv=>whnf);refine ⟨q+1,⟨hql,fun j=>by rw [hDq2];have:=hDq j;split <;> omega⟩,⟨qa,⟨⟨⟨rfl,rfl,rfl⟩,rfl,rfl,fun j _=>LeL.of_eq (by
     show _=[iv (setK i ((L.getD i nd0).kids.take (q+1)) (qbx L i) j)]
     rw [hDq2]
     by_cases hjk:j=((L.getD i nd0).kids.getD q 0).toNat
     ·rw [zb hjk]
      refine (zb hjk).trans ?_
      rw [← hoi];rfl
     ·rw [za hjk]
      exact za hjk)⟩,trivial⟩⟩,⟨qa,qa⟩,?_⟩;(first|omega|(dsimp only;omega)|skip))
   ·have hq':q=(L.getD i nd0).kids.length:=by omega
    subst hq'
    (repeat' ((conv=>whnf);first|refine zA ?_|refine zO ?_|refine Ob.auto ?_|(refine Ob.intro (by (exact qv (by omega) (by omega))) ?_)|refine zD 300 ?_|(apply zB <;> intro hb <;> (try simp [-zd] at hb) <;> try (exfalso;omega))|refine Ob.intro ?_ ?_))
    ((conv=>whnf);refine ⟨i+1,⟨hil,by rw [hm'];exact hj,fun j=>by have:=hDq j;rw [zam] at this;exact this⟩,⟨qa,⟨⟨⟨rfl,rfl,rfl⟩,rfl,rfl,fun j _=>LeL.of_eq (by
     show [iv (setK i ((L.getD i nd0).kids.take (L.getD i nd0).kids.length) (qbx L i) j)]=_
     rw [zam];rfl)⟩,trivial⟩⟩,⟨qa,qa⟩,?_⟩;(first|omega|(dsimp only;omega)|skip))
 ·have hi':i=L.length:=by omega
  subst hi'
  rw [xy,qdf] at hj
  subst hj
  (repeat' ((conv=>whnf);first|refine zA ?_|refine zO ?_|refine Ob.auto ?_|refine zD 300 ?_|(apply zB <;> intro hb <;> (try simp [-zd] at hb) <;> try (exfalso;omega))|refine Ob.intro ?_ ?_))
  exact Le.refl _
end Go.Proofs.Ythfaleaojlnnoaa
end
