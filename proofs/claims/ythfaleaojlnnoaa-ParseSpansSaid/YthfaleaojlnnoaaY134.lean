/- Some texts of the library, one behind the other. -/
import Derived.Test.YthfaleaojlnnoaaY133
import Derived.Test.YthfaleaojlnnoaaY18
import Derived.Test.YthfaleaojlnnoaaY12
set_option linter.unusedSimpArgs false
set_option linter.unusedVariables false
section
namespace Go.Proofs.Ythfaleaojlnnoaa
namespace Pa
open Go Go.Sx
theorem qkn (t:Tr):0<t.size:=by
 cases t with
 | mk k w n a l=>rw [Tr.size];omega
mutual
theorem walkT_lay (L:List Nd):∀ (t:Tr) (f n:Nat) (pre post:List Nd) (d:Int),L=pre++(layT n t++post)→pre.length=n→t.allT (fun u=>0≤u.at_)→d+f=21→¬ 0≤deepT t d→Go.St.walkF L f n=(((n+t.size:Nat):Int),true)
 | .mk k w ns a l,f,n,pre,post,d,hL,hn,hq,hf,hd=>by
  rw [Tr.allT] at hq
  rw [deepT] at hd
  split at hd
  ·exact absurd hq.1 hd
  rename_i h20
  obtain ⟨g,rfl⟩:∃ g,f=g+1:=⟨f - 1,by omega⟩
  have hx:L.getD n nd0=⟨k,w,ns,qt (n+1) l,a⟩:=by
   rw [hL,layT,List.getD_eq_getElem?_getD,zl (by omega),hn,xx]
   rfl
  have h1:=walkL_lay L l g (n+1) (pre++[⟨k,w,ns,qt (n+1) l,a⟩]) post d (by rw [hL,layT];simp) (by simp [hn]) hq.2 (by omega) hd
  rw [Go.St.walkF,Int.toNat_natCast,hx]
  rw [Tr.size]
  have e:((n:Int)+1)=((n+1:Nat):Int):=by omega
  rw [e]
  refine h1.trans ?_
  rw [show n+1+Tr.sizeL l=n+(1+Tr.sizeL l) by omega]
theorem walkL_lay (L:List Nd):∀ (l:List Tr) (g m:Nat) (pre post:List Nd) (d:Int),L=pre++(layL m l++post)→pre.length=m→Tr.allL (fun u=>0≤u.at_) l→d+g=20→¬ 0≤deepL l d→Go.St.walkL (Go.St.walkF L g) L.length (qt m l) m=(((m+Tr.sizeL l:Nat):Int),true)
 | [],g,m,pre,post,d,hL,hn,hq,hf,hd=>by rw [qt,Go.St.walkL,Tr.sizeL,xe]
 | t::r,g,m,pre,post,d,hL,hn,hq,hf,hd=>by
  rw [Tr.allL] at hq
  rw [deepL] at hd
  split at hd
  ·rename_i h1
   exact absurd h1 hd
  rename_i h1
  have h2:=walkT_lay L t g m pre (layL (m+t.size) r++post) (d+1) (by rw [hL,layL];simp) hn hq.1 (by omega) h1
  have h3:=walkL_lay L r g (m+t.size) (pre++layT m t) post d (by rw [hL,layL];simp) (by rw [xg,lay_lenT,hn]) hq.2 hf hd
  have hl:L.length=m+(t.size+(layL (m+t.size) r).length+post.length):=by
   rw [hL,layL]
   simp only [xg,lay_lenT,hn]
  have h4:=qkn t
  rw [qt,Go.St.walkL,za (by omega),h2]
  simp only [Bool.true_eq_false,if_false]
  rw [h3,Tr.sizeL,zac]
end
theorem jlw (t:Tr) (hq:t.allT (fun u=>0≤u.at_)) (hd:¬ 0≤deepT t 1):Go.St.walkF (layT 0 t) 20 0=(((layT 0 t).length:Int),true):=by
 have:=walkT_lay (layT 0 t) t 20 0 [] [] 1 (by simp) rfl hq (by decide) hd
 rw [lay_lenT]
 simpa using this
section
variable {ts:List Lx.Tok}
mutual
theorem spT_nonneg (hp:∀ t∈ts,0≤t.pos):∀ (t:Tr) (i j:Int),SpT ts t i j→0≤i→j≤ts.length→t.allT (fun u=>0≤u.at_)
 | .mk k w ns a l,i,j,h,h0,hj=>by
  obtain ⟨m,h1,h2,h3,h4⟩:=spT_mk.1 h
  rw [Tr.allT]
  refine ⟨?_,spL_nonneg hp l m j h4 (by omega) hj⟩
  obtain ⟨t,ht,e⟩:=qkm (ts:=ts) (i:=m) (by omega) (by omega)
  have:=hp t ht
  show 0≤a
  omega
theorem spL_nonneg (hp:∀ t∈ts,0≤t.pos):∀ (l:List Tr) (i j:Int),SpL ts l i j→0≤i→j≤ts.length→Tr.allL (fun u=>0≤u.at_) l
 | [],i,j,h,h0,hj=>by rw [Tr.allL];trivial
 | t::r,i,j,h,h0,hj=>by
  obtain ⟨e,h1,h2⟩:=spL_cons.1 h
  have h3:=qki h1
  have h4:=qkk _ _ _ h2
  rw [Tr.allL]
  exact ⟨spT_nonneg hp t i e h1 h0 (by omega),spL_nonneg hp r e j h2 (by omega) hj⟩
end
end
end Pa
end Go.Proofs.Ythfaleaojlnnoaa
end
section
namespace Go.Proofs.Ythfaleaojlnnoaa
open List renaming getD_eq_getElem?_getD → zd
namespace Pa
open List renaming getD_eq_getElem?_getD → zd
open Go Go.Sx Go.St
def setD (D:Nat→Int) (k:Nat) (v:Int):Nat→Int:=fun j=>if j=k then v else D j
def setK (i:Nat):List Int→(Nat→Int)→(Nat→Int)
 | [],D=>D
 | k::ks,D=>setK i ks (setD D k.toNat (D i+1))
def qcu (L:List Nd):Nat→Nat→(Nat→Int)→Int × Int
 | 0,_,_=>(0,0)
 | m+1,i,D=>if i<L.length then (if 20<D i then (12,(L.getD i nd0).at_) else qcu L m (i+1) (setK i (L.getD i nd0).kids D)) else (0,0)
theorem qph {i:Nat}:∀ (ks:List Int) (D:Nat→Int) (j:Nat),(∀ k∈ks,k.toNat≠j)→setK i ks D j=D j
 | [],D,j,_=>rfl
 | k::ks,D,j,h=>by
  rw [setK,qph ks _ j (fun x hx=>h x (xp _ hx))]
  unfold setD
  rw [za (fun e=>h k (xv ..) e.symm)]
theorem qzy {i:Nat}:∀ (ks:List Int) (D:Nat→Int),(∀ k∈ks,k.toNat≠i)→∀ k∈ks,setK i ks D k.toNat=D i+1
 | k::ks,D,h,x,hx=>by
  rw [setK]
  have e:setD D k.toNat (D i+1) i=D i:=by unfold setD;rw [za (fun e=>h k (xv ..) e.symm)]
  have h':=fun x hx=>h x (xp k hx)
  by_cases hin:∃ y∈ks,y.toNat=x.toNat
  ·obtain ⟨y,hy,hyx⟩:=hin
   rw [← hyx,qzy ks _ h' y hy,e]
  ·rcases List.mem_cons.1 hx with rfl|hx
   ·rw [qph ks _ _ (fun y hy e=>hin ⟨y,hy,e⟩)]
    unfold setD
    rw [zb rfl]
   ·exact absurd ⟨x,hx,rfl⟩ hin
theorem qpi:∀ (n:Nat) (l:List Tr),∀ k∈qt n l,(n:Int)≤k∧k<n+Tr.sizeL l
 | n,t::r,k,h=>by
  have ht:=qkn t
  rw [Tr.sizeL]
  rcases List.mem_cons.1 h with rfl|h
  ·have:(n:Int)<n+(t.size+Tr.sizeL r:Nat):=by omega
   exact ⟨zm _,by omega⟩
  ·have:=qpi (n+t.size) r k h
   omega
mutual
theorem kids_upT (n:Nat):∀ (t:Tr) (j:Nat),j<t.size→∀ k∈((layT n t).getD j nd0).kids,((n+j:Nat):Int)<k∧k<((n+t.size:Nat):Int)
 | .mk kk w ns a l,j,hj,k,hk=>by
  rw [layT] at hk
  rw [Tr.size] at hj ⊢
  cases j with
  | zero=>
   have:=qpi (n+1) l k hk
   omega
  | succ j=>
   have:=kids_upL (n+1) l j (by omega) k (by simpa using hk)
   omega
theorem kids_upL (n:Nat):∀ (l:List Tr) (j:Nat),j<Tr.sizeL l→∀ k∈((layL n l).getD j nd0).kids,((n+j:Nat):Int)<k∧k<((n+Tr.sizeL l:Nat):Int)
 | [],j,hj,k,hk=>absurd hj (xq j)
 | t::r,j,hj,k,hk=>by
  rw [layL,zd] at hk
  rw [Tr.sizeL] at hj ⊢
  have hlt:=lay_lenT n t
  by_cases h:j<t.size
  ·rw [zn (by omega),← zd] at hk
   have:=kids_upT n t j h k hk
   omega
  ·rw [zl (by omega),← zd,hlt] at hk
   have:=kids_upL (n+t.size) r (j - t.size) (by omega) k hk
   omega
end
def Lies (L:List Nd) (n:Nat) (l:List Nd):Prop:=∀ j,j<l.length→n+j<L.length∧L.getD (n+j) nd0=l.getD j nd0
mutual
theorem size_t (L:List Nd):∀ (t:Tr) (n m:Nat) (D:Nat→Int) (d:Int),Lies L n (layT n t)→t.allT (fun u=>0≤u.at_)→D n=d→t.size≤m→
  (0≤deepT t d∧qcu L m n D=(12,deepT t d))∨(¬ 0≤deepT t d∧∃ D',qcu L m n D=qcu L (m - t.size) (n+t.size) D'∧∀ j,n+t.size≤j→D' j=D j)
 | .mk kk w ns a l,n,m,D,d,hL,hq,hd,hm=>by
  have h0:=hL 0 (by rw [layT];exact Nat.zero_lt_succ _)
  rw [xe] at h0
  rw [Tr.size] at hm ⊢
  obtain ⟨m,rfl⟩:∃ m',m=m'+1:=⟨m - 1,by omega⟩
  have e0:L.getD n nd0=⟨kk,w,ns,qt (n+1) l,a⟩:=h0.2.trans (by rw [layT];rfl)
  rw [Tr.allT] at hq
  have ha:(0:Int)≤a:=hq.1
  rw [qcu,zb h0.1,hd,e0,deepT]
  by_cases hgt:20<d
  ·rw [zb hgt,zb hgt]
   exact .inl ⟨ha,rfl⟩
  ·rw [za hgt,za hgt]
   have hk:=qpi (n+1) l
   have hne:∀ k∈qt (n+1) l,k.toNat≠n:=fun k hk'=>by have:=hk k hk';omega
   have hLl:Lies L (n+1) (layL (n+1) l):=fun j hj=>by
    have:=hL (j+1) (by rw [layT,zo];omega)
    rw [layT,List.getD_cons_succ,show n+(j+1)=n+1+j by omega] at this
    exact this
   rcases size_l L l (n+1) m (setK n (qt (n+1) l) D) d hLl hq.2 (fun k hk'=>by rw [qzy _ _ hne k hk',hd]) (by omega) with h|⟨h,D',h1,h2⟩
   ·exact .inl h
   ·refine .inr ⟨h,D',?_,fun j hj=>?_⟩
    ·rw [h1,show m+1 - (1+Tr.sizeL l)=m - Tr.sizeL l by omega,show n+(1+Tr.sizeL l)=n+1+Tr.sizeL l by omega]
    ·rw [h2 j (by omega),qph _ _ _ (fun k hk'=>by have:=hk k hk';omega)]
theorem size_l (L:List Nd):∀ (l:List Tr) (n m:Nat) (D:Nat→Int) (d:Int),Lies L n (layL n l)→Tr.allL (fun u=>0≤u.at_) l→(∀ k∈qt n l,D k.toNat=d+1)→Tr.sizeL l≤m→
  (0≤deepL l d∧qcu L m n D=(12,deepL l d))∨(¬ 0≤deepL l d∧∃ D',qcu L m n D=qcu L (m - Tr.sizeL l) (n+Tr.sizeL l) D'∧∀ j,n+Tr.sizeL l≤j→D' j=D j)
 | [],n,m,D,d,_,_,_,_=>.inr ⟨by rw [deepL];decide,D,rfl,fun _ _=>rfl⟩
 | t::r,n,m,D,d,hL,hq,hd,hm=>by
  rw [Tr.sizeL] at hm ⊢
  rw [Tr.allL] at hq
  have hlt:=lay_lenT n t
  have hLt:Lies L n (layT n t):=fun j hj=>by
   have:=hL j (by rw [layL,xg];omega)
   rw [layL,zd (l:=layT n t++_),zn hj,← zd] at this
   exact this
  have hLr:Lies L (n+t.size) (layL (n+t.size) r):=fun j hj=>by
   have:=hL (t.size+j) (by rw [layL,xg];omega)
   rw [layL,zd (l:=layT n t++_),zl (by omega),← zd,hlt,Nat.add_sub_cancel_left,← zac] at this
   exact this
  have hdn:=hd n (by rw [qt];exact xv ..)
  rw [Int.toNat_natCast] at hdn
  rw [deepL]
  rcases size_t L t n m D (d+1) hLt hq.1 hdn (by omega) with ⟨h,h1⟩|⟨h,D',h1,h2⟩
  ·rw [zb h]
   exact .inl ⟨h,h1⟩
  ·rw [za h]
   have hr:∀ k∈qt (n+t.size) r,D' k.toNat=d+1:=fun k hk=>by
    have:=qpi (n+t.size) r k hk
    rw [h2 _ (by omega)]
    exact hd k (by rw [qt];exact xp _ hk)
   rcases size_l L r (n+t.size) (m - t.size) D' d hLr hq.2 hr (by omega) with ⟨h3,h4⟩|⟨h3,D'',h4,h5⟩
   ·exact .inl ⟨h3,by rw [h1,h4]⟩
   ·refine .inr ⟨h3,D'',?_,fun j hj=>?_⟩
    ·rw [h1,h4,Nat.sub_sub,zac]
    ·rw [h5 j (by omega),h2 j (by omega)]
end
def qes (L:List Nd):Int × Int:=if 800<L.length then (12,0) else qcu L L.length 0 (fun j=>if j=0 then 1 else 0)
theorem qzz (t:Tr) (hq:t.allT (fun u=>0≤u.at_)):qes (layT 0 t)=if 800<(layT 0 t).length then (12,0) else if 0≤deepT t 1 then (12,deepT t 1) else (0,0):=by
 unfold qes
 split
 ·rfl
 ·have hl:=lay_lenT 0 t
  rcases size_t (layT 0 t) t 0 (layT 0 t).length (fun j=>if j=0 then 1 else 0) 1 (fun j hj=>⟨by omega,by rw [zq]⟩) hq rfl (by omega) with ⟨h,h1⟩|⟨h,D',h1,_⟩
  ·rw [zb h,h1]
  ·rw [za h,h1,hl,xx]
   rfl
end Pa
end Go.Proofs.Ythfaleaojlnnoaa
end
