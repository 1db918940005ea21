/- The checker grows; a clause's literals are put in order. Plain. -/
import Derived.Test.YtkhdldncbmkidaaY4RuS
import Derived.Test.YtkhdldncbmkidaaY42
set_option linter.unusedSimpArgs false
set_option linter.unusedVariables false
namespace Go.Ru
open List renaming getD_eq_getElem?_getD → zd
variable {b h i x:Nat} {so list kept:List Nat} {k:K}
structure Chs (val:List Int) (c:List Nat) (i:Nat) (o:Nat × List Nat):Prop where
 pm:o.2.Perm c
 t2:o.1≤2
 ti:o.1≤i
 nf:∀ j,j<o.1→0≤val.getD (o.2.getD j 0) 0
 fl:o.1<2→∀ j,o.1≤j→j<i→val.getD (o.2.getD j 0) 0<0
theorem qma (val:List Int) (c:List Nat):∀ i,i≤c.length→Chs val c i (qn val c i)
 | 0,_=>⟨.refl _,xa _,zi _,fun j hj=>absurd hj (zu _),fun _ j _ hj=>absurd hj (zu _)⟩
 | i+1,hi=>by
  have ih:=qma val c i (by omega)
  have hl:=ih.pm.length_eq
  unfold qn
  by_cases h:(qn val c i).1<2∧0≤val.getD ((qn val c i).2.getD i 0) 0
  ·rw [za h]
   generalize qn val c i=o at ih hl h ⊢
   have h1:=ih.ti
   have hs:=qgw (l:=o.2) (i:=o.1) (j:=i) (by omega) (by omega)
   refine ⟨(qlo (by omega) (by omega)).trans ih.pm,by have:=h.1;simp only;omega,by simp only;omega,fun j hj=>?_,fun ht j hj hji=>?_⟩
   ·simp only at hj ⊢
    rw [hs]
    by_cases e1:j=i
    ·rw [za e1]
     obtain rfl:o.1=i:=by omega
     exact h.2
    ·rw [ze e1]
     by_cases e2:j=o.1
     ·rw [za e2];exact h.2
     ·rw [ze e2];exact ih.nf j (by omega)
   ·simp only at ht hj ⊢
    rw [hs]
    by_cases e1:j=i
    ·rw [za e1]
     exact ih.fl (by omega) o.1 (zi _) (by omega)
    ·rw [ze e1,ze (by omega)]
     exact ih.fl (by omega) j (by omega) (by omega)
  ·rw [ze h]
   refine ⟨ih.pm,ih.t2,by have:=ih.ti;omega,ih.nf,fun ht j hj hji=>?_⟩
   by_cases e:j=i
   ·subst e
    have:¬ 0≤val.getD ((qn val c j).2.getD j 0) 0:=fun h'=>h ⟨ht,h'⟩
    omega
   ·exact ih.fl ht j hj (by omega)
theorem qmb (val:List Int) (c:List Nat):(qae val c).Perm c:=(qma val c c.length (zi _)).pm
theorem jfz (val:List Int) (c:List Nat) (h:val.getD ((qae val c).getD 0 0) 0<0):∀ j,j<c.length→val.getD ((qae val c).getD j 0) 0<0:=fun j hj=>by
 have hC:=qma val c c.length (zi _)
 unfold qae at h ⊢
 have h0:(qn val c c.length).1=0:=by
  by_cases e:(qn val c c.length).1=0
  ·exact e
  ·have:=hC.nf 0 (by omega)
   omega
 exact hC.fl (by omega) j (by omega) hj
theorem jga (val:List Int) (c:List Nat) (h:val.getD ((qae val c).getD 1 0) 0<0):∀ j,1≤j→j<c.length→val.getD ((qae val c).getD j 0) 0<0:=fun j h1 hj=>by
 have hC:=qma val c c.length (zi _)
 unfold qae at h ⊢
 have h0:(qn val c c.length).1≤1:=by
  by_cases e:(qn val c c.length).1≤1
  ·exact e
  ·have:=hC.nf 1 (by omega)
   omega
 exact hC.fl (by omega) j (by omega) hj
theorem VInv.all (hv:VInv k) (x:Nat):vl k (ng x)=-vl k x:=by
 by_cases hx:x<k.val.length
 ·exact hv.anti x hx
 ·have h1:vl k x=0:=qde (by omega)
  have h2:vl k (ng x)=0:=qde (by have:=qlg x;have:=hv.vr;omega)
  rw [h1,h2];rfl
theorem qfs {α:Type} {l:List α} {n j:Nat} {d:α}:(l++List.replicate n d).getD j d=l.getD j d:=by
 rw [zd,zd]
 by_cases h:j<l.length
 ·rw [zo h]
 ·rw [zm (by omega),zw (l:=l) (by omega),List.getElem?_replicate]
  split <;> rfl
theorem jgb {l m:List Int} {j:Nat} (h:j<l.length):(l++m).getD j 0=l.getD j 0:=by
 rw [zd,zd,zo h]
theorem J0.grow (hJ:J0 b so k) {v:Nat} (hv:2 * v+2≤1000000):J0 b so (k.grow v):=by
 unfold K.grow
 split
 ·rename_i hg
  have hvr:=hJ.p.v.vr
  have e1:∀ j,(k.val++List.replicate (2 * v+2 - k.val.length) 0).getD j 0=k.val.getD j 0:=fun j=>qfs
  have e2:∀ j,(k.watch++List.replicate (2 * v+2 - k.val.length) []).getD j []=k.watch.getD j []:=fun j=>qfs
  have hlen:(k.val++List.replicate (2 * v+2 - k.val.length) (0:Int)).length=2 * v+2:=by rw [zj,zbh];omega
  refine ⟨⟨⟨?_,fun x _=>?_,fun x=>?_,fun x=>?_,hJ.p.v.nd⟩,⟨fun n x hx=>?_,hJ.p.c.d,hJ.p.c.m,hJ.p.c.n,?_,?_,hJ.p.c.g⟩,fun y n hn=>?_,fun y=>?_,hJ.p.hd⟩,hJ.hb,fun n ha hl w o hp=>?_,hJ.q2,fun p hp=>?_,fun y n hn=>?_⟩
  ·show (k.val++List.replicate (2 * v+2 - k.val.length) (0:Int)).length=2 * (k.rea++List.replicate (v+1 - k.rea.length) (-1:Int)).length
   rw [hlen,zj,zbh];omega
  ·show (k.val++_).getD _ 0=-(k.val++_).getD _ 0
   rw [e1,e1];exact hJ.p.v.all x
  ·show (k.val++_).getD _ 0=0∨(k.val++_).getD _ 0=1∨(k.val++_).getD _ 0=-1
   rw [e1];exact hJ.p.v.tri x
  ·show x∈k.trail↔x<(k.val++List.replicate (2 * v+2 - k.val.length) (0:Int)).length∧(k.val++_).getD x 0=1
   rw [e1,hlen,hJ.p.v.tv x]
   refine ⟨fun h=>⟨by omega,h.2⟩,fun h=>⟨?_,h.2⟩⟩
   by_cases hx:x<k.val.length
   ·exact hx
   ·have:k.val.getD x 0=0:=qde (by omega)
    rw [this] at h
    have:=h.2
    omega
  ·have:=hJ.p.c.c n x hx
   show x<(k.val++_).length
   rw [hlen];omega
  ·show (k.val++_).length≤1000000
   rw [hlen];omega
  ·show (k.watch++_).length=(k.val++_).length
   rw [hlen,zj,zbh,hJ.p.c.w];omega
  ·rw [show ({ k with val:=k.val++List.replicate (2 * v+2 - k.val.length) 0,watch:=k.watch++List.replicate (2 * v+2 - k.val.length) [],we:=fun j=>if j<k.watch.length then k.we j else 0,rea:=k.rea++List.replicate (v+1 - k.rea.length) (-1) }:K).watch.getD y []=k.watch.getD y [] from e2 y] at hn
   have:=hJ.p.w y n hn
   exact ⟨this.b,this.l,this.w⟩
  ·show ((k.watch++_).getD y []).Nodup
   rw [e2];exact hJ.p.nd y
  ·show n∈(k.watch++_).getD w []
   rw [e2];exact hJ.w2 n ha hl w o hp
  ·have hw:=hJ.r p hp
   have hm:=qg (l:=k.trail) (d:=0) hp
   have hx:=((hJ.p.v.tv _).1 hm).1
   unfold why at hw ⊢
   rcases hw with hw|⟨n,h1,h2⟩
   ·exact .inl hw
   ·refine .inr ⟨n,?_,h2⟩
    show (k.rea++List.replicate (v+1 - k.rea.length) (-1:Int)).getD (k.trail.getD p 0 / 2) 0=_
    rw [← h1,jgb (by omega)]
  ·rw [show ({ k with val:=k.val++List.replicate (2 * v+2 - k.val.length) 0,watch:=k.watch++List.replicate (2 * v+2 - k.val.length) [],we:=fun j=>if j<k.watch.length then k.we j else 0,rea:=k.rea++List.replicate (v+1 - k.rea.length) (-1) }:K).watch.getD y []=k.watch.getD y [] from e2 y] at hn
   exact hJ.nt y n hn
 ·exact hJ
structure Grown (k k':K):Prop where
 li:k'.lits=k.lits
 go:k'.gone=k.gone
 ks:k'.keys=k.keys
 pm:k'.pm=k.pm
 pe:k'.pe=k.pe
 tr:k'.trail=k.trail
 te:k'.te=k.te
 hd:k'.head=k.head
 un:k'.units=k.units
 ue:k'.ue=k.ue
 em:k'.empty=k.empty
 br:k'.broken=k.broken
 sl:k'.stale=k.stale
 vl:∀ x,vl k' x=vl k x
theorem grown (k:K) (v:Nat):Grown k (k.grow v):=by
 unfold K.grow
 split
 ·exact ⟨rfl,rfl,rfl,rfl,rfl,rfl,rfl,rfl,rfl,rfl,rfl,rfl,rfl,fun x=>qfs⟩
 ·exact ⟨rfl,rfl,rfl,rfl,rfl,rfl,rfl,rfl,rfl,rfl,rfl,rfl,rfl,fun x=>rfl⟩
theorem Grown.act {k':K} (hG:Grown k k') (n:Nat):Ru.act k' n↔Ru.act k n:=by
 unfold Ru.act lit
 rw [hG.li,hG.go]
theorem qgy (hI:Inv k) {v:Nat} (hv:2 * v+2≤1000000):Inv (k.grow v):=by
 have hG:=grown k v
 have hl:∀ n,lit (k.grow v) n=lit k n:=fun n=>by unfold lit;rw [hG.li]
 have hp:∀ n w o,pr (k.grow v) n w o↔pr k n w o:=fun n w o=>by unfold pr;rw [hl]
 have hcl:cl (k.grow v)=cl k:=by
  unfold cl
  rw [hG.li,show lit (k.grow v)=lit k from funext hl]
  congr 2
  funext n
  exact decide_eq_decide.2 (hG.act n)
 have hJ0:J0 0 [] (k.undo 0):=hI.s.undo0
 have hS:J0 0 k.trail k:=⟨hI.s.p,xa _,hI.s.w2,fun n ha hl w o hp ht=>(by cases ht),fun p hp=>by rw [ze (by omega)];exact .inl (qg hp),hI.s.nt⟩
 have hS':=hS.grow hv
 have hcnt:cnt0 (k.grow v)=cnt0 k:=by
  unfold cnt0
  rw [hG.li,hG.go,show lit (k.grow v)=lit k from funext hl]
 refine ⟨⟨hS'.p,hS'.w2,hS'.nt,fun n hn=>by rw [hG.un] at hn;rw [hG.li,hl];exact hI.s.us n hn,by rw [hG.un];exact hI.s.un,fun n ha h1=>by rw [hG.un];exact hI.s.ua n ((hG.act n).1 ha) (by rw [← hl];exact h1),by rw [hG.em,hcnt];exact hI.s.em⟩,fun h1 h2=>?_,fun h1 h2=>?_⟩
 ·rw [hG.sl] at h1
  rw [hG.br] at h2
  have hB:=hI.b h1 h2
  refine ⟨by rw [hG.tr];exact hB.j.grow hv,fun n ha h3 w o h4 h5=>?_,by rw [hG.hd,hG.tr];exact hB.h,fun n ha h3=>?_⟩
  ·rw [hG.tr] at h5 ⊢
   exact hB.d n ((hG.act n).1 ha) (by rw [← hl];exact h3) w o ((hp n w o).1 h4) h5
  ·rw [hl,hG.tr]
   exact hB.u n ((hG.act n).1 ha) (by rw [← hl];exact h3)
 ·rw [hG.sl] at h1
  rw [hG.br] at h2
  rw [hcl]
  exact hI.x h1 h2
theorem qmc (hI:Inv k) (v:Nat):2 * v+2≤(k.grow v).val.length∧k.val.length≤(k.grow v).val.length:=by
 unfold K.grow
 split
 ·simp only [zj,zbh];omega
 ·omega
end Go.Ru
