/- Some texts of the library, one behind the other. -/
import Derived.Test.YtkhdldncbmkidaaY3RuQ
import Derived.Test.YtkhdldncbmkidaaY32
set_option linter.unusedSimpArgs false
set_option linter.unusedVariables false
section
namespace Go.Ru
variable {b h i x:Nat} {so list kept:List Nat} {k:K}
def jd:List Nat→K→Bool→K × Bool
 | [],k,f=>(k,f)
 | x::r,k,f=>if 0<vl k x then jd r k true else if vl k x=0 then jd r (k.set (ng x) (-1)) f else jd r k f
def K.asks (k:K) (c:List Nat):K × Bool:=
 if (jd c k false).2 then ((jd c k false).1.undo k.trail.length,true)
 else ((jd c k false).1.prop.1.undo k.trail.length,!(jd c k false).1.prop.2)
def K.follows (k:K) (c:List Nat):K × Bool:=
 if 0<k.refresh.empty∨k.refresh.broken=true then (k.refresh,true) else k.refresh.asks c
structure AsmJ (b:Nat) (so:List Nat) (c:List Nat) (k:K) (f:Bool) (o:K × Bool):Prop where
 s:Same k o.1
 j:J0 b so o.1
 hd:o.1.head=k.head
 t:o.2=true→f=true∨∃ x∈c,x∈o.1.trail
 n:o.2=false→f=false∧∀ x∈c,ng x∈o.1.trail
theorem qjk:∀ (c:List Nat) (k:K) (f:Bool),J0 b so k→(∀ x∈c,x<k.val.length∧ng x∈so)→AsmJ b so c k f (jd c k f)
 | [],k,f,hJ,_=>⟨.refl k,hJ,rfl,.inl,fun h=>⟨h,fun x hx=>(by cases hx)⟩⟩
 | x::r,k,f,hJ,hc=>by
  have hx:=hc x (xm ..)
  have hr:∀ y∈r,y<k.val.length∧ng y∈so:=fun y hy=>hc y (xg _ hy)
  unfold jd
  by_cases h1:0<vl k x
  ·rw [za h1]
   have ih:=qjk r k true hJ hr
   have hm:x∈(jd r k true).1.trail:=qcn ih.s ((hJ.p.v.tru hx.1).1 (by rcases hJ.p.v.tri x with e|e|e <;> omega))
   exact ⟨ih.s,ih.j,ih.hd,fun _=>.inr ⟨x,xm ..,hm⟩,fun h=>absurd (ih.n h).1 (by simp)⟩
  ·rw [ze h1]
   by_cases h2:vl k x=0
   ·rw [za h2]
    have hnx:=hJ.p.v.ngl hx.1
    have h0:vl k (ng x)=0:=by rw [hJ.p.v.anti x hx.1,h2];rfl
    have hput:=hJ.put (r:=-1) hnx h0 (.inl (by rw [ze (by have:=hJ.hb;omega)];exact hx.2))
    have hS:Same k (k.set (ng x) (-1)):=.set
    have ih:=qjk r (k.set (ng x) (-1)) f hput (fun y hy=>⟨by rw [hS.vl];exact (hr y hy).1,(hr y hy).2⟩)
    have hm:ng x∈(jd r (k.set (ng x) (-1)) f).1.trail:=qcn ih.s (by show _∈k.trail++[_];simp)
    refine ⟨hS.trans ih.s,ih.j,ih.hd,fun h=>(ih.t h).imp id fun ⟨y,hy,h⟩=>⟨y,xg _ hy,h⟩,fun h=>⟨(ih.n h).1,fun y hy=>?_⟩⟩
    rcases List.mem_cons.1 hy with rfl|hy
    ·exact hm
    ·exact (ih.n h).2 y hy
   ·rw [ze h2]
    have ih:=qjk r k f hJ hr
    have hm:ng x∈(jd r k f).1.trail:=qcn ih.s ((hJ.p.v.fls hx.1).1 (by rcases hJ.p.v.tri x with e|e|e <;> omega))
    refine ⟨ih.s,ih.j,ih.hd,fun h=>(ih.t h).imp id fun ⟨y,hy,h⟩=>⟨y,xg _ hy,h⟩,fun h=>⟨(ih.n h).1,fun y hy=>?_⟩⟩
    rcases List.mem_cons.1 hy with rfl|hy
    ·exact hm
    ·exact (ih.n h).2 y hy
theorem jhk (hJ:J0 b so k) (hD:Done k k.trail.length) (hu:∀ n,act k n→(lit k n).length=1→(lit k n).getD 0 0∈k.trail) (he:∀ n,act k n→lit k n≠[]):Closed ng (cl k) (fun y=>y∈k.trail):=by
 refine ⟨fun l h1 h2=>hJ.p.v.two h1 h2,fun c hc=>?_⟩
 obtain ⟨n,ha,rfl⟩:=mem_cl.1 hc
 by_cases h0:(lit k n).length=0
 ·exact absurd (xb h0) (he n ha)
 ·by_cases h1:(lit k n).length=1
  ·exact .inl ⟨_,qj (by omega),hu n ha h1⟩
  ·have hl:2≤(lit k n).length:=by omega
   have hp:pr k n ((lit k n).getD 0 0) ((lit k n).getD 1 0):=.inl ⟨rfl,rfl⟩
   have hp':pr k n ((lit k n).getD 1 0) ((lit k n).getD 0 0):=.inr ⟨rfl,rfl⟩
   have hlt:=qqj hJ.p.c hl hp
   by_cases a1:ng ((lit k n).getD 0 0)∈k.trail
   ·exact .inl ⟨_,hlt.2.1,hD n ha hl _ _ hp (by rw [xi];exact a1)⟩
   ·by_cases a2:ng ((lit k n).getD 1 0)∈k.trail
    ·exact .inl ⟨_,hlt.1,hD n ha hl _ _ hp' (by rw [xi];exact a2)⟩
    ·exact .inr ⟨_,hlt.1,_,hlt.2.1,hlt.2.2.2.2,a1,a2⟩
theorem Kin.units {k':K} (hK:Kin k k') {n:Nat} (h:(lit k' n).length=1):(lit k' n).getD 0 0=(lit k n).getD 0 0:=by
 have hp:=hK.li n
 have hl1:=hp.length_eq.symm.trans h
 obtain ⟨a,ha⟩:=List.length_eq_one_iff.1 hl1
 rw [ha] at hp ⊢
 rw [List.perm_singleton.1 hp]
theorem qwx (hI:Inv k) (hst:k.stale=false) (hbr:k.broken=false) {k':K} (hS:Same k k') (hJ:J0 k.trail.length so k'):Kin k (k'.undo k.trail.length)∧Inv (k'.undo k.trail.length)∧(k'.undo k.trail.length).stale=false:=by
 have hB:=hI.b hst hbr
 obtain ⟨h1,h2,h3,h4⟩:=hJ.undo
 have hK:Kin k (k'.undo k.trail.length):=hS.kin.trans (.undo _)
 have htr:(k'.undo k.trail.length).trail=k.trail:=by
  show k'.trail.take _=_
  rw [qdn hS (zj _),xi]
 refine ⟨hK,⟨hI.s.kin hK h1 hS.un,fun _ _=>⟨by rw [h4];exact h1,by rw [h4];exact h2,by rw [h3,h4],fun n ha hl=>?_⟩,fun _ h=>?_⟩,hS.sl.trans hst⟩
 ·rw [hK.units hl,htr]
  exact hB.u n ((hK.act n).1 ha) (by rw [← (hK.li n).length_eq];exact hl)
 ·rw [show (k'.undo k.trail.length).broken=k'.broken from rfl,hS.br,hbr] at h
  cases h
theorem cnt0_pos:0<cnt0 k↔∃ n,n<k.lits.length∧k.gone.getD n false=false∧lit k n=[]:=by
 unfold cnt0
 rw [List.length_pos_iff_exists_mem]
 constructor
 ·rintro ⟨n,hn⟩
  rw [zbj,List.mem_range,zh,xr,List.isEmpty_iff] at hn
  exact ⟨n,hn.1,hn.2.1,hn.2.2⟩
 ·rintro ⟨n,h1,h2,h3⟩
  refine ⟨n,?_⟩
  rw [zbj,List.mem_range,zh,xr,List.isEmpty_iff]
  exact ⟨h1,h2,h3⟩
theorem jhl (hI:Inv k) (hst:k.stale=false) (hbr:k.broken=false) (hem:¬ 0<k.empty) {c:List Nat} (hc:∀ x∈c,x<k.val.length) :
  Kin k (k.asks c).1∧Inv (k.asks c).1∧(k.asks c).1.stale=false∧((k.asks c).2=true↔Bad ng (cl k) (c.map ng)):=by
 have hB:=hI.b hst hbr
 have hJ:J0 k.trail.length (c.map ng) k:=⟨hB.j.p,hB.j.hb,hB.j.w2,hB.j.q2,fun p hp=>by rw [za hp];have:=hB.j.r p hp;rw [za hp] at this;exact this,hB.j.nt⟩
 have hA:=qjk c k false hJ (fun x hx=>⟨hc x hx,zz hx⟩)
 unfold K.asks
 cases hf:(jd c k false).2 with
 | true=>
  rw [za rfl]
  obtain ⟨h1,h2,h3⟩:=qwx hI hst hbr hA.s hA.j
  refine ⟨h1,h2,h3,fun _=>?_,fun _=>rfl⟩
  obtain ⟨x,hx,hm⟩:=(hA.t hf).resolve_left (by simp)
  exact hA.s.bad.1 (.inl ⟨x,qmn hA.j.rs hm,.base (zz hx)⟩)
 | false=>
  rw [ze (by simp)]
  have hDa:Done (jd c k false).1 (jd c k false).1.head:=by
   rw [hA.hd,hB.h]
   intro n ha hl w o hp ht
   exact zab (hA.j.q2 n ha hl w o hp ht)
  have hP:=qmo hA.j hDa
  obtain ⟨g1,g2,g3,g4⟩:=hP
  have hS:=hA.s.trans g1
  obtain ⟨h1,h2,h3⟩:=qwx hI hst hbr hS g2
  refine ⟨h1,h2,h3,fun h=>?_,fun h=>?_⟩
  ·simp only [xr] at h
   exact hA.s.bad.1 (g4 h)
  ·simp only [xr]
   cases hp:(jd c k false).1.prop.2 with
   | false=>rfl
   | true=>
    obtain ⟨d1,d2⟩:=g3 hp
    rw [d2] at d1
    refine absurd (hS.bad.2 h) (qvq (jhk g2 d1 (fun n ha hl=>?_) (fun n ha e=>?_)) (fun l hl=>?_))
    ·rw [hS.kin.units hl]
     exact qcn hS (hB.u n ((hS.act n).1 ha) (by rw [← (hS.li n).length_eq];exact hl))
    ·have ha':=(hS.act n).1 ha
     refine hem ?_
     rw [hI.s.em]
     exact Int.natCast_pos.2 (cnt0_pos.2 ⟨n,ha'.1,ha'.2.1,List.Perm.eq_nil (e ▸ (hS.li n).symm)⟩)
    ·obtain ⟨x,hx,rfl⟩:=List.mem_map.1 hl
     exact qcn g1 ((hA.n hf).2 x hx)
theorem jhm (hI:Inv k) {c:List Nat} (hc:∀ x∈c,x<k.val.length) :
  Kin k (k.follows c).1∧Inv (k.follows c).1∧((k.follows c).2=true↔Bad ng (cl k) (c.map ng)):=by
 obtain ⟨hK,hI1,hst⟩:=qww hI
 unfold K.follows
 by_cases h:0<k.refresh.empty∨k.refresh.broken=true
 ·rw [za h]
  refine ⟨hK,hI1,fun _=>?_,fun _=>rfl⟩
  rcases h with h|h
  ·rw [hI1.s.em] at h
   obtain ⟨n,h1,h2,h3⟩:=cnt0_pos.1 (Int.natCast_pos.1 h)
   exact hK.bad.1 (.inr ⟨[],mem_cl.2 ⟨n,⟨h1,h2,by rw [h3];rintro ⟨x,hx,_⟩;cases hx⟩,h3⟩,fun m hm=>(by cases hm)⟩)
  ·exact (hK.bad.1 (hI1.x hst h)).mono (qvo _) fun l hl=>(by cases hl)
 ·rw [ze h]
  obtain ⟨h1,h2,_,h4⟩:=jhl hI1 hst (by cases hb:k.refresh.broken with|false=>rfl|true=>exact absurd (.inr hb) h) (fun h'=>h (.inl h')) (c:=c) (fun x hx=>by rw [hK.vl];exact hc x hx)
  exact ⟨hK.trans h1,h2,h4.trans hK.bad⟩
end Go.Ru
end
section
namespace Go.Ru
open List renaming getD_eq_getElem?_getD → zd
variable {b h i x:Nat} {so list kept:List Nat} {k:K}
structure Chs (val:List Int) (c:List Nat) (i:Nat) (o:Nat × List Nat):Prop where
 pm:o.2.Perm c
 t2:o.1≤2
 ti:o.1≤i
 nf:∀ j,j<o.1→0≤val.getD (o.2.getD j 0) 0
 fl:o.1<2→∀ j,o.1≤j→j<i→val.getD (o.2.getD j 0) 0<0
theorem qms (val:List Int) (c:List Nat):∀ i,i≤c.length→Chs val c i (qq val c i)
 | 0,_=>⟨.refl _,zv _,zj _,fun j hj=>absurd hj (zo _),fun _ j _ hj=>absurd hj (zo _)⟩
 | i+1,hi=>by
  have ih:=qms val c i (by omega)
  have hl:=ih.pm.length_eq
  unfold qq
  by_cases h:(qq val c i).1<2∧0≤val.getD ((qq val c i).2.getD i 0) 0
  ·rw [za h]
   generalize qq val c i=o at ih hl h ⊢
   have h1:=ih.ti
   have hs:=qhi (l:=o.2) (i:=o.1) (j:=i) (by omega) (by omega)
   refine ⟨(qmg (by omega) (by omega)).trans ih.pm,by have:=h.1;simp only;omega,by simp only;omega,fun j hj=>?_,fun ht j hj hji=>?_⟩
   ·simp only at hj ⊢
    rw [hs]
    by_cases e1:j=i
    ·rw [za e1]
     obtain rfl:o.1=i:=by omega
     exact h.2
    ·rw [ze e1]
     by_cases e2:j=o.1
     ·rw [za e2];exact h.2
     ·rw [ze e2];exact ih.nf j (by omega)
   ·simp only at ht hj ⊢
    rw [hs]
    by_cases e1:j=i
    ·rw [za e1]
     exact ih.fl (by omega) o.1 (zj _) (by omega)
    ·rw [ze e1,ze (by omega)]
     exact ih.fl (by omega) j (by omega) (by omega)
  ·rw [ze h]
   refine ⟨ih.pm,ih.t2,by have:=ih.ti;omega,ih.nf,fun ht j hj hji=>?_⟩
   by_cases e:j=i
   ·subst e
    have:¬ 0≤val.getD ((qq val c j).2.getD j 0) 0:=fun h'=>h ⟨ht,h'⟩
    omega
   ·exact ih.fl ht j hj (by omega)
theorem qmt (val:List Int) (c:List Nat):(qao val c).Perm c:=(qms val c c.length (zj _)).pm
theorem jhn (val:List Int) (c:List Nat) (h:val.getD ((qao val c).getD 0 0) 0<0):∀ j,j<c.length→val.getD ((qao val c).getD j 0) 0<0:=fun j hj=>by
 have hC:=qms val c c.length (zj _)
 unfold qao at h ⊢
 have h0:(qq val c c.length).1=0:=by
  by_cases e:(qq val c c.length).1=0
  ·exact e
  ·have:=hC.nf 0 (by omega)
   omega
 exact hC.fl (by omega) j (by omega) hj
theorem jho (val:List Int) (c:List Nat) (h:val.getD ((qao val c).getD 1 0) 0<0):∀ j,1≤j→j<c.length→val.getD ((qao val c).getD j 0) 0<0:=fun j h1 hj=>by
 have hC:=qms val c c.length (zj _)
 unfold qao at h ⊢
 have h0:(qq val c c.length).1≤1:=by
  by_cases e:(qq val c c.length).1≤1
  ·exact e
  ·have:=hC.nf 1 (by omega)
   omega
 exact hC.fl (by omega) j (by omega) hj
theorem VInv.all (hv:VInv k) (x:Nat):vl k (ng x)=-vl k x:=by
 by_cases hx:x<k.val.length
 ·exact hv.anti x hx
 ·have h1:vl k x=0:=qdm (by omega)
  have h2:vl k (ng x)=0:=qdm (by have:=qly x;have:=hv.vr;omega)
  rw [h1,h2];rfl
theorem qgg {α:Type} {l:List α} {n j:Nat} {d:α}:(l++List.replicate n d).getD j d=l.getD j d:=by
 rw [zd,zd]
 by_cases h:j<l.length
 ·rw [zn h]
 ·rw [zl (by omega),zy (l:=l) (by omega),List.getElem?_replicate]
  split <;> rfl
theorem jhp {l m:List Int} {j:Nat} (h:j<l.length):(l++m).getD j 0=l.getD j 0:=by
 rw [zd,zd,zn h]
theorem J0.grow (hJ:J0 b so k) {v:Nat} (hv:2 * v+2≤1000000):J0 b so (k.grow v):=by
 unfold K.grow
 split
 ·rename_i hg
  have hvr:=hJ.p.v.vr
  have e1:∀ j,(k.val++List.replicate (2 * v+2 - k.val.length) 0).getD j 0=k.val.getD j 0:=fun j=>qgg
  have e2:∀ j,(k.watch++List.replicate (2 * v+2 - k.val.length) []).getD j []=k.watch.getD j []:=fun j=>qgg
  have hlen:(k.val++List.replicate (2 * v+2 - k.val.length) (0:Int)).length=2 * v+2:=by rw [zi,zbn];omega
  refine ⟨⟨⟨?_,fun x _=>?_,fun x=>?_,fun x=>?_,hJ.p.v.nd⟩,⟨fun n x hx=>?_,hJ.p.c.d,hJ.p.c.m,hJ.p.c.n,?_,?_,hJ.p.c.g⟩,fun y n hn=>?_,fun y=>?_,hJ.p.hd⟩,hJ.hb,fun n ha hl w o hp=>?_,hJ.q2,fun p hp=>?_,fun y n hn=>?_⟩
  ·show (k.val++List.replicate (2 * v+2 - k.val.length) (0:Int)).length=2 * (k.rea++List.replicate (v+1 - k.rea.length) (-1:Int)).length
   rw [hlen,zi,zbn];omega
  ·show (k.val++_).getD _ 0=-(k.val++_).getD _ 0
   rw [e1,e1];exact hJ.p.v.all x
  ·show (k.val++_).getD _ 0=0∨(k.val++_).getD _ 0=1∨(k.val++_).getD _ 0=-1
   rw [e1];exact hJ.p.v.tri x
  ·show x∈k.trail↔x<(k.val++List.replicate (2 * v+2 - k.val.length) (0:Int)).length∧(k.val++_).getD x 0=1
   rw [e1,hlen,hJ.p.v.tv x]
   refine ⟨fun h=>⟨by omega,h.2⟩,fun h=>⟨?_,h.2⟩⟩
   by_cases hx:x<k.val.length
   ·exact hx
   ·have:k.val.getD x 0=0:=qdm (by omega)
    rw [this] at h
    have:=h.2
    omega
  ·have:=hJ.p.c.c n x hx
   show x<(k.val++_).length
   rw [hlen];omega
  ·show (k.val++_).length≤1000000
   rw [hlen];omega
  ·show (k.watch++_).length=(k.val++_).length
   rw [hlen,zi,zbn,hJ.p.c.w];omega
  ·rw [show ({ k with val:=k.val++List.replicate (2 * v+2 - k.val.length) 0,watch:=k.watch++List.replicate (2 * v+2 - k.val.length) [],we:=fun j=>if j<k.watch.length then k.we j else 0,rea:=k.rea++List.replicate (v+1 - k.rea.length) (-1) }:K).watch.getD y []=k.watch.getD y [] from e2 y] at hn
   have:=hJ.p.w y n hn
   exact ⟨this.b,this.l,this.w⟩
  ·show ((k.watch++_).getD y []).Nodup
   rw [e2];exact hJ.p.nd y
  ·show n∈(k.watch++_).getD w []
   rw [e2];exact hJ.w2 n ha hl w o hp
  ·have hw:=hJ.r p hp
   have hm:=qj (l:=k.trail) (d:=0) hp
   have hx:=((hJ.p.v.tv _).1 hm).1
   unfold why at hw ⊢
   rcases hw with hw|⟨n,h1,h2⟩
   ·exact .inl hw
   ·refine .inr ⟨n,?_,h2⟩
    show (k.rea++List.replicate (v+1 - k.rea.length) (-1:Int)).getD (k.trail.getD p 0 / 2) 0=_
    rw [← h1,jhp (by omega)]
  ·rw [show ({ k with val:=k.val++List.replicate (2 * v+2 - k.val.length) 0,watch:=k.watch++List.replicate (2 * v+2 - k.val.length) [],we:=fun j=>if j<k.watch.length then k.we j else 0,rea:=k.rea++List.replicate (v+1 - k.rea.length) (-1) }:K).watch.getD y []=k.watch.getD y [] from e2 y] at hn
   exact hJ.nt y n hn
 ·exact hJ
structure Grown (k k':K):Prop where
 li:k'.lits=k.lits
 go:k'.gone=k.gone
 ks:k'.keys=k.keys
 pm:k'.pm=k.pm
 pe:k'.pe=k.pe
 tr:k'.trail=k.trail
 te:k'.te=k.te
 hd:k'.head=k.head
 un:k'.units=k.units
 ue:k'.ue=k.ue
 em:k'.empty=k.empty
 br:k'.broken=k.broken
 sl:k'.stale=k.stale
 vl:∀ x,vl k' x=vl k x
theorem grown (k:K) (v:Nat):Grown k (k.grow v):=by
 unfold K.grow
 split
 ·exact ⟨rfl,rfl,rfl,rfl,rfl,rfl,rfl,rfl,rfl,rfl,rfl,rfl,rfl,fun x=>qgg⟩
 ·exact ⟨rfl,rfl,rfl,rfl,rfl,rfl,rfl,rfl,rfl,rfl,rfl,rfl,rfl,fun x=>rfl⟩
theorem Grown.act {k':K} (hG:Grown k k') (n:Nat):Ru.act k' n↔Ru.act k n:=by
 unfold Ru.act lit
 rw [hG.li,hG.go]
theorem qhk (hI:Inv k) {v:Nat} (hv:2 * v+2≤1000000):Inv (k.grow v):=by
 have hG:=grown k v
 have hl:∀ n,lit (k.grow v) n=lit k n:=fun n=>by unfold lit;rw [hG.li]
 have hp:∀ n w o,pr (k.grow v) n w o↔pr k n w o:=fun n w o=>by unfold pr;rw [hl]
 have hcl:cl (k.grow v)=cl k:=by
  unfold cl
  rw [hG.li,show lit (k.grow v)=lit k from funext hl]
  congr 2
  funext n
  exact decide_eq_decide.2 (hG.act n)
 have hJ0:J0 0 [] (k.undo 0):=hI.s.undo0
 have hS:J0 0 k.trail k:=⟨hI.s.p,zv _,hI.s.w2,fun n ha hl w o hp ht=>(by cases ht),fun p hp=>by rw [ze (by omega)];exact .inl (qj hp),hI.s.nt⟩
 have hS':=hS.grow hv
 have hcnt:cnt0 (k.grow v)=cnt0 k:=by
  unfold cnt0
  rw [hG.li,hG.go,show lit (k.grow v)=lit k from funext hl]
 refine ⟨⟨hS'.p,hS'.w2,hS'.nt,fun n hn=>by rw [hG.un] at hn;rw [hG.li,hl];exact hI.s.us n hn,by rw [hG.un];exact hI.s.un,fun n ha h1=>by rw [hG.un];exact hI.s.ua n ((hG.act n).1 ha) (by rw [← hl];exact h1),by rw [hG.em,hcnt];exact hI.s.em⟩,fun h1 h2=>?_,fun h1 h2=>?_⟩
 ·rw [hG.sl] at h1
  rw [hG.br] at h2
  have hB:=hI.b h1 h2
  refine ⟨by rw [hG.tr];exact hB.j.grow hv,fun n ha h3 w o h4 h5=>?_,by rw [hG.hd,hG.tr];exact hB.h,fun n ha h3=>?_⟩
  ·rw [hG.tr] at h5 ⊢
   exact hB.d n ((hG.act n).1 ha) (by rw [← hl];exact h3) w o ((hp n w o).1 h4) h5
  ·rw [hl,hG.tr]
   exact hB.u n ((hG.act n).1 ha) (by rw [← hl];exact h3)
 ·rw [hG.sl] at h1
  rw [hG.br] at h2
  rw [hcl]
  exact hI.x h1 h2
theorem qmu (hI:Inv k) (v:Nat):2 * v+2≤(k.grow v).val.length∧k.val.length≤(k.grow v).val.length:=by
 unfold K.grow
 split
 ·simp only [zi,zbn];omega
 ·omega
end Go.Ru
end
