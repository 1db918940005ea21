/- The checker's answer, plainly: it follows by propagation. -/
import Derived.Test.YtkhdldncbmkidaaY4RuQ
import Derived.Test.YtkhdldncbmkidaaY42
set_option linter.unusedSimpArgs false
set_option linter.unusedVariables false
namespace Go.Ru
variable {b h i x:Nat} {so list kept:List Nat} {k:K}
def jc:List Nat→K→Bool→K × Bool
 | [],k,f=>(k,f)
 | x::r,k,f=>if 0<vl k x then jc r k true else if vl k x=0 then jc r (k.set (ng x) (-1)) f else jc r k f
def K.asks (k:K) (c:List Nat):K × Bool:=
 if (jc c k false).2 then ((jc c k false).1.undo k.trail.length,true)
 else ((jc c k false).1.prop.1.undo k.trail.length,!(jc c k false).1.prop.2)
def K.follows (k:K) (c:List Nat):K × Bool:=
 if 0<k.refresh.empty∨k.refresh.broken=true then (k.refresh,true) else k.refresh.asks c
structure AsmJ (b:Nat) (so:List Nat) (c:List Nat) (k:K) (f:Bool) (o:K × Bool):Prop where
 s:Same k o.1
 j:J0 b so o.1
 hd:o.1.head=k.head
 t:o.2=true→f=true∨∃ x∈c,x∈o.1.trail
 n:o.2=false→f=false∧∀ x∈c,ng x∈o.1.trail
theorem qix:∀ (c:List Nat) (k:K) (f:Bool),J0 b so k→(∀ x∈c,x<k.val.length∧ng x∈so)→AsmJ b so c k f (jc c k f)
 | [],k,f,hJ,_=>⟨.refl k,hJ,rfl,.inl,fun h=>⟨h,fun x hx=>(by cases hx)⟩⟩
 | x::r,k,f,hJ,hc=>by
  have hx:=hc x (xu ..)
  have hr:∀ y∈r,y<k.val.length∧ng y∈so:=fun y hy=>hc y (xk _ hy)
  unfold jc
  by_cases h1:0<vl k x
  ·rw [za h1]
   have ih:=qix r k true hJ hr
   have hm:x∈(jc r k true).1.trail:=qcc ih.s ((hJ.p.v.tru hx.1).1 (by rcases hJ.p.v.tri x with e|e|e <;> omega))
   exact ⟨ih.s,ih.j,ih.hd,fun _=>.inr ⟨x,xu ..,hm⟩,fun h=>absurd (ih.n h).1 (by simp)⟩
  ·rw [ze h1]
   by_cases h2:vl k x=0
   ·rw [za h2]
    have hnx:=hJ.p.v.ngl hx.1
    have h0:vl k (ng x)=0:=by rw [hJ.p.v.anti x hx.1,h2];rfl
    have hput:=hJ.put (r:=-1) hnx h0 (.inl (by rw [ze (by have:=hJ.hb;omega)];exact hx.2))
    have hS:Same k (k.set (ng x) (-1)):=.set
    have ih:=qix r (k.set (ng x) (-1)) f hput (fun y hy=>⟨by rw [hS.vl];exact (hr y hy).1,(hr y hy).2⟩)
    have hm:ng x∈(jc r (k.set (ng x) (-1)) f).1.trail:=qcc ih.s (by show _∈k.trail++[_];simp)
    refine ⟨hS.trans ih.s,ih.j,ih.hd,fun h=>(ih.t h).imp id fun ⟨y,hy,h⟩=>⟨y,xk _ hy,h⟩,fun h=>⟨(ih.n h).1,fun y hy=>?_⟩⟩
    rcases List.mem_cons.1 hy with rfl|hy
    ·exact hm
    ·exact (ih.n h).2 y hy
   ·rw [ze h2]
    have ih:=qix r k f hJ hr
    have hm:ng x∈(jc r k f).1.trail:=qcc ih.s ((hJ.p.v.fls hx.1).1 (by rcases hJ.p.v.tri x with e|e|e <;> omega))
    refine ⟨ih.s,ih.j,ih.hd,fun h=>(ih.t h).imp id fun ⟨y,hy,h⟩=>⟨y,xk _ hy,h⟩,fun h=>⟨(ih.n h).1,fun y hy=>?_⟩⟩
    rcases List.mem_cons.1 hy with rfl|hy
    ·exact hm
    ·exact (ih.n h).2 y hy
theorem jfw (hJ:J0 b so k) (hD:Done k k.trail.length) (hu:∀ n,act k n→(lit k n).length=1→(lit k n).getD 0 0∈k.trail) (he:∀ n,act k n→lit k n≠[]):Closed ng (cl k) (fun y=>y∈k.trail):=by
 refine ⟨fun l h1 h2=>hJ.p.v.two h1 h2,fun c hc=>?_⟩
 obtain ⟨n,ha,rfl⟩:=mem_cl.1 hc
 by_cases h0:(lit k n).length=0
 ·exact absurd (zz h0) (he n ha)
 ·by_cases h1:(lit k n).length=1
  ·exact .inl ⟨_,qg (by omega),hu n ha h1⟩
  ·have hl:2≤(lit k n).length:=by omega
   have hp:pr k n ((lit k n).getD 0 0) ((lit k n).getD 1 0):=.inl ⟨rfl,rfl⟩
   have hp':pr k n ((lit k n).getD 1 0) ((lit k n).getD 0 0):=.inr ⟨rfl,rfl⟩
   have hlt:=qpq hJ.p.c hl hp
   by_cases a1:ng ((lit k n).getD 0 0)∈k.trail
   ·exact .inl ⟨_,hlt.2.1,hD n ha hl _ _ hp (by rw [xi];exact a1)⟩
   ·by_cases a2:ng ((lit k n).getD 1 0)∈k.trail
    ·exact .inl ⟨_,hlt.1,hD n ha hl _ _ hp' (by rw [xi];exact a2)⟩
    ·exact .inr ⟨_,hlt.1,_,hlt.2.1,hlt.2.2.2.2,a1,a2⟩
theorem Kin.units {k':K} (hK:Kin k k') {n:Nat} (h:(lit k' n).length=1):(lit k' n).getD 0 0=(lit k n).getD 0 0:=by
 have hp:=hK.li n
 have hl1:=hp.length_eq.symm.trans h
 obtain ⟨a,ha⟩:=List.length_eq_one_iff.1 hl1
 rw [ha] at hp ⊢
 rw [List.perm_singleton.1 hp]
theorem qwb (hI:Inv k) (hst:k.stale=false) (hbr:k.broken=false) {k':K} (hS:Same k k') (hJ:J0 k.trail.length so k'):Kin k (k'.undo k.trail.length)∧Inv (k'.undo k.trail.length)∧(k'.undo k.trail.length).stale=false:=by
 have hB:=hI.b hst hbr
 obtain ⟨h1,h2,h3,h4⟩:=hJ.undo
 have hK:Kin k (k'.undo k.trail.length):=hS.kin.trans (.undo _)
 have htr:(k'.undo k.trail.length).trail=k.trail:=by
  show k'.trail.take _=_
  rw [qdf hS (zi _),xi]
 refine ⟨hK,⟨hI.s.kin hK h1 hS.un,fun _ _=>⟨by rw [h4];exact h1,by rw [h4];exact h2,by rw [h3,h4],fun n ha hl=>?_⟩,fun _ h=>?_⟩,hS.sl.trans hst⟩
 ·rw [hK.units hl,htr]
  exact hB.u n ((hK.act n).1 ha) (by rw [← (hK.li n).length_eq];exact hl)
 ·rw [show (k'.undo k.trail.length).broken=k'.broken from rfl,hS.br,hbr] at h
  cases h
theorem cnt0_pos:0<cnt0 k↔∃ n,n<k.lits.length∧k.gone.getD n false=false∧lit k n=[]:=by
 unfold cnt0
 rw [List.length_pos_iff_exists_mem]
 constructor
 ·rintro ⟨n,hn⟩
  rw [zbe,List.mem_range,zh,xn,List.isEmpty_iff] at hn
  exact ⟨n,hn.1,hn.2.1,hn.2.2⟩
 ·rintro ⟨n,h1,h2,h3⟩
  refine ⟨n,?_⟩
  rw [zbe,List.mem_range,zh,xn,List.isEmpty_iff]
  exact ⟨h1,h2,h3⟩
theorem jfx (hI:Inv k) (hst:k.stale=false) (hbr:k.broken=false) (hem:¬ 0<k.empty) {c:List Nat} (hc:∀ x∈c,x<k.val.length) :
  Kin k (k.asks c).1∧Inv (k.asks c).1∧(k.asks c).1.stale=false∧((k.asks c).2=true↔Bad ng (cl k) (c.map ng)):=by
 have hB:=hI.b hst hbr
 have hJ:J0 k.trail.length (c.map ng) k:=⟨hB.j.p,hB.j.hb,hB.j.w2,hB.j.q2,fun p hp=>by rw [za hp];have:=hB.j.r p hp;rw [za hp] at this;exact this,hB.j.nt⟩
 have hA:=qix c k false hJ (fun x hx=>⟨hc x hx,zy hx⟩)
 unfold K.asks
 cases hf:(jc c k false).2 with
 | true=>
  rw [za rfl]
  obtain ⟨h1,h2,h3⟩:=qwb hI hst hbr hA.s hA.j
  refine ⟨h1,h2,h3,fun _=>?_,fun _=>rfl⟩
  obtain ⟨x,hx,hm⟩:=(hA.t hf).resolve_left (by simp)
  exact hA.s.bad.1 (.inl ⟨x,qlv hA.j.rs hm,.base (zy hx)⟩)
 | false=>
  rw [ze (by simp)]
  have hDa:Done (jc c k false).1 (jc c k false).1.head:=by
   rw [hA.hd,hB.h]
   intro n ha hl w o hp ht
   exact zac (hA.j.q2 n ha hl w o hp ht)
  have hP:=qlw hA.j hDa
  obtain ⟨g1,g2,g3,g4⟩:=hP
  have hS:=hA.s.trans g1
  obtain ⟨h1,h2,h3⟩:=qwb hI hst hbr hS g2
  refine ⟨h1,h2,h3,fun h=>?_,fun h=>?_⟩
  ·simp only [xn] at h
   exact hA.s.bad.1 (g4 h)
  ·simp only [xn]
   cases hp:(jc c k false).1.prop.2 with
   | false=>rfl
   | true=>
    obtain ⟨d1,d2⟩:=g3 hp
    rw [d2] at d1
    refine absurd (hS.bad.2 h) (quv (jfw g2 d1 (fun n ha hl=>?_) (fun n ha e=>?_)) (fun l hl=>?_))
    ·rw [hS.kin.units hl]
     exact qcc hS (hB.u n ((hS.act n).1 ha) (by rw [← (hS.li n).length_eq];exact hl))
    ·have ha':=(hS.act n).1 ha
     refine hem ?_
     rw [hI.s.em]
     exact Int.natCast_pos.2 (cnt0_pos.2 ⟨n,ha'.1,ha'.2.1,List.Perm.eq_nil (e ▸ (hS.li n).symm)⟩)
    ·obtain ⟨x,hx,rfl⟩:=List.mem_map.1 hl
     exact qcc g1 ((hA.n hf).2 x hx)
theorem jfy (hI:Inv k) {c:List Nat} (hc:∀ x∈c,x<k.val.length) :
  Kin k (k.follows c).1∧Inv (k.follows c).1∧((k.follows c).2=true↔Bad ng (cl k) (c.map ng)):=by
 obtain ⟨hK,hI1,hst⟩:=qwa hI
 unfold K.follows
 by_cases h:0<k.refresh.empty∨k.refresh.broken=true
 ·rw [za h]
  refine ⟨hK,hI1,fun _=>?_,fun _=>rfl⟩
  rcases h with h|h
  ·rw [hI1.s.em] at h
   obtain ⟨n,h1,h2,h3⟩:=cnt0_pos.1 (Int.natCast_pos.1 h)
   exact hK.bad.1 (.inr ⟨[],mem_cl.2 ⟨n,⟨h1,h2,by rw [h3];rintro ⟨x,hx,_⟩;cases hx⟩,h3⟩,fun m hm=>(by cases hm)⟩)
  ·exact (hK.bad.1 (hI1.x hst h)).mono (qut _) fun l hl=>(by cases hl)
 ·rw [ze h]
  obtain ⟨h1,h2,_,h4⟩:=jfx hI1 hst (by cases hb:k.refresh.broken with|false=>rfl|true=>exact absurd (.inr hb) h) (fun h'=>h (.inl h')) (c:=c) (fun x hx=>by rw [hK.vl];exact hc x hx)
  exact ⟨hK.trans h1,h2,h4.trans hK.bad⟩
end Go.Ru
