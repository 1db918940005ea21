/- A clause joins the checker's clauses. Plain. -/
import Derived.Test.YtkhdldncbmkidaaY4RuT
import Derived.Test.YtkhdldncbmkidaaY42
set_option linter.unusedSimpArgs false
set_option linter.unusedVariables false
namespace Go.Ru
open List renaming getD_eq_getElem?_getD → zd
variable {b h i x:Nat} {so list kept c:List Nat} {k:K}
def K.push (k:K) (c:List Nat):K:={ k with lits:=k.lits++[c],gone:=k.gone++[false] }
def qcs (w:List (List Nat)) (c:List Nat) (n:Nat):List (List Nat):=
 (w.set (c.getD 0 0) (w.getD (c.getD 0 0) []++[n])).set (c.getD 1 0) ((w.set (c.getD 0 0) (w.getD (c.getD 0 0) []++[n])).getD (c.getD 1 0) []++[n])
def K.hang (k:K) (n:Nat):K:={ k with lits:=k.lits.set n (qae k.val (lit k n)),watch:=qcs k.watch (qae k.val (lit k n)) n }
def K.lay (k:K) (n:Nat):K:=if (lit k n).length=0 then { k with empty:=k.empty+1 } else if (lit k n).length=1 then { k with units:=k.units++[n] } else k.hang n
def K.tell (k:K) (n:Nat):K:=
 if k.stale=true∨k.broken=true then k
 else if vl k ((lit k n).getD 0 0)<0 then { k with broken:=true }
 else if vl k ((lit k n).getD 0 0)=0∧((lit k n).length=1∨vl k ((lit k n).getD 1 0)<0) then { (k.set ((lit k n).getD 0 0) n).prop.1 with broken:=!(k.set ((lit k n).getD 0 0) n).prop.2 }
 else k
def K.adds (k:K) (c:List Nat) (idle:Bool):K:=
 if idle then k.push c else if c.length=0 then (k.push c).lay k.lits.length else ((k.push c).lay k.lits.length).tell k.lits.length
structure Fit (k:K) (c:List Nat):Prop where
 b:∀ x∈c,x<k.val.length
 d:c.Nodup
 m:c.length≤100000
 n:k.lits.length<100000
theorem qen (m:Nat):lit (k.push c) m=if m=k.lits.length then c else lit k m:=by
 unfold lit K.push
 rw [zd,zd]
 by_cases h:m=k.lits.length
 ·subst h
  rw [za rfl,zm (zi _),zag];rfl
 ·rw [ze h]
  by_cases h2:m<k.lits.length
  ·rw [zo h2]
  ·rw [zw (by simp;omega),zw (l:=k.lits) (by omega)]
theorem jgc (m:Nat):(k.push c).gone.getD m false=k.gone.getD m false:=by
 unfold K.push
 rw [zd,zd]
 by_cases h2:m<k.gone.length
 ·rw [zo h2]
 ·rw [zm (by omega),zw (l:=k.gone) (by omega)]
  cases m - k.gone.length <;> rfl
structure More (k:K) (c:List Nat) (k':K):Prop where
 ll:k'.lits.length=k.lits.length+1
 gl:k'.gone.length=k.gone.length+1
 go:∀ m,k'.gone.getD m false=k.gone.getD m false
 lo:∀ m,m≠k.lits.length→lit k' m=lit k m
 ln:(lit k' k.lits.length).Perm c
 wl:k'.watch.length=k.watch.length
 va:k'.val=k.val
 re:k'.rea=k.rea
 tr:k'.trail=k.trail
 hd:k'.head=k.head
 sl:k'.stale=k.stale
 br:k'.broken=k.broken
variable {k':K}
theorem More.new (hM:More k c k') (hg:k.gone.length=k.lits.length):act k' k.lits.length↔¬ ∃ z∈c,ng z∈c:=by
 unfold act
 rw [hM.ll,hM.go,zd,zw (by omega)]
 constructor
 ·rintro ⟨_,_,h⟩ ⟨z,h1,h2⟩
  exact h ⟨z,hM.ln.mem_iff.2 h1,hM.ln.mem_iff.2 h2⟩
 ·intro h
  refine ⟨by omega,rfl,?_⟩
  rintro ⟨z,h1,h2⟩
  exact h ⟨z,hM.ln.mem_iff.1 h1,hM.ln.mem_iff.1 h2⟩
theorem More.old (hM:More k c k') {m:Nat} (hm:m≠k.lits.length):act k' m↔act k m:=by
 unfold act
 rw [hM.ll,hM.go,hM.lo m hm]
 refine and_congr ?_ Iff.rfl
 omega
theorem More.act (hM:More k c k') {m:Nat} (ha:Ru.act k m):Ru.act k' m:=(hM.old (by have:=ha.1;omega)).2 ha
theorem More.cl (hM:More k c k') {so:List Nat} (h:Bad ng (Ru.cl k) so):Bad ng (Ru.cl k') so:=by
 refine h.mono (fun c' hc=>?_) fun l hl=>.base hl
 obtain ⟨n,h1,rfl⟩:=mem_cl.1 hc
 exact ⟨_,mem_cl.2 ⟨n,hM.act h1,rfl⟩,fun x=>by rw [hM.lo n (by have:=h1.1;omega)]⟩
structure Hung (k:K) (c:List Nat) (k':K):Prop where
 w:∀ y,∀ n∈k'.watch.getD y [],n∈k.watch.getD y []∨(n=k.lits.length∧2≤c.length∧(¬ ∃ z∈c,ng z∈c)∧((lit k' n).getD 0 0=y∨(lit k' n).getD 1 0=y))
 nd:∀ y,(k'.watch.getD y []).Nodup
 o:∀ y,∀ n∈k.watch.getD y [],n∈k'.watch.getD y []
 n:2≤c.length→(¬ ∃ z∈c,ng z∈c)→∀ w o,pr k' k.lits.length w o→k.lits.length∈k'.watch.getD w []
theorem qiy (hM:More k c k') (hH:Hung k c k') (hF:Fit k c) (hJ:J0 0 so k):J0 0 so k':=by
 have hg:=hJ.p.c.g
 have hvl:∀ x,vl k' x=vl k x:=fun x=>by unfold vl;rw [hM.va]
 have hold:∀ y,∀ n∈k.watch.getD y [],n≠k.lits.length:=fun y n hn=>by
  have:=(hJ.p.w y n hn).b
  omega
 have hlit:∀ m,lit k' m=lit k m∨(m=k.lits.length∧(lit k' m).Perm c):=fun m=>by
  by_cases e:m=k.lits.length
  ·subst e;exact .inr ⟨rfl,hM.ln⟩
  ·exact .inl (hM.lo m e)
 have hv':VInv k':=hJ.p.v.lits hM.va hM.re hM.tr
 refine ⟨⟨hv',⟨fun n x hx=>?_,fun n=>?_,fun n=>?_,?_,by rw [hM.va];exact hJ.p.c.v,by rw [hM.wl,hM.va];exact hJ.p.c.w,by rw [hM.gl,hM.ll,hg]⟩,fun y n hn=>?_,hH.nd,by rw [hM.hd,hM.tr];exact hJ.p.hd⟩,xa _,fun n ha hl w o hp=>?_,fun n ha hl w o hp ht=>(by cases ht),fun p hp=>?_,fun y n hn=>?_⟩
 ·rw [hM.va]
  rcases hlit n with e|⟨_,e⟩
  ·rw [e] at hx;exact hJ.p.c.c n x hx
  ·exact hF.b x (e.mem_iff.1 hx)
 ·rcases hlit n with e|⟨_,e⟩
  ·rw [e];exact hJ.p.c.d n
  ·exact e.nodup_iff.2 hF.d
 ·rcases hlit n with e|⟨_,e⟩
  ·rw [e];exact hJ.p.c.m n
  ·rw [e.length_eq];exact hF.m
 ·rw [hM.ll];exact hF.n
 ·rcases hH.w y n hn with h|⟨rfl,h1,_,h2⟩
  ·have:=hJ.p.w y n h
   have hne:=hold y n h
   exact ⟨by rw [hM.ll];have:=this.b;omega,by rw [hM.lo n hne];exact this.l,by rw [hM.lo n hne];exact this.w⟩
  ·exact ⟨by rw [hM.ll];omega,by rw [hM.ln.length_eq];exact h1,h2⟩
 ·by_cases e:n=k.lits.length
  ·subst e
   exact hH.n (by rw [← hM.ln.length_eq];exact hl) ((hM.new hg).1 ha) w o hp
  ·rw [hM.lo n e] at hl
   have hp':pr k n w o:=by unfold pr at hp ⊢;rw [hM.lo n e] at hp;exact hp
   exact hH.o w n (hJ.w2 n ((hM.old e).1 ha) hl w o hp')
 ·rw [hM.tr] at hp
  rw [ze (by omega)]
  have hw:=hJ.rs p hp
  unfold why at hw ⊢
  rw [hM.tr,hM.re]
  rcases hw with hw|⟨n,h1,h2,h3,h4⟩
  ·exact .inl hw
  ·have hne:n≠k.lits.length:=by have:=h2.1;omega
   exact .inr ⟨n,h1,hM.act h2,by rw [hM.lo n hne];exact h3,fun m hm=>h4 m (by rw [hM.lo n hne] at hm;exact hm)⟩
 ·rcases hH.w y n hn with h|⟨rfl,_,h1,_⟩
  ·rw [hM.lo n (hold y n h)];exact hJ.nt y n h
  ·rintro ⟨z,h2,h3⟩
   exact h1 ⟨z,hM.ln.mem_iff.1 h2,hM.ln.mem_iff.1 h3⟩
theorem qmd:More k c (k.push c):=by
 refine ⟨by simp [K.push],by simp [K.push],jgc,fun m hm=>by rw [qen,ze hm],by rw [qen,za rfl],rfl,rfl,rfl,rfl,rfl,rfl,rfl⟩
theorem qpt (hJ:J0 0 so k) (hc:(∃ z∈c,ng z∈c)∨c.length<2):Hung k c (k.push c):=
 ⟨fun y n hn=>.inl hn,hJ.p.nd,fun y n hn=>hn,fun h1 h2=>hc.elim (fun h=>absurd h h2) (fun h=>by omega)⟩
theorem qpu:(k.push c).hang k.lits.length={ k.push (qae k.val c) with watch:=qcs k.watch (qae k.val c) k.lits.length }:=by
 unfold K.hang
 rw [qen,za rfl]
 have e:(k.push c).lits.set k.lits.length (qae (k.push c).val c)=(k.push (qae k.val c)).lits:=by
  show (k.lits++[c]).set k.lits.length _=k.lits++[_]
  rw [List.set_append_right _ _ (zi _),zag];rfl
 rw [e]
 rfl
theorem jgd (hl:2≤c.length):More k c ((k.push c).hang k.lits.length):=by
 rw [qpu]
 have h:=qmd (k:=k) (c:=qae k.val c)
 exact ⟨h.ll,h.gl,h.go,h.lo,h.ln.trans (qmb _ _),by simp [qcs],rfl,rfl,rfl,rfl,rfl,rfl⟩
theorem jge (hJ:J0 0 so k) (hF:Fit k c) (hl:2≤c.length) (hnt:¬ ∃ z∈c,ng z∈c):Hung k c ((k.push c).hang k.lits.length):=by
 rw [qpu]
 have hp:=qmb k.val c
 have hpl:=hp.length_eq
 generalize hc':qae k.val c=c' at hp hpl
 have m0:c'.getD 0 0∈c':=qg (by omega)
 have m1:c'.getD 1 0∈c':=qg (by omega)
 have hne:c'.getD 0 0≠c'.getD 1 0:=fun e=>by
  have:=qln (hp.nodup_iff.2 hF.d) (by omega) (by omega) e
  omega
 have l0:c'.getD 0 0<k.watch.length:=by rw [hJ.p.c.w];exact hF.b _ (hp.mem_iff.1 m0)
 have l1:c'.getD 1 0<k.watch.length:=by rw [hJ.p.c.w];exact hF.b _ (hp.mem_iff.1 m1)
 have hL:lit ({ k.push c' with watch:=qcs k.watch c' k.lits.length }:K) k.lits.length=c':=(qen _).trans (za rfl)
 have hW:∀ y,(qcs k.watch c' k.lits.length).getD y []=if y=c'.getD 0 0∨y=c'.getD 1 0 then k.watch.getD y []++[k.lits.length] else k.watch.getD y []:=fun y=>by
  unfold qcs
  rw [jb,jb,jb]
  by_cases e1:y=c'.getD 1 0
  ·rw [za ⟨e1,by simpa using l1⟩,ze (fun h=>hne h.1.symm),za (.inr e1),e1]
  ·rw [ze (fun h=>e1 h.1)]
   by_cases e0:y=c'.getD 0 0
   ·rw [za ⟨e0,l0⟩,za (.inl e0),e0]
   ·rw [ze (fun h=>e0 h.1),ze (fun h=>h.elim e0 e1)]
 have hnew:∀ y,k.lits.length ∉ k.watch.getD y []:=fun y hm=>by
  have:=(hJ.p.w y _ hm).b
  omega
 refine ⟨fun y n hn=>?_,fun y=>?_,fun y n hn=>?_,fun _ _ w o hpr=>?_⟩
 ·rw [show ({ k.push c' with watch:=qcs k.watch c' k.lits.length }:K).watch.getD y []=_ from hW y] at hn
  split at hn
  ·rename_i e
   rcases List.mem_append.1 hn with h|h
   ·exact .inl h
   ·rw [zk] at h
    subst h
    rw [hL]
    exact .inr ⟨rfl,hl,hnt,e.imp Eq.symm Eq.symm⟩
  ·exact .inl hn
 ·rw [show ({ k.push c' with watch:=qcs k.watch c' k.lits.length }:K).watch.getD y []=_ from hW y]
  split
  ·rw [zan]
   refine ⟨hJ.p.nd y,by simp,fun a ha b hb e=>?_⟩
   rw [zk] at hb
   subst hb e
   exact hnew y ha
  ·exact hJ.p.nd y
 ·rw [show ({ k.push c' with watch:=qcs k.watch c' k.lits.length }:K).watch.getD y []=_ from hW y]
  split
  ·exact xy _ hn
  ·exact hn
 ·rw [show ({ k.push c' with watch:=qcs k.watch c' k.lits.length }:K).watch.getD w []=_ from hW w,za]
  ·simp
  ·unfold pr at hpr
   rw [hL] at hpr
   rcases hpr with ⟨h1,_⟩|⟨_,h1⟩
   ·exact .inl h1.symm
   ·exact .inr h1.symm
end Go.Ru
