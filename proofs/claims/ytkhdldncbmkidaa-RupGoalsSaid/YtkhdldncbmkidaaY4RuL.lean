/- The checker's invariants: what is watched, why the trail holds, what is done; through the visit of a literal. Plain. -/
import Derived.Test.YtkhdldncbmkidaaY410
import Derived.Test.YtkhdldncbmkidaaY42
set_option linter.unusedSimpArgs false
set_option linter.unusedVariables false
namespace Go.Ru
def act (k:K) (n:Nat):Prop:=n<k.lits.length∧k.gone.getD n false=false∧¬ ∃ x∈lit k n,ng x∈lit k n
def pr (k:K) (n w o:Nat):Prop:=((lit k n).getD 0 0=w∧(lit k n).getD 1 0=o)∨((lit k n).getD 0 0=o∧(lit k n).getD 1 0=w)
def why (so:List Nat) (k:K) (p:Nat):Prop:=
 k.trail.getD p 0∈so∨∃ n:Nat,k.rea.getD (k.trail.getD p 0 / 2) 0=(n:Int)∧act k n∧k.trail.getD p 0∈lit k n∧∀ m∈lit k n,m≠k.trail.getD p 0→ng m∈k.trail.take p
structure Same (k k':K):Prop where
 vl:k'.val.length=k.val.length
 rl:k'.rea.length=k.rea.length
 ll:k'.lits.length=k.lits.length
 wl:k'.watch.length=k.watch.length
 go:k'.gone=k.gone
 ks:k'.keys=k.keys
 pm:k'.pm=k.pm
 pe:k'.pe=k.pe
 te:k'.te=k.te
 un:k'.units=k.units
 ue:k'.ue=k.ue
 em:k'.empty=k.empty
 br:k'.broken=k.broken
 sl:k'.stale=k.stale
 tr:∃ t,k'.trail=k.trail++t
 li:∀ n,(lit k' n).Perm (lit k n)
theorem Same.refl (k:K):Same k k:=⟨rfl,rfl,rfl,rfl,rfl,rfl,rfl,rfl,rfl,rfl,rfl,rfl,rfl,rfl,⟨[],by simp⟩,fun _=>.refl _⟩
theorem Same.trans {k k' k'':K} (h:Same k k') (g:Same k' k''):Same k k'':=by
 obtain ⟨t,ht⟩:=h.tr
 obtain ⟨u,hu⟩:=g.tr
 exact ⟨g.vl.trans h.vl,g.rl.trans h.rl,g.ll.trans h.ll,g.wl.trans h.wl,g.go.trans h.go,g.ks.trans h.ks,g.pm.trans h.pm,g.pe.trans h.pe,g.te.trans h.te,g.un.trans h.un,g.ue.trans h.ue,g.em.trans h.em,g.br.trans h.br,g.sl.trans h.sl,
  ⟨t++u,by rw [hu,ht,xd]⟩,fun n=>(g.li n).trans (h.li n)⟩
theorem Same.act {k k':K} (h:Same k k') (n:Nat):act k' n↔act k n:=by
 unfold Ru.act
 rw [h.ll,h.go]
 refine and_congr Iff.rfl (and_congr Iff.rfl (not_congr ?_))
 constructor
 ·rintro ⟨x,h1,h2⟩;exact ⟨x,(h.li n).mem_iff.1 h1,(h.li n).mem_iff.1 h2⟩
 ·rintro ⟨x,h1,h2⟩;exact ⟨x,(h.li n).mem_iff.2 h1,(h.li n).mem_iff.2 h2⟩
theorem qdf {k k':K} (h:Same k k') {p:Nat} (hp:p≤k.trail.length):k'.trail.take p=k.trail.take p:=by
 obtain ⟨t,ht⟩:=h.tr
 rw [ht,List.take_append_of_le_length hp]
theorem qcc {k k':K} (h:Same k k') {x:Nat} (hx:x∈k.trail):x∈k'.trail:=by
 obtain ⟨t,ht⟩:=h.tr
 rw [ht];exact xy _ hx
theorem tr_gD {k k':K} (h:Same k k') {p:Nat} (hp:p<k.trail.length):k'.trail.getD p 0=k.trail.getD p 0:=by
 obtain ⟨t,ht⟩:=h.tr
 rw [ht,xc,xc,zo hp]
theorem Same.turn {k:K} {n x:Nat} (h:2≤(lit k n).length):Same k (k.turn n x):=
 ⟨rfl,rfl,by simp [K.turn],rfl,rfl,rfl,rfl,rfl,rfl,rfl,rfl,rfl,rfl,rfl,⟨[],by simp [K.turn]⟩,fun m=>by
  by_cases hn:n<k.lits.length
  ·unfold K.turn
   rw [qem hn]
   split
   ·rename_i e;subst e;exact qlp x h
   ·exact .refl _
  ·unfold K.turn lit
   simp only
   rw [List.set_eq_of_length_le (by omega)]⟩
theorem Same.set {k:K} {y:Nat} {r:Int}:Same k (k.set y r):=
 ⟨by simp [K.set],by simp [K.set],rfl,rfl,rfl,rfl,rfl,rfl,rfl,rfl,rfl,rfl,rfl,rfl,⟨[y],rfl⟩,fun _=>.refl _⟩
theorem Same.other {k:K} {n:Nat} (h:2≤(lit k n).length):Same k (k.other n).1:=by
 cases ho:(k.other n).2 with
 | false=>rw [(qlq ho).2];exact .refl k
 | true=>
  obtain ⟨j,hj,he⟩:=qpj ho
  obtain ⟨j1,_⟩:=qli hj
  rw [he]
  refine ⟨rfl,rfl,by simp,by simp,rfl,rfl,rfl,rfl,rfl,rfl,rfl,rfl,rfl,rfl,⟨[],by simp⟩,fun m=>?_⟩
  by_cases hn:n<k.lits.length
  ·have:=qem (k:={ k with watch:=k.watch.set ((lit k n).getD j 0) (k.watch.getD ((lit k n).getD j 0) []++[n]) }) (c:=swap (lit k n) 1 j) hn m
   refine (List.Perm.of_eq this).trans ?_
   split
   ·rename_i e;subst e;exact qlo (by omega) j1
   ·exact .refl _
  ·rw [jfh (by omega)] at h
   simp at h
theorem Same.watch {k:K} {w:List (List Nat)} {e:Nat→Nat} (hw:w.length=k.watch.length):Same k { k with watch:=w,we:=e }:=
 ⟨rfl,rfl,rfl,hw,rfl,rfl,rfl,rfl,rfl,rfl,rfl,rfl,rfl,rfl,⟨[],by simp⟩,fun _=>.refl _⟩
structure PInv (k:K):Prop where
 v:VInv k
 c:CInv k
 w:∀ y,∀ n∈k.watch.getD y [],Wat k n y
 nd:∀ y,(k.watch.getD y []).Nodup
 hd:k.head≤k.trail.length
theorem PInv.wl {k:K} (h:PInv k) (y:Nat):(k.watch.getD y []).length≤100000:=zt (qfo (h.nd y) fun n hn=>(h.w y n hn).b) h.c.n
theorem PInv.vis {k:K} (h:PInv k) {x:Nat} (hx:x<k.val.length) (hf:vl k x=-1):VisI x (k.watch.getD x []) k [] 0:=
 ⟨h.v,h.c,hf,hx,rfl,h.nd x,fun y _ n hn=>h.w y n hn,h.nd,fun n hn=>h.w x n hn,fun n hn=>(by cases hn),List.nil_sublist _⟩
theorem qiv {x:Nat} {list:List Nat} {k:K} (hV:VisI x list k [] 0):∀ i,i≤list.length→Goes x list k i→Same k (qb x list k i).1
 | 0,_,_=>.refl k
 | i+1,hi,hs=>by
  have hG:Goes x list k i:=fun j hj=>hs j (by omega)
  have ih:=qiv hV i (by omega) hG
  have hI:=qfr hV i (by omega) hG
  have hi':i<list.length:=hi
  have hw:=hI.at_ hi'
  have h1:=hI.turn hi'
  have hw1:=h1.at_ hi'
  unfold qb
  split
  ·exact ih
  ·split
   ·split
    ·exact (ih.trans (.turn hw.l)).trans (.other hw1.l)
    ·exact (ih.trans (.turn hw.l)).trans .set
   ·exact ih.trans (.turn hw.l)
theorem qvs {k:K} {x:Nat} (hV:VisI x (k.watch.getD x []) k [] 0):Same k (k.visit x).1:=by
 unfold K.visit
 split
 ·rename_i h
  rw [List.find?_eq_none] at h
  have hG:Goes x (k.watch.getD x []) k (k.watch.getD x []).length:=fun j hj=>by
   have:=h j (List.mem_range.2 hj)
   simpa using this
  exact (qiv hV _ (zi _) hG).trans (.watch (by simp))
 ·rename_i i h
  rw [List.find?_range_eq_some] at h
  obtain ⟨_,h2,h3⟩:=h
  have hi:=List.mem_range.1 h2
  have hG:Goes x (k.watch.getD x []) k i:=fun j hj=>by
   have:=h3 j hj
   simpa using this
  have hI:=qfr hV i (by omega) hG
  exact ((qiv hV i (by omega) hG).trans (.turn (hI.at_ hi).l)).trans (.watch (by simp))
end Go.Ru
