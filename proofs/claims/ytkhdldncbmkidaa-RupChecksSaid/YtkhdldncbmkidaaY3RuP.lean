/- The checker's state between its calls: undo, refresh, follows. Plain. -/
import Derived.Test.YtkhdldncbmkidaaY313
import Derived.Test.YtkhdldncbmkidaaY32
set_option linter.unusedSimpArgs false
set_option linter.unusedVariables false
namespace Go.Ru
open List renaming getD_eq_getElem?_getD → zd
variable {b h i x:Nat} {so list kept:List Nat} {k:K}
structure Kin (k k':K):Prop where
 vl:k'.val.length=k.val.length
 rl:k'.rea.length=k.rea.length
 ll:k'.lits.length=k.lits.length
 wl:k'.watch.length=k.watch.length
 go:k'.gone=k.gone
 ks:k'.keys=k.keys
 pm:k'.pm=k.pm
 pe:k'.pe=k.pe
 em:k'.empty=k.empty
 li:∀ n,(lit k' n).Perm (lit k n)
theorem Same.kin {k k':K} (h:Same k k'):Kin k k':=⟨h.vl,h.rl,h.ll,h.wl,h.go,h.ks,h.pm,h.pe,h.em,h.li⟩
theorem Kin.refl (k:K):Kin k k:=(Same.refl k).kin
theorem Kin.trans {k k' k'':K} (h:Kin k k') (g:Kin k' k''):Kin k k'':=
 ⟨g.vl.trans h.vl,g.rl.trans h.rl,g.ll.trans h.ll,g.wl.trans h.wl,g.go.trans h.go,g.ks.trans h.ks,g.pm.trans h.pm,g.pe.trans h.pe,g.em.trans h.em,fun n=>(g.li n).trans (h.li n)⟩
theorem Kin.act {k k':K} (h:Kin k k') (n:Nat):act k' n↔act k n:=by
 unfold Ru.act
 rw [h.ll,h.go]
 refine and_congr Iff.rfl (and_congr Iff.rfl (not_congr ?_))
 constructor
 ·rintro ⟨x,h1,h2⟩;exact ⟨x,(h.li n).mem_iff.1 h1,(h.li n).mem_iff.1 h2⟩
 ·rintro ⟨x,h1,h2⟩;exact ⟨x,(h.li n).mem_iff.2 h1,(h.li n).mem_iff.2 h2⟩
theorem Kin.bad {k k':K} (hS:Kin k k') {so:List Nat}:Bad ng (cl k') so↔Bad ng (cl k) so:=by
 constructor
 ·refine fun h=>h.mono (fun c hc=>?_) fun l hl=>.base hl
  obtain ⟨n,h1,rfl⟩:=mem_cl.1 hc
  exact ⟨lit k n,mem_cl.2 ⟨n,(hS.act n).1 h1,rfl⟩,fun x=>((hS.li n).mem_iff).symm⟩
 ·refine fun h=>h.mono (fun c hc=>?_) fun l hl=>.base hl
  obtain ⟨n,h1,rfl⟩:=mem_cl.1 hc
  exact ⟨lit k' n,mem_cl.2 ⟨n,(hS.act n).2 h1,rfl⟩,fun x=>(hS.li n).mem_iff⟩
theorem qwt (y:Nat):∀ (l:List Nat) (v:List Int),(qcd v l).getD y 0=if y∈l∨ng y∈l then 0 else v.getD y 0
 | [],v=>by rw [ze (by simp)];rfl
 | x::r,v=>by
  have ih:=qwt y r ((v.set x 0).set (ng x) 0)
  show (qcd ((v.set x 0).set (ng x) 0) r).getD y 0=_
  rw [ih]
  by_cases h1:y∈r∨ng y∈r
  ·rw [za h1,za (h1.imp (xg _) (xg _))]
  ·rw [ze h1]
   by_cases h2:y=x
   ·rw [za (c:=y∈x::r∨ng y∈x::r) (.inl (h2 ▸ xm ..)),jc,jc]
    split
    ·rfl
    ·split
     ·rfl
     ·rename_i h3 h4
      exact qdm (by have:¬ x<v.length:=fun h=>h4 ⟨h2,h⟩;omega)
   ·by_cases h3:y=ng x
    ·rw [za (c:=y∈x::r∨ng y∈x::r) (.inr (by rw [h3,qeb];exact xm ..)),jc,jc]
     split
     ·rfl
     ·rename_i h4
      rw [ze (fun h=>h2 h.1)]
      exact qdm (by have:¬ ng x<(v.set x 0).length:=fun h=>h4 ⟨h3,h⟩;rw [xd] at this;omega)
    ·rw [ze (c:=y∈x::r∨ng y∈x::r),jc,jc,ze (fun h=>h3 h.1),ze (fun h=>h2 h.1)]
     rintro (h|h)
     ·rcases List.mem_cons.1 h with h|h
      ·exact h2 h
      ·exact h1 (.inl h)
     ·rcases List.mem_cons.1 h with h|h
      ·exact h3 (by rw [← h,qeb])
      ·exact h1 (.inr h)
theorem qwu (q:Nat):∀ (l:List Nat) (v:List Int),(∀ x∈l,x / 2≠q)→(qbv v l).getD q 0=v.getD q 0
 | [],v,_=>rfl
 | x::r,v,h=>by
  show (qbv (v.set (x / 2) (-1)) r).getD q 0=_
  rw [qwu q r _ (fun y hy=>h y (xg _ hy)),jc,ze (fun h'=>h x (xm ..) h'.1.symm)]
theorem qmq:∀ (l:List Nat) (v:List Int),(qcd v l).length=v.length
 | [],_=>rfl
 | x::l,v=>by unfold qcd;rw [qmq l];simp
theorem qql:∀ (l:List Nat) (v:List Int),(qbv v l).length=v.length
 | [],_=>rfl
 | x::l,v=>by unfold qbv;rw [qql l];simp
theorem qmr (n y:Nat):vl (k.undo n) y=if y∈k.trail.drop n∨ng y∈k.trail.drop n then 0 else vl k y:=qwt y _ _
theorem VInv.two (hv:VInv k) {y:Nat} (h1:y∈k.trail) (h2:ng y∈k.trail):False:=by
 have a:=(hv.tv _).1 h1
 have c:=(hv.tv _).1 h2
 have:=hv.anti y a.1
 omega
theorem VInv.undo (hv:VInv k) (n:Nat):VInv (k.undo n):=by
 have hl:(k.undo n).val.length=k.val.length:=qmq _ _
 refine ⟨by rw [hl];show _=2 * (qbv _ _).length;rw [qql];exact hv.vr,fun y hy=>?_,fun y=>?_,fun y=>?_,hv.nd.sublist (List.take_sublist _ _)⟩
 ·rw [hl] at hy
  rw [qmr,qmr,qeb]
  by_cases h1:y∈k.trail.drop n∨ng y∈k.trail.drop n
  ·rw [za h1,za h1.symm];rfl
  ·rw [ze h1,ze (fun h=>h1 h.symm)];exact hv.anti y hy
 ·rw [qmr]
  split
  ·exact .inl rfl
  ·exact hv.tri y
 ·rw [hl,qmr]
  show y∈k.trail.take n↔_
  have hmem:∀ z,z∈k.trail↔z∈k.trail.take n∨z∈k.trail.drop n:=fun z=>by rw [← xt,List.take_append_drop]
  constructor
  ·intro h1
   have h2:y∈k.trail:=(hmem y).2 (.inl h1)
   have h3:=(hv.tv y).1 h2
   refine ⟨h3.1,?_⟩
   rw [ze]
   ·exact h3.2
   ·rintro (h4|h4)
    ·have hnd:=hv.nd
     rw [← List.take_append_drop n k.trail,zap] at hnd
     exact hnd.2.2 y h1 y h4 rfl
    ·exact hv.two h2 ((hmem _).2 (.inr h4))
  ·rintro ⟨h1,h2⟩
   split at h2
   ·omega
   ·rename_i h3
    exact ((hmem y).1 ((hv.tv y).2 ⟨h1,h2⟩)).resolve_right (fun h=>h3 (.inl h))
theorem Kin.undo (n:Nat):Kin k (k.undo n):=⟨qmq _ _,qql _ _,rfl,rfl,rfl,rfl,rfl,rfl,rfl,fun _=>.refl _⟩
theorem PInv.undo (hp:PInv k) {n:Nat} (hn:n≤k.trail.length):PInv (k.undo n):=by
 have hl:(k.undo n).val.length=k.val.length:=qmq _ _
 refine ⟨hp.v.undo n,⟨fun m x hx=>by rw [hl];exact hp.c.c m x hx,hp.c.d,hp.c.m,hp.c.n,by rw [hl];exact hp.c.v,by rw [hl];exact hp.c.w,hp.c.g⟩,fun y m hm=>⟨(hp.w y m hm).b,(hp.w y m hm).l,(hp.w y m hm).w⟩,hp.nd,?_⟩
 show n≤(k.trail.take n).length
 rw [zu];omega
theorem J0.undo (hJ:J0 b so k):J0 b [] (k.undo b)∧Done (k.undo b) b∧(k.undo b).head=b∧(k.undo b).trail.length=b:=by
 have hb:=hJ.hb
 have htl:(k.undo b).trail.length=b:=by
  show (k.trail.take b).length=b
  rw [zu];omega
 have htt:∀ q,q≤b→(k.undo b).trail.take q=k.trail.take q:=fun q hq=>by
  show (k.trail.take b).take q=_
  rw [List.take_take,Nat.min_eq_left hq]
 refine ⟨⟨hJ.p.undo hb,by rw [htl];exact zj _,hJ.w2,fun n ha hl w o hp ht=>?_,fun p hp=>?_,hJ.nt⟩,fun n ha hl w o hp ht=>?_,rfl,htl⟩
 ·rw [htt b (zj _)] at ht ⊢
  exact hJ.q2 n ha hl w o hp ht
 ·rw [htl] at hp
  have hg:(k.undo b).trail.getD p 0=k.trail.getD p 0:=by
   show (k.trail.take b).getD p 0=_
   rw [zd,zd,xc,za hp]
  have hr:=hJ.r p (by omega)
  rw [za hp] at hr ⊢
  unfold why at hr ⊢
  rw [hg,htt p (by omega)]
  have hrea:(k.undo b).rea.getD (k.trail.getD p 0 / 2) 0=k.rea.getD (k.trail.getD p 0 / 2) 0:=by
   refine qwu _ _ _ fun y hy e=>?_
   have hm:=qj (l:=k.trail) (d:=0) (show p<k.trail.length by omega)
   have hym:y∈k.trail:=List.mem_of_mem_drop hy
   rcases qpv e with e1|e1
   ·have h1:k.trail.getD p 0∈k.trail.take b:=by
     rw [← hg]
     exact qj (l:=k.trail.take b) (by rw [zu];omega)
    have hnd:=hJ.p.v.nd
    rw [← List.take_append_drop b k.trail,zap] at hnd
    exact hnd.2.2 _ h1 _ hy e1.symm
   ·exact hJ.p.v.two hm (e1 ▸ hym)
  rw [hrea]
  exact hr
 ·rw [htt b (zj _)] at ht
  exact hJ.q2 n ha hl w o hp ht
theorem J0.put (hJ:J0 b so k) {y:Nat} {r:Int} (hy:y<k.val.length) (h0:vl k y=0)
  (hw:y∈(if k.trail.length<b then [] else so)∨∃ n:Nat,r=(n:Int)∧act k n∧y∈lit k n∧∀ m∈lit k n,m≠y→ng m∈k.trail):J0 b so (k.set y r):=by
 have hS:Same k (k.set y r):=.set
 have hlen:(k.set y r).val.length=k.val.length:=by simp [K.set]
 have htl:(k.set y r).trail.length=k.trail.length+1:=by simp [K.set]
 refine ⟨⟨hJ.p.v.set hy h0,⟨fun n x hx=>by rw [hlen];exact hJ.p.c.c n x hx,hJ.p.c.d,hJ.p.c.m,hJ.p.c.n,by rw [hlen];exact hJ.p.c.v,by rw [hlen];exact hJ.p.c.w,hJ.p.c.g⟩,fun z m hm=>⟨(hJ.p.w z m hm).b,(hJ.p.w z m hm).l,(hJ.p.w z m hm).w⟩,hJ.p.nd,?_⟩,by have:=hJ.hb;omega,hJ.w2,fun m hm h2 w o h3 h4=>?_,fun p hp=>?_,hJ.nt⟩
 ·rw [htl];have:=hJ.p.hd;show k.head≤_;omega
 ·rw [qdn hS hJ.hb] at h4 ⊢
  exact hJ.q2 m hm h2 w o h3 h4
 ·by_cases hpl:p<k.trail.length
  ·refine qmm hS hpl ?_ (hJ.r p hpl)
   show (k.rea.set (y / 2) r).getD _ 0=_
   rw [jc,ze]
   rintro ⟨e,_⟩
   have hm:=qj (l:=k.trail) (d:=0) hpl
   have hv:=((hJ.p.v.tv _).1 hm).2
   rcases qpv e with e|e
   ·rw [e,h0] at hv;omega
   ·rw [e,hJ.p.v.anti y hy,h0] at hv;omega
  ·obtain rfl:p=k.trail.length:=by omega
   have e:(k.set y r).trail.getD k.trail.length 0=y:=by
    show (k.trail++[y]).getD _ 0=_
    rw [zd,zl (zj _),zad];rfl
   unfold why
   rw [e,qdn hS (zj _),xi]
   rcases hw with hw|⟨n,rfl,h1,h2,h3⟩
   ·exact .inl hw
   ·refine .inr ⟨n,?_,h1,h2,h3⟩
    show (k.rea.set (y / 2) _).getD _ 0=_
    rw [jc,za ⟨rfl,by have:=hJ.p.v.vr;omega⟩]
theorem Done.put {y:Nat} {r:Int} (hh:h≤k.trail.length) (hD:Done k h):Done (k.set y r) h:=fun n ha hl w o hp ht=>by
 have hS:Same k (k.set y r):=.set
 rw [qdn hS hh] at ht
 exact qcn hS (hD n ha hl w o hp ht)
end Go.Ru
