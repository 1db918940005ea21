/- A clause joins the checker's clauses: all that holds still holds. Plain. -/
import Derived.Test.YtkhdldncbmkidaaY4RuU
import Derived.Test.YtkhdldncbmkidaaY42
set_option linter.unusedSimpArgs false
set_option linter.unusedVariables false
namespace Go.Ru
variable {b h i x:Nat} {so list kept c:List Nat} {k k':K}
theorem More.cnt (hM:More k c k') (hg:k.gone.length=k.lits.length):cnt0 k'=cnt0 k+if c=[] then 1 else 0:=by
 unfold cnt0
 rw [hM.ll,List.range_succ,List.filter_append,zj]
 congr 1
 ·congr 1
  refine List.filter_congr fun m hm=>?_
  have hm:=List.mem_range.1 hm
  rw [hM.go,hM.lo m (by omega)]
 ·have h1:k'.gone.getD k.lits.length false=false:=by rw [hM.go,xc,zw (by omega)];rfl
  have h2:(lit k' k.lits.length).isEmpty=decide (c=[]):=by
   have:=hM.ln
   cases hc:c with
   | nil=>rw [hc] at this;rw [this.eq_nil];rfl
   | cons a r=>
    rw [hc] at this
    cases hl:lit k' k.lits.length with
    | nil=>rw [hl] at this;have:=this.length_eq;simp at this
    | cons a' r'=>rfl
  rw [List.filter_cons,List.filter_nil,h1,h2]
  by_cases hc:c=[]
  ·simp [hc]
  ·simp [hc]
theorem qme (hs:Sta k):J0 0 k.trail k:=
 ⟨hs.p,xa _,hs.w2,fun n ha hl w o hp ht=>(by cases ht),fun p hp=>by rw [ze (by omega)];exact .inl (qg hp),hs.nt⟩
theorem qmf (hM:More k c k') (hH:Hung k c k') (hF:Fit k c) (hs:Sta k) (hu:k'.units=if (lit k' k.lits.length).length=1∧¬ (∃ z∈c,ng z∈c) then k.units++[k.lits.length] else k.units) (he:k'.empty=k.empty+if c=[] then 1 else 0):Sta k':=by
 have hg:=hs.p.c.g
 have hJ:=qiy hM hH hF (qme hs)
 have hnu:k.lits.length ∉ k.units:=fun hm=>by have:=(hs.us _ hm).1;omega
 refine ⟨hJ.p,hJ.w2,hJ.nt,fun n hn=>?_,?_,fun n ha hl=>?_,?_⟩
 ·rw [hu] at hn
  have hold:n∈k.units→n<k'.lits.length∧(lit k' n).length=1:=fun h=>by
   have:=hs.us n h
   exact ⟨by rw [hM.ll];omega,by rw [hM.lo n (by omega)];exact this.2⟩
  split at hn
  ·rename_i h1
   rcases List.mem_append.1 hn with h|h
   ·exact hold h
   ·rw [zk] at h
    subst h
    exact ⟨by rw [hM.ll];omega,h1.1⟩
  ·exact hold hn
 ·rw [hu]
  split
  ·rw [zan]
   refine ⟨hs.un,by simp,fun a ha b hb e=>?_⟩
   rw [zk] at hb
   subst hb e
   exact hnu ha
  ·exact hs.un
 ·rw [hu]
  by_cases e:n=k.lits.length
  ·subst e
   rw [za ⟨hl,(hM.new hg).1 ha⟩]
   simp
  ·have h1:=hs.ua n ((hM.old e).1 ha) (by rw [← hM.lo n e];exact hl)
   split
   ·exact xy _ h1
   ·exact h1
 ·rw [he,hM.cnt hg,hs.em]
  split <;> simp
theorem jgf (hM:More k c k') (hD:Done k h) (hn:act k' k.lits.length→2≤(lit k' k.lits.length).length→∀ w o,pr k' k.lits.length w o→ng w∈k.trail.take h→o∈k.trail):Done k' h:=fun n ha hl w o hp ht=>by
 rw [hM.tr] at ht ⊢
 by_cases e:n=k.lits.length
 ·subst e;exact hn ha hl w o hp ht
 ·rw [hM.lo n e] at hl
  exact hD n ((hM.old e).1 ha) hl w o (by unfold pr at hp ⊢;rw [hM.lo n e] at hp;exact hp) ht
theorem qpv (hM:More k c k') (hJ:J0 0 [] k') (hB:Base k) (hn:act k' k.lits.length→2≤(lit k' k.lits.length).length→∀ w o,pr k' k.lits.length w o→ng w∈k.trail→o∈k.trail)
  (hu:act k' k.lits.length→(lit k' k.lits.length).length=1→(lit k' k.lits.length).getD 0 0∈k.trail):Base k':=by
 have hD:Done k' k'.trail.length:=by
  rw [hM.tr]
  exact jgf hM hB.d fun ha hl w o hp ht=>hn ha hl w o hp (zac ht)
 refine ⟨hJ.raise hD,hD,by rw [hM.hd,hM.tr];exact hB.h,fun n ha hl=>?_⟩
 rw [hM.tr]
 by_cases e:n=k.lits.length
 ·subst e;exact hu ha hl
 ·rw [hM.lo n e] at hl ⊢
  exact hB.u n ((hM.old e).1 ha) hl
theorem J0.low (hJ:J0 b [] k):J0 0 [] k:=⟨hJ.p,xa _,hJ.w2,fun n ha hl w o hp ht=>(by cases ht),fun p hp=>by rw [ze (by omega)];exact hJ.rs p hp,hJ.nt⟩
structure Laid (k:K) (c:List Nat) (k':K):Prop where
 M:More k c k'
 H:Hung k c k'
 S:Sta k'
 l:c≠[]
 a:¬ ∃ z∈c,ng z∈c
 p0:vl k' ((lit k' k.lits.length).getD 0 0)<0→∀ m∈lit k' k.lits.length,vl k' m<0
 p1:((lit k' k.lits.length).length=1∨vl k' ((lit k' k.lits.length).getD 1 0)<0)→∀ m∈lit k' k.lits.length,m≠(lit k' k.lits.length).getD 0 0→vl k' m<0
theorem laid (hI:Inv k) (hF:Fit k c) (hc:c≠[]) (ha:¬ ∃ z∈c,ng z∈c):Laid k c ((k.push c).lay k.lits.length):=by
 have hL:lit (k.push c) k.lits.length=c:=(qen _).trans (za rfl)
 have hJ:=qme hI.s
 have h0:c.length≠0:=fun e=>hc (zz e)
 unfold K.lay
 rw [hL,ze h0]
 by_cases h1:c.length=1
 ·rw [za h1]
  have hM:More k c ({ k.push c with units:=(k.push c).units++[k.lits.length] }:K):=by
   have:=qmd (k:=k) (c:=c)
   exact ⟨this.ll,this.gl,this.go,this.lo,this.ln,this.wl,rfl,rfl,rfl,rfl,rfl,rfl⟩
  have hH:Hung k c ({ k.push c with units:=(k.push c).units++[k.lits.length] }:K):=by
   have:=qpt (k:=k) (c:=c) hJ (.inr (by omega))
   exact ⟨this.w,this.nd,this.o,this.n⟩
  have hL':lit ({ k.push c with units:=(k.push c).units++[k.lits.length] }:K) k.lits.length=c:=hL
  refine ⟨hM,hH,qmf hM hH hF hI.s (by rw [hL',za ⟨h1,ha⟩];rfl) (by rw [ze hc];exact (Int.add_zero _).symm),hc,ha,fun h m hm=>?_,fun _ m hm hne=>?_⟩
  ·rw [hL'] at h hm
   obtain ⟨j,hj,rfl⟩:=qbb 0 hm
   obtain rfl:j=0:=by omega
   exact h
  ·rw [hL'] at hm hne
   obtain ⟨j,hj,rfl⟩:=qbb 0 hm
   obtain rfl:j=0:=by omega
   exact absurd rfl hne
 ·rw [ze h1]
  have hl:2≤c.length:=by omega
  have hM:=jgd (k:=k) hl
  have hH:=jge hJ hF hl ha
  have hL':lit ((k.push c).hang k.lits.length) k.lits.length=qae k.val c:=by rw [qpu];exact (qen _).trans (za rfl)
  have hv:∀ x,vl ((k.push c).hang k.lits.length) x=k.val.getD x 0:=fun x=>rfl
  have hpl:=(qmb k.val c).length_eq
  refine ⟨hM,hH,qmf hM hH hF hI.s (by rw [hL',ze (by omega)];rfl) (by rw [ze hc];exact (Int.add_zero _).symm),hc,ha,fun h m hm=>?_,fun h m hm hne=>?_⟩
  ·rw [hL',hv] at h
   rw [hL'] at hm
   rw [hv]
   obtain ⟨j,hj,rfl⟩:=qbb 0 hm
   exact jfz k.val c h j (by omega)
  ·rw [hL',hv] at h
   rw [hL'] at hm hne
   rw [hv]
   obtain ⟨j,hj,rfl⟩:=qbb 0 hm
   have hj0:j≠0:=fun e=>by subst e;exact hne rfl
   exact jga k.val c (h.resolve_left (by omega)) j (by omega) (by omega)
theorem jgg (hI:Inv k) (hF:Fit k c) (hL:Laid k c k'):Inv (k'.tell k.lits.length)∧Kin k' (k'.tell k.lits.length):=by
 have hM:=hL.M
 have hg:=hI.s.p.c.g
 have hact:act k' k.lits.length:=(hM.new hg).2 hL.a
 unfold K.tell
 by_cases h1:k'.stale=true∨k'.broken=true
 ·rw [za h1]
  refine ⟨⟨hL.S,fun a b=>?_,fun a b=>?_⟩,.refl _⟩
  ·rw [a,b] at h1;rcases h1 with h1|h1 <;> cases h1
  ·rw [hM.sl] at a
   rw [hM.br] at b
   exact hM.cl (hI.x a b)
 ·rw [ze h1]
  have hst:k.stale=false:=by cases hs:k.stale with|false=>rfl|true=>exact absurd (.inl (hM.sl.trans hs)) h1
  have hbr:k.broken=false:=by cases hs:k.broken with|false=>rfl|true=>exact absurd (.inr (hM.br.trans hs)) h1
  have hB:=hI.b hst hbr
  have hJ:J0 0 [] k':=qiy hM hL.H hF hB.j.low
  have hl1:1≤(lit k' k.lits.length).length:=by
   rw [hM.ln.length_eq]
   have:=hL.l
   cases c with
   | nil=>exact absurd rfl this
   | cons a r=>simp
  have hm0:(lit k' k.lits.length).getD 0 0∈lit k' k.lits.length:=qg (by omega)
  have hlz:=hJ.p.c.c _ _ hm0
  have hneg:∀ m∈lit k' k.lits.length,vl k' m<0→ng m∈k'.trail:=fun m hm h=>by
   refine (hJ.p.v.fls (hJ.p.c.c _ m hm)).1 ?_
   rcases hJ.p.v.tri m with e|e|e <;> omega
  by_cases h2:vl k' ((lit k' k.lits.length).getD 0 0)<0
  ·rw [za h2]
   have hbad:Bad ng (cl k') []:=.inr ⟨_,mem_cl.2 ⟨_,hact,rfl⟩,fun m hm=>qlv hJ.rs (hneg m hm (hL.p0 h2 m hm))⟩
   have hK:Kin k' ({ k' with broken:=true }:K):=⟨rfl,rfl,rfl,rfl,rfl,rfl,rfl,rfl,rfl,fun _=>.refl _⟩
   refine ⟨⟨hL.S.kin hK (hJ.cong rfl rfl rfl rfl rfl rfl rfl) rfl,fun _ h=>(by cases h),fun _ _=>hK.bad.2 hbad⟩,hK⟩
  ·rw [ze h2]
   by_cases h3:vl k' ((lit k' k.lits.length).getD 0 0)=0∧((lit k' k.lits.length).length=1∨vl k' ((lit k' k.lits.length).getD 1 0)<0)
   ·rw [za h3]
    have hput:=hJ.put (r:=((k.lits.length:Nat):Int)) hlz h3.1 (.inr ⟨_,rfl,hact,hm0,fun m hm hne=>hneg m hm (hL.p1 h3.2 m hm hne)⟩)
    have hS:Same k' (k'.set ((lit k' k.lits.length).getD 0 0) ((k.lits.length:Nat):Int)):=.set
    have hhd:(k'.set ((lit k' k.lits.length).getD 0 0) ((k.lits.length:Nat):Int)).head=k'.trail.length:=by
     show k'.head=_
     rw [hM.hd,hM.tr];exact hB.h
    have hl0t:(lit k' k.lits.length).getD 0 0∈(k'.set ((lit k' k.lits.length).getD 0 0) ((k.lits.length:Nat):Int)).trail:=by
     show _∈k'.trail++[_]
     simp
    have hD:Done (k'.set ((lit k' k.lits.length).getD 0 0) ((k.lits.length:Nat):Int)) (k'.set ((lit k' k.lits.length).getD 0 0) ((k.lits.length:Nat):Int)).head:=by
     rw [hhd]
     intro n ha hl w o hp ht
     rw [qdf hS (zi _),xi] at ht
     by_cases e:n=k.lits.length
     ·subst e
      rcases hp with ⟨e1,e2⟩|⟨e1,e2⟩
      ·exfalso
       have:=(hJ.p.v.fls hlz).2 (e1 ▸ ht)
       omega
      ·rw [← e1];exact hl0t
     ·refine qcc hS ?_
      rw [hM.tr] at ht ⊢
      have hl':lit (k'.set ((lit k' k.lits.length).getD 0 0) ((k.lits.length:Nat):Int)) n=lit k n:=hM.lo n e
      refine hB.d n ((hM.old e).1 ha) (by rw [← hl'];exact hl) w o ?_ (by rw [xi];exact ht)
      unfold pr at hp ⊢
      rw [hl'] at hp
      exact hp
    have hP:=qlw hput hD
    generalize hset:k'.set ((lit k' k.lits.length).getD 0 0) ((k.lits.length:Nat):Int)=k2 at hput hS hhd hl0t hD hP ⊢
    generalize k2.prop=p at hP ⊢
    obtain ⟨p1,p2⟩:=p
    obtain ⟨g1,g2,g3,g4⟩:=hP
    simp only at g1 g2 g3 g4 ⊢
    have hSS:=hS.trans g1
    have hK:Kin k' ({ p1 with broken:=!p2 }:K):=by
     have:=hSS.kin
     exact ⟨this.vl,this.rl,this.ll,this.wl,this.go,this.ks,this.pm,this.pe,this.em,this.li⟩
    have hJ2:J0 0 [] ({ p1 with broken:=!p2 }:K):=g2.cong rfl rfl rfl rfl rfl rfl rfl
    refine ⟨⟨hL.S.kin hK hJ2 hSS.un,fun _ hb=>?_,fun _ hb=>?_⟩,hK⟩
    ·have hp2:p2=true:=by cases p2 with|true=>rfl|false=>cases hb
     obtain ⟨d1,d2⟩:=g3 hp2
     have hD2:Done ({ p1 with broken:=!p2 }:K) p1.trail.length:=by rw [← d2];exact d1.cong rfl rfl rfl
     refine ⟨hJ2.raise hD2,hD2,d2,fun n ha hl=>?_⟩
     have ha':=(hK.act n).1 ha
     have hl':(lit k' n).length=1:=by rw [← (hK.li n).length_eq];exact hl
     rw [hK.units hl]
     by_cases e:n=k.lits.length
     ·subst e
      exact qcc g1 hl0t
     ·refine qcc hSS ?_
      rw [hM.tr]
      rw [hM.lo n e] at hl' ⊢
      exact hB.u n ((hM.old e).1 ha') hl'
    ·have hp2:p2=false:=by cases p2 with|false=>rfl|true=>cases hb
     exact hK.bad.2 (hS.bad.1 (g4 hp2))
   ·rw [ze h3]
    refine ⟨⟨hL.S,fun _ _=>qpv hM hJ hB (fun _ hl w o hp ht=>?_) (fun _ hl=>?_),fun _ b=>?_⟩,.refl _⟩
    ·rw [← hM.tr] at ht ⊢
     have hm1:(lit k' k.lits.length).getD 1 0∈lit k' k.lits.length:=qg (by omega)
     have hl1z:=hJ.p.c.c _ _ hm1
     rcases hp with ⟨e1,e2⟩|⟨e1,e2⟩
     ·exfalso
      have:=(hJ.p.v.fls hlz).2 (e1 ▸ ht)
      omega
     ·have h5:=(hJ.p.v.fls hl1z).2 (e2 ▸ ht)
      rw [← e1]
      refine (hJ.p.v.tru hlz).1 ?_
      have h6:¬ vl k' ((lit k' k.lits.length).getD 0 0)=0:=fun h=>h3 ⟨h,.inr (by omega)⟩
      rcases hJ.p.v.tri ((lit k' k.lits.length).getD 0 0) with e|e|e <;> omega
    ·rw [← hM.tr]
     refine (hJ.p.v.tru hlz).1 ?_
     have h6:¬ vl k' ((lit k' k.lits.length).getD 0 0)=0:=fun h=>h3 ⟨h,.inl hl⟩
     rcases hJ.p.v.tri ((lit k' k.lits.length).getD 0 0) with e|e|e <;> omega
    ·rw [hM.br,hbr] at b;cases b
structure Adds (k:K) (c:List Nat) (k':K):Prop where
 ll:k'.lits.length=k.lits.length+1
 go:∀ m,k'.gone.getD m false=k.gone.getD m false
 lo:∀ m,m≠k.lits.length→(lit k' m).Perm (lit k m)
 ln:(lit k' k.lits.length).Perm c
 vl:k'.val.length=k.val.length
 ks:k'.keys=k.keys
 pm:k'.pm=k.pm
 pe:k'.pe=k.pe
theorem lay_keys {n:Nat}:(k.lay n).keys=k.keys∧(k.lay n).pm=k.pm∧(k.lay n).pe=k.pe:=by
 unfold K.lay
 split
 ·exact ⟨rfl,rfl,rfl⟩
 ·split <;> exact ⟨rfl,rfl,rfl⟩
theorem jgh (hI:Inv k) (hF:Fit k c) {idle:Bool} (hi:idle=true↔∃ z∈c,ng z∈c):Inv (k.adds c idle)∧Adds k c (k.adds c idle):=by
 have hL:lit (k.push c) k.lits.length=c:=(qen _).trans (za rfl)
 have hJ:=qme hI.s
 have hg:=hI.s.p.c.g
 unfold K.adds
 by_cases h1:idle=true
 ·rw [za h1]
  have ht:=hi.1 h1
  have hc:c≠[]:=fun e=>by obtain ⟨z,hz,_⟩:=ht;rw [e] at hz;cases hz
  have hM:=qmd (k:=k) (c:=c)
  have hH:=qpt (k:=k) hJ (.inl ht)
  have hna:¬ act (k.push c) k.lits.length:=fun h=>(hM.new hg).1 h ht
  refine ⟨⟨qmf hM hH hF hI.s (by rw [ze (fun h=>h.2 ht)];rfl) (by rw [ze hc];exact (Int.add_zero _).symm),fun a b=>?_,fun a b=>hM.cl (hI.x a b)⟩,⟨hM.ll,hM.go,fun m hm=>.of_eq (hM.lo m hm),hM.ln,rfl,rfl,rfl,rfl⟩⟩
  have hB:=hI.b a b
  exact qpv hM (qiy hM hH hF hB.j.low) hB (fun ha=>absurd ha hna) (fun ha=>absurd ha hna)
 ·rw [ze h1]
  have hnt:¬ ∃ z∈c,ng z∈c:=fun h=>h1 (hi.2 h)
  by_cases h0:c.length=0
  ·rw [za h0]
   obtain rfl:=zz h0
   unfold K.lay
   rw [hL,za (c:=([]:List Nat).length=0) rfl]
   have hM:More k [] ({ k.push [] with empty:=(k.push []).empty+1 }:K):=by
    have:=qmd (k:=k) (c:=[])
    exact ⟨this.ll,this.gl,this.go,this.lo,this.ln,this.wl,rfl,rfl,rfl,rfl,rfl,rfl⟩
   have hH:Hung k [] ({ k.push [] with empty:=(k.push []).empty+1 }:K):=by
    have:=qpt (k:=k) (c:=[]) hJ (.inr (by simp))
    exact ⟨this.w,this.nd,this.o,this.n⟩
   have hL':lit ({ k.push [] with empty:=(k.push []).empty+1 }:K) k.lits.length=[]:=hL
   refine ⟨⟨qmf hM hH hF hI.s (by rw [hL',ze (by simp)];rfl) (by rw [za rfl];rfl),fun a b=>?_,fun a b=>hM.cl (hI.x a b)⟩,⟨hM.ll,hM.go,fun m hm=>.of_eq (hM.lo m hm),hM.ln,rfl,rfl,rfl,rfl⟩⟩
   have hB:=hI.b a b
   exact qpv hM (qiy hM hH hF hB.j.low) hB (fun _ hl=>by rw [hL'] at hl;simp at hl) (fun _ hl=>by rw [hL'] at hl;simp at hl)
  ·rw [ze h0]
   have hLd:=laid hI hF (fun e=>h0 (by rw [e];rfl)) hnt
   obtain ⟨hI',hK⟩:=jgg hI hF hLd
   have hM:=hLd.M
   exact ⟨hI',⟨hK.ll.trans hM.ll,fun m=>by rw [hK.go];exact hM.go m,fun m hm=>(hK.li m).trans (.of_eq (hM.lo m hm)),(hK.li _).trans hM.ln,by rw [hK.vl,hM.va],hK.ks.trans lay_keys.1,hK.pm.trans lay_keys.2.1,hK.pe.trans lay_keys.2.2⟩⟩
end Go.Ru
