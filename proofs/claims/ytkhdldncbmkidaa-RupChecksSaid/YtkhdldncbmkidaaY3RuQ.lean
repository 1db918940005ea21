/- The checker's refresh and its answer, plainly. -/
import Derived.Test.YtkhdldncbmkidaaY3RuP
import Derived.Test.YtkhdldncbmkidaaY32
set_option linter.unusedSimpArgs false
set_option linter.unusedVariables false
namespace Go.Ru
variable {b h i x:Nat} {so list kept:List Nat} {k:K}
theorem J0.cong {k':K} (h:J0 b so k) (e1:k'.lits=k.lits) (e2:k'.gone=k.gone) (e3:k'.watch=k.watch) (e4:k'.val=k.val) (e5:k'.rea=k.rea) (e6:k'.trail=k.trail) (e7:k'.head=k.head):J0 b so k':=by
 cases k
 cases k'
 dsimp only at e1 e2 e3 e4 e5 e6 e7
 subst e1 e2 e3 e4 e5 e6 e7
 exact ⟨⟨⟨h.p.v.vr,h.p.v.anti,h.p.v.tri,h.p.v.tv,h.p.v.nd⟩,⟨h.p.c.c,h.p.c.d,h.p.c.m,h.p.c.n,h.p.c.v,h.p.c.w,h.p.c.g⟩,fun y n hn=>⟨(h.p.w y n hn).b,(h.p.w y n hn).l,(h.p.w y n hn).w⟩,h.p.nd,h.p.hd⟩,h.hb,h.w2,h.q2,h.r,h.nt⟩
theorem Done.cong {k':K} (hD:Done k h) (e1:k'.lits=k.lits) (e2:k'.gone=k.gone) (e6:k'.trail=k.trail):Done k' h:=by
 cases k
 cases k'
 dsimp only at e1 e2 e6
 subst e1 e2 e6
 exact hD
theorem J0.raise (hJ:J0 b [] k) (hD:Done k k.trail.length):J0 k.trail.length [] k:=
 ⟨hJ.p,zj _,hJ.w2,fun n ha hl w o hp ht=>by rw [xi];exact hD n ha hl w o hp ht,fun p hp=>by rw [za hp];exact hJ.rs p hp,hJ.nt⟩
def cnt0 (k:K):Nat:=((List.range k.lits.length).filter fun n=>!(k.gone.getD n false) && (lit k n).isEmpty).length
structure Sta (k:K):Prop where
 p:PInv k
 w2:∀ n,act k n→2≤(lit k n).length→∀ w o,pr k n w o→n∈k.watch.getD w []
 nt:∀ y,∀ n∈k.watch.getD y [],¬ ∃ z∈lit k n,ng z∈lit k n
 us:∀ n∈k.units,n<k.lits.length∧(lit k n).length=1
 un:k.units.Nodup
 ua:∀ n,act k n→(lit k n).length=1→n∈k.units
 em:k.empty=cnt0 k
theorem Kin.cnt {k k':K} (hS:Kin k k'):cnt0 k'=cnt0 k:=by
 unfold cnt0
 rw [hS.ll,hS.go]
 congr 2
 funext n
 congr 1
 have:=(hS.li n).length_eq
 cases h1:lit k' n <;> cases h2:lit k n <;> simp [h1,h2] at this ⊢
theorem Sta.kin {k':K} (hs:Sta k) (hK:Kin k k') (hJ:J0 b so k') (hu:k'.units=k.units):Sta k':=
 ⟨hJ.p,hJ.w2,hJ.nt,fun n hn=>by rw [hu] at hn;rw [hK.ll,(hK.li n).length_eq];exact hs.us n hn,by rw [hu];exact hs.un,fun n ha hl=>by rw [hu];exact hs.ua n ((hK.act n).1 ha) (by rw [← (hK.li n).length_eq];exact hl),by rw [hK.em,hK.cnt];exact hs.em⟩
structure Base (k:K):Prop where
 j:J0 k.trail.length [] k
 d:Done k k.trail.length
 h:k.head=k.trail.length
 u:∀ n,act k n→(lit k n).length=1→(lit k n).getD 0 0∈k.trail
structure Inv (k:K):Prop where
 s:Sta k
 b:k.stale=false→k.broken=false→Base k
 x:k.stale=false→k.broken=true→Bad ng (cl k) []
theorem jhi (hJ:J0 b so k) {n:Nat} (ha:act k n) (hl:(lit k n).length=1) (hf:vl k ((lit k n).getD 0 0)<0):Bad ng (cl k) so:=by
 have hm0:(lit k n).getD 0 0∈lit k n:=qj (by omega)
 have hc:=hJ.p.c.c n _ hm0
 refine .inr ⟨lit k n,mem_cl.2 ⟨n,ha,rfl⟩,fun m hm=>qmn hJ.rs ((hJ.p.v.fls (hJ.p.c.c n m hm)).1 ?_)⟩
 obtain ⟨j,hj,rfl⟩:=qal 0 hm
 obtain rfl:j=0:=by omega
 rcases hJ.p.v.tri ((lit k n).getD 0 0) with e|e|e <;> omega
theorem jhj {n:Nat} (hl:(lit k n).length=1):¬ ∃ z∈lit k n,ng z∈lit k n:=by
 rintro ⟨z,h1,h2⟩
 obtain ⟨a,ha⟩:=List.length_eq_one_iff.1 hl
 rw [ha,zk] at h1 h2
 exact qja z (h2.trans h1.symm)
structure UnitsJ (us:List Nat) (k:K) (acc:List Nat) (o:K × List Nat):Prop where
 kin:Kin k o.1
 j:J0 0 [] o.1
 hd:o.1.head=k.head
 sl:o.1.stale=k.stale
 te:o.1.te=k.te
 ue:o.1.ue=k.ue
 un:o.1.units=k.units
 tr:∃ t,o.1.trail=k.trail++t
 l:o.2=acc++us.filter fun n=>!(k.gone.getD n false)
 x:o.1.broken=true→k.broken=true∨Bad ng (cl k) []
 u:o.1.broken=false→k.broken=false∧∀ n∈us,k.gone.getD n false=false→(lit k n).getD 0 0∈o.1.trail
theorem qhj:∀ (us:List Nat) (k:K) (acc:List Nat),J0 0 [] k→(∀ n∈us,n<k.lits.length∧(lit k n).length=1)→UnitsJ us k acc (ju us k acc)
 | [],k,acc,hJ,_=>⟨.refl k,hJ,rfl,rfl,rfl,rfl,rfl,⟨[],(zas _).symm⟩,(zas _).symm,.inl,fun h=>⟨h,fun n hn=>(by cases hn)⟩⟩
 | n::r,k,acc,hJ,hu=>by
  have hn:=hu n (xm ..)
  have hr:∀ m∈r,m<k.lits.length∧(lit k m).length=1:=fun m hm=>hu m (xg _ hm)
  unfold ju
  by_cases hg:k.gone.getD n false=true
  ·rw [za hg]
   have ih:=qhj r k acc hJ hr
   exact { ih with
    l:=by rw [ih.l,List.filter_cons_of_neg (by rw [hg];simp)]
    u:=fun h=>⟨(ih.u h).1,fun m hm hgm=>by
     rcases List.mem_cons.1 hm with rfl|hm
     ·rw [hg] at hgm;cases hgm
     ·exact (ih.u h).2 m hm hgm⟩ }
  ·rw [ze hg]
   rw [zbf] at hg
   have ha:act k n:=⟨hn.1,hg,jhj hn.2⟩
   have hm0:(lit k n).getD 0 0∈lit k n:=qj (by omega)
   have hc:=hJ.p.c.c n _ hm0
   have hfl:(n::r).filter (fun n=>!(k.gone.getD n false))=n::r.filter fun n=>!(k.gone.getD n false):=List.filter_cons_of_pos (by rw [hg];rfl)
   simp only
   by_cases h1:vl k ((lit k n).getD 0 0)<0
   ·rw [za h1]
    have hB:=jhi hJ ha hn.2 h1
    have ih:=qhj r { k with broken:=true } (acc++[n]) (hJ.cong rfl rfl rfl rfl rfl rfl rfl) hr
    exact ⟨⟨ih.kin.vl,ih.kin.rl,ih.kin.ll,ih.kin.wl,ih.kin.go,ih.kin.ks,ih.kin.pm,ih.kin.pe,ih.kin.em,ih.kin.li⟩,ih.j,ih.hd,ih.sl,ih.te,ih.ue,ih.un,ih.tr,by rw [ih.l,hfl,xe];rfl,fun _=>.inr hB,fun h=>absurd (ih.u h).1 (by simp)⟩
   ·rw [ze h1]
    by_cases h2:vl k ((lit k n).getD 0 0)=0
    ·rw [za h2]
     have hput:=hJ.put (r:=(n:Int)) hc h2 (.inr ⟨n,rfl,ha,hm0,fun m hm hne=>by
      obtain ⟨j,hj,rfl⟩:=qal 0 hm
      obtain rfl:j=0:=by omega
      exact absurd rfl hne⟩)
     have hS:Same k (k.set ((lit k n).getD 0 0) (n:Int)):=.set
     have ih:=qhj r (k.set ((lit k n).getD 0 0) (n:Int)) (acc++[n]) hput hr
     obtain ⟨t,ht⟩:=ih.tr
     have hmem:(lit k n).getD 0 0∈(ju r (k.set ((lit k n).getD 0 0) (n:Int)) (acc++[n])).1.trail:=by
      rw [ht]
      show _∈(k.trail++[_])++t
      simp
     exact ⟨hS.kin.trans ih.kin,ih.j,ih.hd,ih.sl,ih.te,ih.ue,ih.un,⟨[(lit k n).getD 0 0]++t,by rw [ht,← xe];rfl⟩,by rw [ih.l,hfl,xe];rfl,fun h=>(ih.x h).imp id hS.bad.1,fun h=>⟨(ih.u h).1,fun m hm hgm=>by
      rcases List.mem_cons.1 hm with rfl|hm
      ·exact hmem
      ·exact (ih.u h).2 m hm hgm⟩⟩
    ·rw [ze h2]
     have ih:=qhj r k (acc++[n]) hJ hr
     obtain ⟨t,ht⟩:=ih.tr
     have hv1:vl k ((lit k n).getD 0 0)=1:=by rcases hJ.p.v.tri ((lit k n).getD 0 0) with e|e|e <;> omega
     have hmem:(lit k n).getD 0 0∈(ju r k (acc++[n])).1.trail:=by
      rw [ht]
      exact xy _ ((hJ.p.v.tru hc).1 hv1)
     exact { ih with
      l:=by rw [ih.l,hfl,xe];rfl
      u:=fun h=>⟨(ih.u h).1,fun m hm hgm=>by
       rcases List.mem_cons.1 hm with rfl|hm
       ·exact hmem
       ·exact (ih.u h).2 m hm hgm⟩ }
theorem Sta.undo0 (hs:Sta k):J0 0 [] (k.undo 0):=
 ⟨hs.p.undo (zv _),zv _,hs.w2,fun n ha hl w o hp ht=>(by cases ht),fun p hp=>(by cases hp),hs.nt⟩
theorem qwv:Done k 0:=fun n ha hl w o hp ht=>(by cases ht)
theorem qww (hI:Inv k):Kin k k.refresh∧Inv k.refresh∧k.refresh.stale=false:=by
 unfold K.refresh
 cases hst:k.stale with
 | false=>exact ⟨.refl k,hI,hst⟩
 | true=>
  rw [za rfl]
  have hJ0:J0 0 [] k.zero:=hI.s.undo0.cong rfl rfl rfl rfl rfl rfl rfl
  have hK0:Kin k k.zero:=by
   have:=Kin.undo (k:=k) 0
   exact ⟨this.vl,this.rl,this.ll,this.wl,this.go,this.ks,this.pm,this.pe,this.em,this.li⟩
  have hU:=qhj k.units k.zero [] hJ0 hI.s.us
  have e0:k.zero.head=0∧k.zero.stale=false∧k.zero.broken=false∧k.zero.gone=k.gone:=⟨rfl,rfl,rfl,rfl⟩
  have hmid:k.mid={ (ju k.units k.zero []).1 with units:=(ju k.units k.zero []).2,ue:=(ju k.units k.zero []).1.ue+1 }:=rfl
  generalize k.zero=k0 at hJ0 hK0 hU e0 hmid
  generalize ho:ju k.units k0 []=o at hU hmid
  obtain ⟨o1,o2⟩:=o
  simp only at hmid
  rw [hmid]
  clear hmid
  have hK1:Kin k ({ o1 with units:=o2,ue:=o1.ue+1 }:K):=by
   have:=hK0.trans hU.kin
   exact ⟨this.vl,this.rl,this.ll,this.wl,this.go,this.ks,this.pm,this.pe,this.em,this.li⟩
  have hJ1:J0 0 [] ({ o1 with units:=o2,ue:=o1.ue+1 }:K):=hU.j.cong rfl rfl rfl rfl rfl rfl rfl
  have hl:o2=k.units.filter fun n=>!(k.gone.getD n false):=by
   have:=hU.l
   rw [zba,e0.2.2.2] at this
   exact this
  have hS1:Sta ({ o1 with units:=o2,ue:=o1.ue+1 }:K):=
   ⟨hJ1.p,hJ1.w2,hJ1.nt,fun n hn=>by
    have h1:=hI.s.us n (List.mem_filter.1 (hl ▸ hn)).1
    rw [hK1.ll,(hK1.li n).length_eq]
    exact h1,hl ▸ hI.s.un.sublist List.filter_sublist,fun n ha hl1=>by
    have ha':=(hK1.act n).1 ha
    have:=hI.s.ua n ha' (by rw [← (hK1.li n).length_eq];exact hl1)
    show n∈o2
    rw [hl,zbj]
    exact ⟨this,by rw [ha'.2.1];rfl⟩,hK1.em.trans (hI.s.em.trans (congrArg _ hK1.cnt.symm))⟩
  have hsl:({ o1 with units:=o2,ue:=o1.ue+1 }:K).stale=false:=hU.sl.trans e0.2.1
  have hhd:({ o1 with units:=o2,ue:=o1.ue+1 }:K).head=0:=hU.hd.trans e0.1
  have hbx:({ o1 with units:=o2,ue:=o1.ue+1 }:K).broken=true→Bad ng (cl k) []:=fun h=>hK0.bad.1 ((hU.x h).resolve_left (by rw [e0.2.2.1];simp))
  have hbu:({ o1 with units:=o2,ue:=o1.ue+1 }:K).broken=false→∀ n∈k.units,k.gone.getD n false=false→(lit k0 n).getD 0 0∈o1.trail:=fun h n hn hg=>(hU.u h).2 n hn (by rw [e0.2.2.2];exact hg)
  have hlit:∀ n,act k n→(lit k n).length=1→∀ (k':K),Kin k k'→(lit k' n).getD 0 0=(lit k n).getD 0 0:=fun n _ hl1 k' hK=>by
   have hp:=hK.li n
   obtain ⟨a,ha⟩:=List.length_eq_one_iff.1 hl1
   rw [ha] at hp ⊢
   rw [List.perm_singleton.1 hp]
  generalize hk1:({ o1 with units:=o2,ue:=o1.ue+1 }:K)=k1 at hK1 hJ1 hS1 hsl hhd hbx hbu
  have htr1:k1.trail=o1.trail:=by subst hk1;rfl
  cases hb1:k1.broken with
  | true=>
   rw [za rfl]
   exact ⟨hK1,⟨hS1,fun _ h=>(by rw [hb1] at h;cases h),fun _ _=>hK1.bad.2 (hbx hb1)⟩,hsl⟩
  | false=>
   rw [ze (by simp)]
   have hP:=qmo hJ1 (by rw [hhd];exact qwv)
   generalize k1.prop=p at hP
   obtain ⟨p1,p2⟩:=p
   obtain ⟨g1,g2,g3,g4⟩:=hP
   simp only at g1 g2 g3 g4 ⊢
   have hK2:Kin k1 ({ p1 with broken:=!p2 }:K):=by
    have:=g1.kin
    exact ⟨this.vl,this.rl,this.ll,this.wl,this.go,this.ks,this.pm,this.pe,this.em,this.li⟩
   have hJ2:J0 0 [] ({ p1 with broken:=!p2 }:K):=g2.cong rfl rfl rfl rfl rfl rfl rfl
   have hK:=hK1.trans hK2
   refine ⟨hK,⟨hS1.kin hK2 hJ2 g1.un,fun _ hb=>?_,fun _ hb=>?_⟩,g1.sl.trans hsl⟩
   ·have hp2:p2=true:=by cases p2 with|true=>rfl|false=>cases hb
    obtain ⟨d1,d2⟩:=g3 hp2
    have hD2:Done ({ p1 with broken:=!p2 }:K) p1.trail.length:=by
     rw [← d2];exact d1.cong rfl rfl rfl
    refine ⟨hJ2.raise hD2,hD2,d2,fun n ha hl1=>?_⟩
    have ha0:=(hK.act n).1 ha
    have hl0:(lit k n).length=1:=by rw [← (hK.li n).length_eq];exact hl1
    rw [hlit n ha0 hl0 _ hK,← hlit n ha0 hl0 _ hK0]
    refine qcn g1 ?_
    rw [htr1]
    exact hbu hb1 n (hI.s.ua n ha0 hl0) ha0.2.1
   ·have hp2:p2=false:=by cases p2 with|false=>rfl|true=>cases hb
    exact hK2.bad.2 (g4 hp2)
end Go.Ru
