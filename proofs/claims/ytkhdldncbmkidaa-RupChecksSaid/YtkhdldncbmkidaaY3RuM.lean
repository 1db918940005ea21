/- The checker's invariants through the visit of a literal. Plain. -/
import Derived.Test.YtkhdldncbmkidaaY3RuL
import Derived.Test.YtkhdldncbmkidaaY32
set_option linter.unusedSimpArgs false
set_option linter.unusedVariables false
namespace Go.Ru
variable {b h i x:Nat} {so list kept:List Nat} {k:K}
theorem VInv.fls (hv:VInv k) {w:Nat} (hw:w<k.val.length):vl k w=-1↔ng w∈k.trail:=by
 rw [hv.tv (ng w),hv.anti w hw]
 constructor
 ·intro e;exact ⟨hv.ngl hw,by omega⟩
 ·rintro ⟨_,e⟩;omega
theorem VInv.tru (hv:VInv k) {w:Nat} (hw:w<k.val.length):vl k w=1↔w∈k.trail:=by
 rw [hv.tv w]
 exact ⟨fun e=>⟨hw,e⟩,fun e=>e.2⟩
theorem qmm {k':K} (hS:Same k k') {p:Nat} (hp:p<k.trail.length) (hr:k'.rea.getD (k.trail.getD p 0 / 2) 0=k.rea.getD (k.trail.getD p 0 / 2) 0) (hw:why so k p):why so k' p:=by
 unfold why at hw ⊢
 rw [tr_gD hS hp,hr,qdn hS (by omega)]
 rcases hw with h|⟨n,h1,h2,h3,h4⟩
 ·exact .inl h
 ·exact .inr ⟨n,h1,(hS.act n).2 h2,(hS.li n).mem_iff.2 h3,fun m hm=>h4 m ((hS.li n).mem_iff.1 hm)⟩
theorem qqj (hc:CInv k) {n w o:Nat} (hl:2≤(lit k n).length) (hp:pr k n w o):w∈lit k n∧o∈lit k n∧w<k.val.length∧o<k.val.length∧w≠o:=by
 have m0:(lit k n).getD 0 0∈lit k n:=qj (by omega)
 have m1:(lit k n).getD 1 0∈lit k n:=qj (by omega)
 have hne:(lit k n).getD 0 0≠(lit k n).getD 1 0:=fun e=>by
  have:=qmf (hc.d n) (by omega) (by omega) e
  omega
 rcases hp with ⟨rfl,rfl⟩|⟨rfl,rfl⟩
 ·exact ⟨m0,m1,hc.c n _ m0,hc.c n _ m1,hne⟩
 ·exact ⟨m1,m0,hc.c n _ m1,hc.c n _ m0,hne.symm⟩
theorem jhf {n:Nat} (hn:n<k.lits.length) (hl:2≤(lit k n).length) (m w o:Nat):pr (k.turn n x) m w o↔pr k m w o:=by
 have hL:lit (k.turn n x) m=if m=n then turnL (lit k n) x else lit k m:=qfa hn m
 unfold pr
 rw [hL]
 by_cases e:m=n
 ·subst e
  rw [za rfl]
  unfold turnL
  split
  ·rw [qhi (by omega) (by omega),qhi (by omega) (by omega),ze (by omega),za rfl,za rfl]
   constructor
   ·rintro (⟨h1,h2⟩|⟨h1,h2⟩)
    ·exact .inr ⟨h2,h1⟩
    ·exact .inl ⟨h2,h1⟩
   ·rintro (⟨h1,h2⟩|⟨h1,h2⟩)
    ·exact .inr ⟨h2,h1⟩
    ·exact .inl ⟨h2,h1⟩
  ·exact Iff.rfl
 ·rw [ze e]
structure VJ (b:Nat) (so:List Nat) (x:Nat) (list:List Nat) (k:K) (kept:List Nat) (i h:Nat):Prop where
 hh:h≤k.trail.length
 hb:b≤k.trail.length
 w2:∀ n,act k n→2≤(lit k n).length→∀ w o,pr k n w o→(w≠x→n∈k.watch.getD w [])∧(w=x→n∈kept∨n∈list.drop i)
 q1:∀ n,act k n→2≤(lit k n).length→∀ w o,pr k n w o→ng w∈k.trail.take h→(w≠x∨n∈kept)→o∈k.trail
 q2:∀ n,act k n→2≤(lit k n).length→∀ w o,pr k n w o→ng w∈k.trail.take b→o∈k.trail.take b
 r:∀ p,p<k.trail.length→why (if p<b then [] else so) k p
 nt:∀ y,∀ n∈k.watch.getD y [],¬ ∃ z∈lit k n,ng z∈lit k n
theorem qwp {so so':List Nat} (h:∀ y∈so,y∈so') {p:Nat} (hw:why so k p):why so' k p:=hw.imp (h _) id
theorem VJ.rs (hJ:VJ b so x list k kept i h):∀ p,p<k.trail.length→why so k p:=fun p hp=>qwp (fun y hy=>by split at hy;cases hy;exact hy) (hJ.r p hp)
theorem Same.nt {k':K} (hS:Same k k') {n:Nat} (h:¬ ∃ z∈lit k n,ng z∈lit k n):¬ ∃ z∈lit k' n,ng z∈lit k' n:=by
 rintro ⟨z,h1,h2⟩
 exact h ⟨z,(hS.li n).mem_iff.1 h1,(hS.li n).mem_iff.1 h2⟩
theorem VJ.skip (hJ:VJ b so x list k kept i h) (hi:i<list.length) (hg:k.gone.getD (list.getD i 0) false=true):VJ b so x list k kept (i+1) h:=
 { hJ with
  w2:=fun n ha hl w o hp=>⟨(hJ.w2 n ha hl w o hp).1,fun e=>by
   rcases (hJ.w2 n ha hl w o hp).2 e with h1|h1
   ·exact .inl h1
   ·rw [qgd hi] at h1
    rcases List.mem_cons.1 h1 with h2|h2
    ·have:=ha.2.1
     rw [h2,hg] at this
     cases this
    ·exact .inr h2⟩ }
theorem VJ.turn (hJ:VJ b so x list k kept i h) (hI:VisI x list k kept i) (hi:i<list.length):VJ b so x list (k.turn (list.getD i 0) x) kept i h:=by
 have hw:=hI.at_ hi
 have hS:Same k (k.turn (list.getD i 0) x):=.turn hw.l
 have hp:=jhf (x:=x) hw.b hw.l
 have hl:∀ n,2≤(lit (k.turn (list.getD i 0) x) n).length→2≤(lit k n).length:=fun n h=>by rw [← (hS.li n).length_eq];exact h
 exact ⟨hJ.hh,hJ.hb,fun n ha h2 w o h3=>hJ.w2 n ((hS.act n).1 ha) (hl n h2) w o ((hp n w o).1 h3),fun n ha h2 w o h3=>hJ.q1 n ((hS.act n).1 ha) (hl n h2) w o ((hp n w o).1 h3),
  fun n ha h2 w o h3=>hJ.q2 n ((hS.act n).1 ha) (hl n h2) w o ((hp n w o).1 h3),fun p hp'=>qmm hS hp' rfl (hJ.r p hp'),fun y n hn=>hS.nt (hJ.nt y n hn)⟩
theorem VJ.keep (hJ:VJ b so x list k kept i h) (hI:VisI x list k kept i) (hi:i<list.length) (h1:(lit k (list.getD i 0)).getD 1 0=x) (h0:(lit k (list.getD i 0)).getD 0 0∈k.trail):VJ b so x list k (kept++[list.getD i 0]) (i+1) h:=
 { hJ with
  w2:=fun n ha hl w o hp=>⟨(hJ.w2 n ha hl w o hp).1,fun e=>by
   rcases (hJ.w2 n ha hl w o hp).2 e with h2|h2
   ·exact .inl (xy _ h2)
   ·rw [qgd hi] at h2
    rcases List.mem_cons.1 h2 with h3|h3
    ·exact .inl (by rw [h3];simp)
    ·exact .inr h3⟩
  q1:=fun n ha hl w o hp ht ho=>by
   by_cases hwx:w=x
   ·rcases ho with h2|h2
    ·exact absurd hwx h2
    ·rcases List.mem_append.1 h2 with h3|h3
     ·exact hJ.q1 n ha hl w o hp ht (.inr h3)
     ·rw [zk] at h3
      subst h3
      rcases hp with ⟨e1,e2⟩|⟨e1,e2⟩
      ·rw [hwx] at e1
       have:=(qqj hI.c hl (.inl ⟨rfl,rfl⟩)).2.2.2.2
       rw [e1,h1] at this
       exact absurd rfl this
      ·rw [← e1];exact h0
   ·exact hJ.q1 n ha hl w o hp ht (.inl hwx) }
theorem VJ.set (hJ:VJ b so x list k kept i h) (hI:VisI x list k kept i) {n:Nat} (ha:act k n) (hl:2≤(lit k n).length) (h1:(lit k n).getD 1 0=x) (h0:vl k ((lit k n).getD 0 0)=0) (hf:∀ j,2≤j→j<(lit k n).length→vl k ((lit k n).getD j 0)<0) :
  VJ b so x list (k.set ((lit k n).getD 0 0) n) kept i h:=by
 have hS:Same k (k.set ((lit k n).getD 0 0) n):=.set
 generalize hy:(lit k n).getD 0 0=y at h0 hS ⊢
 have hym:y∈lit k n:=hy ▸ qj (by omega)
 have hyl:=hI.c.c n y hym
 have htl:(k.set y n).trail.length=k.trail.length+1:=by simp [K.set]
 refine ⟨by have:=hJ.hh;omega,by have:=hJ.hb;omega,hJ.w2,fun m hm h2 w o h3 h4 h5=>?_,fun m hm h2 w o h3 h4=>?_,fun p hp=>?_,?_⟩
 ·rw [qdn hS hJ.hh] at h4
  exact qcn hS (hJ.q1 m hm h2 w o h3 h4 h5)
 ·rw [qdn hS hJ.hb] at h4 ⊢
  exact hJ.q2 m hm h2 w o h3 h4
 rotate_left
 ·exact fun y n hn=>hS.nt (hJ.nt y n hn)
 ·by_cases hpl:p<k.trail.length
  ·refine qmm hS hpl ?_ (hJ.r p hpl)
   show (k.rea.set (y / 2) (n:Int)).getD _ 0=_
   rw [jc,ze]
   rintro ⟨e,_⟩
   have hm:=qj (l:=k.trail) (d:=0) hpl
   have hv:=((hI.v.tv _).1 hm).2
   rcases qpv e with e|e
   ·rw [e,h0] at hv;omega
   ·rw [e,hI.v.anti y hyl,h0] at hv;omega
  ·obtain rfl:p=k.trail.length:=by omega
   have e:(k.set y n).trail.getD k.trail.length 0=y:=by
    show (k.trail++[y]).getD _ 0=_
    rw [xk,zl (zj _),zad];rfl
   unfold why
   rw [e,qdn hS (zj _),xi]
   refine .inr ⟨n,?_,ha,hym,fun m hm hne=>?_⟩
   ·show (k.rea.set (y / 2) (n:Int)).getD _ 0=_
    rw [jc,za ⟨rfl,by have:=hI.v.vr;omega⟩]
   ·replace hm:m∈lit k n:=hm
    have hml:=hI.c.c n m hm
    refine (hI.v.fls hml).1 ?_
    obtain ⟨j,hj,rfl⟩:=qal 0 hm
    by_cases hj0:j=0
    ·subst hj0;exact absurd hy hne
    ·by_cases hj1:j=1
     ·subst hj1;rw [h1];exact hI.xf
     ·have:=hf j (by omega) hj
      rcases hI.v.tri ((lit k n).getD j 0) with e|e|e <;> omega
theorem VJ.other (hJ:VJ b so x list k kept i h) (hI:VisI x list k kept i) (hi:i<list.length) (h1:(lit k (list.getD i 0)).getD 1 0=x) (ho:(k.other (list.getD i 0)).2=true):VJ b so x list (k.other (list.getD i 0)).1 kept (i+1) h:=by
 have hw:=hI.at_ hi
 have hS:Same k (k.other (list.getD i 0)).1:=.other hw.l
 have hnk:list.getD i 0 ∉ kept:=fun hm=>qwe hI.ln hi (hI.ks.subset hm)
 generalize hn:list.getD i 0=n at hw hS h1 ho hnk ⊢
 obtain ⟨j,hj,he⟩:=qqc ho
 obtain ⟨j1,j2,j3,_⟩:=qma hj
 rw [he] at hS ⊢
 simp only at hS ⊢
 generalize hy:(lit k n).getD j 0=y at j3 hS ⊢
 have hyl:y<k.val.length:=hI.c.c n y (hy ▸ qj j1)
 have hyw:y<k.watch.length:=by rw [hI.c.w];exact hyl
 have hyx:y≠x:=fun e=>by
  have:=hI.xf
  unfold vl at this
  rw [e,this] at j3
  omega
 have hs:=qhi (l:=lit k n) (i:=1) (j:=j) (by omega) j1
 have hL:∀ m,lit { k with lits:=k.lits.set n (swap (lit k n) 1 j),watch:=k.watch.set y (k.watch.getD y []++[n]) } m=if m=n then swap (lit k n) 1 j else lit k m:=fun m=>qfa hw.b m
 have hwat:∀ z,(k.watch.set y (k.watch.getD y []++[n])).getD z []=if z=y then k.watch.getD y []++[n] else k.watch.getD z []:=fun z=>by
  rw [jc]
  by_cases e:z=y
  ·rw [za ⟨e,hyw⟩,za e]
  ·rw [ze (fun h'=>e h'.1),ze e]
 have hwm:∀ {m z:Nat},m∈k.watch.getD z []→m∈(k.watch.set y (k.watch.getD y []++[n])).getD z []:=fun {m z} hm=>by
  rw [hwat]
  split
  ·rename_i e;subst e;exact xy _ hm
  ·exact hm
 -- the clause's qck
 have hpn:∀ w o,pr { k with lits:=k.lits.set n (swap (lit k n) 1 j),watch:=k.watch.set y (k.watch.getD y []++[n]) } n w o→(w=(lit k n).getD 0 0∧o=y)∨(w=y∧o=(lit k n).getD 0 0):=fun w o hp=>by
  unfold pr at hp
  rw [hL,za rfl,hs,hs,ze (by omega),ze (by omega),ze (by omega),za rfl,hy] at hp
  rcases hp with ⟨e1,e2⟩|⟨e1,e2⟩
  ·exact .inl ⟨e1.symm,e2.symm⟩
  ·exact .inr ⟨e2.symm,e1.symm⟩
 have hpo:∀ m w o,m≠n→pr { k with lits:=k.lits.set n (swap (lit k n) 1 j),watch:=k.watch.set y (k.watch.getD y []++[n]) } m w o→pr k m w o:=fun m w o hm hp=>by
  unfold pr at hp ⊢
  rw [hL,ze hm] at hp
  exact hp
 have hpx:pr k n ((lit k n).getD 0 0) x:=.inl ⟨rfl,h1⟩
 have hn0:(lit k n).getD 0 0≠x:=fun e=>by
  have:=(qqj hI.c hw.l hpx).2.2.2.2
  exact this e
 have hxt:x ∉ k.trail:=fun hm=>by
  have:=((hI.v.tv x).1 hm).2
  have:=hI.xf
  omega
 have hyt:ng y ∉ k.trail:=fun hm=>by
  have:=(hI.v.fls hyl).2 hm
  unfold vl at this
  omega
 refine ⟨hJ.hh,hJ.hb,fun m ha hl w o hp=>?_,fun m ha hl w o hp ht hd=>?_,fun m ha hl w o hp ht=>?_,fun p hp=>qmm hS hp rfl (hJ.r p hp),fun z m hm=>?_⟩
 rotate_right
 ·rw [hwat] at hm
  split at hm
  ·rename_i e
   rcases List.mem_append.1 hm with h2|h2
   ·exact hS.nt (hJ.nt y m h2)
   ·rw [zk] at h2
    subst h2
    exact hS.nt (hJ.nt x m (by rw [hI.wx,← hn];exact qj hi))
  ·exact hS.nt (hJ.nt z m hm)
 ·have ha':=(hS.act m).1 ha
  have hl':2≤(lit k m).length:=by rw [← (hS.li m).length_eq];exact hl
  by_cases hm:m=n
  ·subst hm
   rcases hpn w o hp with ⟨rfl,rfl⟩|⟨rfl,rfl⟩
   ·exact ⟨fun hwx=>hwm ((hJ.w2 m ha' hl' _ _ hpx).1 hwx),fun e=>absurd e hn0⟩
   ·refine ⟨fun _=>?_,fun e=>absurd e hyx⟩
    show m∈(k.watch.set w _).getD w []
    rw [hwat,za rfl]
    simp
  ·have hp':=hpo m w o hm hp
   refine ⟨fun hwx=>hwm ((hJ.w2 m ha' hl' w o hp').1 hwx),fun e=>?_⟩
   rcases (hJ.w2 m ha' hl' w o hp').2 e with h2|h2
   ·exact .inl h2
   ·rw [qgd hi,hn] at h2
    rcases List.mem_cons.1 h2 with h3|h3
    ·exact absurd h3 hm
    ·exact .inr h3
 ·have ha':=(hS.act m).1 ha
  have hl':2≤(lit k m).length:=by rw [← (hS.li m).length_eq];exact hl
  by_cases hm:m=n
  ·subst hm
   rcases hpn w o hp with ⟨rfl,rfl⟩|⟨rfl,rfl⟩
   ·exact absurd (hJ.q1 m ha' hl' _ _ hpx ht (.inl hn0)) hxt
   ·exact absurd (zab ht) hyt
  ·exact hJ.q1 m ha' hl' w o (hpo m w o hm hp) ht hd
 ·have ha':=(hS.act m).1 ha
  have hl':2≤(lit k m).length:=by rw [← (hS.li m).length_eq];exact hl
  by_cases hm:m=n
  ·subst hm
   rcases hpn w o hp with ⟨rfl,rfl⟩|⟨rfl,rfl⟩
   ·exact absurd (zab (hJ.q2 m ha' hl' _ _ hpx ht)) hxt
   ·exact absurd (zab ht) hyt
  ·exact hJ.q2 m ha' hl' w o (hpo m w o hm hp) ht
theorem qqk (hV:VisI x list k [] 0) (h0:VJ b so x list k [] 0 h):∀ i,i≤list.length→Goes x list k i→VJ b so x list (qb x list k i).1 (qb x list k i).2 i h
 | 0,_,_=>h0
 | i+1,hi,hs=>by
  have hG:Goes x list k i:=fun j hj=>hs j (by omega)
  have ih:=qqk hV h0 i (by omega) hG
  have hI:=qgf hV i (by omega) hG
  have hi':i<list.length:=hi
  have hst:=hs i (zav i)
  by_cases hg:(qb x list k i).1.gone.getD (list.getD i 0) false=true
  ·rw [qmj hg];exact ih.skip hi' hg
  ·rw [zbf] at hg
   have h1:=hI.turn hi'
   have ht:=hI.turned hi'
   have hJ1:=ih.turn hI hi'
   have hw:=h1.at_ hi'
   by_cases hz:vl ((qb x list k i).1.turn (list.getD i 0) x) ((lit ((qb x list k i).1.turn (list.getD i 0) x) (list.getD i 0)).getD 0 0)≤0
   ·cases ho:(((qb x list k i).1.turn (list.getD i 0) x).other (list.getD i 0)).2 with
    | true=>rw [qmk hg hz ho];exact hJ1.other h1 hi' ht.1 ho
    | false=>
     rw [qqd hg hz ho]
     have hv0:=qwf hg hst hz ho hI.v.tri
     have hcl:=h1.c.c _ _ (qj (l:=lit ((qb x list k i).1.turn (list.getD i 0) x) (list.getD i 0)) (i:=0) (d:=0) (by have:=hw.l;omega))
     have hS:=h1.set (r:=((list.getD i 0:Nat):Int)) hcl hv0
     have ha:act ((qb x list k i).1.turn (list.getD i 0) x) (list.getD i 0):=⟨hw.b,hg,hJ1.nt x _ (by rw [h1.wx];exact qj hi')⟩
     have hJ2:=hJ1.set h1 ha hw.l ht.1 hv0 (qvs (qmi ho).1)
     exact hJ2.keep hS hi' ht.1 (by show _∈_++[_];simp;exact .inr rfl)
   ·rw [qqe hg hz]
    refine hJ1.keep h1 hi' ht.1 ?_
    have hcl:=h1.c.c _ _ (qj (l:=lit ((qb x list k i).1.turn (list.getD i 0) x) (list.getD i 0)) (i:=0) (d:=0) (by have:=hw.l;omega))
    refine (h1.v.tru hcl).1 ?_
    rcases h1.v.tri ((lit ((qb x list k i).1.turn (list.getD i 0) x) (list.getD i 0)).getD 0 0) with e|e|e <;> omega
end Go.Ru
