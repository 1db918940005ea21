/- Some texts of the library, one behind the other. -/
import Derived.Test.YtkhdldncbmkidaaY326
import Derived.Test.YtkhdldncbmkidaaY32
import Derived.Test.YtkhdldncbmkidaaY321
set_option linter.unusedSimpArgs false
set_option linter.unusedVariables false
section
namespace Go.Proofs.Ytkhdldncbmkidaa
open List renaming getD_eq_getElem?_getD → zd
open Go Go.Sx Go.RowKit Go.Ru Go.Cl
set_option maxRecDepth 100000
set_option maxHeartbeats 4000000
theorem qco {α:Type} {l:List α} {x d:α} (j:Nat):(l++[x]).getD j d=if j=l.length then x else l.getD j d:=by
 rw [zd,zd]
 by_cases h:j=l.length
 ·subst h
  rw [za rfl,zl (zj _),zad];rfl
 ·rw [ze h]
  by_cases h2:j<l.length
  ·rw [zn h2]
  ·rw [zy (by simp;omega),zy (l:=l) (by omega)]
def mvK (ks:List (List UInt8 × Nat)) (a:List (List Nat)) (b:Nat→Nat):List (Nat × (Nat × Nat)):=ks.map fun p=>(p.2,b p.2,(a.getD p.2 []).length)
theorem qho {ks:List (List UInt8 × Nat)} {p:Nat} (h:p<ks.length):(ks.map fun q=>q.1)[p]?=some (ks.getD p ([],0)).1:=by
 rw [zm,zb h,zd,zb h];rfl
theorem qne {ks:List (List UInt8 × Nat)} {a:List (List Nat)} {b:Nat→Nat} {p:Nat} (h:p<ks.length):(mvK ks a b)[p]?=some ((ks.getD p ([],0)).2,b (ks.getD p ([],0)).2,(a.getD (ks.getD p ([],0)).2 []).length):=by
 unfold mvK
 rw [zm,zb h,zd,zb h];rfl
theorem qjr {k:K} {alive:Nat→Option (List UInt8)} (hL:Led k alive) {name:List UInt8} {p:Nat} (hp:p<k.keys.length) (hn:(k.keys.getD p ([],0)).1=name):∀ j,(k.keys.map fun q=>q.1)[j]?=some name→j=p:=fun j hj=>by
 have hjl:j<k.keys.length:=by
  have:=(List.getElem?_eq_some_iff.1 hj).1
  rwa [xq] at this
 rw [qho hjl] at hj
 exact hL.one hjl hp ((Option.some.inj hj).trans hn.symm)
theorem qri {k:K} {name:List UInt8} (h:seek k name=none):name ∉ k.keys.map fun q=>q.1:=fun hm=>by
 obtain ⟨e,he,hx⟩:=List.mem_map.1 hm
 obtain ⟨q,hq,rfl⟩:=qal ([],0) he
 exact qqt h q hq hx
theorem qya {k:K} {alive:Nat→Option (List UInt8)} (hL:Led k alive) {p:Nat} (hp:p<k.keys.length) {x:List Nat} {b:Nat→Nat} (hb:∀ j,j≠(k.keys.getD p ([],0)).2→b j=k.pe j) :
  (mvK k.keys k.pm k.pe).set p ((k.keys.getD p ([],0)).2,b (k.keys.getD p ([],0)).2,x.length)=mvK k.keys (k.pm.set (k.keys.getD p ([],0)).2 x) b:=by
 refine List.ext_getElem? fun j=>?_
 rw [zbb]
 by_cases hj:j<k.keys.length
 ·rw [qne hj,qne hj]
  by_cases e:p=j
  ·subst e
   rw [za rfl,za (by unfold mvK;rw [xq];exact hp),jc,za ⟨rfl,hL.kp p hp⟩]
  ·rw [ze e,jc,ze (fun h=>e (hL.two hp hj h.1.symm)),hb _ (fun h=>e (hL.two hp hj h.symm))]
 ·have h1:(mvK k.keys k.pm k.pe)[j]?=none:=zy (by unfold mvK;rw [xq];omega)
  have h2:(mvK k.keys (k.pm.set (k.keys.getD p ([],0)).2 x) b)[j]?=none:=zy (by unfold mvK;rw [xq];omega)
  rw [h1,h2,ze (by omega)]
structure NoteC (k:K) (name:List UInt8) (n:Nat) (a:List (List Nat)) (b:Nat→Nat) (q:Nat):Prop where
 ql:q<a.length
 le:∀ m,(∀ p,p<k.keys.length→(nums k p).length≤m)→(a.getD q []).length≤m
 eq:k.note name n={ k with keys:=(k.note name n).keys,pm:=a.set q (a.getD q []++[n]),pe:=b }
 find:∀ (s:ASt) (x y:Operand) (dst:Option Nat) (ty:TypeId) (pos:String) (aft:Array Edge) (gd:Option (Nat × Bool)),s.st=idx 0 (stK k)→ev s x=.mapv 3→ev s y=.str name→
  CusT Try.prog s ⟨dst,.lookup 55 x y false,ty,pos,aft,gd⟩ (.own 4 q (b q) (a.getD q []).length) (idx 0 (stK { k with pm:=a,pe:=b })) s.nx
 put:∀ (s:ASt) (x y z:Operand) (dst:Option Nat) (ty:TypeId) (pos:String) (aft:Array Edge) (gd:Option (Nat × Bool)),Go.Sx.look s.st 3=some (.box mapTy [.keys (k.keys.map fun p=>p.1),.mvals 4 (mvK k.keys a b)])→ev s x=.mapv 3→ev s y=.str name→ev s z=.own 4 q (b q) ((a.getD q []).length+1)→
  CusT Try.prog s ⟨dst,.mapUpdate 55 x y z,ty,pos,aft,gd⟩ .any (setSt s.st 3 (.box mapTy [.keys ((k.note name n).keys.map fun p=>p.1),.mvals 4 (mvK (k.note name n).keys (a.set q (a.getD q []++[n])) b)])) s.nx
theorem jjc {k:K} {alive:Nat→Option (List UInt8)} (hL:Led k alive) (name:List UInt8) (n:Nat):∃ a b q,NoteC k name n a b q:=by
 cases hs:seek k name with
 | some p=>
  obtain ⟨hp,hn⟩:=qfc hs
  have he:k.note name n={ k with pm:=k.pm.set (k.keys.getD p ([],0)).2 (nums k p++[n]) }:=by
   unfold K.note;rw [hs]
  refine ⟨k.pm,k.pe,(k.keys.getD p ([],0)).2,hL.kp p hp,fun m hm=>hm p hp,by rw [he];rfl,fun s x y dst ty pos aft gd hst hx hy=>?_,fun s x y z dst ty pos aft gd hst hx hy hz=>?_⟩
  ·have h:=qvh (P:=Try.prog) (T:=tab Try.prog) (s:=s) (dst:=dst) (ty:=ty) (pos:=pos) (aft:=aft) (gd:=gd) (b:=3) (q:=4) (ks:=k.keys.map fun p=>p.1) (l:=mvK k.keys k.pm k.pe) (key:=name) (kt:=9) (et:=23) (t:=55) (fun _=>rfl) hx hy (by rw [hst];rfl) rfl rfl (hn ▸ qho hp) (qjr hL hp hn) (qne hp)
   rw [hst] at h
   exact h
  ·have h:=qvj (P:=Try.prog) (T:=tab Try.prog) (s:=s) (dst:=dst) (ty:=ty) (pos:=pos) (aft:=aft) (gd:=gd) (b:=3) (q:=4) (ks:=k.keys.map fun p=>p.1) (l:=mvK k.keys k.pm k.pe) (key:=name) (kt:=9) (et:=23) (t:=55) (fun _=>rfl) hx hy hz hst rfl rfl (hn ▸ qho hp) (qjr hL hp hn)
   rw [he]
   have e:=qya hL hp (x:=nums k p++[n]) (b:=k.pe) (fun _ _=>rfl)
   rw [zi] at e
   have e2:(nums k p).length + [n].length=(k.pm.getD (k.keys.getD p ([],0)).2 []).length+1:=rfl
   rw [e2] at e
   rw [e] at h
   exact h
 | none=>
  have he:k.note name n={ k with keys:=k.keys++[(name,k.pm.length)],pm:=k.pm++[[n]],pe:=fun j=>if j<k.pm.length then k.pe j else 0 }:=by
   unfold K.note;rw [hs]
  have hq:(k.pm++[([]:List Nat)]).getD k.pm.length []=[]:=by rw [qco,za rfl]
  have hset:(k.pm++[([]:List Nat)]).set k.pm.length ([]++[n])=k.pm++[[n]]:=by
   rw [List.set_append_right _ _ (zj _),zad];rfl
  have hmv:mvK k.keys (k.pm++[[]]) (fun j=>if j<k.pm.length then k.pe j else 0)=mvK k.keys k.pm k.pe:=by
   unfold mvK
   refine xj fun e hm=>?_
   obtain ⟨q,hq,rfl⟩:=qal ([],0) hm
   have:=hL.kp q hq
   dsimp only
   rw [za this,qco,ze (by omega)]
  refine ⟨k.pm++[[]],fun j=>if j<k.pm.length then k.pe j else 0,k.pm.length,by simp,fun m hm=>by rw [hq];exact zv _,by rw [hq,hset,he],fun s x y dst ty pos aft gd hst hx hy=>?_,fun s x y z dst ty pos aft gd hst hx hy hz=>?_⟩
  ·have h:=jgh (P:=Try.prog) (T:=tab Try.prog) (s:=s) (dst:=dst) (ty:=ty) (pos:=pos) (aft:=aft) (gd:=gd) (b:=3) (q:=4) (ks:=k.keys.map fun p=>p.1) (l:=mvK k.keys k.pm k.pe) (key:=name) (kt:=9) (et:=23) (t:=55) (n:=k.pm.length) (ep:=k.pe) (len:=fun i=>(k.pm.getD i []).length) (f:=fun i=>encN (k.pm.getD i [])) (e0:=3) (sz:=1) (fun _=>rfl) hx hy (by rw [hst];rfl) (by rw [hst];rfl) rfl rfl (qri hs) (by rfl)
   rw [hq,ze (Nat.lt_irrefl _)]
   refine h.turned (MT.st _ ?_)
   rw [hst]
   have hlen:(k.pm++[([]:List Nat)]).length=k.pm.length+1:=by simp
   have hln:∀ i,i<k.pm.length+1→(if i<k.pm.length then (k.pm.getD i []).length else 0)=((k.pm++[([]:List Nat)]).getD i []).length:=fun i hi=>by
    rw [qco]
    by_cases e:i=k.pm.length
    ·rw [za e,ze (by omega)];rfl
    ·rw [ze e,za (by omega)]
   have hfm:∀ i,(k.pm++[([]:List Nat)]).getD i []=k.pm.getD i []:=fun i=>by
    rw [qco]
    by_cases e:i=k.pm.length
    ·rw [za e,qdm (by omega)]
    ·rw [ze e]
   have hmv':AV.mvals 4 (mvK k.keys k.pm k.pe)=AV.mvals 4 (mvK k.keys (k.pm++[[]]) (fun j=>if j<k.pm.length then k.pe j else 0)):=congrArg _ hmv.symm
   unfold stK boxK
   simp only [hlen]
   repeat' (first|exact trivial|exact rfl|exact Le.refl _|exact SoLe.refl _|exact Le.of_eq hmv'|exact fun i hi=>⟨rfl,hln i hi⟩|exact fun i j _ _=>LeL.of_eq (by dsimp only;rw [hfm])|refine And.intro ?_ ?_)
  ·have h:=jgi (P:=Try.prog) (T:=tab Try.prog) (s:=s) (dst:=dst) (ty:=ty) (pos:=pos) (aft:=aft) (gd:=gd) (b:=3) (q:=4) (ks:=k.keys.map fun p=>p.1) (l:=mvK k.keys (k.pm++[[]]) (fun j=>if j<k.pm.length then k.pe j else 0)) (key:=name) (kt:=9) (et:=23) (t:=55) (fun _=>rfl) hx hy hz hst rfl rfl (qri hs)
   rw [he,hq,hset]
   have e:mvK (k.keys++[(name,k.pm.length)]) (k.pm++[[n]]) (fun j=>if j<k.pm.length then k.pe j else 0)=mvK k.keys (k.pm++[[]]) (fun j=>if j<k.pm.length then k.pe j else 0)++[(k.pm.length,if k.pm.length<k.pm.length then k.pe k.pm.length else 0,((k.pm++[([]:List Nat)]).getD k.pm.length []).length+1)]:=by
    unfold mvK
    rw [zbd,zag,zbq,hq]
    congr 1
    ·refine xj fun e hm=>?_
     obtain ⟨q,hq,rfl⟩:=qal ([],0) hm
     have:=hL.kp q hq
     rw [qco,qco,ze (by omega),ze (by omega)]
    ·rw [qco,za rfl];rfl
   rw [← e] at h
   show CusT _ _ _ _ (setSt _ _ (.box mapTy [.keys ((k.keys++[(name,k.pm.length)]).map fun p=>p.1),_])) _
   rw [zbd]
   exact h
end Go.Proofs.Ytkhdldncbmkidaa
end
section
namespace Go.Ru
open Go.Cl
variable {k k':K} {c:List Nat}
theorem jjd (hI:Inv k) (hF:Fit k c) (hL:Laid k c k') (h1:¬ (k'.stale=true∨k'.broken=true)) (h0:vl k' ((lit k' k.lits.length).getD 0 0)=0) (h2:(lit k' k.lits.length).length=1∨vl k' ((lit k' k.lits.length).getD 1 0)<0) :
  J0 0 [] (k'.set ((lit k' k.lits.length).getD 0 0) ((k.lits.length:Nat):Int))∧Done (k'.set ((lit k' k.lits.length).getD 0 0) ((k.lits.length:Nat):Int)) (k'.set ((lit k' k.lits.length).getD 0 0) ((k.lits.length:Nat):Int)).head:=by
 have hM:=hL.M
 have hact:act k' k.lits.length:=(hM.new hI.s.p.c.g).2 hL.a
 have hst:k.stale=false:=by cases hs:k.stale with|false=>rfl|true=>exact absurd (.inl (hM.sl.trans hs)) h1
 have hbr:k.broken=false:=by cases hs:k.broken with|false=>rfl|true=>exact absurd (.inr (hM.br.trans hs)) h1
 have hB:=hI.b hst hbr
 have hJ:J0 0 [] k':=qjl hM hL.H hF hB.j.low
 have hl1:1≤(lit k' k.lits.length).length:=by
  rw [hM.ln.length_eq]
  have:=hL.l
  cases c with
  | nil=>exact absurd rfl this
  | cons a r=>simp
 have hm0:(lit k' k.lits.length).getD 0 0∈lit k' k.lits.length:=qj (by omega)
 have hlz:=hJ.p.c.c _ _ hm0
 have hneg:∀ m∈lit k' k.lits.length,vl k' m<0→ng m∈k'.trail:=fun m hm h=>by
  refine (hJ.p.v.fls (hJ.p.c.c _ m hm)).1 ?_
  rcases hJ.p.v.tri m with e|e|e <;> omega
 have hput:=hJ.put (r:=((k.lits.length:Nat):Int)) hlz h0 (.inr ⟨_,rfl,hact,hm0,fun m hm hne=>hneg m hm (hL.p1 h2 m hm hne)⟩)
 refine ⟨hput,?_⟩
 have hS:Same k' (k'.set ((lit k' k.lits.length).getD 0 0) ((k.lits.length:Nat):Int)):=.set
 have hhd:(k'.set ((lit k' k.lits.length).getD 0 0) ((k.lits.length:Nat):Int)).head=k'.trail.length:=by
  show k'.head=_
  rw [hM.hd,hM.tr];exact hB.h
 have hl0t:(lit k' k.lits.length).getD 0 0∈(k'.set ((lit k' k.lits.length).getD 0 0) ((k.lits.length:Nat):Int)).trail:=by
  show _∈k'.trail++[_]
  simp
 rw [hhd]
 intro n ha hl w o hp ht
 rw [qdn hS (zj _),xi] at ht
 by_cases e:n=k.lits.length
 ·subst e
  rcases hp with ⟨e1,e2⟩|⟨e1,e2⟩
  ·exfalso
   have:=(hJ.p.v.fls hlz).2 (e1 ▸ ht)
   omega
  ·rw [← e1];exact hl0t
 ·refine qcn hS ?_
  rw [hM.tr] at ht ⊢
  have hl':lit (k'.set ((lit k' k.lits.length).getD 0 0) ((k.lits.length:Nat):Int)) n=lit k n:=hM.lo n e
  refine hB.d n ((hM.old e).1 ha) (by rw [← hl'];exact hl) w o ?_ (by rw [xi];exact ht)
  unfold pr at hp ⊢
  rw [hl'] at hp
  exact hp
theorem jje (k:K) (s:List UInt8) (n:Nat) (c:List Nat):(k.note s n).push c=(k.push c).note s n:=by
 have e:seek (k.push c) s=seek k s:=rfl
 unfold K.note
 rw [e]
 cases seek k s <;> rfl
theorem qyb (k:K):cnt0 k≤k.lits.length:=by
 unfold cnt0
 have:=zbm (fun n=>!(k.gone.getD n false) && (lit k n).isEmpty) (List.range k.lits.length)
 rwa [List.length_range] at this
structure AddP (kn k3 ka:K) (n:Nat) (c:List Nat) (idle:Bool):Prop where
 n1:n<k3.lits.length
 l3:k3.lits.getD n []=c
 us:k3.units.length≤100000
 em:0≤k3.empty∧k3.empty≤100000
 wl:∀ y,(k3.watch.getD y []).length≤100000
 cv:∀ x∈c,x<k3.val.length
 a0:idle=true→ka=k3
 a1:idle=false→c.length=0→ka={ k3 with empty:=k3.empty+1 }
 a2:idle=false→c.length≠0→ka=(k3.lay n).tell n
 a3:idle=false→c.length≠0→Laid kn c (k3.lay n)
 v:VInv k3
 c3:k3.val.length≤1000000∧k3.watch.length=k3.val.length
theorem addP {idle:Bool} (hI:Inv k) (hF:Fit k c) (hi:idle=true↔∃ z∈c,ng z∈c):AddP k (k.push c) (k.adds c idle) k.lits.length c idle:=by
 have hL:lit (k.push c) k.lits.length=c:=(qfb _).trans (za rfl)
 have hll:(k.push c).lits.length=k.lits.length+1:=by simp [K.push]
 have hus:=qgc hI.s.un fun x hx=>(hI.s.us x hx).1
 have hem:=hI.s.em
 have hc0:=qyb k
 have hn:=hF.n
 refine ⟨by omega,hL,show k.units.length≤_ by omega,⟨show 0≤k.empty by omega,show k.empty≤_ by omega⟩,hI.s.p.wl,hF.b,fun h=>?_,fun h h0=>?_,fun h h0=>?_,fun h h0=>?_,hI.s.p.v.lits rfl rfl rfl,⟨hI.s.p.c.v,hI.s.p.c.w⟩⟩
 ·unfold K.adds;rw [za h]
 ·unfold K.adds
  rw [ze (by rw [h];decide),za h0]
  unfold K.lay
  rw [hL,za h0]
 ·unfold K.adds
  rw [ze (by rw [h];decide),ze h0]
 ·refine laid hI hF (fun e=>h0 (by rw [e];rfl)) fun h'=>?_
  have:=hi.2 h'
  rw [h] at this;cases this
end Go.Ru
end
