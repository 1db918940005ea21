/- A clause is added: what the walk wants to know. Plain. -/
import Derived.Test.YtkhdldncbmkidaaY4RuE
import Derived.Test.YtkhdldncbmkidaaY42
set_option linter.unusedSimpArgs false
set_option linter.unusedVariables false
namespace Go.Ru
open Go.Cl
variable {k k':K} {c:List Nat}
theorem jhp (hI:Inv k) (hF:Fit k c) (hL:Laid k c k') (h1:¬ (k'.stale=true∨k'.broken=true)) (h0:vl k' ((lit k' k.lits.length).getD 0 0)=0) (h2:(lit k' k.lits.length).length=1∨vl k' ((lit k' k.lits.length).getD 1 0)<0) :
  J0 0 [] (k'.set ((lit k' k.lits.length).getD 0 0) ((k.lits.length:Nat):Int))∧Done (k'.set ((lit k' k.lits.length).getD 0 0) ((k.lits.length:Nat):Int)) (k'.set ((lit k' k.lits.length).getD 0 0) ((k.lits.length:Nat):Int)).head:=by
 have hM:=hL.M
 have hact:act k' k.lits.length:=(hM.new hI.s.p.c.g).2 hL.a
 have hst:k.stale=false:=by cases hs:k.stale with|false=>rfl|true=>exact absurd (.inl (hM.sl.trans hs)) h1
 have hbr:k.broken=false:=by cases hs:k.broken with|false=>rfl|true=>exact absurd (.inr (hM.br.trans hs)) h1
 have hB:=hI.b hst hbr
 have hJ:J0 0 [] k':=qiy hM hL.H hF hB.j.low
 have hl1:1≤(lit k' k.lits.length).length:=by
  rw [hM.ln.length_eq]
  have:=hL.l
  cases c with
  | nil=>exact absurd rfl this
  | cons a r=>simp
 have hm0:(lit k' k.lits.length).getD 0 0∈lit k' k.lits.length:=qg (by omega)
 have hlz:=hJ.p.c.c _ _ hm0
 have hneg:∀ m∈lit k' k.lits.length,vl k' m<0→ng m∈k'.trail:=fun m hm h=>by
  refine (hJ.p.v.fls (hJ.p.c.c _ m hm)).1 ?_
  rcases hJ.p.v.tri m with e|e|e <;> omega
 have hput:=hJ.put (r:=((k.lits.length:Nat):Int)) hlz h0 (.inr ⟨_,rfl,hact,hm0,fun m hm hne=>hneg m hm (hL.p1 h2 m hm hne)⟩)
 refine ⟨hput,?_⟩
 have hS:Same k' (k'.set ((lit k' k.lits.length).getD 0 0) ((k.lits.length:Nat):Int)):=.set
 have hhd:(k'.set ((lit k' k.lits.length).getD 0 0) ((k.lits.length:Nat):Int)).head=k'.trail.length:=by
  show k'.head=_
  rw [hM.hd,hM.tr];exact hB.h
 have hl0t:(lit k' k.lits.length).getD 0 0∈(k'.set ((lit k' k.lits.length).getD 0 0) ((k.lits.length:Nat):Int)).trail:=by
  show _∈k'.trail++[_]
  simp
 rw [hhd]
 intro n ha hl w o hp ht
 rw [qdf hS (zi _),xi] at ht
 by_cases e:n=k.lits.length
 ·subst e
  rcases hp with ⟨e1,e2⟩|⟨e1,e2⟩
  ·exfalso
   have:=(hJ.p.v.fls hlz).2 (e1 ▸ ht)
   omega
  ·rw [← e1];exact hl0t
 ·refine qcc hS ?_
  rw [hM.tr] at ht ⊢
  have hl':lit (k'.set ((lit k' k.lits.length).getD 0 0) ((k.lits.length:Nat):Int)) n=lit k n:=hM.lo n e
  refine hB.d n ((hM.old e).1 ha) (by rw [← hl'];exact hl) w o ?_ (by rw [xi];exact ht)
  unfold pr at hp ⊢
  rw [hl'] at hp
  exact hp
theorem jhq (k:K) (s:List UInt8) (n:Nat) (c:List Nat):(k.note s n).push c=(k.push c).note s n:=by
 have e:seek (k.push c) s=seek k s:=rfl
 unfold K.note
 rw [e]
 cases seek k s <;> rfl
theorem qxa (k:K):cnt0 k≤k.lits.length:=by
 unfold cnt0
 have:=zbg (fun n=>!(k.gone.getD n false) && (lit k n).isEmpty) (List.range k.lits.length)
 rwa [List.length_range] at this
structure AddP (kn k3 ka:K) (n:Nat) (c:List Nat) (idle:Bool):Prop where
 n1:n<k3.lits.length
 l3:k3.lits.getD n []=c
 us:k3.units.length≤100000
 em:0≤k3.empty∧k3.empty≤100000
 wl:∀ y,(k3.watch.getD y []).length≤100000
 cv:∀ x∈c,x<k3.val.length
 a0:idle=true→ka=k3
 a1:idle=false→c.length=0→ka={ k3 with empty:=k3.empty+1 }
 a2:idle=false→c.length≠0→ka=(k3.lay n).tell n
 a3:idle=false→c.length≠0→Laid kn c (k3.lay n)
 v:VInv k3
 c3:k3.val.length≤1000000∧k3.watch.length=k3.val.length
theorem addP {idle:Bool} (hI:Inv k) (hF:Fit k c) (hi:idle=true↔∃ z∈c,ng z∈c):AddP k (k.push c) (k.adds c idle) k.lits.length c idle:=by
 have hL:lit (k.push c) k.lits.length=c:=(qen _).trans (za rfl)
 have hll:(k.push c).lits.length=k.lits.length+1:=by simp [K.push]
 have hus:=qfo hI.s.un fun x hx=>(hI.s.us x hx).1
 have hem:=hI.s.em
 have hc0:=qxa k
 have hn:=hF.n
 refine ⟨by omega,hL,show k.units.length≤_ by omega,⟨show 0≤k.empty by omega,show k.empty≤_ by omega⟩,hI.s.p.wl,hF.b,fun h=>?_,fun h h0=>?_,fun h h0=>?_,fun h h0=>?_,hI.s.p.v.lits rfl rfl rfl,⟨hI.s.p.c.v,hI.s.p.c.w⟩⟩
 ·unfold K.adds;rw [za h]
 ·unfold K.adds
  rw [ze (by rw [h];decide),za h0]
  unfold K.lay
  rw [hL,za h0]
 ·unfold K.adds
  rw [ze (by rw [h];decide),ze h0]
 ·refine laid hI hF (fun e=>h0 (by rw [e];rfl)) fun h'=>?_
  have:=hi.2 h'
  rw [h] at this;cases this
end Go.Ru
