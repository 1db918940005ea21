/- Some texts of the library, one behind the other. -/
import Derived.Test.YtkhdldncbmkidaaY3RuM
import Derived.Test.YtkhdldncbmkidaaY3RuW5
import Derived.Test.YtkhdldncbmkidaaY32
set_option linter.unusedSimpArgs false
set_option linter.unusedVariables false
section
namespace Go.Ru
instance {k:K} {n:Nat}:Decidable (act k n):=by unfold act;infer_instance
def cl (k:K):List (List Nat):=
 ((List.range k.lits.length).filter fun n=>decide (act k n)).map (lit k)
theorem mem_cl {k:K} {c:List Nat}:c∈cl k↔∃ n,act k n∧lit k n=c:=by
 unfold cl
 rw [List.mem_map]
 constructor
 ·rintro ⟨n,h1,h2⟩
  rw [zbj] at h1
  exact ⟨n,zaa h1.2,h2⟩
 ·rintro ⟨n,h1,h2⟩
  exact ⟨n,List.mem_filter.2 ⟨List.mem_range.2 h1.1,xn h1⟩,h2⟩
theorem Same.cl {k k':K} (hS:Same k k'):∀ c∈cl k,∃ c'∈cl k',∀ x,x∈c'↔x∈c:=fun c hc=>by
 obtain ⟨n,h1,rfl⟩:=mem_cl.1 hc
 exact ⟨lit k' n,mem_cl.2 ⟨n,(hS.act n).2 h1,rfl⟩,fun x=>(hS.li n).mem_iff⟩
theorem Same.lc {k k':K} (hS:Same k k'):∀ c∈Ru.cl k',∃ c'∈Ru.cl k,∀ x,x∈c'↔x∈c:=fun c hc=>by
 obtain ⟨n,h1,rfl⟩:=mem_cl.1 hc
 exact ⟨lit k n,mem_cl.2 ⟨n,(hS.act n).1 h1,rfl⟩,fun x=>((hS.li n).mem_iff).symm⟩
theorem Same.bad {k k':K} (hS:Same k k') {so:List Nat}:Bad ng (Ru.cl k') so↔Bad ng (Ru.cl k) so:=
 ⟨fun h=>h.mono hS.lc fun l hl=>.base hl,fun h=>h.mono hS.cl fun l hl=>.base hl⟩
theorem jhg {k:K} {so:List Nat} (hr:∀ p,p<k.trail.length→why so k p):∀ p,p<k.trail.length→Der ng (cl k) so (k.trail.getD p 0):=by
 intro p
 induction p using Nat.strongRecOn with
 | _ p ih=>
  intro hp
  rcases hr p hp with h|⟨n,_,h2,h3,h4⟩
  ·exact .base h
  ·refine .unit (mem_cl.2 ⟨n,h2,rfl⟩) h3 fun m hm hne=>?_
   obtain ⟨q,hq,e⟩:=qal 0 (h4 m hm hne)
   rw [zu] at hq
   have e2:(k.trail.take p).getD q 0=k.trail.getD q 0:=by
    rw [xk,xk,xc,za (by omega)]
   rw [← e,e2]
   exact ih q (by omega) (by omega)
theorem qmn {k:K} {so:List Nat} (hr:∀ p,p<k.trail.length→why so k p) {y:Nat} (hy:y∈k.trail):Der ng (cl k) so y:=by
 obtain ⟨p,hp,rfl⟩:=qal 0 hy
 exact jhg hr p hp
structure J0 (b:Nat) (so:List Nat) (k:K):Prop where
 p:PInv k
 hb:b≤k.trail.length
 w2:∀ n,act k n→2≤(lit k n).length→∀ w o,pr k n w o→n∈k.watch.getD w []
 q2:∀ n,act k n→2≤(lit k n).length→∀ w o,pr k n w o→ng w∈k.trail.take b→o∈k.trail.take b
 r:∀ p,p<k.trail.length→why (if p<b then [] else so) k p
 nt:∀ y,∀ n∈k.watch.getD y [],¬ ∃ z∈lit k n,ng z∈lit k n
def Done (k:K) (h:Nat):Prop:=∀ n,act k n→2≤(lit k n).length→∀ w o,pr k n w o→ng w∈k.trail.take h→o∈k.trail
variable {b h i x:Nat} {so list kept:List Nat} {k:K}
theorem qjj (x:Nat) (list:List Nat) (k:K):∀ i,(qb x list k i).1.head=k.head
 | 0=>rfl
 | i+1=>by
  have ih:=qjj x list k i
  unfold qb
  split
  ·exact ih
  ·split
   ·split
    ·rw [show ∀ (k:K) n,(k.other n).1.head=k.head from fun k n=>by unfold K.other;cases qae k.val (lit k n) <;> rfl];exact ih
    ·exact ih
   ·exact ih
theorem qwq (k:K) (x:Nat):(k.visit x).1.head=k.head:=by
 unfold K.visit
 split
 ·exact qjj x _ k _
 ·exact qjj x _ k _
theorem J0.rs (hJ:J0 b so k):∀ p,p<k.trail.length→why so k p:=fun p hp=>qwp (fun y hy=>by split at hy;cases hy;exact hy) (hJ.r p hp)
theorem J0.vj (hJ:J0 b so k) (hD:Done k h) (hh:h<k.trail.length) (hx:x=ng (k.trail.getD h 0)):VJ b so x (k.watch.getD x []) k [] 0 (h+1):=
 ⟨hh,hJ.hb,fun n ha hl w o hp=>⟨fun _=>hJ.w2 n ha hl w o hp,fun e=>.inr (by rw [← e];exact hJ.w2 n ha hl w o hp)⟩,fun n ha hl w o hp ht hd=>hD n ha hl w o hp (by
  have hd:=hd.resolve_right (fun h=>by cases h)
  rw [qge hh] at ht
  rcases List.mem_append.1 ht with h1|h1
  ·exact h1
  ·rw [zk] at h1
   exact absurd (by rw [hx,← h1,qeb]) hd),hJ.q2,hJ.r,hJ.nt⟩
theorem VJ.endJ (hJ:VJ b so x list k kept i h) (hI:VisI x list k kept i) (hhd:k.head≤k.trail.length) {w:List Nat} {e:Nat→Nat} (hw1:∀ n∈w,Wat k n x) (hw2:w.Nodup) (hw3:∀ n,n∈kept∨n∈list.drop i→n∈w) (hw4:∀ n∈w,n∈list) :
  J0 b so { k with watch:=k.watch.set x w,we:=e }:=by
 have hxw:x<k.watch.length:=by rw [hI.c.w];exact hI.xl
 have hS:Same k { k with watch:=k.watch.set x w,we:=e }:=.watch (by simp)
 have hg:∀ z,(k.watch.set x w).getD z []=if z=x then w else k.watch.getD z []:=fun z=>by
  rw [jc]
  by_cases e:z=x
  ·rw [za ⟨e,hxw⟩,za e]
  ·rw [ze (fun h'=>e h'.1),ze e]
 refine ⟨⟨hI.v.lits rfl rfl rfl,⟨hI.c.c,hI.c.d,hI.c.m,hI.c.n,hI.c.v,by simpa using hI.c.w,hI.c.g⟩,fun y n hn=>?_,fun y=>?_,hhd⟩,hJ.hb,fun n ha hl w' o hp=>?_,hJ.q2,hJ.r,fun y n hn=>?_⟩
 ·rw [show ({ k with watch:=k.watch.set x w,we:=e }:K).watch=k.watch.set x w from rfl,hg] at hn
  split at hn
  ·rename_i e;subst e
   have:=hw1 n hn
   exact ⟨this.b,this.l,this.w⟩
  ·rename_i e
   have:=hI.ww y e n hn
   exact ⟨this.b,this.l,this.w⟩
 ·rw [show ({ k with watch:=k.watch.set x w,we:=e }:K).watch=k.watch.set x w from rfl,hg]
  split
  ·exact hw2
  ·exact hI.wn y
 ·rw [show ({ k with watch:=k.watch.set x w,we:=e }:K).watch=k.watch.set x w from rfl,hg]
  have h2:=hJ.w2 n ha hl w' o hp
  split
  ·rename_i e;exact hw3 n (h2.2 e)
  ·rename_i e;exact h2.1 e
 ·rw [show ({ k with watch:=k.watch.set x w,we:=e }:K).watch=k.watch.set x w from rfl,hg] at hn
  split at hn
  ·exact hJ.nt x n (by rw [hI.wx];exact hw4 n hn)
  ·exact hJ.nt y n hn
theorem jhh (hJ:J0 b so k) (hD:Done k h) (hh:h<k.trail.length) (hx:x=ng (k.trail.getD h 0)) :
  VisI x (k.watch.getD x []) k [] 0∧J0 b so (k.visit x).1∧((k.visit x).2=true→Done (k.visit x).1 (h+1))∧((k.visit x).2=false→Bad ng (cl k) so):=by
 have hm:=qj (l:=k.trail) (d:=0) hh
 have hv:=(hJ.p.v.tv _).1 hm
 have hxl:x<k.val.length:=by rw [hx];exact hJ.p.v.ngl hv.1
 have hxf:vl k x=-1:=by rw [hx,hJ.p.v.anti _ hv.1,hv.2]
 have hV:=hJ.p.vis hxl hxf
 have h0:=hJ.vj hD hh hx
 refine ⟨hV,?_⟩
 have hSs:=qwo hV
 have hdh:=qwq k x
 generalize hlist:k.watch.getD x []=list at hV h0
 cases hf:(List.range list.length).find? fun i=>qbw x (list.getD i 0) (qb x list k i).1 with
 | none=>
  have hG:Goes x list k list.length:=fun j hj=>by
   have:=List.find?_eq_none.1 hf j (List.mem_range.2 hj)
   simpa using this
  have hI:=qgf hV _ (zj _) hG
  have hJ':=qqk hV h0 _ (zj _) hG
  have hS:=qji hV _ (zj _) hG
  have hE:=qwj (k:=k) (x:=x) (by rw [hlist];exact hG)
  rw [hlist] at hE
  have hkd:∀ n,n∈(qb x list k list.length).2∨n∈list.drop list.length→n∈(qb x list k list.length).2:=fun n hn=>hn.resolve_right (by rw [List.drop_length];exact fun h=>by cases h)
  rw [hE]
  refine ⟨hJ'.endJ hI ?_ hI.wk (hI.ln.sublist (hI.ks.trans (List.take_sublist _ _))) hkd (fun n hn=>(hI.ks.trans (List.take_sublist _ _)).subset hn),fun _=>?_,fun h=>by cases h⟩
  ·rw [qjj]
   obtain ⟨t,ht⟩:=hS.tr
   rw [ht,zi]
   have:=hJ.p.hd
   omega
  ·intro n ha hl w o hp ht
   refine hJ'.q1 n ha hl w o hp ht ?_
   by_cases e:w=x
   ·exact .inr (hkd n ((hJ'.w2 n ha hl w o hp).2 e))
   ·exact .inl e
 | some i=>
  obtain ⟨hs,h2,h3⟩:=List.find?_range_eq_some.1 hf
  have hi:=List.mem_range.1 h2
  have hG:Goes x list k i:=fun j hj=>by
   have:=h3 j hj
   simpa using this
  have hI:=qgf hV i (by omega) hG
  have hJ':=qqk hV h0 i (by omega) hG
  have hS:=qji hV i (by omega) hG
  have hw:=hI.at_ hi
  have hI1:=hI.turn hi
  have hJ1:=hJ'.turn hI hi
  have ht:=hI.turned hi
  have hw1:=hI1.at_ hi
  have hS1:Same k ((qb x list k i).1.turn (list.getD i 0) x):=hS.trans (.turn hw.l)
  have hE:=qwk (k:=k) (x:=x) (i:=i) (by rw [hlist];exact hi) (by rw [hlist];exact hG) (by rw [hlist];exact hs) rfl
  rw [hlist] at hE
  rw [hE]
  refine ⟨hJ1.endJ hI1 ?_ (fun n hn=>?_) ?_ (fun n hn=>List.mem_append.2 hn) (fun n hn=>?_),fun h=>(by cases h),fun _=>?_⟩
  ·rw [show ((qb x list k i).1.turn (list.getD i 0) x).head=(qb x list k i).1.head from rfl,qjj]
   obtain ⟨t,ht⟩:=hS1.tr
   rw [ht,zi]
   have:=hJ.p.hd
   omega
  ·rcases List.mem_append.1 hn with h|h
   ·exact hI1.wk n h
   ·exact hI1.wr n h
  ·have:((qb x list k i).2++list.drop i).Sublist (list.take i++list.drop i):=hI.ks.append (List.Sublist.refl _)
   rw [List.take_append_drop] at this
   exact hI.ln.sublist this
  ·rcases List.mem_append.1 hn with h|h
   ·exact (hI.ks.trans (List.take_sublist _ _)).subset h
   ·exact (List.drop_sublist _ _).subset h
  ·unfold qbw at hs
   simp only [zh,xr,xp] at hs
   obtain ⟨hg,hz,ho⟩:=hs
   have hnt:=hJ1.nt x (list.getD i 0) (by rw [hI1.wx];exact qj hi)
   generalize ((qb x list k i).1.turn (list.getD i 0) x)=k1 at *
   generalize list.getD i 0=n at *
   refine (hS1.bad).1 (.inr ⟨lit k1 n,mem_cl.2 ⟨n,⟨hw1.b,by rw [hS1.go,← hS.go];exact hg,hnt⟩,rfl⟩,fun m hm=>?_⟩)
   ·refine qmn hJ1.rs ((hI1.v.fls (hI1.c.c n m hm)).1 ?_)
    obtain ⟨j,hj,rfl⟩:=qal 0 hm
    have key:vl k1 ((lit k1 n).getD j 0)<0:=by
     by_cases hj0:j=0
     ·subst hj0;exact hz
     ·by_cases hj1:j=1
      ·subst hj1;rw [ht.1,hI1.xf];omega
      ·exact qvs (qmi ho).1 j (by omega) hj
    rcases hI1.v.tri ((lit k1 n).getD j 0) with e|e|e <;> omega
end Go.Ru
end
section
namespace Go.Ru
variable {b h i x:Nat} {so list kept:List Nat} {k:K}
theorem J0.head (hJ:J0 b so k) {m:Nat} (hm:m≤k.trail.length):J0 b so { k with head:=m }:=
 ⟨⟨hJ.p.v.lits rfl rfl rfl,⟨hJ.p.c.c,hJ.p.c.d,hJ.p.c.m,hJ.p.c.n,hJ.p.c.v,hJ.p.c.w,hJ.p.c.g⟩,fun y n hn=>⟨(hJ.p.w y n hn).b,(hJ.p.w y n hn).l,(hJ.p.w y n hn).w⟩,hJ.p.nd,hm⟩,hJ.hb,hJ.w2,hJ.q2,hJ.r,hJ.nt⟩
theorem Same.head {m:Nat}:Same k { k with head:=m }:=⟨rfl,rfl,rfl,rfl,rfl,rfl,rfl,rfl,rfl,rfl,rfl,rfl,rfl,rfl,⟨[],by simp⟩,fun _=>.refl _⟩
structure StepJ (b:Nat) (so:List Nat) (k k':K):Prop where
 j:J0 b so k'
 s:Same k k'
 h:k'.head=k.head+1
theorem qwr (hJ:J0 b so k) (hD:Done k k.head) (hh:k.head<k.trail.length) {k':K} {o:Bool} (hk:({ k with head:=k.head+1 }:K).visit (ng (k.trail.getD k.head 0))=(k',o)) :
  VisI (ng (k.trail.getD k.head 0)) (({ k with head:=k.head+1 }:K).watch.getD (ng (k.trail.getD k.head 0)) []) { k with head:=k.head+1 } [] 0∧StepJ b so k k'∧(o=true→Done k' k'.head)∧(o=false→Bad ng (cl k) so):=by
 have h1:=jhh (hJ.head hh) (h:=k.head) (x:=ng (k.trail.getD k.head 0)) hD hh rfl
 have h2:=qwo h1.1
 have h3:=qwq { k with head:=k.head+1 } (ng (k.trail.getD k.head 0))
 rw [hk] at h1 h2 h3
 obtain ⟨g1,g2,g3,g4⟩:=h1
 exact ⟨g1,⟨g2,Same.head.trans h2,h3⟩,fun h=>by rw [h3];exact g3 h,fun h=>Same.head.bad.1 (g4 h)⟩
theorem qws:∀ (f:Nat) (k:K),J0 b so k→Done k k.head→k.val.length+1≤f+k.head→
  Same k (qas f k).1∧J0 b so (qas f k).1∧((qas f k).2=true→Done (qas f k).1 (qas f k).1.head∧(qas f k).1.head=(qas f k).1.trail.length)∧((qas f k).2=false→Bad ng (cl k) so)
 | 0,k,hJ,_,hf=>by
  have:=hJ.p.hd
  have:=hJ.p.v.len
  omega
 | f+1,k,hJ,hD,hf=>by
  by_cases hh:k.head<k.trail.length
  ·cases hv:({ k with head:=k.head+1 }:K).visit (ng (k.trail.getD k.head 0)) with
   | mk k' o=>
    obtain ⟨_,hs,ht,hb⟩:=qwr hJ hD hh hv
    have e:qas (f+1) k=if o then qas f k' else (k',false):=by
     rw [qas,za hh,hv]
    rw [e]
    cases o with
    | false=>exact ⟨hs.s,hs.j,fun h=>(by cases h),fun _=>hb rfl⟩
    | true=>
     have ih:=qws f k' hs.j (ht rfl) (by rw [hs.s.vl,hs.h];omega)
     exact ⟨hs.s.trans ih.1,ih.2.1,ih.2.2.1,fun h=>hs.s.bad.1 (ih.2.2.2 h)⟩
  ·have e:qas (f+1) k=(k,true):=by rw [qas,ze hh]
   rw [e]
   exact ⟨.refl k,hJ,fun _=>⟨hD,by have:=hJ.p.hd;simp only;omega⟩,fun h=>(by cases h)⟩
theorem qmo (hJ:J0 b so k) (hD:Done k k.head) :
  Same k k.prop.1∧J0 b so k.prop.1∧(k.prop.2=true→Done k.prop.1 k.prop.1.head∧k.prop.1.head=k.prop.1.trail.length)∧(k.prop.2=false→Bad ng (cl k) so):=
 qws _ k hJ hD (by have:=hJ.p.hd;have:=hJ.p.v.len;omega)
end Go.Ru
end
section
namespace Go.Proofs.Ytkhdldncbmkidaa
open List renaming getD_eq_getElem?_getD → zd
open Go Go.Sx Go.RowKit Go.Ru
set_option maxRecDepth 100000
set_option maxHeartbeats 8000000
theorem qmp (k:K) {b:Nat} {so:List Nat} (hJ:J0 b so k) (hD:Done k k.head) :
  Trip Try.prog 43 [.ptr 0 0] (stK k) (.bool k.prop.2) (idx 0 (stK k.prop.1)) 11:=by
 refine zL {} 300 Try.func43 (fun c0 rdb mpb=>?_)
 (repeat' ((conv=>whnf);first|refine zO ?_|refine Ob.auto ?_|(refine Ob.intro (by (first|exact ⟨by omega,by omega⟩|(simp only [zg];omega))) ?_)|(apply zB <;> intro hb <;> (try simp [-zd] at hb) <;> try (exfalso;omega))|refine Ob.intro ?_ ?_))
 ((conv=>whnf);refine qw (fun _=>rfl) 300 1 (fun _:K=>[]) (fun kk=>idx 0 (stK kk)) (fun kk=>J0 b so kk∧Done kk kk.head∧kk.val.length=k.val.length∧k.prop=qas (k.val.length+1 - kk.head) kk) (fun kk=>k.val.length+1 - kk.head) (k) (⟨hJ,hD,rfl,rfl⟩) qa (by (repeat' (first|exact trivial|exact rfl|exact Le.refl _|exact SoLe.refl _|refine And.intro ?_ ?_))) (fun _=>rfl) (by kernel_rfl) ?_;(conv=>whnf))
 rintro kk ⟨hJk,hDk,hvl,hp⟩
 have hlen:=hJk.p.v.len
 have hv9:=hJk.p.c.v
 have hhd:=hJk.p.hd
 by_cases hh:kk.head<kk.trail.length
 ·have hf:k.val.length+1 - kk.head=(k.val.length+1 - (kk.head+1))+1:=by omega
  have hty:=(hJk.p.v.tv _).1 (qj (l:=kk.trail) (d:=0) hh)
  have hxo:=qmb (kk.trail.getD kk.head 0) (by omega)
  cases hv:({ kk with head:=kk.head+1 }:K).visit (ng (kk.trail.getD kk.head 0)) with
  | mk k' o=>
   have hst:=qwr hJk hDk hh hv
   obtain ⟨hV,hS,ht,_⟩:=hst
   have hwl:=(hJk.head hh).p.wl (ng (kk.trail.getD kk.head 0))
   have hT:=jhe { kk with head:=kk.head+1 } (ng (kk.trail.getD kk.head 0)) hV hwl
   rw [hv] at hT
   have hp':k.prop=if o then qas (k.val.length+1 - (kk.head+1)) k' else (k',false):=by
    rw [hp,hf,qas,za hh,hv]
   replace hp:=Hid.in hp
   replace hp':=Hid.in hp'
   replace hv:=Hid.in hv
   replace hT:=Hid.in hT
   (repeat' ((conv=>whnf);first|refine zA ?_|refine zO ?_|refine Ob.auto ?_|(refine Ob.intro (by (first|first|exact ⟨by omega,by omega⟩|(simp only [zg];omega)|exact ⟨by decide,qbh (by omega) (by omega)⟩)) ?_)|refine zD 300 ?_|(apply zB <;> intro hb <;> (try simp [-zd] at hb) <;> try (exfalso;omega))|refine Ob.intro ?_ ?_))
   refine MT.call (MT.st { kk with head:=kk.head+1 } (by (unfold stK boxK;repeat' (first|exact trivial|exact rfl|exact Le.refl _|exact SoLe.refl _|exact fun _ _=>LeL.refl _|exact fun _ _ _ _=>LeL.refl _|refine And.intro ?_ ?_)))) ?_
   ((conv=>whnf);refine jm (fun _=>rfl) 300 [0,1,2,3,4,5,6,7,8,9,10] hT.out (by kernel_rfl) ⟨Le.refl _,Le.of_eq (congrArg (AV.int _) hxo),trivial⟩ (by exact qat _) (by exact qn _) (by exact qn _) (by kernel_rfl) ?_)
   cases o with
   | true=>
    (repeat' ((conv=>whnf);first|refine zA ?_|refine zO ?_|refine Ob.auto ?_|(refine Ob.intro (by (first|exact ⟨by omega,by omega⟩|(simp only [zg];omega))) ?_)|refine zD 300 ?_|(apply zB <;> intro hb <;> (try simp [-zd] at hb) <;> try (exfalso;omega))|refine Ob.intro ?_ ?_))
    ((conv=>whnf);refine ⟨k',⟨hS.j,ht rfl,hS.s.vl.trans hvl,?_⟩,⟨qa,(by (unfold stK boxK;repeat' (first|exact trivial|exact rfl|exact Le.refl _|exact SoLe.refl _|exact fun _ _=>LeL.refl _|exact fun _ _ _ _=>LeL.refl _|refine And.intro ?_ ?_)))⟩,⟨qa,(by (repeat' (first|exact trivial|exact rfl|exact Le.refl _|exact SoLe.refl _|refine And.intro ?_ ?_)))⟩,?_⟩)
    ·rw [hS.h];exact hp'.out
    ·show k.val.length+1 - k'.head<k.val.length+1 - kk.head
     rw [hS.h];omega
   | false=>
    (repeat' ((conv=>whnf);first|refine zA ?_|refine zO ?_|refine Ob.auto ?_|(refine Ob.intro (by (first|exact ⟨by omega,by omega⟩|(simp only [zg];omega))) ?_)|refine zD 300 ?_|(apply zB <;> intro hb <;> (try simp [-zd] at hb) <;> try (exfalso;omega))|refine Ob.intro ?_ ?_))
    rw [show k.prop=(k',false) from hp'.out]
    refine ⟨Le.refl _,?_⟩
    (unfold stK boxK;repeat' (first|exact trivial|exact rfl|exact Le.refl _|exact SoLe.refl _|exact fun _ _=>LeL.refl _|exact fun _ _ _ _=>LeL.refl _|refine And.intro ?_ ?_))
 ·have he:k.prop=(kk,true):=by
   rw [hp]
   cases k.val.length+1 - kk.head with
   | zero=>rfl
   | succ f=>rw [qas,ze hh]
  replace hp:=Hid.in hp
  replace he:=Hid.in he
  (repeat' ((conv=>whnf);first|refine zA ?_|refine zO ?_|refine Ob.auto ?_|(refine Ob.intro (by (first|exact ⟨by omega,by omega⟩|(simp only [zg];omega))) ?_)|refine zD 300 ?_|(apply zB <;> intro hb <;> (try simp [-zd] at hb) <;> try (exfalso;omega))|refine Ob.intro ?_ ?_))
  rw [he.out]
  refine ⟨Le.refl _,?_⟩
  (unfold stK boxK;repeat' (first|exact trivial|exact rfl|exact Le.refl _|exact SoLe.refl _|exact fun _ _=>LeL.refl _|exact fun _ _ _ _=>LeL.refl _|refine And.intro ?_ ?_))
end Go.Proofs.Ytkhdldncbmkidaa
end
