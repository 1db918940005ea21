/- Some texts of the library, one behind the other. -/
import Derived.Test.YtkhdldncbmkidaaY4RuM
import Derived.Test.YtkhdldncbmkidaaY42
set_option linter.unusedSimpArgs false
set_option linter.unusedVariables false
section
namespace Go.Ru
instance {k:K} {n:Nat}:Decidable (act k n):=by unfold act;infer_instance
def cl (k:K):List (List Nat):=
 ((List.range k.lits.length).filter fun n=>decide (act k n)).map (lit k)
theorem mem_cl {k:K} {c:List Nat}:c∈cl k↔∃ n,act k n∧lit k n=c:=by
 unfold cl
 rw [List.mem_map]
 constructor
 ·rintro ⟨n,h1,h2⟩
  rw [zbe] at h1
  exact ⟨n,xx h1.2,h2⟩
 ·rintro ⟨n,h1,h2⟩
  exact ⟨n,List.mem_filter.2 ⟨List.mem_range.2 h1.1,zam h1⟩,h2⟩
theorem Same.cl {k k':K} (hS:Same k k'):∀ c∈cl k,∃ c'∈cl k',∀ x,x∈c'↔x∈c:=fun c hc=>by
 obtain ⟨n,h1,rfl⟩:=mem_cl.1 hc
 exact ⟨lit k' n,mem_cl.2 ⟨n,(hS.act n).2 h1,rfl⟩,fun x=>(hS.li n).mem_iff⟩
theorem Same.lc {k k':K} (hS:Same k k'):∀ c∈Ru.cl k',∃ c'∈Ru.cl k,∀ x,x∈c'↔x∈c:=fun c hc=>by
 obtain ⟨n,h1,rfl⟩:=mem_cl.1 hc
 exact ⟨lit k n,mem_cl.2 ⟨n,(hS.act n).1 h1,rfl⟩,fun x=>((hS.li n).mem_iff).symm⟩
theorem Same.bad {k k':K} (hS:Same k k') {so:List Nat}:Bad ng (Ru.cl k') so↔Bad ng (Ru.cl k) so:=
 ⟨fun h=>h.mono hS.lc fun l hl=>.base hl,fun h=>h.mono hS.cl fun l hl=>.base hl⟩
theorem jfs {k:K} {so:List Nat} (hr:∀ p,p<k.trail.length→why so k p):∀ p,p<k.trail.length→Der ng (cl k) so (k.trail.getD p 0):=by
 intro p
 induction p using Nat.strongRecOn with
 | _ p ih=>
  intro hp
  rcases hr p hp with h|⟨n,_,h2,h3,h4⟩
  ·exact .base h
  ·refine .unit (mem_cl.2 ⟨n,h2,rfl⟩) h3 fun m hm hne=>?_
   obtain ⟨q,hq,e⟩:=qbb 0 (h4 m hm hne)
   rw [zr] at hq
   have e2:(k.trail.take p).getD q 0=k.trail.getD q 0:=by
    rw [xc,xc,xe,za (by omega)]
   rw [← e,e2]
   exact ih q (by omega) (by omega)
theorem qlv {k:K} {so:List Nat} (hr:∀ p,p<k.trail.length→why so k p) {y:Nat} (hy:y∈k.trail):Der ng (cl k) so y:=by
 obtain ⟨p,hp,rfl⟩:=qbb 0 hy
 exact jfs hr p hp
structure J0 (b:Nat) (so:List Nat) (k:K):Prop where
 p:PInv k
 hb:b≤k.trail.length
 w2:∀ n,act k n→2≤(lit k n).length→∀ w o,pr k n w o→n∈k.watch.getD w []
 q2:∀ n,act k n→2≤(lit k n).length→∀ w o,pr k n w o→ng w∈k.trail.take b→o∈k.trail.take b
 r:∀ p,p<k.trail.length→why (if p<b then [] else so) k p
 nt:∀ y,∀ n∈k.watch.getD y [],¬ ∃ z∈lit k n,ng z∈lit k n
def Done (k:K) (h:Nat):Prop:=∀ n,act k n→2≤(lit k n).length→∀ w o,pr k n w o→ng w∈k.trail.take h→o∈k.trail
variable {b h i x:Nat} {so list kept:List Nat} {k:K}
theorem qiw (x:Nat) (list:List Nat) (k:K):∀ i,(qb x list k i).1.head=k.head
 | 0=>rfl
 | i+1=>by
  have ih:=qiw x list k i
  unfold qb
  split
  ·exact ih
  ·split
   ·split
    ·rw [show ∀ (k:K) n,(k.other n).1.head=k.head from fun k n=>by unfold K.other;cases jy k.val (lit k n) <;> rfl];exact ih
    ·exact ih
   ·exact ih
theorem qvu (k:K) (x:Nat):(k.visit x).1.head=k.head:=by
 unfold K.visit
 split
 ·exact qiw x _ k _
 ·exact qiw x _ k _
theorem J0.rs (hJ:J0 b so k):∀ p,p<k.trail.length→why so k p:=fun p hp=>qvt (fun y hy=>by split at hy;cases hy;exact hy) (hJ.r p hp)
theorem J0.vj (hJ:J0 b so k) (hD:Done k h) (hh:h<k.trail.length) (hx:x=ng (k.trail.getD h 0)):VJ b so x (k.watch.getD x []) k [] 0 (h+1):=
 ⟨hh,hJ.hb,fun n ha hl w o hp=>⟨fun _=>hJ.w2 n ha hl w o hp,fun e=>.inr (by rw [← e];exact hJ.w2 n ha hl w o hp)⟩,fun n ha hl w o hp ht hd=>hD n ha hl w o hp (by
  have hd:=hd.resolve_right (fun h=>by cases h)
  rw [qfq hh] at ht
  rcases List.mem_append.1 ht with h1|h1
  ·exact h1
  ·rw [zk] at h1
   exact absurd (by rw [hx,← h1,qdq]) hd),hJ.q2,hJ.r,hJ.nt⟩
theorem VJ.endJ (hJ:VJ b so x list k kept i h) (hI:VisI x list k kept i) (hhd:k.head≤k.trail.length) {w:List Nat} {e:Nat→Nat} (hw1:∀ n∈w,Wat k n x) (hw2:w.Nodup) (hw3:∀ n,n∈kept∨n∈list.drop i→n∈w) (hw4:∀ n∈w,n∈list) :
  J0 b so { k with watch:=k.watch.set x w,we:=e }:=by
 have hxw:x<k.watch.length:=by rw [hI.c.w];exact hI.xl
 have hS:Same k { k with watch:=k.watch.set x w,we:=e }:=.watch (by simp)
 have hg:∀ z,(k.watch.set x w).getD z []=if z=x then w else k.watch.getD z []:=fun z=>by
  rw [jb]
  by_cases e:z=x
  ·rw [za ⟨e,hxw⟩,za e]
  ·rw [ze (fun h'=>e h'.1),ze e]
 refine ⟨⟨hI.v.lits rfl rfl rfl,⟨hI.c.c,hI.c.d,hI.c.m,hI.c.n,hI.c.v,by simpa using hI.c.w,hI.c.g⟩,fun y n hn=>?_,fun y=>?_,hhd⟩,hJ.hb,fun n ha hl w' o hp=>?_,hJ.q2,hJ.r,fun y n hn=>?_⟩
 ·rw [show ({ k with watch:=k.watch.set x w,we:=e }:K).watch=k.watch.set x w from rfl,hg] at hn
  split at hn
  ·rename_i e;subst e
   have:=hw1 n hn
   exact ⟨this.b,this.l,this.w⟩
  ·rename_i e
   have:=hI.ww y e n hn
   exact ⟨this.b,this.l,this.w⟩
 ·rw [show ({ k with watch:=k.watch.set x w,we:=e }:K).watch=k.watch.set x w from rfl,hg]
  split
  ·exact hw2
  ·exact hI.wn y
 ·rw [show ({ k with watch:=k.watch.set x w,we:=e }:K).watch=k.watch.set x w from rfl,hg]
  have h2:=hJ.w2 n ha hl w' o hp
  split
  ·rename_i e;exact hw3 n (h2.2 e)
  ·rename_i e;exact h2.1 e
 ·rw [show ({ k with watch:=k.watch.set x w,we:=e }:K).watch=k.watch.set x w from rfl,hg] at hn
  split at hn
  ·exact hJ.nt x n (by rw [hI.wx];exact hw4 n hn)
  ·exact hJ.nt y n hn
theorem jft (hJ:J0 b so k) (hD:Done k h) (hh:h<k.trail.length) (hx:x=ng (k.trail.getD h 0)) :
  VisI x (k.watch.getD x []) k [] 0∧J0 b so (k.visit x).1∧((k.visit x).2=true→Done (k.visit x).1 (h+1))∧((k.visit x).2=false→Bad ng (cl k) so):=by
 have hm:=qg (l:=k.trail) (d:=0) hh
 have hv:=(hJ.p.v.tv _).1 hm
 have hxl:x<k.val.length:=by rw [hx];exact hJ.p.v.ngl hv.1
 have hxf:vl k x=-1:=by rw [hx,hJ.p.v.anti _ hv.1,hv.2]
 have hV:=hJ.p.vis hxl hxf
 have h0:=hJ.vj hD hh hx
 refine ⟨hV,?_⟩
 have hSs:=qvs hV
 have hdh:=qvu k x
 generalize hlist:k.watch.getD x []=list at hV h0
 cases hf:(List.range list.length).find? fun i=>qbn x (list.getD i 0) (qb x list k i).1 with
 | none=>
  have hG:Goes x list k list.length:=fun j hj=>by
   have:=List.find?_eq_none.1 hf j (List.mem_range.2 hj)
   simpa using this
  have hI:=qfr hV _ (zi _) hG
  have hJ':=qpr hV h0 _ (zi _) hG
  have hS:=qiv hV _ (zi _) hG
  have hE:=qvn (k:=k) (x:=x) (by rw [hlist];exact hG)
  rw [hlist] at hE
  have hkd:∀ n,n∈(qb x list k list.length).2∨n∈list.drop list.length→n∈(qb x list k list.length).2:=fun n hn=>hn.resolve_right (by rw [List.drop_length];exact fun h=>by cases h)
  rw [hE]
  refine ⟨hJ'.endJ hI ?_ hI.wk (hI.ln.sublist (hI.ks.trans (List.take_sublist _ _))) hkd (fun n hn=>(hI.ks.trans (List.take_sublist _ _)).subset hn),fun _=>?_,fun h=>by cases h⟩
  ·rw [qiw]
   obtain ⟨t,ht⟩:=hS.tr
   rw [ht,zj]
   have:=hJ.p.hd
   omega
  ·intro n ha hl w o hp ht
   refine hJ'.q1 n ha hl w o hp ht ?_
   by_cases e:w=x
   ·exact .inr (hkd n ((hJ'.w2 n ha hl w o hp).2 e))
   ·exact .inl e
 | some i=>
  obtain ⟨hs,h2,h3⟩:=List.find?_range_eq_some.1 hf
  have hi:=List.mem_range.1 h2
  have hG:Goes x list k i:=fun j hj=>by
   have:=h3 j hj
   simpa using this
  have hI:=qfr hV i (by omega) hG
  have hJ':=qpr hV h0 i (by omega) hG
  have hS:=qiv hV i (by omega) hG
  have hw:=hI.at_ hi
  have hI1:=hI.turn hi
  have hJ1:=hJ'.turn hI hi
  have ht:=hI.turned hi
  have hw1:=hI1.at_ hi
  have hS1:Same k ((qb x list k i).1.turn (list.getD i 0) x):=hS.trans (.turn hw.l)
  have hE:=qvo (k:=k) (x:=x) (i:=i) (by rw [hlist];exact hi) (by rw [hlist];exact hG) (by rw [hlist];exact hs) rfl
  rw [hlist] at hE
  rw [hE]
  refine ⟨hJ1.endJ hI1 ?_ (fun n hn=>?_) ?_ (fun n hn=>List.mem_append.2 hn) (fun n hn=>?_),fun h=>(by cases h),fun _=>?_⟩
  ·rw [show ((qb x list k i).1.turn (list.getD i 0) x).head=(qb x list k i).1.head from rfl,qiw]
   obtain ⟨t,ht⟩:=hS1.tr
   rw [ht,zj]
   have:=hJ.p.hd
   omega
  ·rcases List.mem_append.1 hn with h|h
   ·exact hI1.wk n h
   ·exact hI1.wr n h
  ·have:((qb x list k i).2++list.drop i).Sublist (list.take i++list.drop i):=hI.ks.append (List.Sublist.refl _)
   rw [List.take_append_drop] at this
   exact hI.ln.sublist this
  ·rcases List.mem_append.1 hn with h|h
   ·exact (hI.ks.trans (List.take_sublist _ _)).subset h
   ·exact (List.drop_sublist _ _).subset h
  ·unfold qbn at hs
   simp only [zh,xn,xm] at hs
   obtain ⟨hg,hz,ho⟩:=hs
   have hnt:=hJ1.nt x (list.getD i 0) (by rw [hI1.wx];exact qg hi)
   generalize ((qb x list k i).1.turn (list.getD i 0) x)=k1 at *
   generalize list.getD i 0=n at *
   refine (hS1.bad).1 (.inr ⟨lit k1 n,mem_cl.2 ⟨n,⟨hw1.b,by rw [hS1.go,← hS.go];exact hg,hnt⟩,rfl⟩,fun m hm=>?_⟩)
   ·refine qlv hJ1.rs ((hI1.v.fls (hI1.c.c n m hm)).1 ?_)
    obtain ⟨j,hj,rfl⟩:=qbb 0 hm
    have key:vl k1 ((lit k1 n).getD j 0)<0:=by
     by_cases hj0:j=0
     ·subst hj0;exact hz
     ·by_cases hj1:j=1
      ·subst hj1;rw [ht.1,hI1.xf];omega
      ·exact qux (qlq ho).1 j (by omega) hj
    rcases hI1.v.tri ((lit k1 n).getD j 0) with e|e|e <;> omega
end Go.Ru
end
section
namespace Go.Ru
variable {b h i x:Nat} {so list kept:List Nat} {k:K}
theorem J0.head (hJ:J0 b so k) {m:Nat} (hm:m≤k.trail.length):J0 b so { k with head:=m }:=
 ⟨⟨hJ.p.v.lits rfl rfl rfl,⟨hJ.p.c.c,hJ.p.c.d,hJ.p.c.m,hJ.p.c.n,hJ.p.c.v,hJ.p.c.w,hJ.p.c.g⟩,fun y n hn=>⟨(hJ.p.w y n hn).b,(hJ.p.w y n hn).l,(hJ.p.w y n hn).w⟩,hJ.p.nd,hm⟩,hJ.hb,hJ.w2,hJ.q2,hJ.r,hJ.nt⟩
theorem Same.head {m:Nat}:Same k { k with head:=m }:=⟨rfl,rfl,rfl,rfl,rfl,rfl,rfl,rfl,rfl,rfl,rfl,rfl,rfl,rfl,⟨[],by simp⟩,fun _=>.refl _⟩
structure StepJ (b:Nat) (so:List Nat) (k k':K):Prop where
 j:J0 b so k'
 s:Same k k'
 h:k'.head=k.head+1
theorem qvv (hJ:J0 b so k) (hD:Done k k.head) (hh:k.head<k.trail.length) {k':K} {o:Bool} (hk:({ k with head:=k.head+1 }:K).visit (ng (k.trail.getD k.head 0))=(k',o)) :
  VisI (ng (k.trail.getD k.head 0)) (({ k with head:=k.head+1 }:K).watch.getD (ng (k.trail.getD k.head 0)) []) { k with head:=k.head+1 } [] 0∧StepJ b so k k'∧(o=true→Done k' k'.head)∧(o=false→Bad ng (cl k) so):=by
 have h1:=jft (hJ.head hh) (h:=k.head) (x:=ng (k.trail.getD k.head 0)) hD hh rfl
 have h2:=qvs h1.1
 have h3:=qvu { k with head:=k.head+1 } (ng (k.trail.getD k.head 0))
 rw [hk] at h1 h2 h3
 obtain ⟨g1,g2,g3,g4⟩:=h1
 exact ⟨g1,⟨g2,Same.head.trans h2,h3⟩,fun h=>by rw [h3];exact g3 h,fun h=>Same.head.bad.1 (g4 h)⟩
theorem qvw:∀ (f:Nat) (k:K),J0 b so k→Done k k.head→k.val.length+1≤f+k.head→
  Same k (qai f k).1∧J0 b so (qai f k).1∧((qai f k).2=true→Done (qai f k).1 (qai f k).1.head∧(qai f k).1.head=(qai f k).1.trail.length)∧((qai f k).2=false→Bad ng (cl k) so)
 | 0,k,hJ,_,hf=>by
  have:=hJ.p.hd
  have:=hJ.p.v.len
  omega
 | f+1,k,hJ,hD,hf=>by
  by_cases hh:k.head<k.trail.length
  ·cases hv:({ k with head:=k.head+1 }:K).visit (ng (k.trail.getD k.head 0)) with
   | mk k' o=>
    obtain ⟨_,hs,ht,hb⟩:=qvv hJ hD hh hv
    have e:qai (f+1) k=if o then qai f k' else (k',false):=by
     rw [qai,za hh,hv]
    rw [e]
    cases o with
    | false=>exact ⟨hs.s,hs.j,fun h=>(by cases h),fun _=>hb rfl⟩
    | true=>
     have ih:=qvw f k' hs.j (ht rfl) (by rw [hs.s.vl,hs.h];omega)
     exact ⟨hs.s.trans ih.1,ih.2.1,ih.2.2.1,fun h=>hs.s.bad.1 (ih.2.2.2 h)⟩
  ·have e:qai (f+1) k=(k,true):=by rw [qai,ze hh]
   rw [e]
   exact ⟨.refl k,hJ,fun _=>⟨hD,by have:=hJ.p.hd;simp only;omega⟩,fun h=>(by cases h)⟩
theorem qlw (hJ:J0 b so k) (hD:Done k k.head) :
  Same k k.prop.1∧J0 b so k.prop.1∧(k.prop.2=true→Done k.prop.1 k.prop.1.head∧k.prop.1.head=k.prop.1.trail.length)∧(k.prop.2=false→Bad ng (cl k) so):=
 qvw _ k hJ hD (by have:=hJ.p.hd;have:=hJ.p.v.len;omega)
end Go.Ru
end
