/- Contracts: the checker's visit. -/
import Derived.Test.YtkhdldncbmkidaaY39
import Derived.Test.YtkhdldncbmkidaaY32
set_option linter.unusedSimpArgs false
set_option linter.unusedVariables false
namespace Go.Proofs.Ytkhdldncbmkidaa
open List renaming getD_eq_getElem?_getD → zd
open Go Go.Sx Go.RowKit Go.Ru
set_option maxRecDepth 100000
set_option maxHeartbeats 8000000
theorem jhe (k:K) (x:Nat) (hV:VisI x (k.watch.getD x []) k [] 0) (hll:(k.watch.getD x []).length≤100000) :
  Trip Try.prog 61 [.ptr 0 0,iv x] (stK k) (.bool (k.visit x).2) (idx 0 (stK (k.visit x).1)) 11:=by
 have hxw:x<k.watch.length:=by rw [hV.c.w];exact hV.xl
 have ephy:phys x (k.watch.getD x []) k []=k:=by
  unfold phys
  rw [zba,zaf,List.drop_zero,qpz]
 have hend:=Hid.in (fun h=>qwj (x:=x) (k:=k) h)
 have hstop:=Hid.in (fun i hi h hs=>qwk (x:=x) (i:=i) (k:=k) hi h hs rfl)
 generalize hlist:k.watch.getD x []=list at hV hll ephy hend hstop
 refine zL {subs:=[18,95]} 300 Try.func61 (fun c0 rdb mpb=>?_)
 (repeat' ((conv=>whnf);first|refine zO ?_|refine Ob.auto ?_|(refine Ob.intro (by (first|first|exact ⟨by omega,by omega⟩|(simp only [zg];omega)|exact ⟨⟨rfl,rfl⟩,hxw⟩)) ?_)|(apply zB <;> intro hb <;> (try simp [-zd] at hb) <;> try (exfalso;omega))|refine Ob.intro ?_ ?_))
 refine OpG.cus (fun _=>rfl) 300 rfl (by kernel_rfl) (qpr (r:=6) (i:=x) (e:=k.we x) (n:=(k.watch.getD x []).length) (k:=.i64) (b:=0) (R:=⟨[],3,1,k.we x,(k.watch.getD x []).length,encN (k.watch.getD x [])⟩) (ob:=some (dp (x<k.watch.length))) (el:=3) (fun _=>rfl) (by rfl) (by rfl) (by rfl) (by rfl) (by exact hxw) ⟨rfl,rfl⟩ (by rfl) (by exact zj _) ⟨by omega,by omega⟩) ?_
 (repeat' ((conv=>whnf);first|refine zO ?_|refine Ob.auto ?_|(refine Ob.intro (by (first|first|exact ⟨by omega,by omega⟩|(simp only [zg];omega)|exact ⟨⟨rfl,rfl⟩,hxw⟩)) ?_)|(apply zB <;> intro hb <;> (try simp [-zd] at hb) <;> try (exfalso;omega))|refine Ob.intro ?_ ?_))
 rw [hlist]
 ((conv=>whnf);refine qw (fun _=>rfl) 300 1 (fun i:Nat=>[(21,iv i),(6,.sub 6 x (k.we x) list.length 1 0 (qb x list k i).2.length)]) (fun i=>idx 0 (stK (phys x list (qb x list k i).1 (qb x list k i).2))) (fun i=>i≤list.length∧Goes x list k i) (fun i=>list.length - i) (0) (⟨zv _,fun j hj=>absurd hj (zo _)⟩) qa (by
  show SoLe _ _∧_
  rw [show qb x list k 0=(k,[]) from rfl,ephy]
  repeat' (first|exact trivial|exact rfl|exact SoLe.refl _|refine And.intro ?_ ?_)) (fun _=>rfl) (by kernel_rfl) ?_;(conv=>whnf))
 clear ephy
 have hek:=Hid.in hlist
 rintro i ⟨hi,hG⟩
 have hI:=qgf hV i hi hG
 have hwe:=qwg x list k i
 by_cases hil:i<list.length
 ·have hQ:=visq hI hil
  have hph:=qwh (list:=list) (kept:=(qb x list k i).2) (i:=i) hQ.kl hi
  have hat:=qjg (x:=x) (list:=list) (k:=(qb x list k i).1) (kept:=(qb x list k i).2) (by rw [hI.c.w];exact hI.xl)
  have hgo:(phys x list (qb x list k i).1 (qb x list k i).2).gone=(qb x list k i).1.gone:=rfl
  have hqe:(phys x list (qb x list k i).1 (qb x list k i).2).we=k.we:=hwe
  have hn:((phys x list (qb x list k i).1 (qb x list k i).2).watch.getD x []).getD i 0=list.getD i 0:=by rw [hat];exact hph
  have hQ1:=visq1 hI hil hll hn
  rw [← hn] at hQ
  obtain ⟨k1,hk1⟩:∃ k1,k1=(phys x list (qb x list k i).1 (qb x list k i).2).turn ((((phys x list (qb x list k i).1 (qb x list k i).2).watch.getD x []).getD i 0)) x:=⟨_,rfl⟩
  rw [← hk1] at hQ1
  generalize hkq:phys x list (qb x list k i).1 (qb x list k i).2=kq at hQ hQ1 hat hgo hqe hn hk1 ⊢
  have hlk:(k.watch.getD x []).length=(kq.watch.getD x []).length:=by rw [hQ.wl,hlist]
  clear hph hwe
  have hwl:=hQ.wl
  have hnb:=hQ.nb
  have hqx:=hQ.xw
  have hl2:=hQ.l2
  have hil2:i<(k.watch.getD x []).length:=by rw [hlist];exact hil
  have hl0:0<(kq.lits.getD ((kq.watch.getD x []).getD i 0) []).length:=by omega
  have hl1:1<(kq.lits.getD ((kq.watch.getD x []).getD i 0) []).length:=hl2
  replace hat:=Hid.in hat
  replace hkq:=Hid.in hkq
  replace hn:=Hid.in hn
  replace hqe:=Hid.in hqe
  replace hgo:=Hid.in hgo
  replace hk1:=Hid.in hk1
  (repeat' ((conv=>whnf);first|refine zO ?_|refine Ob.auto ?_|(refine Ob.intro (by (first|first|exact ⟨by omega,by omega⟩|(simp only [zg];omega)|exact ⟨hqx,⟨(congrFun hqe.out x).symm,hlk⟩,zf _,Int.ofNat_lt.2 hil2⟩|exact ⟨hqx,⟨(congrFun hqe.out x).symm,hlk⟩,hil2⟩|exact ⟨⟨rfl,rfl⟩,zf _,Int.ofNat_lt.2 hnb⟩|exact ⟨⟨rfl,rfl⟩,hnb⟩|exact ⟨hnb,⟨rfl,rfl⟩,zf _,Int.ofNat_lt.2 hl0⟩|exact ⟨hnb,⟨rfl,rfl⟩,hl0⟩|exact ⟨hnb,⟨rfl,rfl⟩,zf _,Int.ofNat_lt.2 hl1⟩|exact ⟨hnb,⟨rfl,rfl⟩,hl1⟩)) ?_)|(apply zB <;> intro hb <;> (try simp [-zd] at hb) <;> try (exfalso;omega))|refine Ob.intro ?_ ?_))
  ·have hg:(qb x list k i).1.gone.getD (list.getD i 0) false=true:=by rw [← hgo.out,← hn.out];exact hb
   ((conv=>whnf);refine ⟨i+1,⟨by omega,qml hG (by unfold qbw;rw [hg];rfl)⟩,⟨(by
    rw [qmj hg]
    repeat' (first|exact trivial|exact rfl|exact Le.refl _|refine And.intro ?_ ?_)),(by
    rw [qmj hg,hkq.out]
    repeat' (first|exact trivial|exact rfl|exact Le.refl _|exact SoLe.refl _|refine And.intro ?_ ?_))⟩,⟨qa,qa⟩,?_⟩;(first|omega|(dsimp only;omega)|skip))
  have hbx:(kq.lits.getD ((kq.watch.getD x []).getD i 0) []).getD 0 0=x:=Int.ofNat_inj.1 hb
  have e1:k1={ kq with lits:=kq.lits.set ((kq.watch.getD x []).getD i 0) (swap (kq.lits.getD ((kq.watch.getD x []).getD i 0) []) 0 1) }:=by
   rw [hk1.out]
   unfold K.turn turnL lit
   rw [za hbx]
  ((conv=>whnf);refine qcl (fun _=>rfl) (by kernel_rfl) 300 ?_)
  (repeat' ((conv=>whnf);first|refine zO ?_|refine Ob.auto ?_|(refine Ob.intro (by (first|first|exact ⟨by omega,by omega⟩|(simp only [zg];omega)|exact ⟨hqx,⟨(congrFun hqe.out x).symm,hlk⟩,zf _,Int.ofNat_lt.2 hil2⟩|exact ⟨hqx,⟨(congrFun hqe.out x).symm,hlk⟩,hil2⟩|exact ⟨⟨rfl,rfl⟩,zf _,Int.ofNat_lt.2 hnb⟩|exact ⟨⟨rfl,rfl⟩,hnb⟩|exact ⟨hnb,⟨rfl,rfl⟩,zf _,Int.ofNat_lt.2 hl0⟩|exact ⟨hnb,⟨rfl,rfl⟩,hl0⟩|exact ⟨hnb,⟨rfl,rfl⟩,zf _,Int.ofNat_lt.2 hl1⟩|exact ⟨hnb,⟨rfl,rfl⟩,hl1⟩|exact ⟨hnb,⟨(za rfl).symm,(za rfl).symm⟩,zf _,Int.ofNat_lt.2 hl0⟩|exact ⟨hnb,⟨(za rfl).symm,(za rfl).symm⟩,hl0⟩|exact ⟨hnb,⟨(za rfl).symm,(za rfl).symm⟩,zf _,Int.ofNat_lt.2 hl1⟩|exact ⟨hnb,⟨(za rfl).symm,(za rfl).symm⟩,hl1⟩)) ?_)|(apply zB <;> intro hb <;> (try simp [-zd] at hb) <;> try (exfalso;omega))|refine Ob.intro ?_ ?_))
  ((conv=>whnf);refine AltG.shape 20 [2] (by kernel_rfl) ?_ ?_)
  ·repeat' (first|exact trivial|exact fun h=>Bool.noConfusion h|exact fun _=>rfl|exact fun _=>qhh (qay _ _) (qay _ _)|exact fun _=>qhh ((qay _ _).trans (qay _ _)) ((qay _ _).trans (qay _ _))|refine And.intro ?_ ?_)
  refine MT.endg (MT.st k1 ?_) ?_
  ·rw [e1]
   have hlens:∀ j,((kq.lits.set ((kq.watch.getD x []).getD i 0) (swap (kq.lits.getD ((kq.watch.getD x []).getD i 0) []) 0 1)).getD j []).length=(kq.lits.getD j []).length:=fun j=>qjf (qmd _ _ _) j
   unfold stK boxK
   simp only [xd,hlens]
   repeat' (first|exact trivial|exact rfl|exact Le.refl _|exact SoLe.refl _|exact qwb hnb rfl rfl rfl rfl hl0 hl1 (za rfl) (za rfl)|refine And.intro ?_ ?_)
  clear e1 hbx hb
  rotate_left
  have hbx:¬ (kq.lits.getD ((kq.watch.getD x []).getD i 0) []).getD 0 0=x:=fun h=>hb (congrArg Int.ofNat h)
  have e1:k1=kq:=by
   rw [hk1.out]
   unfold K.turn turnL lit
   rw [ze hbx,qpz]
  refine MT.draw (MT.st k1 ?_) ?_
  ·rw [e1]
   unfold stK boxK
   repeat' (first|exact trivial|exact rfl|exact Le.refl _|exact SoLe.refl _|refine And.intro ?_ ?_)
  clear e1 hbx hb
  all_goals
   have hlz:=hQ1.lz
   have hnb1:=hQ1.nb
   have hl01:0<(k1.lits.getD ((kq.watch.getD x []).getD i 0) []).length:=by have:=hQ1.l2;unfold lit at this;omega
   have hlen1:(kq.lits.getD ((kq.watch.getD x []).getD i 0) []).length=(k1.lits.getD ((kq.watch.getD x []).getD i 0) []).length:=by rw [hQ1.lt];exact (qmh x hl2).length_eq.symm
   have hgv:(qb x list k i).1.gone.getD (list.getD i 0) false=false:=by rw [← hgo.out,← hn.out];exact hb
   have hzz:k1.val.getD ((k1.lits.getD ((kq.watch.getD x []).getD i 0) []).getD 0 0) 0=vl ((qb x list k i).1.turn (list.getD i 0) x) ((lit ((qb x list k i).1.turn (list.getD i 0) x) (list.getD i 0)).getD 0 0):=by rw [hQ1.p,hn.out];rfl
   by_cases hz:k1.val.getD ((k1.lits.getD ((kq.watch.getD x []).getD i 0) []).getD 0 0) 0≤0
   (repeat' ((conv=>whnf);first|refine zO ?_|refine Ob.auto ?_|(refine Ob.intro (by (first|exact ⟨by omega,by omega⟩|(simp only [zg];omega))) ?_)|(apply zB <;> intro hb <;> (try simp [-zd] at hb) <;> try (exfalso;omega))|refine Ob.intro ?_ ?_))
   ((conv=>whnf);refine qcl (fun _=>rfl) (by kernel_rfl) 300 ?_)
   (repeat' ((conv=>whnf);first|refine zO ?_|refine Ob.auto ?_|(refine Ob.intro (by (first|first|exact ⟨by omega,by omega⟩|(simp only [zg];omega)|exact ⟨⟨rfl,rfl⟩,zf _,Int.ofNat_lt.2 hnb1⟩|exact ⟨⟨rfl,rfl⟩,hnb1⟩|exact ⟨hnb1,⟨rfl,hlen1⟩,zf _,Int.ofNat_lt.2 hl01⟩|exact ⟨hnb1,⟨rfl,hlen1⟩,hl01⟩|exact ⟨⟨rfl,rfl⟩,zf _,Int.ofNat_lt.2 hlz⟩|exact ⟨⟨rfl,rfl⟩,hlz⟩)) ?_)|(apply zB <;> intro hb <;> (try simp [-zd] at hb) <;> try (exfalso;omega))|refine Ob.intro ?_ ?_))
   ((conv=>whnf);refine CallZ.trip [0,1,2,3,4,5,6,7,8,9,10] (xn hz) (jgu k1 hQ1.sz ((kq.watch.getD x []).getD i 0) hQ1.nb hQ1.c hQ1.l2 hQ1.l9 hQ1.w) (by kernel_rfl) ⟨Le.cnd (xn hz),Le.cnd (xn hz),trivial⟩ (by exact qat k1) (by exact qn k1) (by exact qn _) ?_)
   (repeat' ((conv=>whnf);first|refine zO ?_|refine Ob.auto ?_|(refine Ob.intro (by (first|exact ⟨by omega,by omega⟩|(simp only [zg];omega))) ?_)|(apply zB <;> intro hb <;> (try simp [-zd] at hb) <;> try (exfalso;omega))|refine Ob.intro ?_ ?_))
   cases ho:(k1.other ((kq.watch.getD x []).getD i 0)).2
   rotate_left
   ·have hov:(((qb x list k i).1.turn (list.getD i 0) x).other (list.getD i 0)).2=true:=by
     have h:=ho
     rw [hQ1.o,hn.out] at h
     exact h
    have hzv:=hz
    rw [hzz] at hzv
    have hov1:(k1.other ((kq.watch.getD x []).getD i 0)).1=phys x list (qb x list k (i+1)).1 (qb x list k (i+1)).2:=by
     rw [qmk hgv hzv hov,hQ1.o,hn.out]
    ((conv=>whnf);refine AltG.none (by kernel_rfl) (MT.endg (MT.st (phys x list (qb x list k (i+1)).1 (qb x list k (i+1)).2) (by rw [← hov1];(unfold stK boxK;repeat' (first|exact trivial|exact rfl|exact Le.refl _|exact SoLe.refl _|exact fun _ _=>LeL.refl _|exact fun _ _ _ _=>LeL.refl _|refine And.intro ?_ ?_)))) ?_))
    (repeat' ((conv=>whnf);first|refine zO ?_|refine Ob.auto ?_|(refine Ob.intro (by (first|exact ⟨by omega,by omega⟩|(simp only [zg];omega))) ?_)|(apply zB <;> intro hb <;> (try simp [-zd] at hb) <;> try (exfalso;omega))|refine Ob.intro ?_ ?_))
    ((conv=>whnf);refine ⟨i+1,⟨by omega,qml hG (by unfold qbw;rw [hov];simp)⟩,⟨(by
     rw [qmk hgv hzv hov]
     (repeat' (first|exact trivial|exact rfl|exact Le.refl _|exact SoLe.refl _|refine And.intro ?_ ?_))),(by
     (repeat' (first|exact trivial|exact rfl|exact Le.refl _|exact SoLe.refl _|refine And.intro ?_ ?_)))⟩,⟨qa,qa⟩,?_⟩;(first|omega|(dsimp only;omega)|skip))
   rotate_left
   have hcase:k1.val.getD ((k1.lits.getD ((kq.watch.getD x []).getD i 0) []).getD 0 0) 0≤0→(((qb x list k i).1.turn (list.getD i 0) x).other (list.getD i 0)).2=false:=fun _=>by
    have h:=ho
    rw [hQ1.o,hn.out] at h
    exact h
   have hov1:=(qmi ho).2
   ((conv=>whnf);refine AltG.none (by kernel_rfl) (MT.endg (MT.st k1 (by rw [hov1];(unfold stK boxK;repeat' (first|exact trivial|exact rfl|exact Le.refl _|exact SoLe.refl _|exact fun _ _=>LeL.refl _|exact fun _ _ _ _=>LeL.refl _|refine And.intro ?_ ?_)))) ?_))
   (repeat' ((conv=>whnf);first|refine zO ?_|refine Ob.auto ?_|(refine Ob.intro (by (first|exact ⟨by omega,by omega⟩|(simp only [zg];omega))) ?_)|(apply zB <;> intro hb <;> (try simp [-zd] at hb) <;> try (exfalso;omega))|refine Ob.intro ?_ ?_))
   clear hz ho hov1
   rotate_left
   have hcase:k1.val.getD ((k1.lits.getD ((kq.watch.getD x []).getD i 0) []).getD 0 0) 0≤0→(((qb x list k i).1.turn (list.getD i 0) x).other (list.getD i 0)).2=false:=fun h=>absurd h hz
   (repeat' ((conv=>whnf);first|refine zO ?_|refine Ob.auto ?_|(refine Ob.intro (by (first|exact ⟨by omega,by omega⟩|(simp only [zg];omega))) ?_)|(apply zB <;> intro hb <;> (try simp [-zd] at hb) <;> try (exfalso;omega))|refine Ob.intro ?_ ?_))
   ((conv=>whnf);refine qcl (fun _=>rfl) (by kernel_rfl) 300 ?_)
   (repeat' ((conv=>whnf);first|refine zO ?_|refine Ob.auto ?_|(refine Ob.intro (by (first|first|exact ⟨by omega,by omega⟩|(simp only [zg];omega)|exact ⟨⟨rfl,rfl⟩,zf _,Int.ofNat_lt.2 hnb1⟩|exact ⟨⟨rfl,rfl⟩,hnb1⟩|exact ⟨hnb1,⟨rfl,hlen1⟩,zf _,Int.ofNat_lt.2 hl01⟩|exact ⟨hnb1,⟨rfl,hlen1⟩,hl01⟩|exact ⟨⟨rfl,rfl⟩,zf _,Int.ofNat_lt.2 hlz⟩|exact ⟨⟨rfl,rfl⟩,hlz⟩)) ?_)|(apply zB <;> intro hb <;> (try simp [-zd] at hb) <;> try (exfalso;omega))|refine Ob.intro ?_ ?_))
   ((conv=>whnf);refine CallZ.no (.bool false) (xx hz) ?_)
   (repeat' ((conv=>whnf);first|refine zO ?_|refine Ob.auto ?_|(refine Ob.intro (by (first|exact ⟨by omega,by omega⟩|(simp only [zg];omega))) ?_)|(apply zB <;> intro hb <;> (try simp [-zd] at hb) <;> try (exfalso;omega))|refine Ob.intro ?_ ?_))
   ((conv=>whnf);refine AltG.none (by kernel_rfl) (EndG.go ?_))
   (repeat' ((conv=>whnf);first|refine zO ?_|refine Ob.auto ?_|(refine Ob.intro (by (first|exact ⟨by omega,by omega⟩|(simp only [zg];omega))) ?_)|(apply zB <;> intro hb <;> (try simp [-zd] at hb) <;> try (exfalso;omega))|refine Ob.intro ?_ ?_))
   clear hz
  all_goals
   have hw1:k1.watch=kq.watch:=by rw [hk1.out];rfl
   have he1:k1.we=k.we:=by rw [hk1.out];exact hqe.out
   have hv1:k1.val.length=kq.val.length:=by rw [hk1.out];rfl
   have hxk:x<k1.watch.length:=by rw [hw1];exact hqx
   have hkl:(qb x list k i).2.length<list.length:=Nat.lt_of_le_of_lt hQ.kl hil
   have hlen2:(k1.watch.getD x []).length=list.length:=by rw [hw1];exact hwl
   refine OpG.cus (fun _=>rfl) 300 rfl (by kernel_rfl) (qve (r:=6) (i:=x) (e:=k.we x) (n:=list.length) (sz:=1) (m:=(qb x list k i).2.length) (q:=1) (R:=⟨[],3,1,k1.we x,(k1.watch.getD x []).length,encN (k1.watch.getD x [])⟩) (ob:=some (dp (x<k1.watch.length))) (el:=3) (fun _=>rfl) rfl (by rfl) (by rfl) (by rfl) (by rfl) (by exact hxk) ⟨(congrFun he1 x).symm,hlen2.symm⟩ (by rfl) (by rfl) (by exact zj _) hkl) ?_
   (repeat' ((conv=>whnf);first|refine zO ?_|refine Ob.auto ?_|(refine Ob.intro (by (first|exact ⟨by omega,by omega⟩|(simp only [zg];omega))) ?_)|(apply zB <;> intro hb <;> (try simp [-zd] at hb) <;> try (exfalso;omega))|refine Ob.intro ?_ ?_))
   obtain ⟨k2,hk2⟩:∃ k2,k2=phys x list ((qb x list k i).1.turn (list.getD i 0) x) ((qb x list k i).2++[list.getD i 0]):=⟨_,rfl⟩
   have hp2:k2={ k1 with watch:=k1.watch.set x ((k1.watch.getD x []).set (qb x list k i).2.length ((kq.watch.getD x []).getD i 0)) }:=by
    rw [hk2,← hn.out]
    exact jha (by rw [← hQ1.wv];exact hxk) hkl hQ1.p
   replace hk2:=Hid.in hk2
   refine MT.draw (MT.st k2 ?_) ?_
   ·rw [hp2]
    have hlens:∀ j,((k1.watch.set x ((k1.watch.getD x []).set (qb x list k i).2.length ((kq.watch.getD x []).getD i 0))).getD j []).length=(k1.watch.getD j []).length:=fun j=>qjf xd j
    have hfo:SoLe _ _:=jhb (e:=3) (ws:=k1.watch) (we:=k1.we) (n:=x) (m:=(qb x list k i).2.length) (y:=((kq.watch.getD x []).getD i 0)) (e1:=k.we x) (l1:=list.length) (g:=chop (0+1) [iv ((kq.watch.getD x []).getD i 0)]) hxk rfl (congrFun he1 x).symm hlen2.symm (by rw [hlen2];exact hkl)
    simp only [hlens] at hfo
    unfold stK boxK
    simp only [xd,hlens]
    repeat' (first|exact trivial|exact rfl|exact Le.refl _|exact SoLe.refl _|exact hfo|refine And.intro ?_ ?_)
   have hl2':k2.lits=k1.lits:=by rw [hp2]
   have hv2:k2.val=k1.val:=by rw [hp2]
   have hwl2:(k2.watch.getD x []).length=list.length:=by rw [hp2];exact (qjf xd x).trans hlen2
   have hxk2:x<k2.watch.length:=by rw [hp2];simpa using hxk
   have he2:k2.we=k.we:=by rw [hp2];exact he1
   have hlz2:(k2.lits.getD ((kq.watch.getD x []).getD i 0) []).getD 0 0<k2.val.length:=by rw [hl2',hv2];exact hlz
   have hnb2:((kq.watch.getD x []).getD i 0)<k2.lits.length:=by rw [hl2'];exact hnb1
   have hl02:0<(k2.lits.getD ((kq.watch.getD x []).getD i 0) []).length:=by rw [hl2'];exact hl01
   have hlen22:(kq.lits.getD ((kq.watch.getD x []).getD i 0) []).length=(k2.lits.getD ((kq.watch.getD x []).getD i 0) []).length:=by rw [hl2'];exact hlen1
   have hzz2:k2.val.getD ((k2.lits.getD ((kq.watch.getD x []).getD i 0) []).getD 0 0) 0=vl ((qb x list k i).1.turn (list.getD i 0) x) ((lit ((qb x list k i).1.turn (list.getD i 0) x) (list.getD i 0)).getD 0 0):=by rw [hl2',hv2];exact hzz
   have hsz2:Sz k2:=⟨by rw [hp2];exact hQ1.sz.vr,by rw [hp2];simpa using hQ1.sz.vw,by rw [hp2];exact hQ1.sz.v,by rw [hp2];exact hQ1.sz.t⟩
   replace hk2:=Hid.in (And.intro hk2.out hp2)
   replace hl2':=Hid.in hl2'
   replace hv2:=Hid.in hv2
   replace hw1:=Hid.in hw1
   replace he1:=Hid.in he1
   replace he2:=Hid.in he2
   clear hp2
   (repeat' ((conv=>whnf);first|refine zO ?_|refine Ob.auto ?_|(refine Ob.intro (by (first|first|exact ⟨by omega,by omega⟩|(simp only [zg];omega)|exact ⟨⟨rfl,rfl⟩,zf _,Int.ofNat_lt.2 hnb2⟩|exact ⟨⟨rfl,rfl⟩,hnb2⟩|exact ⟨hnb2,⟨rfl,hlen22⟩,zf _,Int.ofNat_lt.2 hl02⟩|exact ⟨hnb2,⟨rfl,hlen22⟩,hl02⟩|exact ⟨⟨rfl,rfl⟩,zf _,Int.ofNat_lt.2 hlz2⟩|exact ⟨⟨rfl,rfl⟩,hlz2⟩)) ?_)|(apply zB <;> intro hb <;> (try simp [-zd] at hb) <;> try (exfalso;omega))|refine Ob.intro ?_ ?_))
   ((conv=>whnf);refine qcl (fun _=>rfl) (by kernel_rfl) 300 ?_)
   (repeat' ((conv=>whnf);first|refine zO ?_|refine Ob.auto ?_|(refine Ob.intro (by (first|first|exact ⟨by omega,by omega⟩|(simp only [zg];omega)|exact ⟨⟨rfl,rfl⟩,zf _,Int.ofNat_lt.2 hnb2⟩|exact ⟨⟨rfl,rfl⟩,hnb2⟩|exact ⟨hnb2,⟨rfl,hlen22⟩,zf _,Int.ofNat_lt.2 hl02⟩|exact ⟨hnb2,⟨rfl,hlen22⟩,hl02⟩|exact ⟨⟨rfl,rfl⟩,zf _,Int.ofNat_lt.2 hlz2⟩|exact ⟨⟨rfl,rfl⟩,hlz2⟩)) ?_)|(apply zB <;> intro hb <;> (try simp [-zd] at hb) <;> try (exfalso;omega))|refine Ob.intro ?_ ?_))
   ((conv=>whnf);refine AltG.none (by kernel_rfl) (EndG.go ?_))
   (repeat' ((conv=>whnf);first|refine zO ?_|refine Ob.auto ?_|(refine Ob.intro (by (first|first|exact ⟨by omega,by omega⟩|(simp only [zg];omega)|exact ⟨⟨rfl,rfl⟩,zf _,Int.ofNat_lt.2 hnb2⟩|exact ⟨⟨rfl,rfl⟩,hnb2⟩|exact ⟨hnb2,⟨rfl,hlen22⟩,zf _,Int.ofNat_lt.2 hl02⟩|exact ⟨hnb2,⟨rfl,hlen22⟩,hl02⟩|exact ⟨⟨rfl,rfl⟩,zf _,Int.ofNat_lt.2 hlz2⟩|exact ⟨⟨rfl,rfl⟩,hlz2⟩)) ?_)|(apply zB <;> intro hb <;> (try simp [-zd] at hb) <;> try (exfalso;omega))|refine Ob.intro ?_ ?_))
   ·((conv=>whnf);refine qcl (fun _=>rfl) (by kernel_rfl) 300 ?_)
    (repeat' ((conv=>whnf);first|refine zO ?_|refine Ob.auto ?_|(refine Ob.intro (by (first|first|exact ⟨by omega,by omega⟩|(simp only [zg];omega)|exact ⟨⟨rfl,rfl⟩,zf _,Int.ofNat_lt.2 hnb2⟩|exact ⟨⟨rfl,rfl⟩,hnb2⟩|exact ⟨hnb2,⟨rfl,hlen22⟩,zf _,Int.ofNat_lt.2 hl02⟩|exact ⟨hnb2,⟨rfl,hlen22⟩,hl02⟩|exact ⟨⟨rfl,rfl⟩,zf _,Int.ofNat_lt.2 hlz2⟩|exact ⟨⟨rfl,rfl⟩,hlz2⟩)) ?_)|(apply zB <;> intro hb <;> (try simp [-zd] at hb) <;> try (exfalso;omega))|refine Ob.intro ?_ ?_))
    have hmq:(qb x list k i).2.length+1+(list.length - (i+1))≤list.length:=by have:=hQ.kl;omega
    refine CusY.intro (v:=.sub 6 x (k.we x) list.length 1 (i+1) (list.length - (i+1))) (qvc (r:=6) (i:=x) (e:=k.we x) (n:=list.length) (k:=.i64) (a:=(i:Int)+1) (R:=⟨[],3,1,k2.we x,(k2.watch.getD x []).length,encN (k2.watch.getD x [])⟩) (ob:=some (dp (x<k2.watch.length))) (el:=3) (fun _=>rfl) (by exact congrArg (AV.own 6 x (k.we x)) (congrArg List.length hlist)) (by rfl) (by rfl) (by rfl) (by exact hxk2) ⟨(congrFun he2.out x).symm,hwl2.symm⟩ (by rfl) (by exact zj _) ⟨by omega,by omega⟩) ?_
    (repeat' ((conv=>whnf);first|refine zO ?_|refine Ob.auto ?_|(refine Ob.intro (by (first|first|exact ⟨by omega,by omega⟩|(simp only [zg];omega)|exact ⟨⟨rfl,rfl⟩,zf _,Int.ofNat_lt.2 hnb2⟩|exact ⟨⟨rfl,rfl⟩,hnb2⟩|exact ⟨hnb2,⟨rfl,hlen22⟩,zf _,Int.ofNat_lt.2 hl02⟩|exact ⟨hnb2,⟨rfl,hlen22⟩,hl02⟩|exact ⟨⟨rfl,rfl⟩,zf _,Int.ofNat_lt.2 hlz2⟩|exact ⟨⟨rfl,rfl⟩,hlz2⟩)) ?_)|(apply zB <;> intro hb <;> (try simp [-zd] at hb) <;> try (exfalso;omega))|refine Ob.intro ?_ ?_))
    refine CusY.intro (v:=.sub 6 x (k.we x) list.length 1 0 ((qb x list k i).2.length+1+(list.length - (i+1)))) (jgd (r:=6) (i:=x) (e:=k.we x) (n:=list.length) (sz:=1) (m:=(qb x list k i).2.length+1) (a:=i+1) (q:=list.length - (i+1)) (R:=⟨[],3,1,k2.we x,(k2.watch.getD x []).length,encN (k2.watch.getD x [])⟩) (ob:=some (dp (x<k2.watch.length))) (el:=3) (fun _=>rfl) rfl (by rfl) (by rfl) (by rfl) (by rfl) (by exact hxk2) ⟨(congrFun he2.out x).symm,hwl2.symm⟩ (by rfl) (by rfl) (by exact zj _) hmq) ?_
    (repeat' ((conv=>whnf);first|refine zO ?_|refine Ob.auto ?_|(refine Ob.intro (by (first|first|exact ⟨by omega,by omega⟩|(simp only [zg];omega)|exact ⟨⟨rfl,rfl⟩,zf _,Int.ofNat_lt.2 hnb2⟩|exact ⟨⟨rfl,rfl⟩,hnb2⟩|exact ⟨hnb2,⟨rfl,hlen22⟩,zf _,Int.ofNat_lt.2 hl02⟩|exact ⟨hnb2,⟨rfl,hlen22⟩,hl02⟩|exact ⟨⟨rfl,rfl⟩,zf _,Int.ofNat_lt.2 hlz2⟩|exact ⟨⟨rfl,rfl⟩,hlz2⟩|exact ⟨⟨rfl,rfl⟩,zf _,Int.ofNat_lt.2 hxk2⟩|exact ⟨⟨rfl,rfl⟩,hxk2⟩)) ?_)|(apply zB <;> intro hb <;> (try simp [-zd] at hb) <;> try (exfalso;omega))|refine Ob.intro ?_ ?_))
    refine CusY.intro (v:=.any) (qvf (r:=6) (i:=x) (e:=k.we x) (n:=list.length) (sz:=1) (m:=((qb x list k i).2.length+1+(list.length - (i+1)))) (W:=5) (iW:=0) (eW:=0) (nW:=k2.watch.length) (k:=x) (fun _=>rfl) (by rfl) (by rfl) (by rfl) (by rfl) (by rfl) (by rfl) (by exact hxk2) (by exact ⟨(za rfl).symm,(za rfl).symm⟩) (by exact trivial) (by exact ⟨rfl,rfl⟩) (by rfl) (by exact hxk2) (by rfl) (by exact ⟨hxk2,(za rfl).symm,(za rfl).symm⟩)) ?_
    (repeat' ((conv=>whnf);first|refine zO ?_|refine Ob.auto ?_|(refine Ob.intro (by (first|first|exact ⟨by omega,by omega⟩|(simp only [zg];omega)|exact ⟨⟨rfl,rfl⟩,zf _,Int.ofNat_lt.2 hnb2⟩|exact ⟨⟨rfl,rfl⟩,hnb2⟩|exact ⟨hnb2,⟨rfl,hlen22⟩,zf _,Int.ofNat_lt.2 hl02⟩|exact ⟨hnb2,⟨rfl,hlen22⟩,hl02⟩|exact ⟨⟨rfl,rfl⟩,zf _,Int.ofNat_lt.2 hlz2⟩|exact ⟨⟨rfl,rfl⟩,hlz2⟩|exact ⟨⟨rfl,rfl⟩,zf _,Int.ofNat_lt.2 hxk2⟩|exact ⟨⟨rfl,rfl⟩,hxk2⟩)) ?_)|(apply zB <;> intro hb <;> (try simp [-zd] at hb) <;> try (exfalso;omega))|refine Ob.intro ?_ ?_))
    obtain ⟨k3,hk3⟩:∃ k3:K,k3={ k2 with watch:=k2.watch.set x ((qb x list k i).2++list.drop i),we:=bump k2.we x }:=⟨_,rfl⟩
    ((conv=>whnf);refine AltG.far 12 [0] (by kernel_rfl) farA (MT.endg (MT.st k3 ?_) ?_))
    ·rw [hk3]
     have hTl:(qb x list k i).2.length+1+(list.length - (i+1))=((qb x list k i).2++list.drop i).length:=by rw [zi,zah];omega
     have hW:k2.watch.getD x []=(qb x list k i).2++[list.getD i 0]++list.drop ((qb x list k i).2++[list.getD i 0]).length:=by
      rw [hk2.out.1]
      refine qjg ?_
      have h:=hQ1.wv
      rw [hn.out] at h
      rw [← h]
      exact hxk
     unfold stK boxK
     simp only [xd]
     repeat' (first|exact trivial|exact rfl|exact Le.refl _|exact SoLe.refl _|exact qwl hxk2 rfl hTl (congrArg (·+1) (congrFun he2.out x).symm)|exact qqg hxk2 (fun j h=>⟨qqh h,qqh h,fun _=>congrFun (qqh h) _⟩) (congrArg (·+1) (congrFun he2.out x).symm) hTl (fun j hj=>(congrFun jhc _).trans (jhd hQ.kl hil rfl hW j hj))|refine And.intro ?_ ?_)
    (repeat' ((conv=>whnf);first|refine zO ?_|refine Ob.auto ?_|(refine Ob.intro (by (first|exact ⟨by omega,by omega⟩|(simp only [zg];omega))) ?_)|(apply zB <;> intro hb <;> (try simp [-zd] at hb) <;> try (exfalso;omega))|refine Ob.intro ?_ ?_))
    have hs:qbw x (list.getD i 0) (qb x list k i).1=true:=by
     rw [hzz2] at hb
     have hov:=hcase (by rw [hzz];omega)
     unfold qbw
     rw [hgv,hov,xn hb]
     rfl
    have hfin:k.visit x=(k3,false):=by
     rw [hstop.out i hil hG hs,hk3,hk2.out.1]
     unfold phys
     simp only [List.set_set]
    rw [hfin]
    refine ⟨Le.refl _,?_⟩
    (unfold stK boxK;repeat' (first|exact trivial|exact rfl|exact Le.refl _|exact SoLe.refl _|exact fun _ _=>LeL.refl _|exact fun _ _ _ _=>LeL.refl _|refine And.intro ?_ ?_))
   ·(repeat' ((conv=>whnf);first|refine zA ?_|refine zO ?_|refine Ob.auto ?_|(refine Ob.intro (by (first|first|exact ⟨by omega,by omega⟩|(simp only [zg];omega)|exact ⟨⟨rfl,rfl⟩,zf _,Int.ofNat_lt.2 hnb2⟩|exact ⟨⟨rfl,rfl⟩,hnb2⟩|exact ⟨hnb2,⟨rfl,hlen22⟩,zf _,Int.ofNat_lt.2 hl02⟩|exact ⟨hnb2,⟨rfl,hlen22⟩,hl02⟩|exact ⟨⟨rfl,rfl⟩,zf _,Int.ofNat_lt.2 hlz2⟩|exact ⟨⟨rfl,rfl⟩,hlz2⟩)) ?_)|refine zD 300 ?_|(apply zB <;> intro hb <;> (try simp [-zd] at hb) <;> try (exfalso;omega))|refine Ob.intro ?_ ?_))
    ·have hz0:vl ((qb x list k i).1.turn (list.getD i 0) x) ((lit ((qb x list k i).1.turn (list.getD i 0) x) (list.getD i 0)).getD 0 0)=0:=by rw [← hzz2];exact hb
     have hov:=hcase (by rw [hzz,hz0];exact Int.le_refl _)
     have hsv:=qqd hgv (by rw [hz0];exact Int.le_refl _) hov
     have hst:phys x list (qb x list k (i+1)).1 (qb x list k (i+1)).2=k2.set ((k2.lits.getD ((kq.watch.getD x []).getD i 0) []).getD 0 0) ((kq.watch.getD x []).getD i 0):=by
      have e:(k2.lits.getD ((kq.watch.getD x []).getD i 0) []).getD 0 0=(lit ((qb x list k i).1.turn (list.getD i 0) x) (list.getD i 0)).getD 0 0:=by rw [hl2'.out,hQ1.p,hn.out];rfl
      rw [hsv,e,hk2.out.1,hn.out]
      rfl
     ((conv=>whnf);refine jm (fun _=>rfl) 300 [0,1,2,3,4,5,6,7,8,9,10] (qjc k2 hsz2 ((k2.lits.getD ((kq.watch.getD x []).getD i 0) []).getD 0 0) hlz2 (((kq.watch.getD x []).getD i 0):Nat)) (by kernel_rfl) leA (by exact qat k2) (by exact qn k2) (by exact qn _) (by kernel_rfl) ?_)
     (repeat' ((conv=>whnf);first|refine zO ?_|refine Ob.auto ?_|(refine Ob.intro (by (first|first|exact ⟨by omega,by omega⟩|(simp only [zg];omega)|exact ⟨⟨rfl,rfl⟩,zf _,Int.ofNat_lt.2 hnb2⟩|exact ⟨⟨rfl,rfl⟩,hnb2⟩|exact ⟨hnb2,⟨rfl,hlen22⟩,zf _,Int.ofNat_lt.2 hl02⟩|exact ⟨hnb2,⟨rfl,hlen22⟩,hl02⟩|exact ⟨⟨rfl,rfl⟩,zf _,Int.ofNat_lt.2 hlz2⟩|exact ⟨⟨rfl,rfl⟩,hlz2⟩)) ?_)|(apply zB <;> intro hb <;> (try simp [-zd] at hb) <;> try (exfalso;omega))|refine Ob.intro ?_ ?_))
     ((conv=>whnf);refine ⟨i+1,⟨by omega,qml hG (by unfold qbw;rw [hz0];simp)⟩,⟨(by
      rw [hsv]
      simp only [zi,xh,zaf,zw]
      (repeat' (first|exact trivial|exact rfl|exact Le.refl _|exact SoLe.refl _|refine And.intro ?_ ?_))),(by
      rw [hst]
      (unfold stK boxK;repeat' (first|exact trivial|exact rfl|exact Le.refl _|exact SoLe.refl _|exact fun _ _=>LeL.refl _|exact fun _ _ _ _=>LeL.refl _|refine And.intro ?_ ?_)))⟩,⟨qa,qa⟩,?_⟩;(first|omega|(dsimp only;omega)|skip))
    ·have hz0:¬ vl ((qb x list k i).1.turn (list.getD i 0) x) ((lit ((qb x list k i).1.turn (list.getD i 0) x) (list.getD i 0)).getD 0 0)≤0:=by rw [← hzz2];omega
     have hsv:=qqe hgv hz0
     have hst:phys x list (qb x list k (i+1)).1 (qb x list k (i+1)).2=k2:=by
      rw [hsv,hk2.out.1]
     ((conv=>whnf);refine ⟨i+1,⟨by omega,qml hG (by unfold qbw;rw [xx (by omega:¬ vl ((qb x list k i).1.turn (list.getD i 0) x) ((lit ((qb x list k i).1.turn (list.getD i 0) x) (list.getD i 0)).getD 0 0)<0)];simp)⟩,⟨(by
      rw [hsv]
      simp only [zi,xh,zaf,zw]
      (repeat' (first|exact trivial|exact rfl|exact Le.refl _|exact SoLe.refl _|refine And.intro ?_ ?_))),(by
      rw [hst]
      (unfold stK boxK;repeat' (first|exact trivial|exact rfl|exact Le.refl _|exact SoLe.refl _|exact fun _ _=>LeL.refl _|exact fun _ _ _ _=>LeL.refl _|refine And.intro ?_ ?_)))⟩,⟨qa,qa⟩,?_⟩;(first|omega|(dsimp only;omega)|skip))
 ·have hlq:i=list.length:=by omega
  have hxi:x<(phys x list (qb x list k i).1 (qb x list k i).2).watch.length:=by
   have:=hI.c.w
   have:=hI.xl
   simp only [phys,xd]
   omega
  have hfin:=hend.out (hlq ▸ hG)
  rw [← hlq] at hfin
  have hkl:(qb x list k i).2.length≤list.length:=zr hI.ks.length_le (by rw [zu];omega)
  have hat:=qjg (x:=x) (list:=list) (k:=(qb x list k i).1) (kept:=(qb x list k i).2) (by rw [hI.c.w];exact hI.xl)
  have hlen:=qqf hkl
  rw [← hat] at hlen
  have hww:(phys x list (qb x list k i).1 (qb x list k i).2).we=k.we:=hwe
  have hws:∀ w,(phys x list (qb x list k i).1 (qb x list k i).2).watch.set x w=(qb x list k i).1.watch.set x w:=fun w=>by simp only [phys,List.set_set]
  obtain ⟨kept,hkept⟩:∃ kept,kept=(qb x list k i).2:=⟨_,rfl⟩
  obtain ⟨kv,hkv⟩:∃ kv,kv=(qb x list k i).1:=⟨_,rfl⟩
  rw [← hkept] at hkl
  rw [← hkept,← hkv] at hxi hfin hat hlen hww hws ⊢
  generalize hkq:phys x list kv kept=kq at hxi hat hlen hww hws ⊢
  have hfin':k.visit x=({ kq with watch:=kq.watch.set x kept,we:=bump kq.we x },true):=by
   rw [hfin,hws,← hkq]
   rfl
  replace hkq:=Hid.in hkq
  replace hat:=Hid.in hat
  replace hww:=Hid.in hww
  replace hws:=Hid.in hws
  replace hfin:=Hid.in hfin
  replace hfin':=Hid.in hfin'
  replace hkept:=Hid.in hkept
  replace hkv:=Hid.in hkv
  clear hwe
  have hnl:¬ i<(k.watch.getD x []).length:=by rw [hlist];omega
  (repeat' ((conv=>whnf);first|refine zO ?_|refine Ob.auto ?_|(refine Ob.intro (by (first|first|exact ⟨by omega,by omega⟩|(simp only [zg];omega)|exact ⟨⟨rfl,rfl⟩,zf _,Int.ofNat_lt.2 hxi⟩|exact ⟨⟨rfl,rfl⟩,hxi⟩)) ?_)|(apply zB <;> intro hb <;> (try simp [-zd] at hb) <;> (try (exfalso;omega)) <;> (try contradiction))|refine Ob.intro ?_ ?_))
  refine OpG.cus (fun _=>rfl) 300 rfl (by kernel_rfl) (qvf (r:=6) (i:=x) (e:=k.we x) (n:=list.length) (sz:=1) (m:=kept.length) (R:=⟨[],3,1,kq.we x,(kq.watch.getD x []).length,encN (kq.watch.getD x [])⟩) (ob:=some (dp (x<kq.watch.length))) (W:=5) (iW:=0) (eW:=0) (nW:=kq.watch.length) (k:=x) (fun _=>rfl) (by rfl) (by rfl) (by rfl) (by rfl) (by rfl) (by rfl) (by exact hxi) (by exact ⟨(congrFun hww.out x).symm,hlen.symm⟩) (by exact trivial) (by exact ⟨rfl,rfl⟩) (by rfl) (by exact hxi) (by rfl) (by exact ⟨hxi,(za rfl).symm,(za rfl).symm⟩)) ?_
  (repeat' ((conv=>whnf);first|refine zO ?_|refine Ob.auto ?_|(refine Ob.intro (by (first|exact ⟨by omega,by omega⟩|(simp only [zg];omega))) ?_)|(apply zB <;> intro hb <;> (try simp [-zd] at hb) <;> try (exfalso;omega))|refine Ob.intro ?_ ?_))
  rw [hfin'.out]
  refine ⟨Le.refl _,?_⟩
  unfold stK boxK
  simp only [xd]
  repeat' (first|exact trivial|exact rfl|exact Le.refl _|exact SoLe.refl _|exact qwl hxi rfl rfl (congrArg (·+1) (congrFun hww.out x).symm)|exact qqg hxi (fun j h=>⟨rfl,rfl,fun _=>rfl⟩) (congrArg (·+1) (congrFun hww.out x).symm) rfl (fun j hj=>qwn hat.out j hj)|refine And.intro ?_ ?_)
end Go.Proofs.Ytkhdldncbmkidaa
