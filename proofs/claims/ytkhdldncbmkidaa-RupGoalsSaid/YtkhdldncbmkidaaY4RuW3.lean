/- Contracts: the checker's other. -/
import Derived.Test.YtkhdldncbmkidaaY4RuW2
import Derived.Test.YtkhdldncbmkidaaY42
set_option linter.unusedSimpArgs false
set_option linter.unusedVariables false
namespace Go.Proofs.Ytkhdldncbmkidaa
open List renaming getD_eq_getElem?_getD → zd
open Go Go.Sx Go.RowKit Go.Ru
set_option maxRecDepth 100000
set_option maxHeartbeats 4000000
theorem jff {l:List Nat} {i j:Nat} (hi:i<l.length) (hij:i≠j):(swap l i j).getD i 0=l.getD j 0:=by
 unfold swap
 rw [ju,ze (fun h=>hij h.1),ju,za ⟨rfl,hi⟩]
theorem qvf {e:TypeId} {lits:List (List Nat)} {n a b i j x y e1 l1:Nat} (hn:n<lits.length) (ha:a=i) (hb:b=j) (hx:x=(lits.getD n []).getD j 0) (hy:y=(lits.getD n []).getD i 0) (hi:i<(lits.getD n []).length) (hj:j<(lits.getD n []).length) (he1:e1=1) (hl1:l1=(lits.getD n []).length) :
  SoLe (.fam e 1 lits.length (upd (upd (fun _=>1) n 1) n e1) (upd (upd (fun i=>(lits.getD i []).length) n (lits.getD n []).length) n l1)
   (upd (upd (fun i=>encN (lits.getD i [])) n (fun q=>if q=a then qx (encN (lits.getD n []) a) 0 [iv x] else encN (lits.getD n []) q)) n
    (fun q=>if q=b then qx (upd (fun i=>encN (lits.getD i [])) n (fun q=>if q=a then qx (encN (lits.getD n []) a) 0 [iv x] else encN (lits.getD n []) q) n b) 0 [iv y]
     else upd (fun i=>encN (lits.getD i [])) n (fun q=>if q=a then qx (encN (lits.getD n []) a) 0 [iv x] else encN (lits.getD n []) q) n q)))
   (.fam e 1 lits.length (fun _=>1) (fun j=>(lits.getD j []).length) (fun j'=>encN ((lits.set n (swap (lits.getD n []) i j)).getD j' []))):=by
 refine qiq (fun j hj hne=>⟨by simp only [upd,ze hne],by simp only [upd,ze hne],fun q hq=>?_⟩) ⟨he1,hl1,?_⟩
 ·rw [upd,ze hne]
  try dsimp only
  rw [ju,ze (fun h=>hne h.1)]
  exact LeL.refl _
 ·have hT:(lits.set n (swap (lits.getD n []) i j)).getD n []=swap (lits.getD n []) i j:=by rw [ju,za ⟨rfl,hn⟩]
  try dsimp only
  rw [hT]
  exact qvd (f0:=fun j=>encN (lits.getD j [])) (fun _=>rfl) ha hb hx hy hi hj
theorem qdr {n b:Nat} (h:n≤1000000) (hb:1000001 * b≤140737488355328):n+1≤9223372036854775807∧(n+1) * b≤140737488355328:=
 ⟨by omega,zt (zq _ (show n+1≤1000001 by omega)) hb⟩
theorem qpi {ws:List (List Nat)} {we:Nat→Nat} {b n N:Nat} {w:List Nat} {l:Nat} {e:Nat} (hn:n<ws.length) (hb:b=n) (hl:l=w.length) (he:e=we n) :
  ∀ j,j<N→LeL (if j=b then qx [AV.own 6 b (we b) (ws.getD b []).length] 0 [.own 6 n e l] else [AV.own 6 j (we j) (ws.getD j []).length]) [.own 6 j (we j) ((ws.set n w).getD j []).length]:=fun j _=>by
 subst hb hl he
 refine LeL.of_eq ?_
 by_cases h:j=b
 ·subst h
  rw [za rfl,ju,za ⟨rfl,hn⟩]
  rfl
 ·rw [ze h,ju,ze (fun h'=>h h'.1)]
theorem qlm {e:TypeId} {ws:List (List Nat)} {we:Nat→Nat} {n x e1 l1:Nat} {g:Nat→List AV} (hn:n<ws.length) (hg:g 0=[iv x]) (he1:e1=we n) (hl1:l1=(ws.getD n []).length+1) :
  SoLe (.fam e 1 ws.length (upd we n e1) (upd (fun i=>(ws.getD i []).length) n l1) (upd (fun i=>encN (ws.getD i [])) n (appF (ws.getD n []).length (encN (ws.getD n [])) 1 g)))
   (.fam e 1 ws.length we (fun i=>((ws.set n (ws.getD n []++[x])).getD i []).length) (fun i=>encN ((ws.set n (ws.getD n []++[x])).getD i []))):=by
 have hT:(ws.set n (ws.getD n []++[x])).getD n []=ws.getD n []++[x]:=by rw [ju,za ⟨rfl,hn⟩]
 refine qiq (fun j hj hne=>?_) ⟨he1,?_,?_⟩
 ·try dsimp only
  rw [ju,ze (fun h=>hne h.1)]
  exact ⟨rfl,rfl,fun _ _=>LeL.refl _⟩
 ·try dsimp only
  rw [hT,zj,hl1];rfl
 ·try dsimp only
  rw [hT,hl1]
  exact qio hg
theorem jfg (k:K) (hk:Sz k) (n:Nat) (hn:n<k.lits.length) (hc:∀ x∈lit k n,x<k.val.length) (h2:2≤(lit k n).length) (hl:(lit k n).length≤1000000) (hw:∀ x,(k.watch.getD x []).length≤1000000) :
  Trip Try.prog 68 [.ptr 0 0,iv n] (stK k) (.bool (k.other n).2) (idx 0 (stK (k.other n).1)) 11:=by
 have h1:=hk.vr
 have h2':=hk.v
 have h3:=hk.t
 have h4:=hk.vw
 unfold lit at hc h2 hl
 refine zL {} 300 Try.func68 (fun c0 rdb mpb=>?_)
 (repeat' ((conv=>whnf);first|refine zO ?_|refine Ob.auto ?_|refine zI ?_|(apply zB <;> intro hb <;> (try simp [-zd] at hb) <;> try (exfalso;omega))|refine Ob.intro ?_ ?_))
 ((conv=>whnf);refine jk (fun _=>rfl) 300 1 (fun i:Nat=>[(6,iv ((i+2:Nat):Int)),(5,.own 2 n 1 (k.lits.getD n []).length)]) (fun _=>[]) (fun i=>i+2≤(k.lits.getD n []).length∧∀ j,2≤j→j<i+2→k.val.getD ((k.lits.getD n []).getD j 0) 0<0) (fun i=>(k.lits.getD n []).length - i) (0) (⟨h2,fun j hj hj'=>by omega⟩) qa qa (fun _=>rfl) (by kernel_rfl) ?_;(conv=>whnf))
 rintro i ⟨hi,hp⟩
 by_cases hil:i+2<(k.lits.getD n []).length
 ·have hx:(k.lits.getD n []).getD (i+2) 0<k.val.length:=hc _ (qgu hil)
  have hy:(k.lits.getD n []).getD 1 0<k.val.length:=hc _ (qgu (by omega))
  (repeat' ((conv=>whnf);first|refine zO ?_|refine Ob.auto ?_|(refine Ob.intro (by (first|exact ⟨by omega,by omega⟩|(simp only [zf];omega))) ?_)|(apply zB <;> intro hb <;> (try simp [-zd] at hb) <;> try (exfalso;omega))|refine Ob.intro ?_ ?_))
  ((conv=>whnf);refine zQ 300 ?_)
  (repeat' ((conv=>whnf);first|refine zO ?_|refine Ob.auto ?_|(refine Ob.intro (by (first|first|exact ⟨by omega,by omega⟩|(simp only [zf];omega)|exact ⟨⟨rfl,rfl⟩,zg _,Int.ofNat_lt.2 hx⟩|exact ⟨⟨rfl,rfl⟩,hx⟩)) ?_)|(apply zB <;> intro hb <;> (try simp [-zd] at hb) <;> try (exfalso;omega))|refine Ob.intro ?_ ?_))
  ((conv=>whnf);refine AltG.none (by kernel_rfl) (EndG.go ?_))
  (repeat' ((conv=>whnf);first|refine zO ?_|refine Ob.auto ?_|(refine Ob.intro (by (first|exact ⟨by omega,by omega⟩|(simp only [zf];omega))) ?_)|(apply zB <;> intro hb <;> (try simp [-zd] at hb) <;> try (exfalso;omega))|refine Ob.intro ?_ ?_))
  ·generalize hk1:({ k with lits:=k.lits.set n (swap (k.lits.getD n []) 1 (i+2)) }:K)=k1
   ((conv=>whnf);refine qcb (fun _=>rfl) (by kernel_rfl) 300 ?_)
   (repeat' ((conv=>whnf);first|refine zO ?_|refine Ob.auto ?_|(refine Ob.intro (by (first|first|exact ⟨by omega,by omega⟩|(simp only [zf];omega)|exact ⟨hn,⟨(za rfl).symm,(za rfl).symm⟩,by omega⟩|exact ⟨hn,⟨(za rfl).symm,(za rfl).symm⟩,by omega,by omega⟩)) ?_)|(apply zB <;> intro hb <;> (try simp [-zd] at hb) <;> try (exfalso;omega))|refine Ob.intro ?_ ?_))
   ((conv=>whnf);refine AltG.shape 20 [2] (by kernel_rfl) ?_ ?_)
   ·repeat' (first|exact trivial|exact fun h=>Bool.noConfusion h|exact fun _=>rfl|exact fun _=>qgv (qaq _ _) (qaq _ _)|exact fun _=>qgv ((qaq _ _).trans (qaq _ _)) ((qaq _ _).trans (qaq _ _))|refine And.intro ?_ ?_)
   refine MT.endg (MT.st k1 ?_) ?_
   ·subst hk1
    have hlens:∀ j,((k.lits.set n (swap (k.lits.getD n []) 1 (i+2))).getD j []).length=(k.lits.getD j []).length:=fun j=>qis (qll _ _ _) j
    unfold stK boxK
    simp only [xg,hlens]
    repeat' (first|exact trivial|exact rfl|exact Le.refl _|exact SoLe.refl _|exact qvf hn rfl rfl rfl rfl (by omega) (by omega) (za rfl) (za rfl)|refine And.intro ?_ ?_)
   have hL:k1.lits.getD n []=swap (k.lits.getD n []) 1 (i+2):=by subst hk1;rw [ju,za ⟨rfl,hn⟩]
   have hlen1:(k.lits.getD n []).length=(k1.lits.getD n []).length:=by rw [hL,qll]
   have hn1:n<k1.lits.length:=by subst hk1;simpa using hn
   have hy0:(k1.lits.getD n []).getD 1 0=(k.lits.getD n []).getD (i+2) 0:=by rw [hL];exact jff (by omega) (by omega)
   have hwk:k1.watch=k.watch:=by subst hk1;rfl
   have hy1:(k1.lits.getD n []).getD 1 0<k1.watch.length:=by rw [hy0,hwk];omega
   have hw1:(k1.watch.getD ((k1.lits.getD n []).getD 1 0) []).length≤1000000:=by rw [hwk];exact hw _
   have eO:k.other n=({ k1 with watch:=k1.watch.set ((k1.lits.getD n []).getD 1 0) (k1.watch.getD ((k1.lits.getD n []).getD 1 0) []++[n]) },true):=by
    unfold K.other
    rw [show jy k.val (lit k n)=some (i+2) from jfa hil (by omega) hb hp]
    rw [hy0]
    subst hk1
    rfl
   ((conv=>whnf);refine qcb (fun _=>rfl) (by kernel_rfl) 300 ?_)
   (repeat' ((conv=>whnf);first|refine zO ?_|refine Ob.auto ?_|(refine Ob.intro (by (first|first|exact ⟨by omega,by omega⟩|(simp only [zf];omega)|exact ⟨⟨rfl,rfl⟩,zg _,Int.ofNat_lt.2 hy1⟩|exact ⟨⟨rfl,rfl⟩,hy1⟩|exact ⟨by omega,⟨rfl,hlen1⟩,by omega⟩|exact ⟨by omega,⟨rfl,hlen1⟩,by omega,by omega⟩|exact ⟨hy1,⟨rfl,rfl⟩,qdr (b:=(tab Try.prog 3).bytes) hw1 (by decide +kernel)⟩|exact ⟨⟨⟨rfl,rfl⟩,hy1⟩,hy1,(za rfl).symm,(za rfl).symm⟩)) ?_)|(apply zB <;> intro hb <;> (try simp [-zd] at hb) <;> try (exfalso;omega))|refine Ob.intro ?_ ?_))
   ((conv=>whnf);refine AltG.far 24 [0,1,2] (by kernel_rfl) farA (EndG.go ?_))
   (repeat' ((conv=>whnf);first|refine zO ?_|refine Ob.auto ?_|(refine Ob.intro (by (first|exact ⟨by omega,by omega⟩|(simp only [zf];omega))) ?_)|(apply zB <;> intro hb <;> (try simp [-zd] at hb) <;> try (exfalso;omega))|refine Ob.intro ?_ ?_))
   rw [eO]
   refine ⟨Le.refl _,?_⟩
   unfold stK boxK
   simp only [xg]
   repeat' (first|exact trivial|exact rfl|exact Le.refl _|exact SoLe.refl _|exact qlm hy1 rfl rfl rfl|exact qpi hy1 rfl (by rw [zj];rfl) rfl|refine And.intro ?_ ?_)
  ·have hb':k.val.getD ((k.lits.getD n []).getD (i+2) 0) 0<0:=hb
   ((conv=>whnf);refine ⟨i+1,⟨by omega,fun j hj hj'=>by
    by_cases h:j=i+2
    ·subst h;exact hb'
    ·exact hp j hj (by omega)⟩,⟨qa,qa⟩,⟨qa,qa⟩,?_⟩;(first|omega|(dsimp only;omega)|skip))
 ·have eO:k.other n=(k,false):=by
   unfold K.other
   rw [show jy k.val (lit k n)=none from jfb (fun j hj hj'=>hp j hj (by unfold lit at hj';omega))]
  (repeat' ((conv=>whnf);first|refine zO ?_|refine Ob.auto ?_|(refine Ob.intro (by (first|exact ⟨by omega,by omega⟩|(simp only [zf];omega))) ?_)|(apply zB <;> intro hb <;> (try simp [-zd] at hb) <;> try (exfalso;omega))|refine Ob.intro ?_ ?_))
  rw [eO]
  refine ⟨Le.refl _,?_⟩
  unfold stK boxK
  repeat' (first|exact trivial|exact rfl|exact Le.refl _|exact SoLe.refl _|refine And.intro ?_ ?_)
end Go.Proofs.Ytkhdldncbmkidaa
