/- Contracts: the checker's choose and other. -/
import Derived.Test.YtkhdldncbmkidaaY35
import Derived.Test.YtkhdldncbmkidaaY32
set_option linter.unusedSimpArgs false
set_option linter.unusedVariables false
namespace Go.Proofs.Ytkhdldncbmkidaa
open List renaming getD_eq_getElem?_getD → zd
open Go Go.Sx Go.RowKit Go.Ru
set_option maxRecDepth 100000
set_option maxHeartbeats 4000000
theorem MT.st {st:List (Nat × SO)} {nx:Nat} (k:K) (h:SubSt st (idx 0 (stK k))):MT st (idx 0 (stK k)) nx nx:=MT.weak fun i x hx=>h.get i x hx
theorem qjd {e:TypeId} {sz cnt:Nat} {ep len ep' len':Nat→Nat} {f f':Nat→Nat→List AV} {n ep0 m:Nat} {g:Nat→List AV}
  (h1:∀ i,i<cnt→i≠n→ep i=ep' i∧len i=len' i∧∀ k,k<len i→LeL (f i k) (f' i k)) (h2:ep0=ep' n∧m=len' n∧∀ k,k<m→LeL (g k) (f' n k)) :
  SoLe (.fam e sz cnt (upd ep n ep0) (upd len n m) (upd f n g)) (.fam e sz cnt ep' len' f'):=by
 refine ⟨⟨rfl,rfl⟩,rfl,fun i hi=>?_,fun i k hi hk=>?_⟩
 ·unfold upd
  by_cases h:i=n
  ·subst h;rw [za rfl,za rfl];exact ⟨h2.1,h2.2.1⟩
  ·rw [ze h,ze h];exact ⟨(h1 i hi h).1,(h1 i hi h).2.1⟩
 ·unfold upd at hk ⊢
  by_cases h:i=n
  ·subst h;rw [za rfl] at hk ⊢;exact h2.2.2 k hk
  ·rw [ze h] at hk ⊢;exact (h1 i hi h).2.2 k hk
theorem jz {α:Type} (l:List α) (i:Nat) (x d:α) (j:Nat):(l.set i x).getD j d=if j=i∧i<l.length then x else l.getD j d:=by
 rw [zd,zd,zbb]
 by_cases h:i=j
 ·subst h
  by_cases hl:i<l.length
  ·simp [hl]
  ·simp [hl]
 ·rw [ze h,ze (fun h'=>h h'.1.symm)]
theorem qpz {α:Type} (l:List α) (i:Nat) (d:α):l.set i (l.getD i d)=l:=by
 refine List.ext_getElem? fun j=>?_
 rw [zbb]
 by_cases h:i=j
 ·subst h
  by_cases hl:i<l.length
  ·rw [za rfl,za hl,zd,zb hl];rfl
  ·rw [za rfl,ze hl,zy (by omega)]
 ·rw [ze h]
theorem qmd (l:List Nat) (i j:Nat):(swap l i j).length=l.length:=by simp [swap]
theorem qje (val:List Int) (c:List Nat):∀ i,(qq val c i).2.length=c.length
 | 0=>rfl
 | i+1=>by
  unfold qq
  split
  ·rw [qmd,qje val c i]
  ·exact qje val c i
theorem qqa (val:List Int) (c:List Nat):∀ i,(qq val c i).1≤i
 | 0=>zj _
 | i+1=>by
  have:=qqa val c i
  unfold qq
  split
  ·exact Nat.succ_le_succ this
  ·omega
theorem jgr {l:List Nat} {i j x:Nat} (hi:i<l.length) (hj:j<l.length) (h:x∈swap l i j):x∈l:=by
 unfold swap at h
 rcases List.mem_or_eq_of_mem_set h with h|h
 ·rcases List.mem_or_eq_of_mem_set h with h|h
  ·exact h
  ·exact h ▸ qhg hj
 ·exact h ▸ qhg hi
theorem putSw {l:List Nat} {n a b i j:Nat} {x y:Nat} (ha:a=i) (hb:b=j) (hx:x=l.getD j 0) (hy:y=l.getD i 0) (hi:i<l.length) (hj:j<l.length) :
  ∀ k,k<n→LeL (if k=b then qy (if b=a then [iv x] else encN l b) 0 [iv y] else if k=a then [iv x] else encN l k) (encN (swap l i j) k):=by
 have e:qy (if b=a then [iv (x:Int)] else encN l b) 0 [iv y]=[iv y]:=by split <;> rfl
 rw [e]
 subst hx hy
 exact put2 (enc:=fun n:Nat=>[iv n]) ha hb hi hj
theorem qay {α:Type} (g:Nat→α) (n:Nat):upd g n (g n)=g:=by
 funext j
 unfold upd
 by_cases h:j=n
 ·rw [za h,h]
 ·rw [ze h]
theorem qhh {e:TypeId} {sz cnt:Nat} {ep ep' len len':Nat→Nat} {f f':Nat→Nat→List AV} (h1:ep'=ep) (h2:len'=len):(some (SO.fam e sz cnt ep' len' f')).map qaj=(some (SO.fam e sz cnt ep len f)).map qaj:=by
 subst h1 h2;rfl
theorem qvz {f0:Nat→Nat→List AV} {n m a b i j x y:Nat} {l:List Nat} (hf:∀ k,f0 n k=encN l k) (ha:a=i) (hb:b=j) (hx:x=l.getD j 0) (hy:y=l.getD i 0) (hi:i<l.length) (hj:j<l.length) :
  ∀ k,k<m→LeL (if k=b then qy (upd f0 n (fun q=>if q=a then qy (f0 n a) 0 [iv x] else f0 n q) n b) 0 [iv y] else upd f0 n (fun q=>if q=a then qy (f0 n a) 0 [iv x] else f0 n q) n k) (encN (swap l i j) k):=fun k hk=>by
 have e:upd f0 n (fun q=>if q=a then qy (f0 n a) 0 [iv x] else f0 n q) n=fun q=>if q=a then [iv (x:Int)] else encN l q:=by
  refine (za rfl).trans ?_
  funext q
  rw [hf a,hf q]
  rfl
 rw [e]
 exact putSw ha hb hx hy hi hj k hk
theorem qwa (val:List Int) (c:List Nat):∀ i,i≤c.length→∀ x∈(qq val c i).2,x∈c
 | 0,_,_,h=>h
 | i+1,hi,x,h=>by
  have ih:=qwa val c i (by omega)
  have h1:=qje val c i
  have h2:=qqa val c i
  unfold qq at h
  split at h
  ·exact ih x (jgr (by omega) (by omega) h)
  ·exact ih x h
theorem qjf {l:List (List Nat)} {n:Nat} {c:List Nat} (h:c.length=(l.getD n []).length) (i:Nat):((l.set n c).getD i []).length=(l.getD i []).length:=by
 rw [jz]
 split
 ·rename_i h';rw [h'.1,h]
 ·rfl
theorem jgs (k:K) (hk:Sz k) (n:Nat) (hn:n<k.lits.length) (hc:∀ x∈k.lits.getD n [],x<k.val.length) (hl:(k.lits.getD n []).length≤1000000) :
  Trip Try.prog 52 [.ptr 0 0,.own 2 n 1 (k.lits.getD n []).length] (stK k) (.tup []) (idx 0 (stK { k with lits:=k.lits.set n (qao k.val (k.lits.getD n [])) })) 11:=by
 have h1:=hk.vr
 have h2:=hk.v
 have h3:=hk.t
 have hlens:∀ i j,((k.lits.set n (qq k.val (k.lits.getD n []) i).2).getD j []).length=(k.lits.getD j []).length:=fun i j=>qjf (qje _ _ _) j
 unfold qao
 generalize hcc:k.lits.getD n []=c at hc hl hlens ⊢
 unfold stK boxK
 simp only [xd,hlens]
 rw [← hcc]
 refine zL {} 300 Try.func52 (fun c0 rdb mpb=>?_)
 (repeat' ((conv=>whnf);first|refine zA ?_|refine zO ?_|refine Ob.auto ?_|refine zI ?_|refine zD 300 ?_|(apply zB <;> intro hb <;> (try simp [-zd] at hb) <;> try (exfalso;omega))|refine Ob.intro ?_ ?_))
 rw [hcc]
 ((conv=>whnf);refine qw (fun _=>rfl) 300 1 (fun i:Nat=>[(8,iv i),(4,iv (qq k.val c i).1)]) (fun i=>[(2,.fam 3 1 k.lits.length (fun _=>1) (fun j=>(k.lits.getD j []).length) (fun j=>encN ((k.lits.set n (qq k.val c i).2).getD j [])))]) (fun i=>i≤c.length) (fun i=>c.length - i) (0) (zv _) qa (by
  have e0:k.lits.set n (qq k.val c 0).2=k.lits:=by rw [← hcc];exact qpz _ _ _
  rw [e0]
  repeat' (first|exact trivial|exact rfl|exact SoLe.refl _|refine And.intro ?_ ?_)) (fun _=>rfl) (by kernel_rfl) ?_;(conv=>whnf))
 intro i hi
 have hself:(k.lits.set n (qq k.val c i).2).getD n []=(qq k.val c i).2:=by rw [jz,za ⟨rfl,hn⟩]
 have hlen:=qje k.val c i
 have hto:=qqa k.val c i
 by_cases hil:i<c.length
 ·have hx:((k.lits.set n (qq k.val c i).2).getD n []).getD i 0<k.val.length:=by
   rw [hself]
   exact hc _ (qwa k.val c i hi _ (qhg (by omega)))
  have hcl:(k.lits.getD n []).length=c.length:=by rw [hcc]
  (repeat' ((conv=>whnf);first|refine zO ?_|refine Ob.auto ?_|(refine Ob.intro (by (first|exact ⟨by omega,by omega⟩|exact ⟨hn,⟨(za rfl).symm,hcl.symm.trans (za rfl).symm⟩,by omega⟩|exact ⟨hn,⟨(za rfl).symm,hcl.symm.trans (za rfl).symm⟩,by omega,by omega⟩|(intro h;refine ⟨h,h,⟨rfl,rfl⟩,?_,?_⟩ <;> simp only [zg] <;> omega))) ?_)|(apply zB <;> intro hb <;> (try simp [-zd] at hb) <;> try (exfalso;omega))|refine Ob.intro ?_ ?_))
  ((conv=>whnf);refine zQ 300 ?_)
  (repeat' ((conv=>whnf);first|refine zO ?_|refine Ob.auto ?_|(refine Ob.intro (by (first|exact ⟨by omega,by omega⟩|exact ⟨hn,⟨(za rfl).symm,hcl.symm.trans (za rfl).symm⟩,by omega⟩|exact ⟨hn,⟨(za rfl).symm,hcl.symm.trans (za rfl).symm⟩,by omega,by omega⟩|(intro h;refine ⟨h,h,⟨rfl,rfl⟩,?_,?_⟩ <;> simp only [zg] <;> omega))) ?_)|(apply zB <;> intro hb <;> (try simp [-zd] at hb) <;> try (exfalso;omega))|refine Ob.intro ?_ ?_))
  ((conv=>whnf);refine AltG.none (by kernel_rfl) (EndG.go ?_))
  (repeat' ((conv=>whnf);first|refine zO ?_|refine Ob.auto ?_|(refine Ob.intro (by (first|exact ⟨by omega,by omega⟩|exact ⟨hn,⟨(za rfl).symm,hcl.symm.trans (za rfl).symm⟩,by omega⟩|exact ⟨hn,⟨(za rfl).symm,hcl.symm.trans (za rfl).symm⟩,by omega,by omega⟩|(intro h;refine ⟨h,h,⟨rfl,rfl⟩,?_,?_⟩ <;> simp only [zg] <;> omega))) ?_)|(apply zB <;> intro hb <;> (try simp [-zd] at hb) <;> try (exfalso;omega))|refine Ob.intro ?_ ?_))
  ·have hb':(qq k.val c i).1<2∧0≤k.val.getD ((qq k.val c i).2.getD i 0) 0:=by rw [← hself];exact ⟨by omega,hb.2⟩
   have eS:qq k.val c (i+1)=((qq k.val c i).1+1,swap (qq k.val c i).2 (qq k.val c i).1 i):=by
    rw [qq,za hb']
   ((conv=>whnf);refine qcl (fun _=>rfl) (by kernel_rfl) 300 ?_)
   (repeat' ((conv=>whnf);first|refine zO ?_|refine Ob.auto ?_|(refine Ob.intro (by (first|exact ⟨by omega,by omega⟩|exact ⟨hn,⟨(za rfl).symm,hcl.symm.trans (za rfl).symm⟩,by omega⟩|exact ⟨hn,⟨(za rfl).symm,hcl.symm.trans (za rfl).symm⟩,by omega,by omega⟩|(intro h;refine ⟨h,h,⟨rfl,rfl⟩,?_,?_⟩ <;> simp only [zg] <;> omega))) ?_)|(apply zB <;> intro hb <;> (try simp [-zd] at hb) <;> try (exfalso;omega))|refine Ob.intro ?_ ?_))
   ((conv=>whnf);refine AltG.shape 20 [2] (by kernel_rfl) ?_ (EndG.go ?_))
   ·repeat' (first|exact trivial|exact fun h=>Bool.noConfusion h|exact fun _=>rfl|exact fun _=>qhh (qay _ _) (qay _ _)|exact fun _=>qhh ((qay _ _).trans (qay _ _)) ((qay _ _).trans (qay _ _))|refine And.intro ?_ ?_)
   (repeat' ((conv=>whnf);first|refine zO ?_|refine Ob.auto ?_|(refine Ob.intro (by (first|exact ⟨by omega,by omega⟩|exact ⟨hn,⟨(za rfl).symm,hcl.symm.trans (za rfl).symm⟩,by omega⟩|exact ⟨hn,⟨(za rfl).symm,hcl.symm.trans (za rfl).symm⟩,by omega,by omega⟩|(intro h;refine ⟨h,h,⟨rfl,rfl⟩,?_,?_⟩ <;> simp only [zg] <;> omega))) ?_)|(apply zB <;> intro hb <;> (try simp [-zd] at hb) <;> try (exfalso;omega))|refine Ob.intro ?_ ?_))
   ((conv=>whnf);refine ⟨i+1,by omega,⟨(by
    rw [eS]
    repeat' (first|exact trivial|exact rfl|exact Le.refl _|refine And.intro ?_ ?_)),(by
    rw [eS]
    refine ⟨qjd (fun j hj hne=>⟨by simp only [upd,ze hne],by simp only [upd,ze hne],fun q hq=>?_⟩) ⟨by simp only [upd,↓reduceIte],by simp only [upd,↓reduceIte],?_⟩,trivial⟩
    ·rw [upd,ze hne]
     dsimp only
     rw [jz,ze (fun h=>hne h.1),jz,ze (fun h=>hne h.1)]
     exact LeL.refl _
    ·have hT:(k.lits.set n (swap (qq k.val c i).2 (qq k.val c i).1 i)).getD n []=swap ((k.lits.set n (qq k.val c i).2).getD n []) (qq k.val c i).1 i:=by rw [hself,jz,za ⟨rfl,hn⟩]
     dsimp only
     rw [hT]
     exact qvz (f0:=fun j=>encN ((k.lits.set n (qq k.val c i).2).getD j [])) (fun _=>rfl) (by omega) (by omega) rfl rfl (by rw [hself];omega) (by rw [hself];omega))⟩,⟨qa,qa⟩,?_⟩;(first|omega|(dsimp only;omega)|skip))
  ·have hb':¬ ((qq k.val c i).1<2∧0≤k.val.getD ((qq k.val c i).2.getD i 0) 0):=by
    rw [← hself];intro h
    have:=hb (by omega)
    omega
   have eS:qq k.val c (i+1)=qq k.val c i:=by
    rw [qq,ze hb']
   ((conv=>whnf);refine ⟨i+1,by omega,⟨(by
    rw [eS]
    repeat' (first|exact trivial|exact rfl|exact Le.refl _|refine And.intro ?_ ?_)),(by
    rw [eS]
    repeat' (first|exact trivial|exact rfl|exact SoLe.refl _|refine And.intro ?_ ?_))⟩,⟨qa,qa⟩,?_⟩;(first|omega|(dsimp only;omega)|skip))
 ·obtain rfl:i=c.length:=by omega
  (repeat' ((conv=>whnf);first|refine zA ?_|refine zO ?_|refine Ob.auto ?_|refine zI ?_|refine zD 300 ?_|(apply zB <;> intro hb <;> (try simp [-zd] at hb) <;> try (exfalso;omega))|refine Ob.intro ?_ ?_))
  refine ⟨Le.refl _,?_⟩
  repeat' (first|exact trivial|exact rfl|exact SoLe.refl _|exact Le.refl _|refine And.intro ?_ ?_)
end Go.Proofs.Ytkhdldncbmkidaa
