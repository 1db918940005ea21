/- Contracts: the checker's refresh. -/
import Derived.Test.YtkhdldncbmkidaaY313
import Derived.Test.YtkhdldncbmkidaaY3RuF
import Derived.Test.YtkhdldncbmkidaaY32
set_option linter.unusedSimpArgs false
set_option linter.unusedVariables false
namespace Go.Proofs.Ytkhdldncbmkidaa
open List renaming getD_eq_getElem?_getD → zd
open Go Go.Sx Go.RowKit Go.Ru
set_option maxRecDepth 100000
set_option maxHeartbeats 8000000
theorem qre:∀ (l1 l2:List Nat) (k:K) (a:List Nat),ju (l1++l2) k a=ju l2 (ju l1 k a).1 (ju l1 k a).2
 | [],_,_,_=>rfl
 | n::l1,l2,k,a=>by
  have ih:=qre l1 l2
  show ju (n::(l1++l2)) k a=_
  rw [ju,ju]
  split
  ·exact ih _ _
  ·exact ih _ _
def unitsO (k:K) (i:Nat):K × List Nat:=ju (k.units.take i) k.zero []
def qbc (k:K) (i:Nat):K:={ (unitsO k i).1 with units:=(unitsO k i).2++k.units.drop (unitsO k i).2.length }
theorem jij (k:K):unitsO k k.units.length=ju k.units k.zero []:=by unfold unitsO;rw [xi]
theorem jik {k:K} {i:Nat} (hi:i<k.units.length) (hg:(unitsO k i).1.gone.getD (k.units.getD i 0) false=true):unitsO k (i+1)=unitsO k i:=by
 unfold unitsO at hg ⊢
 rw [qge hi,qre,ju,za hg,ju]
theorem jil {k:K} {i:Nat} (hi:i<k.units.length) (hg:(unitsO k i).1.gone.getD (k.units.getD i 0) false=false) :
  unitsO k (i+1)=(if vl (unitsO k i).1 ((lit (unitsO k i).1 (k.units.getD i 0)).getD 0 0)<0 then { (unitsO k i).1 with broken:=true } else if vl (unitsO k i).1 ((lit (unitsO k i).1 (k.units.getD i 0)).getD 0 0)=0 then (unitsO k i).1.set ((lit (unitsO k i).1 (k.units.getD i 0)).getD 0 0) (k.units.getD i 0) else (unitsO k i).1,(unitsO k i).2++[k.units.getD i 0]):=by
 unfold unitsO at hg ⊢
 rw [qge hi,qre,ju,ze (by rw [hg];simp)]
 rfl
theorem qxn {k:K} (hI:Inv k) (i:Nat):UnitsJ (k.units.take i) k.zero [] (unitsO k i):=
 qhj _ _ _ (hI.s.undo0.cong rfl rfl rfl rfl rfl rfl rfl) fun n hn=>hI.s.us n (zab hn)
theorem jim {l:List Nat} {m n:Nat} {g:Nat→List AV} (hm:m<l.length) (hg:g 0=[iv n]):∀ j,j<l.length→LeL (over m 1 g (encN l) j) (encN (l.set m n) j):=fun j _=>by
 refine LeL.of_eq ?_
 unfold over
 by_cases h:m≤j∧j<m+1
 ·obtain rfl:j=m:=by omega
  rw [za h,zad,hg]
  unfold encN encL
  rw [jz,za ⟨rfl,hm⟩]
 ·rw [ze h]
  unfold encN encL
  rw [jz,ze (fun h'=>h (by omega))]
structure UnQ (k:K) (i:Nat) (kq:K) (n:Nat):Prop where
 ul:kq.units.length=k.units.length
 nn:kq.units.getD i 0=n
 ue:kq.ue=k.ue
 al:(unitsO k i).2.length≤i
 sz:Sz kq
 nb:n<kq.lits.length
 l1:(kq.lits.getD n []).length=1
 lz:(kq.lits.getD n []).getD 0 0<kq.val.length
 go:kq.gone=(unitsO k i).1.gone
 li:kq.lits=(unitsO k i).1.lits
 va:kq.val=(unitsO k i).1.val
theorem unq {k:K} (hI:Ru.Inv k) {i:Nat} (hi:i<k.units.length):UnQ k i (qbc k i) (k.units.getD i 0):=by
 have hU:=qxn hI i
 have hal:(unitsO k i).2.length≤i:=by
  rw [hU.l,zba]
  exact zr (zbm _ _) (by rw [zu];omega)
 have hs:=hI.s.us _ (qj (l:=k.units) (d:=0) hi)
 have hJ:=hU.j
 have hsz:=Sz.of hJ.p.v hJ.p.c
 have hl1:((unitsO k i).1.lits.getD (k.units.getD i 0) []).length=1:=((hU.kin.li _).length_eq).trans hs.2
 refine ⟨by show ((unitsO k i).2++k.units.drop _).length=_;rw [zi,zah];omega,?_,hU.ue,hal,⟨hsz.vr,hsz.vw,hsz.v,hsz.t⟩,by show _<(unitsO k i).1.lits.length;rw [hU.kin.ll];exact hs.1,hl1,hJ.p.c.c _ _ (qj (by unfold lit;omega)),rfl,rfl,rfl⟩
 show ((unitsO k i).2++k.units.drop _).getD i 0=_
 exact qwh hal (by omega)
theorem jin {k:K} {i:Nat} (hi:i<k.units.length) (hal:(unitsO k i).2.length≤i) {k2:K} (h:unitsO k (i+1)=(k2,(unitsO k i).2++[k.units.getD i 0])) :
  qbc k (i+1)={ k2 with units:=(qbc k i).units.set (unitsO k i).2.length (k.units.getD i 0) }:=by
 unfold qbc
 rw [h]
 simp only
 rw [qwi (by omega)]
theorem jio (k:K) (hI:Inv k) :
  Trip Try.prog 41 [.ptr 0 0] (stK k) (.tup []) (idx 0 (stK k.refresh)) 11:=by
 have hsz:=Sz.of hI.s.p.v hI.s.p.c
 by_cases hst:k.stale=true
 ·have hU:=qpy k hsz (fun x hx=>((hI.s.p.v.tv x).1 hx).1) 0 (zv _)
  replace hU:=Hid.in hU
  refine zL {subs:=[23]} 300 Try.func41 (fun c0 rdb mpb=>?_)
  (repeat' ((conv=>whnf);first|refine zO ?_|refine Ob.auto ?_|(refine Ob.intro (by (first|exact ⟨by omega,by omega⟩|(simp only [zg];omega))) ?_)|(apply zB <;> intro hb <;> (try simp [-zd] at hb) <;> try (exfalso;omega))|refine Ob.intro ?_ ?_))
  ·rw [hst] at hb;cases hb
  ((conv=>whnf);refine jm (fun _=>rfl) 300 [0,1,2,3,4,5,6,7,8,9,10] hU.out (by kernel_rfl) leA (by exact qat k) (by exact qn k) (by exact qn _) (by kernel_rfl) ?_)
  have href:k.refresh=if k.mid.broken then k.mid else { k.mid.prop.1 with broken:=!k.mid.prop.2 }:=by unfold K.refresh;rw [za hst]
  replace href:=Hid.in href
  clear hb hst
  have hun:k.units.length≤100000:=zr (qgc hI.s.un fun n hn=>(hI.s.us n hn).1) hI.s.p.c.n
  have hund:(k.undo 0).units.length=k.units.length:=rfl
  (repeat' ((conv=>whnf);first|refine zO ?_|refine Ob.auto ?_|(refine Ob.intro (by (first|exact ⟨by omega,by omega⟩|(simp only [zg];omega))) ?_)|(apply zB <;> intro hb <;> (try simp [-zd] at hb) <;> try (exfalso;omega))|refine Ob.intro ?_ ?_))
  refine OpG.cus (fun _=>rfl) 300 rfl (by kernel_rfl) (qpr (r:=10) (i:=0) (e:=k.ue) (n:=k.units.length) (k:=.i64) (b:=0) (R:=⟨[],3,1,k.ue,k.units.length,encN k.units⟩) (ob:=none) (el:=3) (fun _=>rfl) (by rfl) (by rfl) (by rfl) (by rfl) trivial ⟨rfl,rfl⟩ (by rfl) (by exact zj _) ⟨by omega,by omega⟩) ?_
  (repeat' ((conv=>whnf);first|refine zO ?_|refine Ob.auto ?_|(refine Ob.intro (by (first|exact ⟨by omega,by omega⟩|(simp only [zg];omega))) ?_)|(apply zB <;> intro hb <;> (try simp [-zd] at hb) <;> try (exfalso;omega))|refine Ob.intro ?_ ?_))
  ((conv=>whnf);refine qw (fun _=>rfl) 300 1 (fun i:Nat=>[(29,iv i),(2,.sub 10 0 k.ue k.units.length 1 0 (unitsO k i).2.length)]) (fun i=>idx 0 (stK (qbc k i))) (fun i=>i≤k.units.length) (fun i=>k.units.length - i) (0) (zv _) qa (by
   have e:qbc k 0=k.zero:=by
    show ({ k.zero with units:=[]++k.units.drop 0 }:K)=k.zero
    rw [zba,List.drop_zero];rfl
   rw [e]
   unfold K.zero K.undo
   (unfold stK boxK;repeat' (first|exact trivial|exact rfl|exact Le.refl _|exact SoLe.refl _|exact fun _ _=>LeL.refl _|exact fun _ _ _ _=>LeL.refl _|refine And.intro ?_ ?_))) (fun _=>rfl) (by kernel_rfl) ?_;(conv=>whnf))
  intro i hi
  by_cases hil:i<k.units.length
  ·have hQ:=unq hI hil
   have hgone:=Hid.in (jik (k:=k) hil)
   have hnext:=Hid.in (jil (k:=k) hil)
   have hpn:=Hid.in (fun k2=>jin (k:=k) (k2:=k2) hil hQ.al)
   generalize hkq:qbc k i=kq at hQ hpn ⊢
   obtain ⟨n,hn⟩:∃ n,n=k.units.getD i 0:=⟨_,rfl⟩
   rw [← hn] at hQ hgone hnext hpn
   have hul:=hQ.ul
   have hnb:=hQ.nb
   have hl1:=hQ.l1
   have hlz:=hQ.lz
   have hnq:=hQ.nn
   replace hkq:=Hid.in hkq
   replace hn:=Hid.in hn
   have hnbu:kq.units.getD i 0<kq.lits.length:=by rw [hnq];exact hnb
   have hl0u:0<(kq.lits.getD (kq.units.getD i 0) []).length:=by rw [hnq];omega
   have hlzu:(kq.lits.getD (kq.units.getD i 0) []).getD 0 0<kq.val.length:=by rw [hnq];exact hlz
   replace hnq:=Hid.in hnq
   (repeat' ((conv=>whnf);first|refine zO ?_|refine Ob.auto ?_|(refine Ob.intro (by (first|first|exact ⟨by omega,by omega⟩|(simp only [zg];omega)|exact ⟨⟨hQ.ue.symm,hul.symm⟩,zf _,Int.ofNat_lt.2 hil⟩|exact ⟨⟨hQ.ue.symm,hul.symm⟩,hil⟩|exact ⟨⟨rfl,rfl⟩,zf _,Int.ofNat_lt.2 hnbu⟩|exact ⟨⟨rfl,rfl⟩,hnbu⟩|exact ⟨hnbu,⟨rfl,rfl⟩,zf _,Int.ofNat_lt.2 hl0u⟩|exact ⟨hnbu,⟨rfl,rfl⟩,hl0u⟩|exact ⟨⟨rfl,rfl⟩,zf _,Int.ofNat_lt.2 hlzu⟩|exact ⟨⟨rfl,rfl⟩,hlzu⟩)) ?_)|(apply zB <;> intro hb <;> (try simp [-zd] at hb) <;> try (exfalso;omega))|refine Ob.intro ?_ ?_))
   ·have hg:(unitsO k i).1.gone.getD n false=true:=by rw [← hQ.go,← hnq.out];exact hb
    have hsv:=hgone.out hg
    have hst:qbc k (i+1)=kq:=by rw [← hkq.out];unfold qbc;rw [hsv]
    ((conv=>whnf);refine ⟨i+1,hil,⟨(by
     rw [hsv]
     (repeat' (first|exact trivial|exact rfl|exact Le.refl _|exact SoLe.refl _|refine And.intro ?_ ?_))),(by
     rw [hst]
     (unfold stK boxK;repeat' (first|exact trivial|exact rfl|exact Le.refl _|exact SoLe.refl _|exact fun _ _=>LeL.refl _|exact fun _ _ _ _=>LeL.refl _|refine And.intro ?_ ?_)))⟩,⟨qa,qa⟩,?_⟩;(first|omega|(dsimp only;omega)|skip))
   have hg:(unitsO k i).1.gone.getD n false=false:=by rw [← hQ.go,← hnq.out];exact hb
   have hsv:=hnext.out hg
   have hal:=hQ.al
   refine OpG.cus (fun _=>rfl) 300 rfl (by kernel_rfl) (qve (r:=10) (i:=0) (e:=k.ue) (n:=k.units.length) (sz:=1) (m:=(unitsO k i).2.length) (q:=1) (R:=⟨[],3,1,kq.ue,kq.units.length,encN kq.units⟩) (ob:=none) (el:=3) (fun _=>rfl) rfl (by rfl) (by rfl) (by rfl) (by rfl) trivial ⟨hQ.ue.symm,hul.symm⟩ (by rfl) (by rfl) (by exact zj _) (by omega)) ?_
   have hvz:kq.val.getD ((kq.lits.getD (kq.units.getD i 0) []).getD 0 0) 0=vl (unitsO k i).1 ((lit (unitsO k i).1 n).getD 0 0):=by
    rw [hQ.va,hQ.li,hnq.out];rfl
   obtain ⟨k2,hk2⟩:∃ k2:K,k2={ kq with units:=kq.units.set (unitsO k i).2.length n }:=⟨_,rfl⟩
   have hro:∀ j,j<kq.units.length→LeL (over (unitsO k i).2.length 1 (chop (0+1) [iv (kq.units.getD i 0)]) (encN kq.units) j) (encN (kq.units.set (unitsO k i).2.length n) j):=jim (by omega) (by rw [hnq.out];rfl)
   replace hsv:=Hid.in hsv
   replace hk2:=Hid.in hk2
   (repeat' ((conv=>whnf);first|refine zO ?_|refine Ob.auto ?_|(refine Ob.intro (by (first|first|exact ⟨by omega,by omega⟩|(simp only [zg];omega)|exact ⟨⟨hQ.ue.symm,hul.symm⟩,zf _,Int.ofNat_lt.2 hil⟩|exact ⟨⟨hQ.ue.symm,hul.symm⟩,hil⟩|exact ⟨⟨rfl,rfl⟩,zf _,Int.ofNat_lt.2 hnbu⟩|exact ⟨⟨rfl,rfl⟩,hnbu⟩|exact ⟨hnbu,⟨rfl,rfl⟩,zf _,Int.ofNat_lt.2 hl0u⟩|exact ⟨hnbu,⟨rfl,rfl⟩,hl0u⟩|exact ⟨⟨rfl,rfl⟩,zf _,Int.ofNat_lt.2 hlzu⟩|exact ⟨⟨rfl,rfl⟩,hlzu⟩)) ?_)|(apply zB <;> intro hb <;> (try simp [-zd] at hb) <;> try (exfalso;omega))|refine Ob.intro ?_ ?_))
   ·rw [hvz] at hb
    rw [za hb] at hsv
    have hst:qbc k (i+1)={ kq with units:=kq.units.set (unitsO k i).2.length n,broken:=true }:=by
     rw [hpn.out _ hsv.out,← hkq.out];rfl
    ((conv=>whnf);refine ⟨i+1,hil,⟨(by
     rw [hsv.out]
     simp only [zi,xh,zaf,zw]
     (repeat' (first|exact trivial|exact rfl|exact Le.refl _|exact SoLe.refl _|refine And.intro ?_ ?_))),(by
     rw [hst]
     (unfold stK boxK;simp only [xd];repeat' (first|exact trivial|exact rfl|exact Le.refl _|exact SoLe.refl _|exact Le.of_eq (congrArg (AV.own _ _ _) hul.symm)|exact Le.of_eq (congrArg (AV.own _ _ _) hul)|exact fun j hj=>hro j (by omega)|exact hro|exact hul.symm|exact hul|exact hQ.ue.symm|exact hQ.ue|exact fun _ _=>LeL.refl _|exact fun _ _ _ _=>LeL.refl _|refine And.intro ?_ ?_)))⟩,⟨qa,qa⟩,?_⟩;(first|omega|(dsimp only;omega)|skip))
   ·rw [hvz] at hb
    have hz0:¬ vl (unitsO k i).1 ((lit (unitsO k i).1 n).getD 0 0)<0:=by omega
    rw [ze hz0,za hb] at hsv
    have hst:qbc k (i+1)=k2.set ((k2.lits.getD (kq.units.getD i 0) []).getD 0 0) ((kq.units.getD i 0:Nat):Int):=by
     rw [hpn.out _ hsv.out,hk2.out,← hkq.out,hkq.out,hnq.out,← hkq.out]
     show _=({ qbc k i with units:=_ }:K).set (((unitsO k i).1.lits.getD n []).getD 0 0) _
     rfl
    have hsz2:Sz k2:=by rw [hk2.out];exact ⟨hQ.sz.vr,hQ.sz.vw,hQ.sz.v,hQ.sz.t⟩
    refine MT.call (MT.st k2 (by rw [hk2.out];(unfold stK boxK;simp only [xd];repeat' (first|exact trivial|exact rfl|exact Le.refl _|exact SoLe.refl _|exact Le.of_eq (congrArg (AV.own _ _ _) hul.symm)|exact Le.of_eq (congrArg (AV.own _ _ _) hul)|exact fun j hj=>hro j (by omega)|exact hro|exact hul.symm|exact hul|exact hQ.ue.symm|exact hQ.ue|exact fun _ _=>LeL.refl _|exact fun _ _ _ _=>LeL.refl _|refine And.intro ?_ ?_)))) ?_
    ((conv=>whnf);refine jm (fun _=>rfl) 300 [0,1,2,3,4,5,6,7,8,9,10] (qjc k2 hsz2 ((k2.lits.getD (kq.units.getD i 0) []).getD 0 0) (by rw [hk2.out];exact hlzu) ((kq.units.getD i 0:Nat):Int)) (by kernel_rfl) (by rw [hk2.out];exact leA) (by exact qat k2) (by exact qn k2) (by exact qn _) (by kernel_rfl) ?_)
    (repeat' ((conv=>whnf);first|refine zO ?_|refine Ob.auto ?_|(refine Ob.intro (by (first|first|exact ⟨by omega,by omega⟩|(simp only [zg];omega)|exact ⟨⟨hQ.ue.symm,hul.symm⟩,zf _,Int.ofNat_lt.2 hil⟩|exact ⟨⟨hQ.ue.symm,hul.symm⟩,hil⟩|exact ⟨⟨rfl,rfl⟩,zf _,Int.ofNat_lt.2 hnbu⟩|exact ⟨⟨rfl,rfl⟩,hnbu⟩|exact ⟨hnbu,⟨rfl,rfl⟩,zf _,Int.ofNat_lt.2 hl0u⟩|exact ⟨hnbu,⟨rfl,rfl⟩,hl0u⟩|exact ⟨⟨rfl,rfl⟩,zf _,Int.ofNat_lt.2 hlzu⟩|exact ⟨⟨rfl,rfl⟩,hlzu⟩)) ?_)|(apply zB <;> intro hb <;> (try simp [-zd] at hb) <;> try (exfalso;omega))|refine Ob.intro ?_ ?_))
    ((conv=>whnf);refine ⟨i+1,hil,⟨(by
     rw [hsv.out]
     simp only [zi,xh,zaf,zw]
     (repeat' (first|exact trivial|exact rfl|exact Le.refl _|exact SoLe.refl _|refine And.intro ?_ ?_))),(by
     rw [hst]
     (unfold stK boxK;repeat' (first|exact trivial|exact rfl|exact Le.refl _|exact SoLe.refl _|exact fun _ _=>LeL.refl _|exact fun _ _ _ _=>LeL.refl _|refine And.intro ?_ ?_)))⟩,⟨qa,qa⟩,?_⟩;(first|omega|(dsimp only;omega)|skip))
   ·rw [hvz] at hb
    have hz0:¬ vl (unitsO k i).1 ((lit (unitsO k i).1 n).getD 0 0)<0:=by rw [← hvz];omega
    rw [ze hz0,ze hb] at hsv
    have hst:qbc k (i+1)={ kq with units:=kq.units.set (unitsO k i).2.length n }:=by
     rw [hpn.out _ hsv.out,← hkq.out];rfl
    ((conv=>whnf);refine ⟨i+1,hil,⟨(by
     rw [hsv.out]
     simp only [zi,xh,zaf,zw]
     (repeat' (first|exact trivial|exact rfl|exact Le.refl _|exact SoLe.refl _|refine And.intro ?_ ?_))),(by
     rw [hst]
     (unfold stK boxK;simp only [xd];repeat' (first|exact trivial|exact rfl|exact Le.refl _|exact SoLe.refl _|exact Le.of_eq (congrArg (AV.own _ _ _) hul.symm)|exact Le.of_eq (congrArg (AV.own _ _ _) hul)|exact fun j hj=>hro j (by omega)|exact hro|exact hul.symm|exact hul|exact hQ.ue.symm|exact hQ.ue|exact fun _ _=>LeL.refl _|exact fun _ _ _ _=>LeL.refl _|refine And.intro ?_ ?_)))⟩,⟨qa,qa⟩,?_⟩;(first|omega|(dsimp only;omega)|skip))
  ·obtain rfl:i=k.units.length:=by omega
   (repeat' ((conv=>whnf);first|refine zO ?_|refine Ob.auto ?_|(refine Ob.intro (by (first|exact ⟨by omega,by omega⟩|(simp only [zg];omega))) ?_)|(apply zB <;> intro hb <;> (try simp [-zd] at hb) <;> try (exfalso;omega))|refine Ob.intro ?_ ?_))
   have hU:=qxn hI k.units.length
   have hO:=jij k
   have hlen:(qbc k k.units.length).units.length=k.units.length:=by
    have hal:(unitsO k k.units.length).2.length≤k.units.length:=by
     rw [hU.l,zba]
     exact zr (zbm _ _) (by rw [zu];omega)
    show ((unitsO k k.units.length).2++k.units.drop _).length=_
    rw [zi,zah];omega
   have hue:(qbc k k.units.length).ue=k.ue:=hU.ue
   have hmid:k.mid={ (unitsO k k.units.length).1 with units:=(unitsO k k.units.length).2,ue:=(unitsO k k.units.length).1.ue+1 }:=by rw [hO];rfl
   have hJm:J0 0 [] k.mid∧k.mid.head=0:=by rw [hmid];exact ⟨hU.j.cong rfl rfl rfl rfl rfl rfl rfl,hU.hd⟩
   have hkr:∀ j,j<(unitsO k k.units.length).2.length→LeL (encN (qbc k k.units.length).units j) (encN (unitsO k k.units.length).2 j):=fun j hj=>LeL.of_eq (qwn rfl j hj)
   have huo:(unitsO k k.units.length).1.ue+1=k.ue+1:=congrArg (·+1) hU.ue
   generalize hkq:qbc k k.units.length=kq at hlen hue hkr ⊢
   replace hmid:=Hid.in hmid
   replace hkq:=Hid.in hkq
   replace hO:=Hid.in hO
   refine OpG.cus (fun _=>rfl) 300 rfl (by kernel_rfl) (jgf (r:=10) (i:=0) (e:=k.ue) (n:=k.units.length) (sz:=1) (m:=(unitsO k k.units.length).2.length) (R:=⟨[],3,1,kq.ue,kq.units.length,encN kq.units⟩) (ob:=none) (b:=0) (o:=7) (bty:=59) (fun _=>rfl) (by rfl) (by rfl) (by rfl) (by rfl) (by rfl) (by rfl) (by rfl) (by exact (by decide:8≤11)) trivial ⟨hue.symm,hlen.symm⟩) ?_
   have hmk:k.mid={ kq with units:=(unitsO k k.units.length).2,ue:=kq.ue+1 }:=by rw [hmid.out,← hkq.out];rfl
   have hkb:kq.broken=k.mid.broken:=by rw [hmk]
   replace hmk:=Hid.in hmk
   cases hbr:k.mid.broken with
   | true=>
    rw [hbr] at hkb
    ((conv=>whnf);refine qgh (fun _=>rfl) 300 (.bool false) (by kernel_rfl) qf (fun he=>?_) (fun he=>?_))
    ·rw [hkb] at he;cases he
    (repeat' ((conv=>whnf);first|refine zO ?_|refine Ob.auto ?_|(refine Ob.intro (by (first|exact ⟨by omega,by omega⟩|(simp only [zg];omega))) ?_)|(apply zB <;> intro hb <;> (try simp [-zd] at hb) <;> try (exfalso;omega))|refine Ob.intro ?_ ?_))
    have hr:k.refresh=k.mid:=by rw [href.out,hbr];rfl
    rw [hr]
    refine ⟨Le.refl _,?_⟩
    rw [hmk.out]
    unfold stK boxK
    simp only [hkb]
    repeat' (first|exact trivial|exact rfl|exact Le.refl _|exact SoLe.refl _|exact hkr|exact (congrArg (·+1) hue.symm)|exact Le.of_eq (congrArg (fun e=>AV.own 10 0 e _) (congrArg (·+1) hue.symm))|exact fun _ _=>LeL.refl _|exact fun _ _ _ _=>LeL.refl _|refine And.intro ?_ ?_)
   | false=>
    rw [hbr] at hkb
    ((conv=>whnf);refine qgh (fun _=>rfl) 300 (.bool false) (by kernel_rfl) qf (fun he=>?_) (fun he=>?_))
    ·refine MT.call (MT.st k.mid (by (rw [hmk.out];unfold stK boxK;repeat' (first|exact trivial|exact rfl|exact Le.refl _|exact SoLe.refl _|exact hkr|exact (congrArg (·+1) hue.symm)|exact Le.of_eq (congrArg (fun e=>AV.own 10 0 e _) (congrArg (·+1) hue.symm))|exact fun _ _=>LeL.refl _|exact fun _ _ _ _=>LeL.refl _|refine And.intro ?_ ?_)))) ?_
     ((conv=>whnf);refine jm (fun _=>rfl) 300 [0,1,2,3,4,5,6,7,8,9,10] (qmp k.mid hJm.1 (by rw [hJm.2];exact qwv)) (by kernel_rfl) leA (by exact qat k.mid) (by exact qn k.mid) (by exact qn _) (by kernel_rfl) ?_)
     (repeat' ((conv=>whnf);first|refine zO ?_|refine Ob.auto ?_|(refine Ob.intro (by (first|exact ⟨by omega,by omega⟩|(simp only [zg];omega))) ?_)|(apply zB <;> intro hb <;> (try simp [-zd] at hb) <;> try (exfalso;omega))|refine Ob.intro ?_ ?_))
     have hr:k.refresh={ k.mid.prop.1 with broken:=!k.mid.prop.2 }:=by rw [href.out,hbr];rfl
     rw [hr]
     refine ⟨Le.refl _,?_⟩
     unfold stK boxK
     simp only [hkb]
     repeat' (first|exact trivial|exact rfl|exact Le.refl _|exact SoLe.refl _|exact fun _ _=>LeL.refl _|exact fun _ _ _ _=>LeL.refl _|refine And.intro ?_ ?_)
    ·rw [hkb] at he;cases he
 ·have hr:k.refresh=k:=by unfold K.refresh;rw [ze hst]
  rw [zbf] at hst
  refine zL {subs:=[23]} 300 Try.func41 (fun c0 rdb mpb=>?_)
  (repeat' ((conv=>whnf);first|refine zO ?_|refine Ob.auto ?_|(refine Ob.intro (by (first|exact ⟨by omega,by omega⟩|(simp only [zg];omega))) ?_)|(apply zB <;> intro hb <;> (try simp [-zd] at hb) <;> try (exfalso;omega))|refine Ob.intro ?_ ?_))
  ·rw [hr]
   refine ⟨Le.refl _,?_⟩
   (unfold stK boxK;repeat' (first|exact trivial|exact rfl|exact Le.refl _|exact SoLe.refl _|exact fun _ _=>LeL.refl _|exact fun _ _ _ _=>LeL.refl _|refine And.intro ?_ ?_))
  ·rw [hst] at hb;cases hb
end Go.Proofs.Ytkhdldncbmkidaa
