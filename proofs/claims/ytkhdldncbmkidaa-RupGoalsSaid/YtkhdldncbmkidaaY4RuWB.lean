/- Contracts: the checker's add. -/
import Derived.Test.YtkhdldncbmkidaaY430
import Derived.Test.YtkhdldncbmkidaaY4RuX2
import Derived.Test.YtkhdldncbmkidaaY42
set_option linter.unusedSimpArgs false
set_option linter.unusedVariables false
namespace Go.Proofs.Ytkhdldncbmkidaa
open List renaming getD_eq_getElem?_getD → zd
open Go Go.Sx Go.RowKit Go.Ru Go.Cl
set_option maxRecDepth 100000
set_option maxHeartbeats 8000000
theorem jhr {ls:List (List Nat)} {go:List Bool} {c:List Nat} {m:Nat} {g:Nat→List AV} (hg:go.length=ls.length) (hm:m=c.length) (j:Nat) (hj:j<ls.length+1) :
  LeL (if j=ls.length then [AV.own 2 ls.length 1 m,.bool false] else appF ls.length (fun i=>[AV.own 2 i 1 (ls.getD i []).length,.bool (go.getD i false)]) 1 g j) [AV.own 2 j 1 ((ls++[c]).getD j []).length,.bool ((go++[false]).getD j false)]:=by
 refine LeL.of_eq ?_
 rw [qcu,qcu,hg]
 by_cases h:j=ls.length
 ·rw [za h,za h,za h,h,hm]
 ·rw [ze h,ze h,ze h]
  unfold appF
  rw [za (by omega)]
theorem jhs {ls:List (List Nat)} {c:List Nat} {m:Nat} (hm:m=c.length) (i:Nat) (hi:i<ls.length+1) :
  upd (fun k=>if k<ls.length then 1 else 0) ls.length 1 i=1∧upd (fun k=>if k<ls.length then (ls.getD k []).length else 0) ls.length m i=((ls++[c]).getD i []).length:=by
 rw [qcu]
 unfold upd
 by_cases h:i=ls.length
 ·rw [za h,za h,za h];exact ⟨rfl,hm⟩
 ·rw [ze h,ze h,ze h]
  exact ⟨za (by omega),za (by omega)⟩
theorem jht {ls:List (List Nat)} {c:List Nat} (i j:Nat):LeL (upd (fun i=>encN (ls.getD i [])) ls.length (encN c) i j) (encN ((ls++[c]).getD i []) j):=by
 rw [qcu]
 unfold upd
 by_cases h:i=ls.length
 ·rw [za h,za h];exact LeL.refl _
 ·rw [ze h,ze h];exact LeL.refl _
theorem qxb (k:K) (hI:Ru.Inv k) {alive:Nat→Option (List UInt8)} (hLk:Led k alive) (hnu:∀ p,p<k.keys.length→(nums k p).length≤100000) (c:List Int) (hr:rightB c=true) (hl:c.length≤100000) (hk:k.lits.length<100000) (idle:Bool) (hi:idle=true↔∃ z∈codesN c,ng z∈codesN c) (hnd:(codesN c).Nodup) :
  Trip Try.prog 29 [.ptr 0 0,ints c,.bool idle] (stK k) (.tup []) (idx 0 (stK (k.add c idle))) 11:=by
 have hsz:=Sz.of hI.s.p.v hI.s.p.c
 have hct:=qwx k hsz c hr hl
 have hkc:=qwy c hr hl
 refine zL {owns:=[(24,(68,1))]} 300 Try.func29 (fun c0 rdb mpb=>?_)
 (repeat' ((conv=>whnf);first|refine zO ?_|refine Ob.auto ?_|(refine Ob.intro (by (first|exact ⟨by omega,by omega⟩)) ?_)|(apply zB <;> intro hb <;> (try simp [-zd] at hb) <;> try (exfalso;omega))|refine Ob.intro ?_ ?_))
 ((conv=>whnf);refine ji (fun _=>rfl) 300 [0,1,2,3,4,5,6,7,8,9,10] hct (by kernel_rfl) leA (by exact qaj k) (by exact qj k) (by refine qil ?_;repeat' (first|exact trivial|exact fun _ _=>rfl|refine And.intro ?_ ?_)) (by kernel_rfl) ?_)
 generalize hk1:k.grow (qe [c]).toNat=k1 at hct ⊢
 (repeat' ((conv=>whnf);first|refine zO ?_|refine Ob.auto ?_|(refine Ob.intro (by (first|exact ⟨by omega,by omega⟩)) ?_)|(apply zB <;> intro hb <;> (try simp [-zd] at hb) <;> try (exfalso;omega))|refine Ob.intro ?_ ?_))
 rotate_left
 ·refine jhn 1 2 11 7 (tl:=[.bool false]) (ep1:=0) (n1:=c.length) (n:=k1.lits.length) (f0:=appF k1.lits.length (fun i=>[.own 2 i 1 (k1.lits.getD i []).length,.bool (k1.gone.getD i false)]) 1 _) (by rfl) (by rfl) (by rfl) (by decide) ?hfi rfl (fun j hj=>⟨_,_,_,za hj,rfl⟩) (by rfl) ?_
  case hfi=>
   refine (ze (Nat.lt_irrefl _)).trans ((za (zas _)).trans ?_)
   rw [zag]
   rfl
  have hcl:c.length=(codesN c).length:=by unfold codesN;rw [xp]
  have hgl:k1.gone.length=k1.lits.length:=by rw [← hk1,(grown k _).li,(grown k _).go];exact hI.s.p.c.g
  obtain ⟨k2,hk2⟩:∃ k2,k2=k1.push (codesN c):=⟨_,rfl⟩
  refine MT.call (MT.st k2 ?_) ?_
  ·rw [hk2]
   unfold stK boxK K.push
   simp only [zj,xj,zab,zx]
   repeat' (first|exact trivial|exact rfl|exact Le.refl _|exact SoLe.refl _|exact fun _ _=>LeL.refl _|exact fun _ _ _ _=>LeL.refl _|exact fun j hj=>jhr hgl hcl j hj|exact fun i hi=>jhs hcl i hi|exact fun i j _ _=>jht i j|refine And.intro ?_ ?_)
  (repeat' ((conv=>whnf);first|refine zO ?_|refine Ob.auto ?_|(refine Ob.intro (by (first|exact ⟨by omega,by omega⟩)) ?_)|refine zC 300 (hkc) ?_|refine zG 300 (fun hg=>hkc) ?_|(refine CallY.con (hkc) (by rfl) leA ?_)|(refine CallZ.con (fun hg=>hkc) qp (by rfl) ?_)|(refine qv (fun _=>rfl) 300 (hkc) qd (by (repeat' (first|exact trivial|exact Le.refl _|(refine And.intro ?_ ?_))) <;> fail) (by rfl) (by kernel_rfl) ?_)|(refine qw (fun _=>rfl) 300 (fun hg=>hkc) (fun hg=>qd) (fun hg=>(by (repeat' (first|exact trivial|exact Le.refl _|exact Le.cnd hg|(refine And.intro ?_ ?_))) <;> fail)) (by rfl) (by kernel_rfl) ?_)|(apply zB <;> intro hb <;> (try simp [-zd] at hb) <;> try (exfalso;omega))|refine Ob.intro ?_ ?_))
  have hG:=grown k (qe [c]).toNat
  rw [hk1] at hG
  have hL2:Led k2 alive:=hLk.cong (by rw [hk2];exact hG.ks) (by rw [hk2];exact hG.pm)
  obtain ⟨a,b,q,hN⟩:=jho hL2 (keyN c) k.lits.length
  have hql:=hN.ql
  have hqn:=hN.le 100000 (fun p hp=>by
   have e1:k2.keys=k.keys:=by rw [hk2];exact hG.ks
   have e2:nums k2 p=nums k p:=by unfold nums;rw [e1,show k2.pm=k.pm by rw [hk2];exact hG.pm]
   rw [e2];rw [e1] at hp;exact hnu p hp)
  obtain ⟨kn,hkn⟩:∃ kn,kn=k1.note (keyN c) k.lits.length:=⟨_,rfl⟩
  have hgr:=qjb [c]
  have hI1:=qgy hI (v:=(qe [c]).toNat) (by omega)
  obtain ⟨na,nb,nd,hne⟩:=qwj k1 (keyN c) k.lits.length
  have hIn:Ru.Inv kn:=by
   have:=qqf (hk1 ▸ hI1) na nb nd
   rw [hkn,hne];exact this
  have hnl:kn.lits.length=k.lits.length:=by rw [hkn,hne];exact congrArg List.length hG.li
  have hFn:Fit kn (codesN c):=by
   refine ⟨fun x hx=>?_,hnd,by omega,by omega⟩
   obtain ⟨l,hl,rfl⟩:=List.mem_map.1 hx
   have h1:=qqe hr l hl
   have h2:=qpy (l:=l) (v:=(qe [c]).toNat) (by omega)
   have h3:=(qmc hI (qe [c]).toNat).1
   have h4:kn.val.length=(k.grow (qe [c]).toNat).val.length:=by rw [hkn,hne,← hk1]
   omega
  have hA:=addP hIn hFn hi
  have hL3:idle=false→(codesN c).length≠0→∀ x0,x0=(lit ((kn.push (codesN c)).lay kn.lits.length) kn.lits.length).getD 0 0→¬ (((kn.push (codesN c)).lay kn.lits.length).stale=true∨((kn.push (codesN c)).lay kn.lits.length).broken=true)→vl ((kn.push (codesN c)).lay kn.lits.length) x0=0→((lit ((kn.push (codesN c)).lay kn.lits.length) kn.lits.length).length=1∨vl ((kn.push (codesN c)).lay kn.lits.length) ((lit ((kn.push (codesN c)).lay kn.lits.length) kn.lits.length).getD 1 0)<0)→
    J0 0 [] (((kn.push (codesN c)).lay kn.lits.length).set x0 ((kn.lits.length:Nat):Int))∧Done (((kn.push (codesN c)).lay kn.lits.length).set x0 ((kn.lits.length:Nat):Int)) (((kn.push (codesN c)).lay kn.lits.length).set x0 ((kn.lits.length:Nat):Int)).head:=fun h1 h2 x0 hx=>by
   subst hx
   exact jhp hIn hFn (hA.a3 h1 h2)
  have hk3:kn.push (codesN c)=k2.note (keyN c) k.lits.length:=by rw [hkn,hk2,jhq]
  have hka:kn.adds (codesN c) idle=k.add c idle:=by unfold K.add;rw [hkn,hk1]
  have hn1:k1.lits.length=k.lits.length:=congrArg List.length hG.li
  rw [hk3,hka,hnl] at hA
  rw [hk3,hnl] at hL3
  rw [hn1]
  generalize k.lits.length=n at hA hL3 hN ⊢
  replace hne:=Hid.in hne
  replace hkn:=Hid.in hkn
  replace hk1:=Hid.in hk1
  replace hk2:=Hid.in hk2
  replace hG:=Hid.in hG
  replace hL2:=Hid.in hL2
  ((conv=>whnf);refine qcb (fun _=>rfl) (by kernel_rfl) 300 ?_)
  (repeat' ((conv=>whnf);first|refine zO ?_|refine Ob.auto ?_|(refine Ob.intro (by (first|exact ⟨by omega,by omega⟩)) ?_)|(apply zB <;> intro hb <;> (try simp [-zd] at hb) <;> try (exfalso;omega))|refine Ob.intro ?_ ?_))
  refine CusY.intro (hN.find _ _ _ _ _ _ _ _ rfl (by rfl) (by rfl)) ?_
  (repeat' ((conv=>whnf);first|refine zO ?_|refine Ob.auto ?_|(refine Ob.intro (by (first|exact ⟨by omega,by omega⟩|exact ⟨hql,⟨rfl,rfl⟩,qdr (b:=(tab Try.prog 3).bytes) (by omega) (by decide +kernel)⟩)) ?_)|(apply zB <;> intro hb <;> (try simp [-zd] at hb) <;> try (exfalso;omega))|refine Ob.intro ?_ ?_))
  refine CusY.intro (hN.put _ _ _ _ _ _ _ _ _ (by rfl) (by rfl) (by rfl) (by rfl)) ?_
  ((conv=>whnf);refine AltG.far 14 [0] (by kernel_rfl) farA (MT.endg (MT.st (k2.note (keyN c) n) ?_) ?_))
  ·rw [hN.eq]
   unfold stK boxK
   simp only [xg]
   repeat' (first|exact trivial|exact rfl|exact Le.refl _|exact SoLe.refl _|exact fun _ _=>LeL.refl _|exact fun _ _ _ _=>LeL.refl _|exact qlm hql rfl rfl rfl|refine And.intro ?_ ?_)
  generalize k2.note (keyN c) n=k3 at hA hL3 ⊢
  generalize k.add c idle=ka at hA ⊢
  clear hN
  cases idle with
  | true=>
   obtain rfl:=hA.a0 rfl
   (repeat' ((conv=>whnf);first|refine zO ?_|refine Ob.auto ?_|(refine Ob.intro (by (first|exact ⟨by omega,by omega⟩)) ?_)|(apply zB <;> intro hb <;> (try simp [-zd] at hb) <;> try (exfalso;omega))|refine Ob.intro ?_ ?_))
   refine ⟨Le.refl _,?_⟩
   (unfold stK boxK;repeat' (first|exact trivial|exact rfl|exact Le.refl _|exact SoLe.refl _|exact fun _ _=>LeL.refl _|exact fun _ _ _ _=>LeL.refl _|refine And.intro ?_ ?_))
  | false=>
   have hl3:=hA.l3
   have hn3:=hA.n1
   have hus:=hA.us
   have hem:=hA.em
   have hwl:=hA.wl
   have hvv:=hA.v
   have hcc:=hA.c3
   have hcv:=hA.cv
   have hc3:(k3.lits.getD n []).length=c.length:=by rw [hl3,← hcl]
   have hli3:lit k3 n=codesN c:=hl3
   replace hct:=Hid.in hct
   replace hkc:=Hid.in hkc
   generalize c.length=m at hcl hc3 hl ⊢
   by_cases h0:m=0
   ·have hka:=hA.a1 rfl (by omega)
    rw [hka]
    replace hka:=Hid.in hka
    replace hA:=Hid.in hA
    replace hL3:=Hid.in hL3
    replace hvv:=Hid.in hvv
    (repeat' ((conv=>whnf);first|refine zO ?_|refine Ob.auto ?_|(refine Ob.intro (by (first|exact ⟨by omega,by omega⟩)) ?_)|(apply zB <;> intro hb <;> (try simp [-zd] at hb) <;> try (exfalso;omega))|refine Ob.intro ?_ ?_))
    refine ⟨Le.refl _,?_⟩
    (unfold stK boxK;repeat' (first|exact trivial|exact rfl|exact Le.refl _|exact SoLe.refl _|exact fun _ _=>LeL.refl _|exact fun _ _ _ _=>LeL.refl _|refine And.intro ?_ ?_))
   ·have hka:=hA.a2 rfl (by omega)
    have hLd:=hA.a3 rfl (by omega)
    have hL3':=hL3 rfl (by omega)
    replace hA:=Hid.in hA
    replace hL3:=Hid.in hL3
    have hcx:∀ i,i<m→(codesN c).getD i 0<k3.val.length:=fun i hi=>hcv _ (qg (by omega))
    have hvz:=hvv.len
    by_cases h1:m=1
    ·obtain ⟨k4,hk4⟩:∃ k4:K,k4={ k3 with units:=k3.units++[n] }:=⟨_,rfl⟩
     have hlay:k3.lay n=k4:=by unfold K.lay;rw [hli3,ze (by omega),za (by omega),hk4]
     rw [hlay] at hka hLd hL3'
     have hl4:k4.lits.getD n []=codesN c:=by rw [hk4];exact hl3
     have hn4:n<k4.lits.length:=by rw [hk4];exact hn3
     have hv4:k4.val=k3.val:=by rw [hk4]
     have hz4:Sz k4:=by rw [hk4];exact ⟨hvv.vr,hcc.2,hcc.1,zt hvz hcc.1⟩
     have hs4:k4.stale=k3.stale∧k4.broken=k3.broken:=by rw [hk4];exact ⟨rfl,rfl⟩
     have hx0:=hcx 0 (by omega)
     replace hvv:=Hid.in hvv
     replace hLd:=Hid.in hLd
     replace hk4:=Hid.in hk4
     (repeat' ((conv=>whnf);first|refine zO ?_|refine Ob.auto ?_|(refine Ob.intro (by (first|exact ⟨by omega,by omega⟩|exact qdr (b:=(tab Try.prog 3).bytes) (by omega) (by decide +kernel))) ?_)|(apply zB <;> intro hb <;> (try simp [-zd] at hb) <;> try (exfalso;omega))|refine Ob.intro ?_ ?_))
     ·have hf:ka=k4:=by rw [hka];unfold K.tell;rw [za (by rw [hs4.1,hs4.2];exact hb)]
      rw [hf]
      refine ⟨Le.refl _,?_⟩
      rw [hk4.out]
      unfold stK boxK
      simp only [zj,xj,zab,zx]
      repeat' (first|exact trivial|exact rfl|exact Le.refl _|exact SoLe.refl _|exact fun _ _=>LeL.refl _|exact fun _ _ _ _=>LeL.refl _|exact qio rfl|refine And.intro ?_ ?_)
     ·have hnt:¬ (k4.stale=true∨k4.broken=true):=by rw [hs4.1,hs4.2,hb.1,hb.2];decide
      refine MT.draw (MT.st k4 ?_) ?_
      ·rw [hk4.out]
       unfold stK boxK
       simp only [zj,xj,zab,zx]
       repeat' (first|exact trivial|exact rfl|exact Le.refl _|exact SoLe.refl _|exact fun _ _=>LeL.refl _|exact fun _ _ _ _=>LeL.refl _|exact qio rfl|refine And.intro ?_ ?_)
      have hc4:m=(k4.lits.getD n []).length:=by rw [hl4];omega
      have hy0:(k4.lits.getD n []).getD 0 0<k4.val.length:=by rw [hl4,hv4];exact hx0
      ((conv=>whnf);refine zQ 300 ?_)
      (repeat' ((conv=>whnf);first|refine zO ?_|refine Ob.auto ?_|(refine Ob.intro (by (first|first|exact ⟨by omega,by omega⟩|(simp only [zf];omega)|exact ⟨⟨rfl,rfl⟩,zg _,Int.ofNat_lt.2 hy0⟩|exact ⟨⟨rfl,rfl⟩,hy0⟩|exact ⟨hn4,⟨rfl,hc4⟩,by omega,by omega⟩|exact ⟨hn4,⟨rfl,hc4⟩,by omega⟩)) ?_)|(apply zB <;> intro hb <;> (try simp [-zd] at hb) <;> try (exfalso;omega))|refine Ob.intro ?_ ?_))
      ((conv=>whnf);refine AltG.none (by kernel_rfl) (EndG.go ?_))
      (repeat' ((conv=>whnf);first|refine zO ?_|refine Ob.auto ?_|(refine Ob.intro (by (first|first|exact ⟨by omega,by omega⟩|(simp only [zf];omega)|exact ⟨⟨rfl,rfl⟩,zg _,Int.ofNat_lt.2 hy0⟩|exact ⟨⟨rfl,rfl⟩,hy0⟩|exact ⟨hn4,⟨rfl,hc4⟩,by omega,by omega⟩|exact ⟨hn4,⟨rfl,hc4⟩,by omega⟩)) ?_)|(apply zB <;> intro hb <;> (try simp [-zd] at hb) <;> try (exfalso;omega))|refine Ob.intro ?_ ?_))
      ·have hf:ka={ k4 with broken:=true }:=by
        rw [hka];unfold K.tell
        rw [ze hnt,za (show vl k4 ((lit k4 n).getD 0 0)<0 from hb)]
       rw [hf]
       refine ⟨Le.refl _,?_⟩
       (unfold stK boxK;repeat' (first|exact trivial|exact rfl|exact Le.refl _|exact SoLe.refl _|exact fun _ _=>LeL.refl _|exact fun _ _ _ _=>LeL.refl _|refine And.intro ?_ ?_))
      ·((conv=>whnf);refine zQ 300 ?_)
       (repeat' ((conv=>whnf);first|refine zO ?_|refine Ob.auto ?_|(refine Ob.intro (by (first|first|exact ⟨by omega,by omega⟩|(simp only [zf];omega)|exact ⟨⟨rfl,rfl⟩,zg _,Int.ofNat_lt.2 hy0⟩|exact ⟨⟨rfl,rfl⟩,hy0⟩|exact ⟨hn4,⟨rfl,hc4⟩,by omega,by omega⟩|exact ⟨hn4,⟨rfl,hc4⟩,by omega⟩)) ?_)|(apply zB <;> intro hb <;> (try simp [-zd] at hb) <;> try (exfalso;omega))|refine Ob.intro ?_ ?_))
       ((conv=>whnf);refine AltG.none (by kernel_rfl) (EndG.go ?_))
       (repeat' ((conv=>whnf);first|refine zO ?_|refine Ob.auto ?_|(refine Ob.intro (by (first|first|exact ⟨by omega,by omega⟩|(simp only [zf];omega)|exact ⟨⟨rfl,rfl⟩,zg _,Int.ofNat_lt.2 hy0⟩|exact ⟨⟨rfl,rfl⟩,hy0⟩|exact ⟨hn4,⟨rfl,hc4⟩,by omega,by omega⟩|exact ⟨hn4,⟨rfl,hc4⟩,by omega⟩)) ?_)|(apply zB <;> intro hb <;> (try simp [-zd] at hb) <;> try (exfalso;omega))|refine Ob.intro ?_ ?_))
       ·have h5:vl k4 ((lit k4 n).getD 0 0)=0:=hb.1
        have h6:(lit k4 n).length=1∨vl k4 ((lit k4 n).getD 1 0)<0:=hb.2.imp (fun h=>hc4.symm.trans (by omega)) id
        have hJD:=hL3' _ rfl hnt h5 h6
        have hf:ka={ (k4.set ((lit k4 n).getD 0 0) n).prop.1 with broken:=!(k4.set ((lit k4 n).getD 0 0) n).prop.2 }:=by
         rw [hka];unfold K.tell
         rw [ze hnt,ze (by omega),za ⟨h5,h6⟩]
        rw [hf]
        have hst:=qip k4 hz4 ((lit k4 n).getD 0 0) hy0 ((n:Nat):Int)
        generalize k4.set ((lit k4 n).getD 0 0) ((n:Nat):Int)=k5 at hJD hst ⊢
        have hpt:=qlx k5 hJD.1 hJD.2
        ((conv=>whnf);refine ji (fun _=>rfl) 300 [0,1,2,3,4,5,6,7,8,9,10] hst (by kernel_rfl) leA (by exact qaj k4) (by exact qj k4) (by exact qj _) (by kernel_rfl) ?_)
        replace hJD:=Hid.in hJD
        replace hst:=Hid.in hst
        replace hf:=Hid.in hf
        (repeat' ((conv=>whnf);first|refine zO ?_|refine Ob.auto ?_|(refine Ob.intro (by (first|first|exact ⟨by omega,by omega⟩|(simp only [zf];omega))) ?_)|(apply zB <;> intro hb <;> (try simp [-zd] at hb) <;> try (exfalso;omega))|refine Ob.intro ?_ ?_))
        ((conv=>whnf);refine ji (fun _=>rfl) 300 [0,1,2,3,4,5,6,7,8,9,10] hpt (by kernel_rfl) leA (by exact qaj k5) (by exact qj k5) (by exact qj _) (by kernel_rfl) ?_)
        replace hpt:=Hid.in hpt
        (repeat' ((conv=>whnf);first|refine zO ?_|refine Ob.auto ?_|(refine Ob.intro (by (first|first|exact ⟨by omega,by omega⟩|(simp only [zf];omega))) ?_)|(apply zB <;> intro hb <;> (try simp [-zd] at hb) <;> try (exfalso;omega))|refine Ob.intro ?_ ?_))
        refine ⟨Le.refl _,?_⟩
        (unfold stK boxK;repeat' (first|exact trivial|exact rfl|exact Le.refl _|exact SoLe.refl _|exact fun _ _=>LeL.refl _|exact fun _ _ _ _=>LeL.refl _|refine And.intro ?_ ?_))
       ·have hf:ka=k4:=by
         rw [hka];unfold K.tell
         rw [ze hnt,ze (show ¬ vl k4 ((lit k4 n).getD 0 0)<0 from by unfold vl lit;omega),ze (fun h=>by
          have h7:=hb h.1
          rcases h.2 with h8|h8
          ·have h9:(k4.lits.getD n []).length=1:=h8
           omega
          ·have h9:k4.val.getD ((k4.lits.getD n []).getD 1 0) 0<0:=h8
           omega)]
        rw [hf]
        refine ⟨Le.refl _,?_⟩
        (unfold stK boxK;repeat' (first|exact trivial|exact rfl|exact Le.refl _|exact SoLe.refl _|exact fun _ _=>LeL.refl _|exact fun _ _ _ _=>LeL.refl _|refine And.intro ?_ ?_))
    ·have hz3:Sz k3:=⟨hvv.vr,hcc.2,hcc.1,zt hvz hcc.1⟩
     have hch:=jfe k3 hz3 n hn3 (by rw [hl3];exact hcv) (by omega)
     rw [hc3] at hch
     have hcp:=qmb k3.val (codesN c)
     have hlay:k3.lay n=k3.hang n:=by unfold K.lay;rw [hli3,ze (by omega),ze (by omega)]
     rw [hlay] at hka hLd hL3'
     obtain ⟨kc,hkc'⟩:∃ kc:K,kc={ k3 with lits:=k3.lits.set n (qae k3.val (k3.lits.getD n [])) }:=⟨_,rfl⟩
     rw [← hkc'] at hch
     have hlc:kc.lits.getD n []=qae k3.val (codesN c):=by rw [hkc',hl3];exact (jb _ _ _ _ _).trans (za ⟨rfl,hn3⟩)
     have hcm:m=(kc.lits.getD n []).length:=by rw [hlc,hcp.length_eq];exact hcl
     have hnc:n<kc.lits.length:=by rw [hkc'];simpa using hn3
     have hvc:kc.val=k3.val∧kc.watch=k3.watch∧kc.stale=k3.stale∧kc.broken=k3.broken∧kc.rea=k3.rea∧kc.trail=k3.trail:=by rw [hkc'];exact ⟨rfl,rfl,rfl,rfl,rfl,rfl⟩
     have hqx:∀ i,i<m→(kc.lits.getD n []).getD i 0<kc.val.length:=fun i hi=>by
      rw [hvc.1,hlc]
      exact hcv _ (hcp.mem_iff.1 (qg (by rw [hcp.length_eq];omega)))
     have hq0:=hqx 0 (by omega)
     have hq1:=hqx 1 (by omega)
     obtain ⟨kh,hkh⟩:∃ kh:K,kh={ kc with watch:=kc.watch.set ((kc.lits.getD n []).getD 0 0) (kc.watch.getD ((kc.lits.getD n []).getD 0 0) []++[n]) }:=⟨_,rfl⟩
     obtain ⟨k4,hk4⟩:∃ k4:K,k4={ kh with watch:=kh.watch.set ((kh.lits.getD n []).getD 1 0) (kh.watch.getD ((kh.lits.getD n []).getD 1 0) []++[n]) }:=⟨_,rfl⟩
     have hhang:k3.hang n=k4:=by
      rw [hk4,hkh]
      simp only [hlc]
      unfold K.hang qcs
      rw [hli3,hkc']
      simp only
      rw [hl3]
     rw [hhang] at hka hLd hL3'
     have hn4:n<k4.lits.length:=by rw [hk4,hkh];exact hnc
     have hz4:Sz k4:=by
      rw [hk4,hkh]
      refine ⟨?_,?_,?_,?_⟩
      ·show kc.val.length=2 * kc.rea.length
       rw [hvc.1,hvc.2.2.2.2.1];exact hz3.vr
      ·show ((kc.watch.set _ _).set _ _).length=kc.val.length
       rw [xg,xg,hvc.1,hvc.2.1];exact hz3.vw
      ·show kc.val.length≤_
       rw [hvc.1];exact hz3.v
      ·show kc.trail.length≤_
       rw [hvc.2.2.2.2.2];exact hz3.t
     have hs4:k4.stale=k3.stale∧k4.broken=k3.broken:=by rw [hk4,hkh];exact ⟨hvc.2.2.1,hvc.2.2.2.1⟩
     have hw0:(kc.lits.getD n []).getD 0 0<kc.watch.length:=by rw [hvc.2.1,hz3.vw,← hvc.1];exact hq0
     have hwh:kh.watch.length=kc.watch.length:=by rw [hkh];simp
     have hlh:kh.lits=kc.lits:=by rw [hkh]
     have hw1:(kh.lits.getD n []).getD 1 0<kh.watch.length:=by rw [hlh,hwh,hvc.2.1,hz3.vw,← hvc.1];exact hq1
     have hnh:n<kh.lits.length:=by rw [hlh];exact hnc
     have hmh:m=(kh.lits.getD n []).length:=by rw [hlh];exact hcm
     have hwl0:(kc.watch.getD ((kc.lits.getD n []).getD 0 0) []).length≤1000000:=by rw [hvc.2.1];exact zt (hwl _) (by decide)
     have hwl1:(kh.watch.getD ((kh.lits.getD n []).getD 1 0) []).length≤1000000:=by
      rw [hlh,hkh]
      simp only
      rw [jb]
      split
      ·rw [zj,hvc.2.1]
       have:=hwl ((kc.lits.getD n []).getD 0 0)
       simp only [zai];omega
      ·rw [hvc.2.1];exact zt (hwl _) (by decide)
     replace hvv:=Hid.in hvv
     replace hLd:=Hid.in hLd
     replace hk4:=Hid.in hk4
     replace hkh:=Hid.in hkh
     replace hkc':=Hid.in hkc'
     replace hvc:=Hid.in hvc
     replace hlc:=Hid.in hlc
     replace hqx:=Hid.in hqx
     replace hwh:=Hid.in hwh
     replace hlh:=Hid.in hlh
     (repeat' ((conv=>whnf);first|refine zO ?_|refine Ob.auto ?_|(refine Ob.intro (by (first|exact ⟨by omega,by omega⟩)) ?_)|(apply zB <;> intro hb <;> (try simp [-zd] at hb) <;> try (exfalso;omega))|refine Ob.intro ?_ ?_))
     ((conv=>whnf);refine ji (fun _=>rfl) 300 [0,1,2,3,4,5,6,7,8,9,10] hch (by kernel_rfl) leA (by exact qaj k3) (by exact qj k3) (by exact qj _) (by kernel_rfl) ?_)
     replace hch:=Hid.in hch
     (repeat' ((conv=>whnf);first|refine zO ?_|refine Ob.auto ?_|(refine Ob.intro (by (first|first|exact ⟨by omega,by omega⟩|(simp only [zf];omega))) ?_)|(apply zB <;> intro hb <;> (try simp [-zd] at hb) <;> try (exfalso;omega))|refine Ob.intro ?_ ?_))
     ((conv=>whnf);refine qcb (fun _=>rfl) (by kernel_rfl) 300 ?_)
     (repeat' ((conv=>whnf);first|refine zO ?_|refine Ob.auto ?_|(refine Ob.intro (by (first|first|exact ⟨by omega,by omega⟩|(simp only [zf];omega)|exact ⟨⟨rfl,rfl⟩,zg _,Int.ofNat_lt.2 hw0⟩|exact ⟨⟨rfl,rfl⟩,hw0⟩|exact ⟨hnc,⟨rfl,hcm⟩,by omega⟩|exact ⟨hnc,⟨rfl,hcm⟩,by omega,by omega⟩|exact ⟨hw0,⟨rfl,rfl⟩,qdr (b:=(tab Try.prog 3).bytes) hwl0 (by decide +kernel)⟩|exact ⟨⟨⟨rfl,rfl⟩,hw0⟩,hw0,(za rfl).symm,(za rfl).symm⟩)) ?_)|(apply zB <;> intro hb <;> (try simp [-zd] at hb) <;> try (exfalso;omega))|refine Ob.intro ?_ ?_))
     ((conv=>whnf);refine AltG.far 20 [0,2] (by kernel_rfl) farA (MT.endg (MT.st kh ?_) ?_))
     ·rw [hkh.out]
      unfold stK boxK
      simp only [xg]
      repeat' (first|exact trivial|exact rfl|exact Le.refl _|exact SoLe.refl _|exact fun _ _=>LeL.refl _|exact fun _ _ _ _=>LeL.refl _|exact qlm hw0 rfl rfl rfl|exact qpi hw0 rfl (by rw [zj];rfl) rfl|refine And.intro ?_ ?_)
     ((conv=>whnf);refine qcb (fun _=>rfl) (by kernel_rfl) 300 ?_)
     (repeat' ((conv=>whnf);first|refine zO ?_|refine Ob.auto ?_|(refine Ob.intro (by (first|first|exact ⟨by omega,by omega⟩|(simp only [zf];omega)|exact ⟨⟨rfl,rfl⟩,zg _,Int.ofNat_lt.2 hw1⟩|exact ⟨⟨rfl,rfl⟩,hw1⟩|exact ⟨hnh,⟨rfl,hmh⟩,by omega⟩|exact ⟨hnh,⟨rfl,hmh⟩,by omega,by omega⟩|exact ⟨hw1,⟨rfl,rfl⟩,qdr (b:=(tab Try.prog 3).bytes) hwl1 (by decide +kernel)⟩|exact ⟨⟨⟨rfl,rfl⟩,hw1⟩,hw1,(za rfl).symm,(za rfl).symm⟩)) ?_)|(apply zB <;> intro hb <;> (try simp [-zd] at hb) <;> try (exfalso;omega))|refine Ob.intro ?_ ?_))
     ((conv=>whnf);refine AltG.far 20 [0,2] (by kernel_rfl) farA (MT.endg (MT.st k4 ?_) ?_))
     ·rw [hk4.out]
      unfold stK boxK
      simp only [xg]
      repeat' (first|exact trivial|exact rfl|exact Le.refl _|exact SoLe.refl _|exact fun _ _=>LeL.refl _|exact fun _ _ _ _=>LeL.refl _|exact qlm hw1 rfl rfl rfl|exact qpi hw1 rfl (by rw [zj];rfl) rfl|refine And.intro ?_ ?_)
     (repeat' ((conv=>whnf);first|refine zO ?_|refine Ob.auto ?_|(refine Ob.intro (by (first|first|exact ⟨by omega,by omega⟩|(simp only [zf];omega))) ?_)|(apply zB <;> intro hb <;> (try simp [-zd] at hb) <;> try (exfalso;omega))|refine Ob.intro ?_ ?_))
     ·have hf:ka=k4:=by rw [hka];unfold K.tell;rw [za hb]
      rw [hf]
      refine ⟨Le.refl _,?_⟩
      (unfold stK boxK;repeat' (first|exact trivial|exact rfl|exact Le.refl _|exact SoLe.refl _|exact fun _ _=>LeL.refl _|exact fun _ _ _ _=>LeL.refl _|refine And.intro ?_ ?_))
     ·have hnt:¬ (k4.stale=true∨k4.broken=true):=by rw [hb.1,hb.2];decide
      have hc4:m=(k4.lits.getD n []).length:=by rw [hk4.out,hkh.out];exact hcm
      have hy0:(k4.lits.getD n []).getD 0 0<k4.val.length:=by rw [hk4.out,hkh.out];exact hq0
      have hy1:(k4.lits.getD n []).getD 1 0<k4.val.length:=by rw [hk4.out,hkh.out];exact hq1
      ((conv=>whnf);refine zQ 300 ?_)
      (repeat' ((conv=>whnf);first|refine zO ?_|refine Ob.auto ?_|(refine Ob.intro (by (first|first|exact ⟨by omega,by omega⟩|(simp only [zf];omega)|exact ⟨⟨rfl,rfl⟩,zg _,Int.ofNat_lt.2 hy0⟩|exact ⟨⟨rfl,rfl⟩,hy0⟩|exact ⟨hn4,⟨rfl,hc4⟩,by omega,by omega⟩|exact ⟨hn4,⟨rfl,hc4⟩,by omega⟩)) ?_)|(apply zB <;> intro hb <;> (try simp [-zd] at hb) <;> try (exfalso;omega))|refine Ob.intro ?_ ?_))
      ((conv=>whnf);refine AltG.none (by kernel_rfl) (EndG.go ?_))
      (repeat' ((conv=>whnf);first|refine zO ?_|refine Ob.auto ?_|(refine Ob.intro (by (first|first|exact ⟨by omega,by omega⟩|(simp only [zf];omega)|exact ⟨⟨rfl,rfl⟩,zg _,Int.ofNat_lt.2 hy0⟩|exact ⟨⟨rfl,rfl⟩,hy0⟩|exact ⟨hn4,⟨rfl,hc4⟩,by omega,by omega⟩|exact ⟨hn4,⟨rfl,hc4⟩,by omega⟩)) ?_)|(apply zB <;> intro hb <;> (try simp [-zd] at hb) <;> try (exfalso;omega))|refine Ob.intro ?_ ?_))
      ·have hf:ka={ k4 with broken:=true }:=by
        rw [hka];unfold K.tell
        rw [ze hnt,za (show vl k4 ((lit k4 n).getD 0 0)<0 from hb)]
       rw [hf]
       refine ⟨Le.refl _,?_⟩
       (unfold stK boxK;repeat' (first|exact trivial|exact rfl|exact Le.refl _|exact SoLe.refl _|exact fun _ _=>LeL.refl _|exact fun _ _ _ _=>LeL.refl _|refine And.intro ?_ ?_))
      ·((conv=>whnf);refine zQ 300 ?_)
       (repeat' ((conv=>whnf);first|refine zO ?_|refine Ob.auto ?_|(refine Ob.intro (by (first|first|exact ⟨by omega,by omega⟩|(simp only [zf];omega)|exact ⟨⟨rfl,rfl⟩,zg _,Int.ofNat_lt.2 hy0⟩|exact ⟨⟨rfl,rfl⟩,hy0⟩|exact ⟨⟨rfl,rfl⟩,zg _,Int.ofNat_lt.2 hy1⟩|exact ⟨⟨rfl,rfl⟩,hy1⟩|exact ⟨hn4,⟨rfl,hc4⟩,by omega,by omega⟩|exact ⟨hn4,⟨rfl,hc4⟩,by omega⟩)) ?_)|(apply zB <;> intro hb <;> (try simp [-zd] at hb) <;> try (exfalso;omega))|refine Ob.intro ?_ ?_))
       ((conv=>whnf);refine AltG.none (by kernel_rfl) (EndG.go ?_))
       (repeat' ((conv=>whnf);first|refine zO ?_|refine Ob.auto ?_|(refine Ob.intro (by (first|first|exact ⟨by omega,by omega⟩|(simp only [zf];omega)|exact ⟨⟨rfl,rfl⟩,zg _,Int.ofNat_lt.2 hy0⟩|exact ⟨⟨rfl,rfl⟩,hy0⟩|exact ⟨hn4,⟨rfl,hc4⟩,by omega,by omega⟩|exact ⟨hn4,⟨rfl,hc4⟩,by omega⟩)) ?_)|(apply zB <;> intro hb <;> (try simp [-zd] at hb) <;> try (exfalso;omega))|refine Ob.intro ?_ ?_))
       ·have h5:vl k4 ((lit k4 n).getD 0 0)=0:=hb.1
        have h6:(lit k4 n).length=1∨vl k4 ((lit k4 n).getD 1 0)<0:=hb.2.imp (fun h=>hc4.symm.trans (by omega)) id
        have hJD:=hL3' _ rfl hnt h5 h6
        have hf:ka={ (k4.set ((lit k4 n).getD 0 0) n).prop.1 with broken:=!(k4.set ((lit k4 n).getD 0 0) n).prop.2 }:=by
         rw [hka];unfold K.tell
         rw [ze hnt,ze (by omega),za ⟨h5,h6⟩]
        rw [hf]
        have hst:=qip k4 hz4 ((lit k4 n).getD 0 0) hy0 ((n:Nat):Int)
        generalize k4.set ((lit k4 n).getD 0 0) ((n:Nat):Int)=k5 at hJD hst ⊢
        have hpt:=qlx k5 hJD.1 hJD.2
        ((conv=>whnf);refine ji (fun _=>rfl) 300 [0,1,2,3,4,5,6,7,8,9,10] hst (by kernel_rfl) leA (by exact qaj k4) (by exact qj k4) (by exact qj _) (by kernel_rfl) ?_)
        replace hJD:=Hid.in hJD
        replace hst:=Hid.in hst
        replace hf:=Hid.in hf
        (repeat' ((conv=>whnf);first|refine zO ?_|refine Ob.auto ?_|(refine Ob.intro (by (first|first|exact ⟨by omega,by omega⟩|(simp only [zf];omega))) ?_)|(apply zB <;> intro hb <;> (try simp [-zd] at hb) <;> try (exfalso;omega))|refine Ob.intro ?_ ?_))
        ((conv=>whnf);refine ji (fun _=>rfl) 300 [0,1,2,3,4,5,6,7,8,9,10] hpt (by kernel_rfl) leA (by exact qaj k5) (by exact qj k5) (by exact qj _) (by kernel_rfl) ?_)
        replace hpt:=Hid.in hpt
        (repeat' ((conv=>whnf);first|refine zO ?_|refine Ob.auto ?_|(refine Ob.intro (by (first|first|exact ⟨by omega,by omega⟩|(simp only [zf];omega))) ?_)|(apply zB <;> intro hb <;> (try simp [-zd] at hb) <;> try (exfalso;omega))|refine Ob.intro ?_ ?_))
        refine ⟨Le.refl _,?_⟩
        (unfold stK boxK;repeat' (first|exact trivial|exact rfl|exact Le.refl _|exact SoLe.refl _|exact fun _ _=>LeL.refl _|exact fun _ _ _ _=>LeL.refl _|refine And.intro ?_ ?_))
       ·have hf:ka=k4:=by
         rw [hka];unfold K.tell
         rw [ze hnt,ze (show ¬ vl k4 ((lit k4 n).getD 0 0)<0 from by unfold vl lit;omega),ze (fun h=>by
          have h7:=hb h.1
          rcases h.2 with h8|h8
          ·have h9:(k4.lits.getD n []).length=1:=h8
           omega
          ·have h9:k4.val.getD ((k4.lits.getD n []).getD 1 0) 0<0:=h8
           omega)]
        rw [hf]
        refine ⟨Le.refl _,?_⟩
        (unfold stK boxK;repeat' (first|exact trivial|exact rfl|exact Le.refl _|exact SoLe.refl _|exact fun _ _=>LeL.refl _|exact fun _ _ _ _=>LeL.refl _|refine And.intro ?_ ?_))
 ·have hkl:k1.lits.length≤1000000:=by rw [← hk1,(grown k _).li];omega
  exact ⟨⟨rfl,rfl⟩,⟨rfl,rfl⟩,qdr (b:=(tab Try.prog 68).bytes) hkl (by decide +kernel)⟩
end Go.Proofs.Ytkhdldncbmkidaa
