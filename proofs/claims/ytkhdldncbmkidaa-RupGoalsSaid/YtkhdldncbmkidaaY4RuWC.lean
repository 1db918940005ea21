/- Contracts: the checker's remove. -/
import Derived.Test.YtkhdldncbmkidaaY4RuWB
import Derived.Test.YtkhdldncbmkidaaY4RuWO
import Derived.Test.YtkhdldncbmkidaaY42
set_option linter.unusedSimpArgs false
set_option linter.unusedVariables false
namespace Go.Proofs.Ytkhdldncbmkidaa
open List renaming getD_eq_getElem?_getD → zd
open Go Go.Sx Go.RowKit Go.Ru Go.Cl
set_option maxRecDepth 100000
set_option maxHeartbeats 8000000
def K.dropP (k:K) (n i:Nat):K:=
 { k with gone:=k.gone.set n true,empty:=if (lit k n).length=0 then k.empty - 1 else k.empty,stale:=(k.stale || k.broken) || ((lit k n).take i).any fun x=>decide (k.rea.getD (x / 2) 0=(n:Int)) }
theorem qmm (k:K) (n:Nat):K.dropP k n (lit k n).length=k.drops n:=by
 unfold K.dropP K.drops
 rw [xi]
theorem qmn {k:K} {n i:Nat} (hi:i<(lit k n).length):K.dropP k n (i+1)={ K.dropP k n i with stale:=(K.dropP k n i).stale || decide (k.rea.getD ((lit k n).getD i 0 / 2) 0=(n:Int)) }:=by
 unfold K.dropP
 rw [zat,zb hi,Option.toList_some,List.any_append,zd (l:=lit k n),zb hi]
 simp [Bool.or_assoc]
theorem qmo {ls:List (List Nat)} {go:List Bool} {n:Nat} (hn:n<go.length) (j:Nat) (hj:j<ls.length) :
  LeL (if j=n then qx [AV.own 2 n 1 (ls.getD n []).length,.bool (go.getD n false)] 1 [.bool true] else [AV.own 2 j 1 (ls.getD j []).length,.bool (go.getD j false)]) [AV.own 2 j 1 (ls.getD j []).length,.bool ((go.set n true).getD j false)]:=by
 refine LeL.of_eq ?_
 rw [jb]
 by_cases h:j=n
 ·subst h
  rw [za rfl,za ⟨rfl,hn⟩];rfl
 ·rw [ze h,ze (fun h'=>h h'.1)]
theorem jhy (k:K) (hI:Ru.Inv k) {alive:Nat→Option (List UInt8)} (hL:Led k alive) (c:List Int) (hr:rightB c=true) (hl:c.length≤100000) (ha:∀ n,alive n=some (keyN c)→n<k.lits.length∧(lit k n).length=c.length) :
  Trip Try.prog 28 [.ptr 0 0,ints c] (stK k) (.bool (k.rem (keyN c)).2) (idx 0 (stK (k.rem (keyN c)).1)) 11:=by
 have hkc:=qwy c hr hl
 have hsz:=Sz.of hI.s.p.v hI.s.p.c
 cases hs:seek k (keyN c) with
 | none=>
  have hf:k.rem (keyN c)=(k,false):=by unfold K.rem;rw [hs]
  rw [hf]
  refine zL {} 300 Try.func28 (fun c0 rdb mpb=>?_)
  (repeat' ((conv=>whnf);first|refine zO ?_|refine Ob.auto ?_|(refine Ob.intro (by (first|exact ⟨by omega,by omega⟩)) ?_)|refine zC 300 (hkc) ?_|refine zG 300 (fun hg=>hkc) ?_|(refine CallY.con (hkc) (by rfl) leA ?_)|(refine CallZ.con (fun hg=>hkc) qp (by rfl) ?_)|(refine qv (fun _=>rfl) 300 (hkc) qd (by (repeat' (first|exact trivial|exact Le.refl _|(refine And.intro ?_ ?_))) <;> fail) (by rfl) (by kernel_rfl) ?_)|(refine qw (fun _=>rfl) 300 (fun hg=>hkc) (fun hg=>qd) (fun hg=>(by (repeat' (first|exact trivial|exact Le.refl _|exact Le.cnd hg|(refine And.intro ?_ ?_))) <;> fail)) (by rfl) (by kernel_rfl) ?_)|(apply zB <;> intro hb <;> (try simp [-zd] at hb) <;> try (exfalso;omega))|refine Ob.intro ?_ ?_))
  refine OpG.cus (fun _=>rfl) 300 rfl (by kernel_rfl) (jhv hs _ _ _ _ _ _ _ _ rfl (by rfl) (by rfl)) ?_
  (repeat' ((conv=>whnf);first|refine zO ?_|refine Ob.auto ?_|(refine Ob.intro (by (first|exact ⟨by omega,by omega⟩)) ?_)|(apply zB <;> intro hb <;> (try simp [-zd] at hb) <;> try (exfalso;omega))|refine Ob.intro ?_ ?_))
  refine ⟨Le.refl _,?_⟩
  (unfold stK boxK;repeat' (first|exact trivial|exact rfl|exact Le.refl _|exact SoLe.refl _|exact fun _ _=>LeL.refl _|exact fun _ _ _ _=>LeL.refl _|refine And.intro ?_ ?_))
 | some p=>
  obtain ⟨hp,hn⟩:=qeq hs
  obtain ⟨hv1,hv2,hv3⟩:=hL.kv p hp
  have hkp:=hL.kp p hp
  have hmem:(nums k p).getD ((nums k p).length - 1) 0∈nums k p:=qg (by have:=List.length_pos_iff.2 hv1;omega)
  obtain ⟨hnl,hlc⟩:=ha _ (by rw [← hn];exact hv3 _ hmem)
  have hnq:nums k p=k.pm.getD (k.keys.getD p ([],0)).2 []:=rfl
  have hll:(nums k p).length≤100000:=zt (qfo hv2 fun n hm=>(ha n (by rw [← hn];exact hv3 n hm)).1) hI.s.p.c.n
  have hf:k.rem (keyN c)=((k.strike p).drops ((nums k p).getD ((nums k p).length - 1) 0),true):=by unfold K.rem;rw [hs];exact ze hv1
  rw [hf]
  have hpos:=List.length_pos_iff.2 hv1
  have hhit:=jhu hL hs
  have hdel:=jhw hL hs
  have hcut:=@jhx k alive hL (keyN c) p hs
  obtain ⟨a,b,d,hse⟩:=qwk k p
  rw [hnq] at hnl hlc hmem hpos hll hhit hdel hcut hf ⊢
  generalize hqq:(k.keys.getD p ([],0)).2=q at *
  generalize hkk:k.strike p=ks at *
  obtain ⟨n,hN⟩:∃ n,n=(k.pm.getD q []).getD ((k.pm.getD q []).length - 1) 0:=⟨_,rfl⟩
  rw [← hN] at hnl hlc hmem ⊢
  replace hL:=Hid.in hL
  replace ha:=Hid.in ha
  replace hs:=Hid.in hs
  replace hf:=Hid.in hf
  replace hv3:=Hid.in hv3
  have hks:ks.lits=k.lits∧ks.gone=k.gone∧ks.rea=k.rea∧ks.val=k.val∧ks.empty=k.empty∧ks.watch=k.watch∧ks.trail=k.trail:=by rw [hse];exact ⟨rfl,rfl,rfl,rfl,rfl,rfl,rfl⟩
  have hn1:n<ks.lits.length:=by rw [hks.1];exact hnl
  have hgn:n<ks.gone.length:=by rw [hks.2.1,hI.s.p.c.g];exact hnl
  have hlm:(ks.lits.getD n []).length=c.length:=by rw [hks.1];exact hlc
  have hem:0≤ks.empty∧ks.empty≤100000:=by
   rw [hks.2.2.2.2.1,hI.s.em]
   have:=qxa k
   have:=hI.s.p.c.n
   omega
  have hcx:∀ i,i<(ks.lits.getD n []).length→(ks.lits.getD n []).getD i 0 / 2<ks.rea.length:=fun i hi=>by
   rw [hks.1] at hi ⊢
   rw [hks.2.2.1]
   have:=hI.s.p.c.c n _ (qg (d:=0) hi)
   have:=hsz.vr
   unfold lit at *
   omega
  obtain ⟨kd,hkdd⟩:∃ kd:K,kd={ ks with gone:=ks.gone.set n true,empty:=if (lit ks n).length=0 then ks.empty - 1 else ks.empty }:=⟨_,rfl⟩
  have hdp:∀ i,K.dropP ks n i={ kd with stale:=(kd.stale || kd.broken) || ((kd.lits.getD n []).take i).any fun x=>decide (kd.rea.getD (x / 2) 0=(n:Int)) }:=fun i=>by rw [hkdd];rfl
  have hnd:n<kd.lits.length:=by rw [hkdd];exact hn1
  have hvz:ks.val.length≤1000000:=by rw [hks.2.2.2.1];exact hsz.v
  have hrz:ks.rea.length≤1000000:=by rw [hks.2.2.1];have:=hsz.vr;have:=hsz.v;omega
  replace hks:=Hid.in hks
  replace hse:=Hid.in hse
  replace hqq:=Hid.in hqq
  have hNi:(k.pm.getD q []).getD (((k.pm.getD q []).length:Int) - 1).toNat 0=n:=by
   rw [hN,show (((k.pm.getD q []).length:Int) - 1).toNat=(k.pm.getD q []).length - 1 from by omega]
  have hix:(k.pm.getD q []).length - 1<(k.pm.getD q []).length:=by omega
  refine zL {stops:=[12]} 300 Try.func28 (fun c0 rdb mpb=>?_)
  (repeat' ((conv=>whnf);first|refine zO ?_|refine Ob.auto ?_|(refine Ob.intro (by (first|exact ⟨by omega,by omega⟩)) ?_)|refine zC 300 (hkc) ?_|refine zG 300 (fun hg=>hkc) ?_|(refine CallY.con (hkc) (by rfl) leA ?_)|(refine CallZ.con (fun hg=>hkc) qp (by rfl) ?_)|(refine qv (fun _=>rfl) 300 (hkc) qd (by (repeat' (first|exact trivial|exact Le.refl _|(refine And.intro ?_ ?_))) <;> fail) (by rfl) (by kernel_rfl) ?_)|(refine qw (fun _=>rfl) 300 (fun hg=>hkc) (fun hg=>qd) (fun hg=>(by (repeat' (first|exact trivial|exact Le.refl _|exact Le.cnd hg|(refine And.intro ?_ ?_))) <;> fail)) (by rfl) (by kernel_rfl) ?_)|(apply zB <;> intro hb <;> (try simp [-zd] at hb) <;> try (exfalso;omega))|refine Ob.intro ?_ ?_))
  refine OpG.cus (fun _=>rfl) 300 rfl (by kernel_rfl) (hhit _ _ _ _ _ _ _ _ rfl (by rfl) (by rfl)) ?_
  (repeat' ((conv=>whnf);first|refine zO ?_|refine Ob.auto ?_|(refine Ob.intro (by (first|exact ⟨by omega,by omega⟩|exact ⟨hkp,⟨rfl,rfl⟩,by omega⟩|exact ⟨hkp,⟨rfl,rfl⟩,by omega,by omega⟩)) ?_)|(apply zB <;> intro hb <;> (try simp [-zd] at hb) <;> try (exfalso;omega))|refine Ob.intro ?_ ?_))
  ·exact absurd (congrArg List.length hb) (by simp only [zab];omega)
  ·rw [hNi]
   refine OpG.cus (fun _=>rfl) 300 rfl (by kernel_rfl) (hdel (by omega) _ _ _ _ rfl rfl (by rfl) (by rfl)) ?_
   by_cases h0:c=[]
   ·have hkd:kd={ ks with gone:=ks.gone.set n true,empty:=ks.empty - 1 }:=by rw [hkdd];unfold lit;rw [hlm,za (by rw [h0];rfl)]
    replace hkdd:=Hid.in hkdd
    replace hdp:=Hid.in hdp
    replace hkd:=Hid.in hkd
    (repeat' ((conv=>whnf);first|refine zO ?_|refine Ob.auto ?_|(refine Ob.intro (by (first|exact ⟨by omega,by omega⟩|exact ⟨⟨rfl,rfl⟩,zg _,Int.ofNat_lt.2 hn1⟩|exact ⟨⟨rfl,rfl⟩,hn1⟩|exact ⟨⟨rfl,rfl⟩,hn1⟩)) ?_)|(apply zB <;> intro hb <;> (try simp [-zd] at hb) <;> (try (exfalso;omega)) <;> (try contradiction))|refine Ob.intro ?_ ?_))
    refine MT.stop (MT.st kd ?_) (fun _=>rfl) 300 ?_
    ·rw [hkd.out]
     unfold stK boxK
     repeat' (first|exact trivial|exact rfl|exact Le.refl _|exact SoLe.refl _|exact fun _ _=>LeL.refl _|exact fun _ _ _ _=>LeL.refl _|exact fun j hj=>qmo hgn j hj|refine And.intro ?_ ?_)
    clear hem
    (repeat' ((conv=>whnf);first|refine zO ?_|refine Ob.auto ?_|(refine Ob.intro (by (first|exact ⟨by omega,by omega⟩|exact ⟨⟨rfl,rfl⟩,zg _,Int.ofNat_lt.2 hnd⟩|exact ⟨⟨rfl,rfl⟩,hnd⟩|exact ⟨⟨rfl,rfl⟩,hnd⟩)) ?_)|(apply zB <;> intro hb <;> (try simp [-zd] at hb) <;> try (exfalso;omega))|refine Ob.intro ?_ ?_))
    ((conv=>whnf);refine jk (fun _=>rfl) 300 1 (fun i:Nat=>[(84,iv i)]) (fun i=>idx 0 (stK (K.dropP ks n i))) (fun i=>i≤(ks.lits.getD n []).length) (fun i=>(ks.lits.getD n []).length - i) (0) (xa _) qa (by
     rw [hdp.out 0]
     simp only [List.take_zero,List.any_nil,Bool.or_false]
     (unfold stK boxK;repeat' (first|exact trivial|exact rfl|exact Le.refl _|exact SoLe.refl _|exact fun _ _=>LeL.refl _|exact fun _ _ _ _=>LeL.refl _|refine And.intro ?_ ?_))) (fun _=>rfl) (by kernel_rfl) ?_;(conv=>whnf))
    intro i hi
    obtain ⟨kq,hkq⟩:∃ kq,kq=K.dropP ks n i:=⟨_,rfl⟩
    have hnq:n<kq.lits.length:=by rw [hkq];exact hn1
    have hql:kq.lits=ks.lits∧kq.rea=ks.rea:=by rw [hkq];exact ⟨rfl,rfl⟩
    have hlq:(kd.lits.getD n []).length=(kq.lits.getD n []).length:=by rw [hkq,hkdd.out];rfl
    rw [← hkq]
    by_cases hil:i<(ks.lits.getD n []).length
    ·have hxi:(kq.lits.getD n []).getD i 0 / 2<kq.rea.length:=by rw [hql.1,hql.2];exact hcx i hil
     have hnx:K.dropP ks n (i+1)={ K.dropP ks n i with stale:=(K.dropP ks n i).stale || decide ((K.dropP ks n i).rea.getD (((K.dropP ks n i).lits.getD n []).getD i 0 / 2) 0=(n:Int)) }:=qmn hil
     rw [← hkq] at hnx
     have hilq:i<(kq.lits.getD n []).length:=by rw [hql.1];exact hil
     have hild:i<(kd.lits.getD n []).length:=by rw [hlq];exact hilq
     have hq2:inR .i64 ((((kq.lits.getD n []).getD i 0:Nat):Int).tdiv 2):=by
      have hrq:kq.rea.length≤1000000:=by rw [hql.2];exact hrz
      have e:(((kq.lits.getD n []).getD i 0:Nat):Int).tdiv 2=(((kq.lits.getD n []).getD i 0 / 2:Nat):Int):=rfl
      rw [e]
      exact qbk (by omega) (by omega)
     replace hql:=Hid.in hql
     replace hkq:=Hid.in hkq
     replace hcx:=Hid.in hcx
     (repeat' ((conv=>whnf);first|refine zO ?_|refine Ob.auto ?_|(refine Ob.intro (by (first|first|exact ⟨by omega,by omega⟩|(simp only [zf];omega)|exact fun hg=>⟨hg,by decide,hq2⟩|exact fun hg=>⟨hg,hg,⟨rfl,rfl⟩,zg _,Int.ofNat_lt.2 hxi⟩|exact fun hg=>⟨hg,⟨rfl,rfl⟩,hxi⟩|exact ⟨hnq,⟨rfl,hlq⟩,zg _,Int.ofNat_lt.2 hild⟩|exact ⟨hnq,⟨rfl,hlq⟩,hild⟩|exact ⟨⟨rfl,rfl⟩,zg _,Int.ofNat_lt.2 hxi⟩|exact ⟨⟨rfl,rfl⟩,hxi⟩)) ?_)|(apply zB <;> intro hb <;> (try simp [-zd] at hb) <;> try (exfalso;omega))|refine Ob.intro ?_ ?_))
     ((conv=>whnf);refine ⟨i+1,hil,⟨(by (repeat' (first|exact trivial|exact rfl|exact Le.refl _|exact SoLe.refl _|refine And.intro ?_ ?_))),(by
      rw [hnx]
      (unfold stK boxK;repeat' (first|exact trivial|exact rfl|exact Le.refl _|exact SoLe.refl _|exact fun _ _=>LeL.refl _|exact fun _ _ _ _=>LeL.refl _|refine And.intro ?_ ?_)))⟩,⟨qa,qa⟩,?_⟩;(first|omega|(dsimp only;omega)|skip))
    ·obtain rfl:i=(ks.lits.getD n []).length:=by omega
     have hfin:ks.drops n=kq:=by rw [← qmm,hkq];rfl
     rw [hfin]
     have hild:(kd.lits.getD n []).length=(ks.lits.getD n []).length:=by rw [hlq,hql.1]
     replace hql:=Hid.in hql
     replace hkq:=Hid.in hkq
     replace hcx:=Hid.in hcx
     (repeat' ((conv=>whnf);first|refine zO ?_|refine Ob.auto ?_|(refine Ob.intro (by (first|first|exact ⟨by omega,by omega⟩|(simp only [zf];omega))) ?_)|(apply zB <;> intro hb <;> (try simp [-zd] at hb) <;> try (exfalso;omega))|refine Ob.intro ?_ ?_))
     refine ⟨Le.refl _,?_⟩
     (unfold stK boxK;repeat' (first|exact trivial|exact rfl|exact Le.refl _|exact SoLe.refl _|exact fun _ _=>LeL.refl _|exact fun _ _ _ _=>LeL.refl _|refine And.intro ?_ ?_))
   ·have hkd:kd={ ks with gone:=ks.gone.set n true }:=by rw [hkdd];unfold lit;rw [hlm,ze (fun h=>h0 (zz h))]
    replace hkdd:=Hid.in hkdd
    replace hdp:=Hid.in hdp
    replace hkd:=Hid.in hkd
    (repeat' ((conv=>whnf);first|refine zO ?_|refine Ob.auto ?_|(refine Ob.intro (by (first|exact ⟨by omega,by omega⟩|exact ⟨⟨rfl,rfl⟩,zg _,Int.ofNat_lt.2 hn1⟩|exact ⟨⟨rfl,rfl⟩,hn1⟩|exact ⟨⟨rfl,rfl⟩,hn1⟩)) ?_)|(apply zB <;> intro hb <;> (try simp [-zd] at hb) <;> (try (exfalso;omega)) <;> (try contradiction))|refine Ob.intro ?_ ?_))
    refine MT.stop (MT.st kd ?_) (fun _=>rfl) 300 ?_
    ·rw [hkd.out]
     unfold stK boxK
     repeat' (first|exact trivial|exact rfl|exact Le.refl _|exact SoLe.refl _|exact fun _ _=>LeL.refl _|exact fun _ _ _ _=>LeL.refl _|exact fun j hj=>qmo hgn j hj|refine And.intro ?_ ?_)
    clear hem
    (repeat' ((conv=>whnf);first|refine zO ?_|refine Ob.auto ?_|(refine Ob.intro (by (first|exact ⟨by omega,by omega⟩|exact ⟨⟨rfl,rfl⟩,zg _,Int.ofNat_lt.2 hnd⟩|exact ⟨⟨rfl,rfl⟩,hnd⟩|exact ⟨⟨rfl,rfl⟩,hnd⟩)) ?_)|(apply zB <;> intro hb <;> (try simp [-zd] at hb) <;> try (exfalso;omega))|refine Ob.intro ?_ ?_))
    ((conv=>whnf);refine jk (fun _=>rfl) 300 1 (fun i:Nat=>[(84,iv i)]) (fun i=>idx 0 (stK (K.dropP ks n i))) (fun i=>i≤(ks.lits.getD n []).length) (fun i=>(ks.lits.getD n []).length - i) (0) (xa _) qa (by
     rw [hdp.out 0]
     simp only [List.take_zero,List.any_nil,Bool.or_false]
     (unfold stK boxK;repeat' (first|exact trivial|exact rfl|exact Le.refl _|exact SoLe.refl _|exact fun _ _=>LeL.refl _|exact fun _ _ _ _=>LeL.refl _|refine And.intro ?_ ?_))) (fun _=>rfl) (by kernel_rfl) ?_;(conv=>whnf))
    intro i hi
    obtain ⟨kq,hkq⟩:∃ kq,kq=K.dropP ks n i:=⟨_,rfl⟩
    have hnq:n<kq.lits.length:=by rw [hkq];exact hn1
    have hql:kq.lits=ks.lits∧kq.rea=ks.rea:=by rw [hkq];exact ⟨rfl,rfl⟩
    have hlq:(kd.lits.getD n []).length=(kq.lits.getD n []).length:=by rw [hkq,hkdd.out];rfl
    rw [← hkq]
    by_cases hil:i<(ks.lits.getD n []).length
    ·have hxi:(kq.lits.getD n []).getD i 0 / 2<kq.rea.length:=by rw [hql.1,hql.2];exact hcx i hil
     have hnx:K.dropP ks n (i+1)={ K.dropP ks n i with stale:=(K.dropP ks n i).stale || decide ((K.dropP ks n i).rea.getD (((K.dropP ks n i).lits.getD n []).getD i 0 / 2) 0=(n:Int)) }:=qmn hil
     rw [← hkq] at hnx
     have hilq:i<(kq.lits.getD n []).length:=by rw [hql.1];exact hil
     have hild:i<(kd.lits.getD n []).length:=by rw [hlq];exact hilq
     have hq2:inR .i64 ((((kq.lits.getD n []).getD i 0:Nat):Int).tdiv 2):=by
      have hrq:kq.rea.length≤1000000:=by rw [hql.2];exact hrz
      have e:(((kq.lits.getD n []).getD i 0:Nat):Int).tdiv 2=(((kq.lits.getD n []).getD i 0 / 2:Nat):Int):=rfl
      rw [e]
      exact qbk (by omega) (by omega)
     replace hql:=Hid.in hql
     replace hkq:=Hid.in hkq
     replace hcx:=Hid.in hcx
     (repeat' ((conv=>whnf);first|refine zO ?_|refine Ob.auto ?_|(refine Ob.intro (by (first|first|exact ⟨by omega,by omega⟩|(simp only [zf];omega)|exact fun hg=>⟨hg,by decide,hq2⟩|exact fun hg=>⟨hg,hg,⟨rfl,rfl⟩,zg _,Int.ofNat_lt.2 hxi⟩|exact fun hg=>⟨hg,⟨rfl,rfl⟩,hxi⟩|exact ⟨hnq,⟨rfl,hlq⟩,zg _,Int.ofNat_lt.2 hild⟩|exact ⟨hnq,⟨rfl,hlq⟩,hild⟩|exact ⟨⟨rfl,rfl⟩,zg _,Int.ofNat_lt.2 hxi⟩|exact ⟨⟨rfl,rfl⟩,hxi⟩)) ?_)|(apply zB <;> intro hb <;> (try simp [-zd] at hb) <;> try (exfalso;omega))|refine Ob.intro ?_ ?_))
     ((conv=>whnf);refine ⟨i+1,hil,⟨(by (repeat' (first|exact trivial|exact rfl|exact Le.refl _|exact SoLe.refl _|refine And.intro ?_ ?_))),(by
      rw [hnx]
      (unfold stK boxK;repeat' (first|exact trivial|exact rfl|exact Le.refl _|exact SoLe.refl _|exact fun _ _=>LeL.refl _|exact fun _ _ _ _=>LeL.refl _|refine And.intro ?_ ?_)))⟩,⟨qa,qa⟩,?_⟩;(first|omega|(dsimp only;omega)|skip))
    ·obtain rfl:i=(ks.lits.getD n []).length:=by omega
     have hfin:ks.drops n=kq:=by rw [← qmm,hkq];rfl
     rw [hfin]
     have hild:(kd.lits.getD n []).length=(ks.lits.getD n []).length:=by rw [hlq,hql.1]
     replace hql:=Hid.in hql
     replace hkq:=Hid.in hkq
     replace hcx:=Hid.in hcx
     (repeat' ((conv=>whnf);first|refine zO ?_|refine Ob.auto ?_|(refine Ob.intro (by (first|first|exact ⟨by omega,by omega⟩|(simp only [zf];omega))) ?_)|(apply zB <;> intro hb <;> (try simp [-zd] at hb) <;> try (exfalso;omega))|refine Ob.intro ?_ ?_))
     refine ⟨Le.refl _,?_⟩
     (unfold stK boxK;repeat' (first|exact trivial|exact rfl|exact Le.refl _|exact SoLe.refl _|exact fun _ _=>LeL.refl _|exact fun _ _ _ _=>LeL.refl _|refine And.intro ?_ ?_))
  ·rw [hNi]
   ((conv=>whnf);refine qcb (fun _=>rfl) (by kernel_rfl) 300 ?_)
   (repeat' ((conv=>whnf);first|refine zO ?_|refine Ob.auto ?_|(refine Ob.intro (by (first|exact ⟨by omega,by omega⟩|exact ⟨hkp,⟨rfl,rfl⟩⟩)) ?_)|(apply zB <;> intro hb <;> (try simp [-zd] at hb) <;> try (exfalso;omega))|refine Ob.intro ?_ ?_))
   refine CusY.intro (qoy (P:=Try.prog) (r:=4) (i:=q) (e:=k.pe q) (n:=(k.pm.getD q []).length) (k:=.i64) (b:=((k.pm.getD q []).length:Int) - 1) (R:=⟨[],3,1,k.pe q,(k.pm.getD q []).length,encN (k.pm.getD q [])⟩) (ob:=some (dp (q<k.pm.length))) (el:=3) (T:=tab Try.prog) (fun _=>rfl) (by rfl) (by rfl) (by rfl) (by rfl) hkp ⟨rfl,rfl⟩ (by rfl) (by exact zi _) ⟨by omega,by omega⟩) ?_
   (repeat' ((conv=>whnf);first|refine zO ?_|refine Ob.auto ?_|(refine Ob.intro (by (first|exact ⟨by omega,by omega⟩)) ?_)|(apply zB <;> intro hb <;> (try simp [-zd] at hb) <;> try (exfalso;omega))|refine Ob.intro ?_ ?_))
   refine CusY.intro (hcut (by omega) (q:=q) (e:=k.pe q) (n:=(k.pm.getD q []).length) rfl rfl rfl (m:=((k.pm.getD q []).length - 1:Int).toNat) (by omega) _ 38 39 44 (by decide) (by decide) _ _ _ _ _ rfl (by rfl) (by rfl) (by rfl)) ?_
   ((conv=>whnf);refine AltG.same 10 (by kernel_rfl) (by repeat' (first|exact trivial|exact fun h=>Bool.noConfusion h|exact fun _=>⟨rfl,rfl⟩|(refine And.intro ?_ ?_))) (EndG.go ?_))
   by_cases h0:c=[]
   ·have hkd:kd={ ks with gone:=ks.gone.set n true,empty:=ks.empty - 1 }:=by rw [hkdd];unfold lit;rw [hlm,za (by rw [h0];rfl)]
    replace hkdd:=Hid.in hkdd
    replace hdp:=Hid.in hdp
    replace hkd:=Hid.in hkd
    (repeat' ((conv=>whnf);first|refine zO ?_|refine Ob.auto ?_|(refine Ob.intro (by (first|exact ⟨by omega,by omega⟩|exact ⟨⟨rfl,rfl⟩,zg _,Int.ofNat_lt.2 hn1⟩|exact ⟨⟨rfl,rfl⟩,hn1⟩|exact ⟨⟨rfl,rfl⟩,hn1⟩)) ?_)|(apply zB <;> intro hb <;> (try simp [-zd] at hb) <;> (try (exfalso;omega)) <;> (try contradiction))|refine Ob.intro ?_ ?_))
    refine MT.stop (MT.st kd ?_) (fun _=>rfl) 300 ?_
    ·rw [hkd.out]
     unfold stK boxK
     repeat' (first|exact trivial|exact rfl|exact Le.refl _|exact SoLe.refl _|exact fun _ _=>LeL.refl _|exact fun _ _ _ _=>LeL.refl _|exact fun j hj=>qmo hgn j hj|refine And.intro ?_ ?_)
    clear hem
    (repeat' ((conv=>whnf);first|refine zO ?_|refine Ob.auto ?_|(refine Ob.intro (by (first|exact ⟨by omega,by omega⟩|exact ⟨⟨rfl,rfl⟩,zg _,Int.ofNat_lt.2 hnd⟩|exact ⟨⟨rfl,rfl⟩,hnd⟩|exact ⟨⟨rfl,rfl⟩,hnd⟩)) ?_)|(apply zB <;> intro hb <;> (try simp [-zd] at hb) <;> try (exfalso;omega))|refine Ob.intro ?_ ?_))
    ((conv=>whnf);refine jk (fun _=>rfl) 300 1 (fun i:Nat=>[(84,iv i)]) (fun i=>idx 0 (stK (K.dropP ks n i))) (fun i=>i≤(ks.lits.getD n []).length) (fun i=>(ks.lits.getD n []).length - i) (0) (xa _) qa (by
     rw [hdp.out 0]
     simp only [List.take_zero,List.any_nil,Bool.or_false]
     (unfold stK boxK;repeat' (first|exact trivial|exact rfl|exact Le.refl _|exact SoLe.refl _|exact fun _ _=>LeL.refl _|exact fun _ _ _ _=>LeL.refl _|refine And.intro ?_ ?_))) (fun _=>rfl) (by kernel_rfl) ?_;(conv=>whnf))
    intro i hi
    obtain ⟨kq,hkq⟩:∃ kq,kq=K.dropP ks n i:=⟨_,rfl⟩
    have hnq:n<kq.lits.length:=by rw [hkq];exact hn1
    have hql:kq.lits=ks.lits∧kq.rea=ks.rea:=by rw [hkq];exact ⟨rfl,rfl⟩
    have hlq:(kd.lits.getD n []).length=(kq.lits.getD n []).length:=by rw [hkq,hkdd.out];rfl
    rw [← hkq]
    by_cases hil:i<(ks.lits.getD n []).length
    ·have hxi:(kq.lits.getD n []).getD i 0 / 2<kq.rea.length:=by rw [hql.1,hql.2];exact hcx i hil
     have hnx:K.dropP ks n (i+1)={ K.dropP ks n i with stale:=(K.dropP ks n i).stale || decide ((K.dropP ks n i).rea.getD (((K.dropP ks n i).lits.getD n []).getD i 0 / 2) 0=(n:Int)) }:=qmn hil
     rw [← hkq] at hnx
     have hilq:i<(kq.lits.getD n []).length:=by rw [hql.1];exact hil
     have hild:i<(kd.lits.getD n []).length:=by rw [hlq];exact hilq
     have hq2:inR .i64 ((((kq.lits.getD n []).getD i 0:Nat):Int).tdiv 2):=by
      have hrq:kq.rea.length≤1000000:=by rw [hql.2];exact hrz
      have e:(((kq.lits.getD n []).getD i 0:Nat):Int).tdiv 2=(((kq.lits.getD n []).getD i 0 / 2:Nat):Int):=rfl
      rw [e]
      exact qbk (by omega) (by omega)
     replace hql:=Hid.in hql
     replace hkq:=Hid.in hkq
     replace hcx:=Hid.in hcx
     (repeat' ((conv=>whnf);first|refine zO ?_|refine Ob.auto ?_|(refine Ob.intro (by (first|first|exact ⟨by omega,by omega⟩|(simp only [zf];omega)|exact fun hg=>⟨hg,by decide,hq2⟩|exact fun hg=>⟨hg,hg,⟨rfl,rfl⟩,zg _,Int.ofNat_lt.2 hxi⟩|exact fun hg=>⟨hg,⟨rfl,rfl⟩,hxi⟩|exact ⟨hnq,⟨rfl,hlq⟩,zg _,Int.ofNat_lt.2 hild⟩|exact ⟨hnq,⟨rfl,hlq⟩,hild⟩|exact ⟨⟨rfl,rfl⟩,zg _,Int.ofNat_lt.2 hxi⟩|exact ⟨⟨rfl,rfl⟩,hxi⟩)) ?_)|(apply zB <;> intro hb <;> (try simp [-zd] at hb) <;> try (exfalso;omega))|refine Ob.intro ?_ ?_))
     ((conv=>whnf);refine ⟨i+1,hil,⟨(by (repeat' (first|exact trivial|exact rfl|exact Le.refl _|exact SoLe.refl _|refine And.intro ?_ ?_))),(by
      rw [hnx]
      (unfold stK boxK;repeat' (first|exact trivial|exact rfl|exact Le.refl _|exact SoLe.refl _|exact fun _ _=>LeL.refl _|exact fun _ _ _ _=>LeL.refl _|refine And.intro ?_ ?_)))⟩,⟨qa,qa⟩,?_⟩;(first|omega|(dsimp only;omega)|skip))
    ·obtain rfl:i=(ks.lits.getD n []).length:=by omega
     have hfin:ks.drops n=kq:=by rw [← qmm,hkq];rfl
     rw [hfin]
     have hild:(kd.lits.getD n []).length=(ks.lits.getD n []).length:=by rw [hlq,hql.1]
     replace hql:=Hid.in hql
     replace hkq:=Hid.in hkq
     replace hcx:=Hid.in hcx
     (repeat' ((conv=>whnf);first|refine zO ?_|refine Ob.auto ?_|(refine Ob.intro (by (first|first|exact ⟨by omega,by omega⟩|(simp only [zf];omega))) ?_)|(apply zB <;> intro hb <;> (try simp [-zd] at hb) <;> try (exfalso;omega))|refine Ob.intro ?_ ?_))
     refine ⟨Le.refl _,?_⟩
     (unfold stK boxK;repeat' (first|exact trivial|exact rfl|exact Le.refl _|exact SoLe.refl _|exact fun _ _=>LeL.refl _|exact fun _ _ _ _=>LeL.refl _|refine And.intro ?_ ?_))
   ·have hkd:kd={ ks with gone:=ks.gone.set n true }:=by rw [hkdd];unfold lit;rw [hlm,ze (fun h=>h0 (zz h))]
    replace hkdd:=Hid.in hkdd
    replace hdp:=Hid.in hdp
    replace hkd:=Hid.in hkd
    (repeat' ((conv=>whnf);first|refine zO ?_|refine Ob.auto ?_|(refine Ob.intro (by (first|exact ⟨by omega,by omega⟩|exact ⟨⟨rfl,rfl⟩,zg _,Int.ofNat_lt.2 hn1⟩|exact ⟨⟨rfl,rfl⟩,hn1⟩|exact ⟨⟨rfl,rfl⟩,hn1⟩)) ?_)|(apply zB <;> intro hb <;> (try simp [-zd] at hb) <;> (try (exfalso;omega)) <;> (try contradiction))|refine Ob.intro ?_ ?_))
    refine MT.stop (MT.st kd ?_) (fun _=>rfl) 300 ?_
    ·rw [hkd.out]
     unfold stK boxK
     repeat' (first|exact trivial|exact rfl|exact Le.refl _|exact SoLe.refl _|exact fun _ _=>LeL.refl _|exact fun _ _ _ _=>LeL.refl _|exact fun j hj=>qmo hgn j hj|refine And.intro ?_ ?_)
    clear hem
    (repeat' ((conv=>whnf);first|refine zO ?_|refine Ob.auto ?_|(refine Ob.intro (by (first|exact ⟨by omega,by omega⟩|exact ⟨⟨rfl,rfl⟩,zg _,Int.ofNat_lt.2 hnd⟩|exact ⟨⟨rfl,rfl⟩,hnd⟩|exact ⟨⟨rfl,rfl⟩,hnd⟩)) ?_)|(apply zB <;> intro hb <;> (try simp [-zd] at hb) <;> try (exfalso;omega))|refine Ob.intro ?_ ?_))
    ((conv=>whnf);refine jk (fun _=>rfl) 300 1 (fun i:Nat=>[(84,iv i)]) (fun i=>idx 0 (stK (K.dropP ks n i))) (fun i=>i≤(ks.lits.getD n []).length) (fun i=>(ks.lits.getD n []).length - i) (0) (xa _) qa (by
     rw [hdp.out 0]
     simp only [List.take_zero,List.any_nil,Bool.or_false]
     (unfold stK boxK;repeat' (first|exact trivial|exact rfl|exact Le.refl _|exact SoLe.refl _|exact fun _ _=>LeL.refl _|exact fun _ _ _ _=>LeL.refl _|refine And.intro ?_ ?_))) (fun _=>rfl) (by kernel_rfl) ?_;(conv=>whnf))
    intro i hi
    obtain ⟨kq,hkq⟩:∃ kq,kq=K.dropP ks n i:=⟨_,rfl⟩
    have hnq:n<kq.lits.length:=by rw [hkq];exact hn1
    have hql:kq.lits=ks.lits∧kq.rea=ks.rea:=by rw [hkq];exact ⟨rfl,rfl⟩
    have hlq:(kd.lits.getD n []).length=(kq.lits.getD n []).length:=by rw [hkq,hkdd.out];rfl
    rw [← hkq]
    by_cases hil:i<(ks.lits.getD n []).length
    ·have hxi:(kq.lits.getD n []).getD i 0 / 2<kq.rea.length:=by rw [hql.1,hql.2];exact hcx i hil
     have hnx:K.dropP ks n (i+1)={ K.dropP ks n i with stale:=(K.dropP ks n i).stale || decide ((K.dropP ks n i).rea.getD (((K.dropP ks n i).lits.getD n []).getD i 0 / 2) 0=(n:Int)) }:=qmn hil
     rw [← hkq] at hnx
     have hilq:i<(kq.lits.getD n []).length:=by rw [hql.1];exact hil
     have hild:i<(kd.lits.getD n []).length:=by rw [hlq];exact hilq
     have hq2:inR .i64 ((((kq.lits.getD n []).getD i 0:Nat):Int).tdiv 2):=by
      have hrq:kq.rea.length≤1000000:=by rw [hql.2];exact hrz
      have e:(((kq.lits.getD n []).getD i 0:Nat):Int).tdiv 2=(((kq.lits.getD n []).getD i 0 / 2:Nat):Int):=rfl
      rw [e]
      exact qbk (by omega) (by omega)
     replace hql:=Hid.in hql
     replace hkq:=Hid.in hkq
     replace hcx:=Hid.in hcx
     (repeat' ((conv=>whnf);first|refine zO ?_|refine Ob.auto ?_|(refine Ob.intro (by (first|first|exact ⟨by omega,by omega⟩|(simp only [zf];omega)|exact fun hg=>⟨hg,by decide,hq2⟩|exact fun hg=>⟨hg,hg,⟨rfl,rfl⟩,zg _,Int.ofNat_lt.2 hxi⟩|exact fun hg=>⟨hg,⟨rfl,rfl⟩,hxi⟩|exact ⟨hnq,⟨rfl,hlq⟩,zg _,Int.ofNat_lt.2 hild⟩|exact ⟨hnq,⟨rfl,hlq⟩,hild⟩|exact ⟨⟨rfl,rfl⟩,zg _,Int.ofNat_lt.2 hxi⟩|exact ⟨⟨rfl,rfl⟩,hxi⟩)) ?_)|(apply zB <;> intro hb <;> (try simp [-zd] at hb) <;> try (exfalso;omega))|refine Ob.intro ?_ ?_))
     ((conv=>whnf);refine ⟨i+1,hil,⟨(by (repeat' (first|exact trivial|exact rfl|exact Le.refl _|exact SoLe.refl _|refine And.intro ?_ ?_))),(by
      rw [hnx]
      (unfold stK boxK;repeat' (first|exact trivial|exact rfl|exact Le.refl _|exact SoLe.refl _|exact fun _ _=>LeL.refl _|exact fun _ _ _ _=>LeL.refl _|refine And.intro ?_ ?_)))⟩,⟨qa,qa⟩,?_⟩;(first|omega|(dsimp only;omega)|skip))
    ·obtain rfl:i=(ks.lits.getD n []).length:=by omega
     have hfin:ks.drops n=kq:=by rw [← qmm,hkq];rfl
     rw [hfin]
     have hild:(kd.lits.getD n []).length=(ks.lits.getD n []).length:=by rw [hlq,hql.1]
     replace hql:=Hid.in hql
     replace hkq:=Hid.in hkq
     replace hcx:=Hid.in hcx
     (repeat' ((conv=>whnf);first|refine zO ?_|refine Ob.auto ?_|(refine Ob.intro (by (first|first|exact ⟨by omega,by omega⟩|(simp only [zf];omega))) ?_)|(apply zB <;> intro hb <;> (try simp [-zd] at hb) <;> try (exfalso;omega))|refine Ob.intro ?_ ?_))
     refine ⟨Le.refl _,?_⟩
     (unfold stK boxK;repeat' (first|exact trivial|exact rfl|exact Le.refl _|exact SoLe.refl _|exact fun _ _=>LeL.refl _|exact fun _ _ _ _=>LeL.refl _|refine And.intro ?_ ?_))
end Go.Proofs.Ytkhdldncbmkidaa
