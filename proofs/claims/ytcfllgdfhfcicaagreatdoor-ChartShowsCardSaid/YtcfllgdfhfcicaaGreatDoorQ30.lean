/- Some texts of the library, one behind the other. -/
import Derived.Test.YtcfllgdfhfcicaaGreatDoorQ28
import Derived.Test.YtcfllgdfhfcicaaGreatDoorQ26
import Derived.Test.YtcfllgdfhfcicaaGreatDoorQ2
set_option linter.unusedSimpArgs false
set_option linter.unusedVariables false
section
namespace Go.Proofs.YtcfllgdfhfcicaaGreatDoor
open Go Go.Sx Go.RowKit Go.St
set_option maxRecDepth 100000
set_option maxHeartbeats 4000000
theorem qxp {k i:Nat} (h:k≠i):(k<i+1)=(k<i):=propext ⟨fun _=>by omega,fun _=>by omega⟩
theorem qjq {f g:Nat→List AV} {m q:Nat} (hq:q<m):appF 0 f m g q=g q:=by
 unfold appF
 rw [za (by omega),zb (by omega),zam]
theorem jus (l:List Int) (hl:l.length≤1000000):Con Tryz.prog 149 [ints l] (ints l):=by
 refine zK {} 300 Tryz.func149 (fun c0 rdb=>?_)
 (repeat' ((conv=>whnf);first|refine Ob.auto ?_|(refine Ob.intro (by ((refine ⟨by omega,by omega,by omega,?_⟩;dsimp only;refine zbr (zar (?_:_≤(4000001:Int)) (xr _)) (by decide +kernel);omega))) ?_)|fail))
 exact Le.slc (by simp) (fun q hq=>qjq (by simpa using hq))
theorem qpd (l:List Int) (hl:l.length≤1000000):Trip Tryz.prog 149 [ints l] [] (.own 0 0 0 l.length) [(0,.row [] 3 1 0 l.length (encL (fun n=>[iv n]) 0 l))] 1:=by
 refine zL {} 300 Tryz.func149 (fun c0 rdb mpb=>?_)
 (repeat' ((conv=>whnf);first|refine Ob.auto ?_|(refine Ob.intro (by ((refine ⟨by omega,by omega,by omega,?_⟩;dsimp only;refine zbr (zar (?_:_≤(4000001:Int)) (xr _)) (by decide +kernel);omega))) ?_)|fail))
 refine ⟨Le.of_eq (by simp),⟨⟨rfl,rfl,by simp⟩,rfl,by simp,fun q hq=>LeL.of_eq (qjq (by simpa using hq))⟩,trivial⟩
theorem jfx (s:Stt) (hs:SSz s):Trip Tryz.prog 119 [s.av] [] (.agg [.own 4 0 0 s.at_.length,.own 8 0 0 s.vars.length,.own 13 0 0 s.chans.length,iv s.holder])
  [(4,.row [] 3 1 0 s.at_.length (encL (fun n=>[iv n]) 0 s.at_)),(8,.row [] 3 1 0 s.vars.length (encL (fun n=>[iv n]) 0 s.vars)),(13,.row [] 28 1 0 s.chans.length (encL (fun c=>[ints c]) [] s.chans))] 14:=by
 have ha:=hs.a
 have hv:=hs.v
 have hc:=hs.c
 have hl:=hs.l
 refine zL {} 300 Tryz.func119 (fun c0 rdb mpb=>?_)
 ((conv=>whnf);refine qbg (fun _=>rfl) (by kernel_rfl) 300 [.new [ints s.at_] (.own 0 0 0 s.at_.length) [(0,.row [] 3 1 0 s.at_.length (encL (fun n=>[iv n]) 0 s.at_))] 1,.new [ints s.vars] (.own 0 0 0 s.vars.length) [(0,.row [] 3 1 0 s.vars.length (encL (fun n=>[iv n]) 0 s.vars))] 1] (by kernel_rfl) ?_)
 (repeat' ((conv=>whnf);first|refine Ob.auto ?_|(refine Ob.intro (by (first|(refine ⟨by omega,by omega,by omega,?_⟩;dsimp only;refine zbr (zar (?_:_≤(4000001:Int)) (xr _)) (by decide +kernel);omega)|exact ⟨qpd s.at_ hs.a,by rfl,LeL.refl _,by kernel_rfl,by kernel_rfl,by exact qb rfl⟩|exact ⟨qpd s.vars hs.v,by rfl,LeL.refl _,by kernel_rfl,by kernel_rfl,by exact qb rfl⟩)) ?_)|fail))
 ((conv=>whnf);refine qn (fun _=>rfl) 300 1 (fun i:Nat=>[(22,iv i)]) (fun i=>[(13,.row [] 28 1 0 s.chans.length (fun k=>[if k<i then ints (s.chans.getD k []) else .nils]))]) (fun i=>i≤s.chans.length) (fun i=>s.chans.length - i) (0) (by omega) qa ⟨qau (fun k _=>by rw [za (zh k)];rfl),trivial⟩ (fun _=>rfl) (by kernel_rfl) ?_;(conv=>whnf))
 intro i hi
 (repeat' ((conv=>whnf);first|refine Ob.auto ?_|(apply zB <;> intro hb <;> (try simp [-List.getD_eq_getElem?_getD] at hb) <;> try (exfalso;omega))))
 ·((conv=>whnf);refine qbg (fun _=>rfl) (by kernel_rfl) 300 [.con (ints (s.chans.getD i []))] (by kernel_rfl) ?_)
  (repeat' ((conv=>whnf);first|refine Ob.auto ?_|(refine Ob.intro (by (first|exact ⟨by omega,by omega⟩|exact ⟨_,jus (s.chans.getD i []) (hl _ (qe _ _ _ (by omega))),by rfl,LeL.refl _⟩)) ?_)|fail))
  ((conv=>whnf);refine ⟨i+1,by omega,⟨qa,qa⟩,⟨qa,qa⟩,?_⟩;(first|omega|(dsimp only;omega)|skip))
 ·obtain rfl:i=s.chans.length:=by omega
  exact ⟨Le.refl _,⟨⟨rfl,rfl,rfl⟩,rfl,rfl,fun q hq=>LeL.refl _⟩,⟨⟨rfl,rfl,rfl⟩,rfl,rfl,fun q hq=>LeL.refl _⟩,qau (fun k hk=>by rw [zb (by simpa using hk)];rfl),trivial⟩
theorem jfy (s:Stt) (hs:SSz s):Trip Tryz.prog 119 [s.av] [] (.agg [.own 4 0 0 s.at_.length,.own 8 0 0 s.vars.length,.own 13 0 0 s.chans.length,iv s.holder])
  [(4,.row [] 3 1 0 s.at_.length (encL (fun n=>[iv n]) 0 s.at_)),(8,.row [] 3 1 0 s.vars.length (encL (fun n=>[iv n]) 0 s.vars)),(13,.row [19] 28 1 0 s.chans.length (fun k=>[.own 19 k 1 (s.chans.getD k []).length])),
   (19,.fam 3 1 s.chans.length (fun _=>1) (fun k=>(s.chans.getD k []).length) (fun k=>encL (fun n=>[iv n]) 0 (s.chans.getD k [])))] 20:=by
 have ha:=hs.a
 have hv:=hs.v
 have hc:=hs.c
 have hl:=hs.l
 refine zL {} 300 Tryz.func119 (fun c0 rdb mpb=>?_)
 ((conv=>whnf);refine qbg (fun _=>rfl) (by kernel_rfl) 300 [.new [ints s.at_] (.own 0 0 0 s.at_.length) [(0,.row [] 3 1 0 s.at_.length (encL (fun n=>[iv n]) 0 s.at_))] 1,.new [ints s.vars] (.own 0 0 0 s.vars.length) [(0,.row [] 3 1 0 s.vars.length (encL (fun n=>[iv n]) 0 s.vars))] 1] (by kernel_rfl) ?_)
 (repeat' ((conv=>whnf);first|refine Ob.auto ?_|(refine Ob.intro (by (first|(refine ⟨by omega,by omega,by omega,?_⟩;dsimp only;refine zbr (zar (?_:_≤(4000001:Int)) (xr _)) (by decide +kernel);omega)|exact ⟨qpd s.at_ hs.a,by rfl,LeL.refl _,by kernel_rfl,by kernel_rfl,by exact qb rfl⟩|exact ⟨qpd s.vars hs.v,by rfl,LeL.refl _,by kernel_rfl,by kernel_rfl,by exact qb rfl⟩)) ?_)|fail))
 refine jaz 13 3 1 rfl (fun _ _=>rfl) ?_
 ((conv=>whnf);refine jfn (fun _=>rfl) 300 1 (fun i:Nat=>[(22,iv i)]) (fun i=>[(13,.row [19] 28 1 0 s.chans.length (fun k=>[.own 19 k (if k<i then 1 else 0) (if k<i then (s.chans.getD k []).length else 0)])),(19,.fam 3 1 s.chans.length (fun k=>if k<i then 1 else 0) (fun k=>if k<i then (s.chans.getD k []).length else 0) (fun k=>encL (fun n=>[iv n]) 0 (s.chans.getD k [])))]) (fun i=>i≤s.chans.length) (fun i=>s.chans.length - i) (0) (by omega) qa ⟨qau (fun k _=>by rw [za (zh k),za (zh k)]),qew (fun k _=>by rw [za (zh k)]) (fun k _=>by rw [za (zh k)]) (fun k j _ hj=>absurd hj (zh _)),trivial⟩ (fun _=>rfl) (by kernel_rfl) ?_;(conv=>whnf))
 intro i hi
 (repeat' ((conv=>whnf);first|refine Ob.auto ?_|(apply zB <;> intro hb <;> (try simp [-List.getD_eq_getElem?_getD] at hb) <;> try (exfalso;omega))))
 ·have hci:=hl _ (qe s.chans i [] (by omega))
  ((conv=>whnf);refine qbg (fun _=>rfl) (by kernel_rfl) 300 [.new [ints (s.chans.getD i [])] (.own 0 0 0 (s.chans.getD i []).length) [(0,.row [] 3 1 0 (s.chans.getD i []).length (encL (fun n=>[iv n]) 0 (s.chans.getD i [])))] 1] (by kernel_rfl) ?_)
  (repeat' ((conv=>whnf);first|refine Ob.auto ?_|(refine Ob.intro (by (first|exact ⟨by omega,by omega⟩|exact ⟨qpd _ hci,by rfl,LeL.refl _,by kernel_rfl,by kernel_rfl,by exact qb rfl⟩)) ?_)|fail))
  ((conv=>whnf);refine ⟨i+1,by omega,⟨_,Turn.absorb 13 19 24 i rfl rfl rfl (by omega) (by decide) (by exact zb rfl) (fun k _ hne=>⟨_,_,za hne⟩),⟨qa,⟨qau (fun k _=>?_),qew (fun k _=>?_) (fun k _=>?_) (fun k j _ hj=>?_),trivial⟩⟩,⟨qa,qa⟩⟩,?_⟩;(first|omega|(dsimp only;omega)|skip))
  ·by_cases hki:k=i
   ·subst hki
    refine (zb rfl).trans ?_
    simp
   ·refine (za hki).trans ((za hki).trans ?_)
    simp only [qxp hki]
  ·unfold upd
   by_cases hki:k=i
   ·subst hki;simp
   ·rw [za hki];simp only [qxp hki]
  ·unfold upd
   by_cases hki:k=i
   ·subst hki;simp
   ·rw [za hki];simp only [qxp hki]
  ·unfold upd
   by_cases hki:k=i
   ·subst hki;rw [zb rfl]
   ·rw [za hki]
  ·omega
 ·obtain rfl:i=s.chans.length:=by omega
  exact ⟨Le.refl _,⟨⟨rfl,rfl,rfl⟩,rfl,rfl,fun q hq=>LeL.refl _⟩,⟨⟨rfl,rfl,rfl⟩,rfl,rfl,fun q hq=>LeL.refl _⟩,qau (fun k hk=>by rw [zb hk,zb hk]),qew (fun k hk=>by rw [zb hk]) (fun k hk=>by rw [zb hk]) (fun _ _ _ _=>rfl),trivial⟩
theorem jfz (s:Stt) (hs:SSz s):Trip Tryz.prog 55 [s.av] [] (.agg [.own 2 0 0 s.at_.length,.own 6 0 0 s.vars.length,.own 15 0 0 s.chans.length,iv s.holder])
  [(2,.row [] 3 1 0 s.at_.length (encL (fun n=>[iv n]) 0 s.at_)),(6,.row [] 3 1 0 s.vars.length (encL (fun n=>[iv n]) 0 s.vars)),(15,.row [] 28 1 0 s.chans.length (encL (fun c=>[ints c]) [] s.chans))] 16:=by
 have ha:=hs.a
 have hv:=hs.v
 have hc:=hs.c
 have hl:=hs.l
 refine zL {lit:=true} 300 Tryz.func55 (fun c0 rdb mpb=>?_)
 (repeat' ((conv=>whnf);first|refine zO ?_|refine Ob.auto ?_|refine zD 300 ?_|fail))
 refine qcn 13 2 28 1 rfl rfl ?_
 ((conv=>whnf);refine jut (fun _=>rfl) 300 1 (fun i:Nat=>[(4,iv i)]) (fun i=>[(13,.box 76 [.own 2 0 0 s.at_.length,.own 6 0 0 s.vars.length,.own 15 0 0 i,iv s.holder]),(15,.row [] 28 1 0 i (encL (fun c=>[ints c]) [] s.chans))]) (fun i=>i≤s.chans.length) (fun i=>s.chans.length - i) (0) (zv _) qa ⟨⟨rfl,Le.of_eq (congrArg (AV.own 2 0 0) (zt _)),Le.of_eq (congrArg (AV.own 6 0 0) (zt _)),Le.refl _,Le.refl _,trivial⟩,qau (fun k hk=>absurd hk (zh k)),trivial⟩ (fun _=>rfl) (by kernel_rfl) ?_;(conv=>whnf))
 intro i hi
 have hli:i<s.chans.length→_:=fun h=>hl _ (qe s.chans i [] h)
 (repeat' ((conv=>whnf);first|refine zO ?_|refine Ob.auto ?_|refine zD 300 ?_|(apply zB <;> intro hb <;> (try simp [-List.getD_eq_getElem?_getD] at hb) <;> try (exfalso;omega))|refine Ob.intro ?_ ?_|fail))
 ·have hli:(s.chans.getD (i:Int).toNat []).length≤1000000:=hli (by omega)
  refine ⟨⟨rfl,rfl⟩,by omega,?_⟩
  dsimp only
  refine xa (xd _ (?_:_≤4000001)) (by decide +kernel);omega
 ·have hli:=hli (by omega)
  ((conv=>whnf);refine ⟨i+1,by omega,⟨_,TurnR.melt [0,1,2,6,13,15] 15 rfl (fun k hk=>?_),⟨qa,⟨?_,⟨⟨rfl,rfl,rfl⟩,rfl,rfl,fun k hk=>?_⟩,trivial⟩⟩,⟨qa,qa⟩⟩,?_⟩;(first|omega|(dsimp only;omega)|skip))
  ·show allP _ (if k<i then _ else _)
   by_cases h:k<i
   ·rw [zb h];exact ⟨trivial,trivial⟩
   ·obtain rfl:k=i:=by omega
    rw [za h,zb hk,xw];exact ⟨⟨trivial,⟨rfl,rfl⟩,trivial⟩,trivial⟩
  ·exact ⟨rfl,Le.refl _,Le.refl _,Le.refl _,Le.refl _,trivial⟩
  ·show LeL (List.map _ (if k<i then _ else _)) _
   by_cases h:k<i
   ·rw [zb h];exact LeL.refl _
   ·obtain rfl:k=i:=by omega
    rw [za h,zb hk,xw]
    exact ⟨Le.slc (by simp) (fun q hq=>qjq (by simpa using hq)),trivial⟩
  ·omega
 ·obtain rfl:i=s.chans.length:=by omega
  refine ⟨Le.refl _,⟨⟨rfl,rfl,by simp⟩,rfl,by simp,fun q hq=>LeL.of_eq (qjq (by simpa using hq))⟩,⟨⟨rfl,rfl,by simp⟩,rfl,by simp,fun q hq=>LeL.of_eq (qjq (by simpa using hq))⟩,⟨⟨rfl,rfl,rfl⟩,rfl,rfl,fun q hq=>LeL.refl _⟩,trivial⟩
theorem jga (s:Stt) (hs:SSz s):Trip Tryz.prog 55 [s.av] [] (.agg [.own 2 0 0 s.at_.length,.own 6 0 0 s.vars.length,.own 15 0 0 s.chans.length,iv s.holder])
  [(2,.row [] 3 1 0 s.at_.length (encL (fun n=>[iv n]) 0 s.at_)),(6,.row [] 3 1 0 s.vars.length (encL (fun n=>[iv n]) 0 s.vars)),(15,.row [16] 28 1 0 s.chans.length (fun k=>[.own 16 k 1 (s.chans.getD k []).length])),
   (16,.fam 3 1 s.chans.length (fun _=>1) (fun k=>(s.chans.getD k []).length) (fun k=>encL (fun n=>[iv n]) 0 (s.chans.getD k [])))] 17:=by
 have ha:=hs.a
 have hv:=hs.v
 have hc:=hs.c
 have hl:=hs.l
 refine zL {lit:=true} 300 Tryz.func55 (fun c0 rdb mpb=>?_)
 (repeat' ((conv=>whnf);first|refine zO ?_|refine Ob.auto ?_|refine zD 300 ?_|fail))
 refine qcn 13 2 28 1 rfl rfl ?_
 refine jda 15 3 1 rfl ?_
 ((conv=>whnf);refine jfn (fun _=>rfl) 300 1 (fun i:Nat=>[(4,iv i)]) (fun i=>[(13,.box 76 [.own 2 0 0 s.at_.length,.own 6 0 0 s.vars.length,.own 15 0 0 i,iv s.holder]),(15,.row [16] 28 1 0 i (fun k=>[.own 16 k 1 (s.chans.getD k []).length])),(16,.fam 3 1 i (fun _=>1) (fun k=>(s.chans.getD k []).length) (fun k=>encL (fun n=>[iv n]) 0 (s.chans.getD k [])))]) (fun i=>i≤s.chans.length) (fun i=>s.chans.length - i) (0) (zv _) qa ⟨⟨rfl,Le.of_eq (congrArg (AV.own 2 0 0) (zt _)),Le.of_eq (congrArg (AV.own 6 0 0) (zt _)),Le.refl _,Le.refl _,trivial⟩,qau (fun k hk=>absurd hk (zh k)),qew (fun k hk=>absurd hk (zh k)) (fun k hk=>absurd hk (zh k)) (fun k _ hk=>absurd hk (zh k)),trivial⟩ (fun _=>rfl) (by kernel_rfl) ?_;(conv=>whnf))
 intro i hi
 have hli:i<s.chans.length→_:=fun h=>hl _ (qe s.chans i [] h)
 (repeat' ((conv=>whnf);first|refine zO ?_|refine Ob.auto ?_|refine zD 300 ?_|(apply zB <;> intro hb <;> (try simp [-List.getD_eq_getElem?_getD] at hb) <;> try (exfalso;omega))|refine Ob.intro ?_ ?_|fail))
 ·have hli:(s.chans.getD (i:Int).toNat []).length≤1000000:=hli (by omega)
  refine ⟨⟨rfl,rfl⟩,by omega,?_⟩
  dsimp only
  refine xa (xd _ (?_:_≤4000001)) (by decide +kernel);omega
 ·have hli:=hli (by omega)
  ((conv=>whnf);refine ⟨i+1,by omega,⟨_,Turn.join 15 16 19 rfl rfl rfl (by decide) (by exact (za (zbi i)).trans ((zb (zba i)).trans (by rw [xw];rfl))) (fun k hk=>⟨_,_,zb hk⟩),⟨qa,⟨?_,qau (fun k hk=>?_),qew (fun k hk=>?_) (fun k hk=>?_) (fun k j hk hj=>?_),trivial⟩⟩,⟨qa,qa⟩⟩,?_⟩;(first|omega|(dsimp only;omega)|skip))
  ·exact ⟨rfl,Le.refl _,Le.refl _,Le.refl _,Le.refl _,trivial⟩
  ·by_cases hki:k=i
   ·subst hki
    refine (zb rfl).trans ?_
    simp
   ·refine (za hki).trans ?_
    exact zb (by omega)
  ·show Go.Sx.upd _ _ _ k=1
   unfold Go.Sx.upd
   by_cases hki:k=i
   ·subst hki;simp
   ·rw [za hki];exact zb (by omega)
  ·show Go.Sx.upd _ _ _ k=_
   unfold Go.Sx.upd
   by_cases hki:k=i
   ·subst hki;simp
   ·rw [za hki];exact zb (by omega)
  ·have hj:j<Go.Sx.upd (fun k=>if k<i then (s.chans.getD k []).length else 0) i (0+(s.chans.getD (i:Int).toNat []).length) k:=hj
   unfold Go.Sx.upd at hj
   show Go.Sx.upd (α:=Nat→List AV) _ _ _ k j=_
   unfold Go.Sx.upd
   by_cases hki:k=i
   ·subst hki
    rw [zb rfl] at hj
    rw [zb rfl]
    exact qjq (by simpa using hj)
   ·rw [za hki]
  ·omega
 ·obtain rfl:i=s.chans.length:=by omega
  refine ⟨Le.refl _,⟨⟨rfl,rfl,by simp⟩,rfl,by simp,fun q hq=>LeL.of_eq (qjq (by simpa using hq))⟩,⟨⟨rfl,rfl,by simp⟩,rfl,by simp,fun q hq=>LeL.of_eq (qjq (by simpa using hq))⟩,qau (fun _ _=>rfl),qew (fun _ _=>rfl) (fun _ _=>rfl) (fun _ _ _ _=>rfl),trivial⟩
end Go.Proofs.YtcfllgdfhfcicaaGreatDoor
end
section
namespace Go.Proofs.YtcfllgdfhfcicaaGreatDoor
open List renaming getD_eq_getElem?_getD → zd
open Go Go.Sx Go.RowKit Go.St
set_option maxRecDepth 100000
set_option maxHeartbeats 4000000
def rowI (l:List Int):SO:=.row [] 3 1 0 l.length (encL (fun n=>[iv n]) 0 l)
def boxS (s:Stt):SO:=.box 76 [.own 1 0 0 s.at_.length,.own 2 0 0 s.vars.length,.own 3 0 0 s.chans.length,iv s.holder]
def rowC (l:List (List Int)):SO:=.row [] 28 1 0 l.length (encL (fun c=>[ints c]) [] l)
theorem jgb (m:Md) (p:Int) (s:Stt) (h k:Int):val m p { s with holder:=h } k=val m p s k:=by
 have key:∀ (n:Nat) (k:Int),valN m p { s with holder:=h } n k=valN m p s n k:=by
  intro n
  induction n with
  | zero=>intro k;rfl
  | succ n ih=>intro k;unfold valN;simp only [ih]
 exact key _ k
theorem jgc {m:Md} {s:Stt} {p:Nat} {e:Ed} (h:canB m s p e=true) (h3:e.act=3):0<(s.chans.getD e.chn.toNat []).length:=by
 unfold canB qlen at h
 rw [za (by omega),zb h3,zf] at h
 have:=zi h.2
 omega
theorem qcm {α:Type} (enc:α→List AV) (d:α) (l:List α) (i:Nat) (x:α) (hi:i<l.length) (j:Nat):(if j=i then enc x else encL enc d l j)=encL enc d (l.set i x) j:=by
 unfold encL
 rw [qdn]
 by_cases h:j=i
 ·rw [zb h,zb ⟨h,hi⟩]
 ·rw [za h,za (fun h'=>h h'.1)]
theorem juv (m:Md) (hM:ModOk m) (s:Stt) (hf:ql m s=true) (hh:s.holder=-1) (p:Nat) (hp:p<m.procs.length) (e:Ed) (he:EdOk m.tree.length m.vars.length m.chans.length (m.procs.getD p pr0).places e) (hc:canB m s p e=true) (h2:e.act≠2) :
  Trip Tryz.prog 120 [m.av,.ptr 0 0,iv p,.agg e.cells] [boxS s,rowI s.at_,rowI s.vars,rowC s.chans] (.tup [])
   [(0,.box 76 (qbq m s p e).cells)] 4:=by
 have hs:=qck hM hf
 have h0:=((jb m s).1 hf).1
 have hsv:=qxk m hM.ok p s hs e.expr
 have hex:=he.ex
 have hvr:=he.var
 have hch:=he.chn
 have hto:=he.to
 have hat:p<s.at_.length:=by omega
 have hvl:=h0.2.1
 have hcl:=h0.2.2.1
 have hq:=jgc hc
 have hT:=qot hM hf (p:=p) hto (qou hc)
 have hTs:=qck hM hT
 have hmv:=jfm m hM.ok (qo m s p e) hT hTs p hp (pl:=(m.procs.getD p pr0).places) (fun e he=>(hM.pr _ (qe m.procs p pr0 hp)).ed e he) (hM.psz _ (qe m.procs p pr0 hp)).1
 unfold boxS rowI rowC
 refine zL {} 300 Tryz.func120 (fun c0 rdb mpb=>?_)
 have hA:∀ j,(if j=p then [iv e.to] else encL (fun n=>[iv n]) 0 s.at_ j)=encL (fun n=>[iv n]) 0 (s.at_.set p e.to) j:=qcm (fun n=>[iv n]) 0 s.at_ p e.to hat
 (repeat' ((conv=>whnf);first|refine zO ?_|refine Ob.auto ?_|refine zD 300 ?_|(apply zB <;> intro hb <;> (try simp [-zd] at hb) <;> try (exfalso;omega))))
 ·have h1:e.act=1:=by assumption
  ((conv=>whnf);refine zQ 300 ?_)
  ((conv=>whnf);refine CallY.lend (hsv) (by repeat' (first|exact trivial|exact ⟨rfl,rfl⟩|exact rfl|assumption|(refine And.intro ?_ ?_)|(intro _))) leA (by rfl) ?_)
  (repeat' ((conv=>whnf);first|refine zA ?_|fail))
  ((conv=>whnf);refine zQ 300 ?_)
  (repeat' ((conv=>whnf);first|refine zA ?_|refine zO ?_|refine Ob.auto ?_|(refine CallY.con (qmf (sval m p s e.expr).1 (m.vars.getD e.var.toNat vr0).width) (by rfl) leA ?_)|refine zD 300 ?_|fail))
  ((conv=>whnf);refine qdr [0,4,5] 0 rfl frzA ?_)
  have hTe:qo m s p e=⟨s.at_.set p e.to,s.vars.set e.var.toNat (trim (sval m p s e.expr).1 (m.vars.getD e.var.toNat vr0).width),s.chans,-1⟩:=by
   have h3:=hex (.inl h1)
   simp [qo,h1,sval,h3,hf,za (show ¬ e.expr<0 by omega)]
  refine qsj 0 (qo m s p e).cells rfl (by
   rw [hTe]
   exact ⟨Le.slc (by simp) (fun j hj=>hA j),Le.slc (by simp) (fun j hj=>qcm (fun n=>[iv n]) 0 s.vars e.var.toNat _ (by omega) j),Le.refl _,Le.of_eq (congrArg (AV.int _) hh),trivial⟩) ?_
  (repeat' ((conv=>whnf);first|refine zA ?_|refine Ob.auto ?_|(refine CallZ.con (fun hg=>hmv) qhv (by rfl) ?_)|(refine zQ 300 ?_)|(apply zB <;> intro hb <;> (try simp [-zd] at hb) <;> try (exfalso;omega))))
  ·exact ⟨Le.refl _,⟨rfl,Le.refl _,Le.refl _,Le.refl _,Le.of_eq (congrArg (AV.int _) (zb hb).symm),trivial⟩,trivial⟩
  ·refine ⟨Le.refl _,⟨rfl,Le.refl _,Le.refl _,Le.refl _,Le.of_eq (congrArg (AV.int _) ?_),trivial⟩,trivial⟩
   refine Eq.trans (by rw [hTe]) (za (fun h=>?_)).symm
   have:=hb h.1;rw [h.2] at this;cases this
 ·have h3:e.act=3:=by assumption
  ((conv=>whnf);refine zQ 300 ?_)
  (repeat' ((conv=>whnf);first|refine zA ?_|refine zO ?_|refine Ob.auto ?_|(refine CallY.con (qmf ((s.chans.getD e.chn.toNat []).getD 0 0) (m.vars.getD e.var.toNat vr0).width) (by rfl) leA ?_)|refine zD 300 ?_|fail))
  ((conv=>whnf);refine qdr [0,4,5] 0 rfl frzA ?_)
  have hD:∀ j,LeL (if j=e.chn.toNat then [AV.slc 1 ((s.chans.getD e.chn.toNat []).length - 1) fun i=>encL (fun n=>[iv n]) 0 (s.chans.getD e.chn.toNat []) (1+i)] else encL (fun c=>[ints c]) [] s.chans j) (encL (fun c=>[ints c]) [] (s.chans.set e.chn.toNat ((s.chans.getD e.chn.toNat []).drop 1)) j):=fun j=>by
   rw [← qcm (fun c=>[ints c]) [] s.chans e.chn.toNat _ (by omega) j]
   by_cases hj:j=e.chn.toNat
   ·rw [zb hj,zb hj]
    refine ⟨Le.slc (by simp) (fun q _=>?_),trivial⟩
    unfold encL
    rw [zd (l:=List.drop 1 _),xh,← zd]
   ·rw [za hj,za hj];exact LeL.refl _
  have hTe:qo m s p e=⟨s.at_.set p e.to,s.vars.set e.var.toNat (trim ((s.chans.getD e.chn.toNat []).getD 0 0) (m.vars.getD e.var.toNat vr0).width),s.chans.set e.chn.toNat ((s.chans.getD e.chn.toNat []).drop 1),-1⟩:=by
   simp [qo,h3]
  refine qsj 0 (qo m s p e).cells rfl (by
   rw [hTe]
   refine ⟨Le.slc (by simp) (fun j hj=>hA j),Le.slc (by simp) (fun j hj=>qcm (fun n=>[iv n]) 0 s.vars e.var.toNat _ (by omega) j),Le.slcL (by simp) (fun j hj=>?_),Le.of_eq (congrArg (AV.int _) hh),trivial⟩
   exact hD j) ?_
  (repeat' ((conv=>whnf);first|refine zA ?_|refine Ob.auto ?_|(refine CallZ.con (fun hg=>hmv) qhv (by rfl) ?_)|(refine zQ 300 ?_)|(apply zB <;> intro hb <;> (try simp [-zd] at hb) <;> try (exfalso;omega))))
  ·exact ⟨Le.refl _,⟨rfl,Le.refl _,Le.refl _,Le.refl _,Le.of_eq (congrArg (AV.int _) (zb hb).symm),trivial⟩,trivial⟩
  ·refine ⟨Le.refl _,⟨rfl,Le.refl _,Le.refl _,Le.refl _,Le.of_eq (congrArg (AV.int _) ?_),trivial⟩,trivial⟩
   refine Eq.trans (by rw [hTe]) (za (fun h=>?_)).symm
   have:=hb h.1;rw [h.2] at this;cases this
 ·((conv=>whnf);refine qdr [0,4,5] 0 rfl frzA ?_)
  have hTe:qo m s p e=⟨s.at_.set p e.to,s.vars,s.chans,-1⟩:=by simp [qo,h2, *]
  refine qsj 0 (qo m s p e).cells rfl (by
   rw [hTe]
   exact ⟨Le.slc (by simp) (fun j hj=>hA j),Le.refl _,Le.refl _,Le.of_eq (congrArg (AV.int _) hh),trivial⟩) ?_
  (repeat' ((conv=>whnf);first|refine zA ?_|refine Ob.auto ?_|(refine CallZ.con (fun hg=>hmv) qhv (by rfl) ?_)|(refine zQ 300 ?_)|(apply zB <;> intro hb <;> (try simp [-zd] at hb) <;> try (exfalso;omega))))
  ·exact ⟨Le.refl _,⟨rfl,Le.refl _,Le.refl _,Le.refl _,Le.of_eq (congrArg (AV.int _) (zb hb).symm),trivial⟩,trivial⟩
  ·refine ⟨Le.refl _,⟨rfl,Le.refl _,Le.refl _,Le.refl _,Le.of_eq (congrArg (AV.int _) ?_),trivial⟩,trivial⟩
   refine Eq.trans (by rw [hTe]) (za (fun h=>?_)).symm
   have:=hb h.1;rw [h.2] at this;cases this
end Go.Proofs.YtcfllgdfhfcicaaGreatDoor
end
