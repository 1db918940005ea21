/- Some texts of the library, one behind the other. -/
import Derived.Test.YtcfllgdfhfcicaaGreatDoorQ29
import Derived.Test.YtcfllgdfhfcicaaGreatDoorQ27
import Derived.Test.YtcfllgdfhfcicaaGreatDoorQ2
section
namespace Go.Proofs.YtcfllgdfhfcicaaGreatDoor
open Go Go.Sx Go.RowKit Go.St
set_option maxRecDepth 100000
set_option maxHeartbeats 4000000
theorem qwo {k i:Nat} (h:k≠i):(k<i+1)=(k<i):=propext ⟨fun _=>by omega,fun _=>by omega⟩
theorem qjc {f g:Nat→List AV} {m q:Nat} (hq:q<m):appF 0 f m g q=g q:=by
 unfold appF
 rw [if_neg (by omega),if_pos (by omega),Nat.sub_zero]
theorem jso (l:List Int) (hl:l.length≤1000000):Con Tryz.prog 149 [ints l] (ints l):=by
 refine zK {} 300 Tryz.func149 (fun c0 rdb=>?_)
 (repeat' ((conv=>whnf);first|refine Ob.auto ?_|(refine Ob.intro (by ((refine ⟨by omega,by omega,by omega,?_⟩;dsimp only;refine Int.le_trans (Int.mul_le_mul_of_nonneg_right (?_:_≤(4000001:Int)) (Int.natCast_nonneg _)) (by decide +kernel);omega))) ?_)|fail))
 exact Le.slc (by simp) (fun q hq=>qjc (by simpa using hq))
theorem qou (l:List Int) (hl:l.length≤1000000):Trip Tryz.prog 149 [ints l] [] (.own 0 0 0 l.length) [(0,.row [] 3 1 0 l.length (encL (fun n=>[iv n]) 0 l))] 1:=by
 refine zL {} 300 Tryz.func149 (fun c0 rdb mpb=>?_)
 (repeat' ((conv=>whnf);first|refine Ob.auto ?_|(refine Ob.intro (by ((refine ⟨by omega,by omega,by omega,?_⟩;dsimp only;refine Int.le_trans (Int.mul_le_mul_of_nonneg_right (?_:_≤(4000001:Int)) (Int.natCast_nonneg _)) (by decide +kernel);omega))) ?_)|fail))
 refine ⟨Le.of_eq (by simp),⟨⟨rfl,rfl,by simp⟩,rfl,by simp,fun q hq=>LeL.of_eq (qjc (by simpa using hq))⟩,trivial⟩
theorem jep (s:Stt) (hs:SSz s):Trip Tryz.prog 119 [s.av] [] (.agg [.own 4 0 0 s.at_.length,.own 8 0 0 s.vars.length,.own 13 0 0 s.chans.length,iv s.holder])
  [(4,.row [] 3 1 0 s.at_.length (encL (fun n=>[iv n]) 0 s.at_)),(8,.row [] 3 1 0 s.vars.length (encL (fun n=>[iv n]) 0 s.vars)),(13,.row [] 28 1 0 s.chans.length (encL (fun c=>[ints c]) [] s.chans))] 14:=by
 have ha:=hs.a
 have hv:=hs.v
 have hc:=hs.c
 have hl:=hs.l
 refine zL {} 300 Tryz.func119 (fun c0 rdb mpb=>?_)
 ((conv=>whnf);refine qbd (fun _=>rfl) (by kernel_rfl) 300 [.new [ints s.at_] (.own 0 0 0 s.at_.length) [(0,.row [] 3 1 0 s.at_.length (encL (fun n=>[iv n]) 0 s.at_))] 1,.new [ints s.vars] (.own 0 0 0 s.vars.length) [(0,.row [] 3 1 0 s.vars.length (encL (fun n=>[iv n]) 0 s.vars))] 1] (by kernel_rfl) ?_)
 (repeat' ((conv=>whnf);first|refine Ob.auto ?_|(refine Ob.intro (by (first|(refine ⟨by omega,by omega,by omega,?_⟩;dsimp only;refine Int.le_trans (Int.mul_le_mul_of_nonneg_right (?_:_≤(4000001:Int)) (Int.natCast_nonneg _)) (by decide +kernel);omega)|exact ⟨qou s.at_ hs.a,by rfl,LeL.refl _,by kernel_rfl,by kernel_rfl,by exact qb rfl⟩|exact ⟨qou s.vars hs.v,by rfl,LeL.refl _,by kernel_rfl,by kernel_rfl,by exact qb rfl⟩)) ?_)|fail))
 ((conv=>whnf);refine qp (fun _=>rfl) 300 1 (fun i:Nat=>[(22,iv i)]) (fun i=>[(13,.row [] 28 1 0 s.chans.length (fun k=>[if k<i then ints (s.chans.getD k []) else .nils]))]) (fun i=>i≤s.chans.length) (fun i=>s.chans.length - i) (0) (by omega) qa ⟨qba (fun k _=>by rw [if_neg (Nat.not_lt_zero k)];rfl),trivial⟩ (fun _=>rfl) (by kernel_rfl) ?_;(conv=>whnf))
 intro i hi
 (repeat' ((conv=>whnf);first|refine Ob.auto ?_|(apply zB <;> intro hb <;> (try simp [-List.getD_eq_getElem?_getD] at hb) <;> try (exfalso;omega))))
 ·((conv=>whnf);refine qbd (fun _=>rfl) (by kernel_rfl) 300 [.con (ints (s.chans.getD i []))] (by kernel_rfl) ?_)
  (repeat' ((conv=>whnf);first|refine Ob.auto ?_|(refine Ob.intro (by (first|exact ⟨by omega,by omega⟩|exact ⟨_,jso (s.chans.getD i []) (hl _ (qh _ _ _ (by omega))),by rfl,LeL.refl _⟩)) ?_)|fail))
  ((conv=>whnf);refine ⟨i+1,by omega,⟨qa,qa⟩,⟨qa,qa⟩,?_⟩;(first|omega|(dsimp only;omega)|skip))
 ·obtain rfl:i=s.chans.length:=by omega
  exact ⟨Le.refl _,⟨⟨rfl,rfl,rfl⟩,rfl,rfl,fun q hq=>LeL.refl _⟩,⟨⟨rfl,rfl,rfl⟩,rfl,rfl,fun q hq=>LeL.refl _⟩,qba (fun k hk=>by rw [if_pos (by simpa using hk)];rfl),trivial⟩
theorem jeq (s:Stt) (hs:SSz s):Trip Tryz.prog 119 [s.av] [] (.agg [.own 4 0 0 s.at_.length,.own 8 0 0 s.vars.length,.own 13 0 0 s.chans.length,iv s.holder])
  [(4,.row [] 3 1 0 s.at_.length (encL (fun n=>[iv n]) 0 s.at_)),(8,.row [] 3 1 0 s.vars.length (encL (fun n=>[iv n]) 0 s.vars)),(13,.row [19] 28 1 0 s.chans.length (fun k=>[.own 19 k 1 (s.chans.getD k []).length])),
   (19,.fam 3 1 s.chans.length (fun _=>1) (fun k=>(s.chans.getD k []).length) (fun k=>encL (fun n=>[iv n]) 0 (s.chans.getD k [])))] 20:=by
 have ha:=hs.a
 have hv:=hs.v
 have hc:=hs.c
 have hl:=hs.l
 refine zL {} 300 Tryz.func119 (fun c0 rdb mpb=>?_)
 ((conv=>whnf);refine qbd (fun _=>rfl) (by kernel_rfl) 300 [.new [ints s.at_] (.own 0 0 0 s.at_.length) [(0,.row [] 3 1 0 s.at_.length (encL (fun n=>[iv n]) 0 s.at_))] 1,.new [ints s.vars] (.own 0 0 0 s.vars.length) [(0,.row [] 3 1 0 s.vars.length (encL (fun n=>[iv n]) 0 s.vars))] 1] (by kernel_rfl) ?_)
 (repeat' ((conv=>whnf);first|refine Ob.auto ?_|(refine Ob.intro (by (first|(refine ⟨by omega,by omega,by omega,?_⟩;dsimp only;refine Int.le_trans (Int.mul_le_mul_of_nonneg_right (?_:_≤(4000001:Int)) (Int.natCast_nonneg _)) (by decide +kernel);omega)|exact ⟨qou s.at_ hs.a,by rfl,LeL.refl _,by kernel_rfl,by kernel_rfl,by exact qb rfl⟩|exact ⟨qou s.vars hs.v,by rfl,LeL.refl _,by kernel_rfl,by kernel_rfl,by exact qb rfl⟩)) ?_)|fail))
 refine qzo 13 3 1 rfl (fun _ _=>rfl) ?_
 ((conv=>whnf);refine jeh (fun _=>rfl) 300 1 (fun i:Nat=>[(22,iv i)]) (fun i=>[(13,.row [19] 28 1 0 s.chans.length (fun k=>[.own 19 k (if k<i then 1 else 0) (if k<i then (s.chans.getD k []).length else 0)])),(19,.fam 3 1 s.chans.length (fun k=>if k<i then 1 else 0) (fun k=>if k<i then (s.chans.getD k []).length else 0) (fun k=>encL (fun n=>[iv n]) 0 (s.chans.getD k [])))]) (fun i=>i≤s.chans.length) (fun i=>s.chans.length - i) (0) (by omega) qa ⟨qba (fun k _=>by rw [if_neg (Nat.not_lt_zero k),if_neg (Nat.not_lt_zero k)]),qel (fun k _=>by rw [if_neg (Nat.not_lt_zero k)]) (fun k _=>by rw [if_neg (Nat.not_lt_zero k)]) (fun k j _ hj=>absurd hj (Nat.not_lt_zero _)),trivial⟩ (fun _=>rfl) (by kernel_rfl) ?_;(conv=>whnf))
 intro i hi
 (repeat' ((conv=>whnf);first|refine Ob.auto ?_|(apply zB <;> intro hb <;> (try simp [-List.getD_eq_getElem?_getD] at hb) <;> try (exfalso;omega))))
 ·have hci:=hl _ (qh s.chans i [] (by omega))
  ((conv=>whnf);refine qbd (fun _=>rfl) (by kernel_rfl) 300 [.new [ints (s.chans.getD i [])] (.own 0 0 0 (s.chans.getD i []).length) [(0,.row [] 3 1 0 (s.chans.getD i []).length (encL (fun n=>[iv n]) 0 (s.chans.getD i [])))] 1] (by kernel_rfl) ?_)
  (repeat' ((conv=>whnf);first|refine Ob.auto ?_|(refine Ob.intro (by (first|exact ⟨by omega,by omega⟩|exact ⟨qou _ hci,by rfl,LeL.refl _,by kernel_rfl,by kernel_rfl,by exact qb rfl⟩)) ?_)|fail))
  ((conv=>whnf);refine ⟨i+1,by omega,⟨_,Turn.absorb 13 19 24 i rfl rfl rfl (by omega) (by decide) (by exact if_pos rfl) (fun k _ hne=>⟨_,_,if_neg hne⟩),⟨qa,⟨qba (fun k _=>?_),qel (fun k _=>?_) (fun k _=>?_) (fun k j _ hj=>?_),trivial⟩⟩,⟨qa,qa⟩⟩,?_⟩;(first|omega|(dsimp only;omega)|skip))
  ·by_cases hki:k=i
   ·subst hki
    refine (if_pos rfl).trans ?_
    simp
   ·refine (if_neg hki).trans ((if_neg hki).trans ?_)
    simp only [qwo hki]
  ·unfold upd
   by_cases hki:k=i
   ·subst hki;simp
   ·rw [if_neg hki];simp only [qwo hki]
  ·unfold upd
   by_cases hki:k=i
   ·subst hki;simp
   ·rw [if_neg hki];simp only [qwo hki]
  ·unfold upd
   by_cases hki:k=i
   ·subst hki;rw [if_pos rfl]
   ·rw [if_neg hki]
  ·omega
 ·obtain rfl:i=s.chans.length:=by omega
  exact ⟨Le.refl _,⟨⟨rfl,rfl,rfl⟩,rfl,rfl,fun q hq=>LeL.refl _⟩,⟨⟨rfl,rfl,rfl⟩,rfl,rfl,fun q hq=>LeL.refl _⟩,qba (fun k hk=>by rw [if_pos hk,if_pos hk]),qel (fun k hk=>by rw [if_pos hk]) (fun k hk=>by rw [if_pos hk]) (fun _ _ _ _=>rfl),trivial⟩
theorem jer (s:Stt) (hs:SSz s):Trip Tryz.prog 55 [s.av] [] (.agg [.own 2 0 0 s.at_.length,.own 6 0 0 s.vars.length,.own 15 0 0 s.chans.length,iv s.holder])
  [(2,.row [] 3 1 0 s.at_.length (encL (fun n=>[iv n]) 0 s.at_)),(6,.row [] 3 1 0 s.vars.length (encL (fun n=>[iv n]) 0 s.vars)),(15,.row [] 28 1 0 s.chans.length (encL (fun c=>[ints c]) [] s.chans))] 16:=by
 have ha:=hs.a
 have hv:=hs.v
 have hc:=hs.c
 have hl:=hs.l
 refine zL {lit:=true} 300 Tryz.func55 (fun c0 rdb mpb=>?_)
 (repeat' ((conv=>whnf);first|refine zO ?_|refine Ob.auto ?_|refine zD 300 ?_|fail))
 refine qcd 13 2 28 1 rfl rfl ?_
 ((conv=>whnf);refine jsp (fun _=>rfl) 300 1 (fun i:Nat=>[(4,iv i)]) (fun i=>[(13,.box 76 [.own 2 0 0 s.at_.length,.own 6 0 0 s.vars.length,.own 15 0 0 i,iv s.holder]),(15,.row [] 28 1 0 i (encL (fun c=>[ints c]) [] s.chans))]) (fun i=>i≤s.chans.length) (fun i=>s.chans.length - i) (0) (Nat.zero_le _) qa ⟨⟨rfl,Le.of_eq (congrArg (AV.own 2 0 0) (Nat.zero_add _)),Le.of_eq (congrArg (AV.own 6 0 0) (Nat.zero_add _)),Le.refl _,Le.refl _,trivial⟩,qba (fun k hk=>absurd hk (Nat.not_lt_zero k)),trivial⟩ (fun _=>rfl) (by kernel_rfl) ?_;(conv=>whnf))
 intro i hi
 have hli:i<s.chans.length→_:=fun h=>hl _ (qh s.chans i [] h)
 (repeat' ((conv=>whnf);first|refine zO ?_|refine Ob.auto ?_|refine zD 300 ?_|(apply zB <;> intro hb <;> (try simp [-List.getD_eq_getElem?_getD] at hb) <;> try (exfalso;omega))|refine Ob.intro ?_ ?_|fail))
 ·have hli:(s.chans.getD (i:Int).toNat []).length≤1000000:=hli (by omega)
  refine ⟨⟨rfl,rfl⟩,by omega,?_⟩
  dsimp only
  refine Nat.le_trans (Nat.mul_le_mul_right _ (?_:_≤4000001)) (by decide +kernel);omega
 ·have hli:=hli (by omega)
  ((conv=>whnf);refine ⟨i+1,by omega,⟨_,TurnR.melt [0,1,2,6,13,15] 15 rfl (fun k hk=>?_),⟨qa,⟨?_,⟨⟨rfl,rfl,rfl⟩,rfl,rfl,fun k hk=>?_⟩,trivial⟩⟩,⟨qa,qa⟩⟩,?_⟩;(first|omega|(dsimp only;omega)|skip))
  ·show allP _ (if k<i then _ else _)
   by_cases h:k<i
   ·rw [if_pos h];exact ⟨trivial,trivial⟩
   ·obtain rfl:k=i:=by omega
    rw [if_neg h,if_pos hk,Nat.sub_self];exact ⟨⟨trivial,⟨rfl,rfl⟩,trivial⟩,trivial⟩
  ·exact ⟨rfl,Le.refl _,Le.refl _,Le.refl _,Le.refl _,trivial⟩
  ·show LeL (List.map _ (if k<i then _ else _)) _
   by_cases h:k<i
   ·rw [if_pos h];exact LeL.refl _
   ·obtain rfl:k=i:=by omega
    rw [if_neg h,if_pos hk,Nat.sub_self]
    exact ⟨Le.slc (by simp) (fun q hq=>qjc (by simpa using hq)),trivial⟩
  ·omega
 ·obtain rfl:i=s.chans.length:=by omega
  refine ⟨Le.refl _,⟨⟨rfl,rfl,by simp⟩,rfl,by simp,fun q hq=>LeL.of_eq (qjc (by simpa using hq))⟩,⟨⟨rfl,rfl,by simp⟩,rfl,by simp,fun q hq=>LeL.of_eq (qjc (by simpa using hq))⟩,⟨⟨rfl,rfl,rfl⟩,rfl,rfl,fun q hq=>LeL.refl _⟩,trivial⟩
theorem jes (s:Stt) (hs:SSz s):Trip Tryz.prog 55 [s.av] [] (.agg [.own 2 0 0 s.at_.length,.own 6 0 0 s.vars.length,.own 15 0 0 s.chans.length,iv s.holder])
  [(2,.row [] 3 1 0 s.at_.length (encL (fun n=>[iv n]) 0 s.at_)),(6,.row [] 3 1 0 s.vars.length (encL (fun n=>[iv n]) 0 s.vars)),(15,.row [16] 28 1 0 s.chans.length (fun k=>[.own 16 k 1 (s.chans.getD k []).length])),
   (16,.fam 3 1 s.chans.length (fun _=>1) (fun k=>(s.chans.getD k []).length) (fun k=>encL (fun n=>[iv n]) 0 (s.chans.getD k [])))] 17:=by
 have ha:=hs.a
 have hv:=hs.v
 have hc:=hs.c
 have hl:=hs.l
 refine zL {lit:=true} 300 Tryz.func55 (fun c0 rdb mpb=>?_)
 (repeat' ((conv=>whnf);first|refine zO ?_|refine Ob.auto ?_|refine zD 300 ?_|fail))
 refine qcd 13 2 28 1 rfl rfl ?_
 refine jbq 15 3 1 rfl ?_
 ((conv=>whnf);refine jeh (fun _=>rfl) 300 1 (fun i:Nat=>[(4,iv i)]) (fun i=>[(13,.box 76 [.own 2 0 0 s.at_.length,.own 6 0 0 s.vars.length,.own 15 0 0 i,iv s.holder]),(15,.row [16] 28 1 0 i (fun k=>[.own 16 k 1 (s.chans.getD k []).length])),(16,.fam 3 1 i (fun _=>1) (fun k=>(s.chans.getD k []).length) (fun k=>encL (fun n=>[iv n]) 0 (s.chans.getD k [])))]) (fun i=>i≤s.chans.length) (fun i=>s.chans.length - i) (0) (Nat.zero_le _) qa ⟨⟨rfl,Le.of_eq (congrArg (AV.own 2 0 0) (Nat.zero_add _)),Le.of_eq (congrArg (AV.own 6 0 0) (Nat.zero_add _)),Le.refl _,Le.refl _,trivial⟩,qba (fun k hk=>absurd hk (Nat.not_lt_zero k)),qel (fun k hk=>absurd hk (Nat.not_lt_zero k)) (fun k hk=>absurd hk (Nat.not_lt_zero k)) (fun k _ hk=>absurd hk (Nat.not_lt_zero k)),trivial⟩ (fun _=>rfl) (by kernel_rfl) ?_;(conv=>whnf))
 intro i hi
 have hli:i<s.chans.length→_:=fun h=>hl _ (qh s.chans i [] h)
 (repeat' ((conv=>whnf);first|refine zO ?_|refine Ob.auto ?_|refine zD 300 ?_|(apply zB <;> intro hb <;> (try simp [-List.getD_eq_getElem?_getD] at hb) <;> try (exfalso;omega))|refine Ob.intro ?_ ?_|fail))
 ·have hli:(s.chans.getD (i:Int).toNat []).length≤1000000:=hli (by omega)
  refine ⟨⟨rfl,rfl⟩,by omega,?_⟩
  dsimp only
  refine Nat.le_trans (Nat.mul_le_mul_right _ (?_:_≤4000001)) (by decide +kernel);omega
 ·have hli:=hli (by omega)
  ((conv=>whnf);refine ⟨i+1,by omega,⟨_,Turn.join 15 16 19 rfl rfl rfl (by decide) (by exact (if_neg (Nat.lt_irrefl i)).trans ((if_pos (Nat.lt_succ_self i)).trans (by rw [Nat.sub_self];rfl))) (fun k hk=>⟨_,_,if_pos hk⟩),⟨qa,⟨?_,qba (fun k hk=>?_),qel (fun k hk=>?_) (fun k hk=>?_) (fun k j hk hj=>?_),trivial⟩⟩,⟨qa,qa⟩⟩,?_⟩;(first|omega|(dsimp only;omega)|skip))
  ·exact ⟨rfl,Le.refl _,Le.refl _,Le.refl _,Le.refl _,trivial⟩
  ·by_cases hki:k=i
   ·subst hki
    refine (if_pos rfl).trans ?_
    simp
   ·refine (if_neg hki).trans ?_
    exact if_pos (by omega)
  ·show Go.Sx.upd _ _ _ k=1
   unfold Go.Sx.upd
   by_cases hki:k=i
   ·subst hki;simp
   ·rw [if_neg hki];exact if_pos (by omega)
  ·show Go.Sx.upd _ _ _ k=_
   unfold Go.Sx.upd
   by_cases hki:k=i
   ·subst hki;simp
   ·rw [if_neg hki];exact if_pos (by omega)
  ·have hj:j<Go.Sx.upd (fun k=>if k<i then (s.chans.getD k []).length else 0) i (0+(s.chans.getD (i:Int).toNat []).length) k:=hj
   unfold Go.Sx.upd at hj
   show Go.Sx.upd (α:=Nat→List AV) _ _ _ k j=_
   unfold Go.Sx.upd
   by_cases hki:k=i
   ·subst hki
    rw [if_pos rfl] at hj
    rw [if_pos rfl]
    exact qjc (by simpa using hj)
   ·rw [if_neg hki]
  ·omega
 ·obtain rfl:i=s.chans.length:=by omega
  refine ⟨Le.refl _,⟨⟨rfl,rfl,by simp⟩,rfl,by simp,fun q hq=>LeL.of_eq (qjc (by simpa using hq))⟩,⟨⟨rfl,rfl,by simp⟩,rfl,by simp,fun q hq=>LeL.of_eq (qjc (by simpa using hq))⟩,qba (fun _ _=>rfl),qel (fun _ _=>rfl) (fun _ _=>rfl) (fun _ _ _ _=>rfl),trivial⟩
end Go.Proofs.YtcfllgdfhfcicaaGreatDoor
end
section
namespace Go.Proofs.YtcfllgdfhfcicaaGreatDoor
open List renaming getD_eq_getElem?_getD → zd
open Go Go.Sx Go.RowKit Go.St
set_option maxRecDepth 100000
set_option maxHeartbeats 4000000
def rowI (l:List Int):SO:=.row [] 3 1 0 l.length (encL (fun n=>[iv n]) 0 l)
def boxS (s:Stt):SO:=.box 76 [.own 1 0 0 s.at_.length,.own 2 0 0 s.vars.length,.own 3 0 0 s.chans.length,iv s.holder]
def rowC (l:List (List Int)):SO:=.row [] 28 1 0 l.length (encL (fun c=>[ints c]) [] l)
theorem jet (m:Md) (p:Int) (s:Stt) (h k:Int):val m p { s with holder:=h } k=val m p s k:=by
 have key:∀ (n:Nat) (k:Int),valN m p { s with holder:=h } n k=valN m p s n k:=by
  intro n
  induction n with
  | zero=>intro k;rfl
  | succ n ih=>intro k;unfold valN;simp only [ih]
 exact key _ k
theorem jeu {m:Md} {s:Stt} {p:Nat} {e:Ed} (h:canB m s p e=true) (h3:e.act=3):0<(s.chans.getD e.chn.toNat []).length:=by
 unfold canB qlen at h
 rw [if_neg (by omega),if_pos h3,Bool.and_eq_true] at h
 have:=of_decide_eq_true h.2
 omega
theorem qcc {α:Type} (enc:α→List AV) (d:α) (l:List α) (i:Nat) (x:α) (hi:i<l.length) (j:Nat):(if j=i then enc x else encL enc d l j)=encL enc d (l.set i x) j:=by
 unfold encL
 rw [qfw]
 by_cases h:j=i
 ·rw [if_pos h,if_pos ⟨h,hi⟩]
 ·rw [if_neg h,if_neg (fun h'=>h h'.1)]
theorem jsr (m:Md) (hM:ModOk m) (s:Stt) (hf:ql m s=true) (hh:s.holder=-1) (p:Nat) (hp:p<m.procs.length) (e:Ed) (he:EdOk m.tree.length m.vars.length m.chans.length (m.procs.getD p pr0).places e) (hc:canB m s p e=true) (h2:e.act≠2) :
  Trip Tryz.prog 120 [m.av,.ptr 0 0,iv p,.agg e.cells] [boxS s,rowI s.at_,rowI s.vars,rowC s.chans] (.tup [])
   [(0,.box 76 (qce m s p e).cells)] 4:=by
 have hs:=qck hM hf
 have h0:=((jh m s).1 hf).1
 have hsv:=qwj m hM.ok p s hs e.expr
 have hex:=he.ex
 have hvr:=he.var
 have hch:=he.chn
 have hto:=he.to
 have hat:p<s.at_.length:=by omega
 have hvl:=h0.2.1
 have hcl:=h0.2.2.1
 have hq:=jeu hc
 have hT:=qom hM hf (p:=p) hto (qon hc)
 have hTs:=qck hM hT
 have hmv:=jeg m hM.ok (qm m s p e) hT hTs p hp (pl:=(m.procs.getD p pr0).places) (fun e he=>(hM.pr _ (qh m.procs p pr0 hp)).ed e he) (hM.psz _ (qh m.procs p pr0 hp)).1
 unfold boxS rowI rowC
 refine zL {} 300 Tryz.func120 (fun c0 rdb mpb=>?_)
 have hA:∀ j,(if j=p then [iv e.to] else encL (fun n=>[iv n]) 0 s.at_ j)=encL (fun n=>[iv n]) 0 (s.at_.set p e.to) j:=qcc (fun n=>[iv n]) 0 s.at_ p e.to hat
 (repeat' ((conv=>whnf);first|refine zO ?_|refine Ob.auto ?_|refine zD 300 ?_|(apply zB <;> intro hb <;> (try simp [-zd] at hb) <;> try (exfalso;omega))))
 ·have h1:e.act=1:=by assumption
  ((conv=>whnf);refine zQ 300 ?_)
  ((conv=>whnf);refine CallY.lend (hsv) (by repeat' (first|exact trivial|exact ⟨rfl,rfl⟩|exact rfl|assumption|(refine And.intro ?_ ?_)|(intro _))) leA (by rfl) ?_)
  (repeat' ((conv=>whnf);first|refine zA ?_|fail))
  ((conv=>whnf);refine zQ 300 ?_)
  (repeat' ((conv=>whnf);first|refine zA ?_|refine zO ?_|refine Ob.auto ?_|(refine CallY.con (qlu (sval m p s e.expr).1 (m.vars.getD e.var.toNat vr0).width) (by rfl) leA ?_)|refine zD 300 ?_|fail))
  ((conv=>whnf);refine qdm [0,4,5] 0 rfl frzA ?_)
  have hTe:qm m s p e=⟨s.at_.set p e.to,s.vars.set e.var.toNat (trim (sval m p s e.expr).1 (m.vars.getD e.var.toNat vr0).width),s.chans,-1⟩:=by
   have h3:=hex (.inl h1)
   simp [qm,h1,sval,h3,hf,if_neg (show ¬ e.expr<0 by omega)]
  refine qrr 0 (qm m s p e).cells rfl (by
   rw [hTe]
   exact ⟨Le.slc (by simp) (fun j hj=>hA j),Le.slc (by simp) (fun j hj=>qcc (fun n=>[iv n]) 0 s.vars e.var.toNat _ (by omega) j),Le.refl _,Le.of_eq (congrArg (AV.int _) hh),trivial⟩) ?_
  (repeat' ((conv=>whnf);first|refine zA ?_|refine Ob.auto ?_|(refine CallZ.con (fun hg=>hmv) qhj (by rfl) ?_)|(refine zQ 300 ?_)|(apply zB <;> intro hb <;> (try simp [-zd] at hb) <;> try (exfalso;omega))))
  ·exact ⟨Le.refl _,⟨rfl,Le.refl _,Le.refl _,Le.refl _,Le.of_eq (congrArg (AV.int _) (if_pos hb).symm),trivial⟩,trivial⟩
  ·refine ⟨Le.refl _,⟨rfl,Le.refl _,Le.refl _,Le.refl _,Le.of_eq (congrArg (AV.int _) ?_),trivial⟩,trivial⟩
   refine Eq.trans (by rw [hTe]) (if_neg (fun h=>?_)).symm
   have:=hb h.1;rw [h.2] at this;cases this
 ·have h3:e.act=3:=by assumption
  ((conv=>whnf);refine zQ 300 ?_)
  (repeat' ((conv=>whnf);first|refine zA ?_|refine zO ?_|refine Ob.auto ?_|(refine CallY.con (qlu ((s.chans.getD e.chn.toNat []).getD 0 0) (m.vars.getD e.var.toNat vr0).width) (by rfl) leA ?_)|refine zD 300 ?_|fail))
  ((conv=>whnf);refine qdm [0,4,5] 0 rfl frzA ?_)
  have hD:∀ j,LeL (if j=e.chn.toNat then [AV.slc 1 ((s.chans.getD e.chn.toNat []).length - 1) fun i=>encL (fun n=>[iv n]) 0 (s.chans.getD e.chn.toNat []) (1+i)] else encL (fun c=>[ints c]) [] s.chans j) (encL (fun c=>[ints c]) [] (s.chans.set e.chn.toNat ((s.chans.getD e.chn.toNat []).drop 1)) j):=fun j=>by
   rw [← qcc (fun c=>[ints c]) [] s.chans e.chn.toNat _ (by omega) j]
   by_cases hj:j=e.chn.toNat
   ·rw [if_pos hj,if_pos hj]
    refine ⟨Le.slc (by simp) (fun q _=>?_),trivial⟩
    unfold encL
    rw [zd (l:=List.drop 1 _),List.getElem?_drop,← zd]
   ·rw [if_neg hj,if_neg hj];exact LeL.refl _
  have hTe:qm m s p e=⟨s.at_.set p e.to,s.vars.set e.var.toNat (trim ((s.chans.getD e.chn.toNat []).getD 0 0) (m.vars.getD e.var.toNat vr0).width),s.chans.set e.chn.toNat ((s.chans.getD e.chn.toNat []).drop 1),-1⟩:=by
   simp [qm,h3]
  refine qrr 0 (qm m s p e).cells rfl (by
   rw [hTe]
   refine ⟨Le.slc (by simp) (fun j hj=>hA j),Le.slc (by simp) (fun j hj=>qcc (fun n=>[iv n]) 0 s.vars e.var.toNat _ (by omega) j),Le.slcL (by simp) (fun j hj=>?_),Le.of_eq (congrArg (AV.int _) hh),trivial⟩
   exact hD j) ?_
  (repeat' ((conv=>whnf);first|refine zA ?_|refine Ob.auto ?_|(refine CallZ.con (fun hg=>hmv) qhj (by rfl) ?_)|(refine zQ 300 ?_)|(apply zB <;> intro hb <;> (try simp [-zd] at hb) <;> try (exfalso;omega))))
  ·exact ⟨Le.refl _,⟨rfl,Le.refl _,Le.refl _,Le.refl _,Le.of_eq (congrArg (AV.int _) (if_pos hb).symm),trivial⟩,trivial⟩
  ·refine ⟨Le.refl _,⟨rfl,Le.refl _,Le.refl _,Le.refl _,Le.of_eq (congrArg (AV.int _) ?_),trivial⟩,trivial⟩
   refine Eq.trans (by rw [hTe]) (if_neg (fun h=>?_)).symm
   have:=hb h.1;rw [h.2] at this;cases this
 ·((conv=>whnf);refine qdm [0,4,5] 0 rfl frzA ?_)
  have hTe:qm m s p e=⟨s.at_.set p e.to,s.vars,s.chans,-1⟩:=by simp [qm,h2, *]
  refine qrr 0 (qm m s p e).cells rfl (by
   rw [hTe]
   exact ⟨Le.slc (by simp) (fun j hj=>hA j),Le.refl _,Le.refl _,Le.of_eq (congrArg (AV.int _) hh),trivial⟩) ?_
  (repeat' ((conv=>whnf);first|refine zA ?_|refine Ob.auto ?_|(refine CallZ.con (fun hg=>hmv) qhj (by rfl) ?_)|(refine zQ 300 ?_)|(apply zB <;> intro hb <;> (try simp [-zd] at hb) <;> try (exfalso;omega))))
  ·exact ⟨Le.refl _,⟨rfl,Le.refl _,Le.refl _,Le.refl _,Le.of_eq (congrArg (AV.int _) (if_pos hb).symm),trivial⟩,trivial⟩
  ·refine ⟨Le.refl _,⟨rfl,Le.refl _,Le.refl _,Le.refl _,Le.of_eq (congrArg (AV.int _) ?_),trivial⟩,trivial⟩
   refine Eq.trans (by rw [hTe]) (if_neg (fun h=>?_)).symm
   have:=hb h.1;rw [h.2] at this;cases this
end Go.Proofs.YtcfllgdfhfcicaaGreatDoor
end
