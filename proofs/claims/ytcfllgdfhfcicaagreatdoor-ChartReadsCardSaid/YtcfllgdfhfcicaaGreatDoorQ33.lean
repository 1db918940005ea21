/- Some texts of the library, one behind the other. -/
import Derived.Test.YtcfllgdfhfcicaaGreatDoorQ2
import Derived.Test.YtcfllgdfhfcicaaGreatDoorQ32
import Derived.Test.YtcfllgdfhfcicaaGreatDoorQ3
import Derived.Test.YtcfllgdfhfcicaaGreatDoorQ29
import Derived.Test.YtcfllgdfhfcicaaGreatDoorQ28
import Derived.Test.YtcfllgdfhfcicaaGreatDoorQ31
import Derived.Test.YtcfllgdfhfcicaaGreatDoorQ27
section
namespace Go.Proofs.YtcfllgdfhfcicaaGreatDoor
open List renaming getD_eq_getElem?_getD → zd
open Go Go.Sx Go.RowKit
set_option maxRecDepth 100000
set_option maxHeartbeats 4000000
theorem jto (ep n:Nat) (F:Nat→List AV) (used:Bool) (s:List UInt8) (hs:0<s.length) (hl:n+s.length≤140737488355328) :
  Trip Tryz.prog 26 [.ptr 0 0,.str s] [.box 59 [bif used then .ptr 0 0 else .nilp,.own 1 0 ep n],.row [] 5 1 ep n F] (.tup [.int .i64 s.length,.nili])
   [(0,.box 59 [.ptr 0 0,.own 1 0 ep (n+s.length)]),(1,.row [] 5 1 ep (n+s.length) (appF n F s.length (bytF s)))] 2:=
 jtg Tryz.func26 rfl (by kernel_rfl) ep n F used s hs fun w b v xs h1 h2 h3=>by
  have h:=jtn b used v n xs ⟨s.toArray⟩ w h1 h2 h3 (by simpa [ByteArray.size] using hl)
  have e:(⟨s.toArray⟩:ByteArray).size=s.length:=by simp [ByteArray.size]
  rw [e] at h
  exact h
theorem jfk (ep:Nat) (p:AV) (l:List UInt8) :
  Trip Tryz.prog 28 [.ptr 0 0] [.box 59 [p,.own 1 0 ep l.length],.row [] 5 1 ep l.length (bytF l)] (.str l) [] 2:=
 jth Tryz.func28 rfl (by kernel_rfl) ep p l
  (fun w b g lo cap p cur h0 h1 h2 h3 h4 h5 h6=>AnySb.string_some Tryz.lays169 Tryz.Builder_Extra_169 b g lo cap p cur l h0 w h1 h2 h3 h4 h5 h6)
  (fun w b p h=>AnySb.string_nil Tryz.lays169 Tryz.Builder_Extra_169 b p w h)
  (fun w b g lo cap p cur h1 h2=>by
   by_cases hc:cap=0
   ·subst hc;exact AnySb.string_noroom Tryz.lays169 Tryz.Builder_Extra_169 b g lo p cur w h1 h2
   ·exact AnySb.string_room Tryz.lays169 Tryz.Builder_Extra_169 b g lo cap p w hc h1)
theorem jtp (a b:List UInt8) (k:Nat) (hk:k<a.length+b.length):appF a.length (bytF a) b.length (bytF b) k=bytF (a++b) k:=by
 unfold appF bytF
 by_cases h:k<a.length
 ·rw [if_pos h,zd (l:=a++b),List.getElem?_append_left h,← zd]
 ·rw [if_neg h,if_pos hk,zd (l:=a++b),List.getElem?_append_right (by omega),← zd]
theorem qrc (used:Bool) (t s:List UInt8) (hs:0<s.length) (hl:t.length+s.length≤140737488355328) :
  Trip Tryz.prog 26 [.ptr 0 0,.str s] [.box 59 [bif used then .ptr 0 0 else .nilp,.own 1 0 0 t.length],.row [] 5 1 0 t.length (bytF t)] (.tup [.int .i64 s.length,.nili])
   [(0,.box 59 [.ptr 0 0,.own 1 0 0 (t++s).length]),(1,.row [] 5 1 0 (t++s).length (bytF (t++s)))] 2:=by
 have h:=jto 0 t.length (bytF t) used s hs hl
 intro c rd mp w vs h1 h2 h3 h4 h5
 refine (h c rd mp w vs h1 h2 h3 h4 h5).mono (fun v w' ⟨rd',mp',a1,a2,a3,a4⟩=>⟨rd',mp',a1,a2,a3,a4.weak ?_⟩) (fun _ _ h=>h)
 intro i x hx
 match i,hx with
 | 0,hx=>
  cases hx
  exact ⟨_,rfl,rfl,Le.refl _,Le.of_eq (congrArg (AV.own 1 0 0) (by simp)),trivial⟩
 | 1,hx=>
  cases hx
  exact ⟨_,rfl,⟨rfl,rfl,rfl⟩,rfl,by simp,fun k hk=>LeL.of_eq (jtp t s k hk)⟩
 | i+2,hx=>cases hx
end Go.Proofs.YtcfllgdfhfcicaaGreatDoor
end
section
namespace Go.Proofs.YtcfllgdfhfcicaaGreatDoor
open Go Go.Sx Go.RowKit Go.St
set_option maxRecDepth 100000
set_option maxHeartbeats 4000000

set_option maxHeartbeats 2000000
theorem jtq (m:Md) (hm:MOk m):Con Tryz.prog 87 [m.av] (qbo m).av:=by
 have hsz:=hm.sz
 refine zK {} 300 Tryz.func87 (fun c0 rdb=>?_)
 (repeat' ((conv=>whnf);first|refine zO ?_|refine Ob.auto ?_|(refine Ob.intro (by ((refine ⟨by omega,by omega,by omega,?_⟩;dsimp only;refine Int.le_trans (Int.mul_le_mul_of_nonneg_right (?_:_≤(4000001:Int)) (Int.natCast_nonneg _)) (by decide +kernel);omega))) ?_)|(refine zR 300 ?_)|fail))
 ((conv=>whnf);refine qm (fun _=>rfl) 300 1 (fun i:Nat=>[(22,iv i)]) (fun i=>[(9,.row [] 3 1 0 m.vars.length (fun j=>[if j<i then iv (m.vars.getD j vr0).value else iv 0]))]) (fun i=>i≤m.vars.length) (fun i=>m.vars.length - i) (0) (by omega) qa ⟨qbz (fun k _=>by kernel_rfl),trivial⟩ (fun _=>rfl) (by kernel_rfl) ?_;(conv=>whnf))
 intro i hi
 (repeat' ((conv=>whnf);first|refine Ob.auto ?_|(apply zB <;> intro hb <;> (try simp [-List.getD_eq_getElem?_getD] at hb) <;> try (exfalso;omega))))
 ·((conv=>whnf);refine ⟨i+1,by omega,⟨qa,qa⟩,⟨qa,qa⟩,?_⟩;(first|omega|(dsimp only;omega)|skip))
 ·obtain rfl:i=m.vars.length:=by omega
  refine Le.agg ⟨Le.slc (by simp [qbo]) (fun j hj=>?_),Le.slc (by simp [qbo]) (fun j hj=>?_),Le.slcL (by simp [qbo]) (fun j hj=>?_),Le.refl _,trivial⟩
  ·show _=[iv ((qbo m).at_.getD j 0)]
   rw [qbo,qtp _ _ _ _ (by simpa using hj)];kernel_rfl
  ·show [if j<m.vars.length then iv (m.vars.getD j vr0).value else iv 0]=[iv ((qbo m).vars.getD j 0)]
   rw [if_pos (by simpa using hj),qbo,jng _ _ _ _ vr0 (by simpa using hj)]
  ·show LeL [.nils] [ints ((qbo m).chans.getD j [])]
   rw [qbo,qtp _ _ _ _ (by simpa using hj)]
   exact ⟨Le.nils _ _,trivial⟩
set_option maxHeartbeats 4000000
def rightB (m:Md) (l:List Mv):Bool:=decide (nF m l=l.length) && badB m (stN m l (nF m l))
theorem jtr {m:Md} (hM:ModOk m) {l:List Mv} {i:Nat} (hf:qq m (stN m l i)=true) (hok:okN m l i=true):Con Tryz.prog 88 [m.av,(stN m l i).av,(l.getD i {}).av] (.tup [(stN m l (i+1)).av,.bool true]):=by
 have hdo:=jel m hM (stN m l i) (qfa hM hf) (l.getD i {})
 have hde:doB m (stN m l i) (l.getD i {})=true:=by unfold doB;rw [hf,Bool.true_and];exact hok
 unfold qqt at hdo
 rw [hde,if_pos rfl] at hdo
 exact hdo
theorem jts {m:Md} (hM:ModOk m) {l:List Mv} {i:Nat} (hf:qq m (stN m l i)=true) (hok:okN m l i=false):Con Tryz.prog 88 [m.av,(stN m l i).av,(l.getD i {}).av] (.tup [st0z.av,.bool false]):=by
 have hdo:=jel m hM (stN m l i) (qfa hM hf) (l.getD i {})
 have hde:doB m (stN m l i) (l.getD i {})=false:=by unfold doB;rw [hf,Bool.true_and];exact hok
 unfold qqt at hdo
 rw [hde,if_neg (by decide)] at hdo
 exact hdo

def boxG (m:Md) (n:Nat):SO:=.box 111 (m.cells++[.own 1 0 0 n,.own 2 0 0 m.chans.length])
def rowE (E:List Ev):SO:=.row [] 40 6 0 E.length (encL Ev.cells {} E)
def rowW (m:Md) (E:List Ev):SO:=.row [3] 28 1 0 m.chans.length (fun k=>[.own 3 k (jq E k) (qw E k).length])
def famW (m:Md) (E:List Ev):SO:=.fam 3 1 m.chans.length (fun k=>jq E k) (fun k=>(qw E k).length) (fun k=>encL (fun n:Nat=>[iv n]) 0 (qw E k))
theorem jtt (E:List Ev) (c:Int):(qw E c).length≤E.length:=by
 unfold qw qbj
 rw [List.length_drop]
 have:=List.length_filter_le (fun j=>qgl c (E.getD j {})) (List.range E.length)
 rw [List.length_range] at this
 omega
theorem jtu {L:List Nat} {x:Nat} {g:Nat→List AV} (hg:g 0=[iv x]) {j:Nat} (hj:j<L.length+1):appF L.length (encL (fun n:Nat=>[iv n]) 0 L) 1 g j=encL (fun n:Nat=>[iv n]) 0 (L++[x]) j:=by
 unfold appF encL
 rw [qks]
 by_cases hl:j<L.length
 ·rw [if_pos hl,if_pos hl]
 ·obtain rfl:j=L.length:=by omega
  rw [if_neg hl,if_neg hl,if_pos rfl,if_pos (by omega),Nat.sub_self,hg]
theorem jfl (m:Md) (E:List Ev) (hE:E.length≤1000000) (e:Ev) (c:Nat) (hc:c<m.chans.length) (hec:e.ch=c) (hp:qgl c e=true) (hg:jq E c≤(qbj E c).length):Trip Tryz.prog 90 [.ptr 0 0,e.av] [boxG m E.length,rowE E,rowW m E,famW m E] (.tup []) [(0,boxG m (E.length+1)),(1,rowE (E++[e])),(2,rowW m (E++[e])),(3,famW m (E++[e]))] 4:=by
 obtain ⟨k,mv,pr,ch,ms,fr⟩:=e
 simp only at hec
 subst hec
 unfold boxG rowE rowW famW
 refine zL {lit:=true} 300 Tryz.func90 (fun c0 rdb mpb=>?_)
 (repeat' ((conv=>whnf);first|refine zO ?_|refine Ob.auto ?_|refine zD 300 ?_|refine Ob.intro ?_ ?_|fail))
 ·have hwl:=jtt E c
  refine ⟨hc,⟨rfl,rfl⟩,⟨rfl,rfl⟩,show (qw E c).length+1≤9223372036854775807 by omega,?_⟩
  refine Nat.le_trans (Nat.mul_le_mul_right _ (show (qw E c).length+1≤4000001 by omega)) ?_
  dsimp only;decide +kernel
 ·exact ⟨⟨⟨rfl,rfl⟩,hc⟩,hc,by simp [upd],by simp [upd]⟩
 ·obtain ⟨e1,_,e2⟩:=qvv hp hg
  refine ⟨Le.refl _,⟨rfl,LeL.refl _⟩,qnu Ev.cells {} rfl rfl,⟨⟨rfl,rfl,rfl⟩,rfl,rfl,fun j hj=>?_⟩,qfx (fun j hj=>?_) (fun j hj=>?_) (fun j q hj hq=>?_),trivial⟩
  ·refine LeL.of_eq (show (if j=c then [AV.own 3 c (jq E c) ((qw E c).length+1)] else [AV.own 3 j (jq E j) (qw E j).length])=[AV.own 3 j (jq (E++[⟨k,mv,pr,c,ms,fr⟩]) j) (qw (E++[⟨k,mv,pr,c,ms,fr⟩]) j).length] from ?_)
   by_cases h:j=c
   ·subst h;rw [if_pos rfl,e1,e2,List.length_append];rfl
   ·obtain ⟨o1,_,o2⟩:=qgm (E:=E) (e:=⟨k,mv,pr,c,ms,fr⟩) (c:=(j:Int)) (by simp only;omega)
    rw [if_neg h,o1,o2]
  ·show Go.Sx.upd _ _ _ j=_
   unfold Go.Sx.upd
   by_cases h:j=c
   ·subst h;exact (if_pos rfl).trans e1.symm
   ·obtain ⟨o1,_,o2⟩:=qgm (E:=E) (e:=⟨k,mv,pr,c,ms,fr⟩) (c:=(j:Int)) (by simp only;omega)
    exact (if_neg h).trans o1.symm
  ·show Go.Sx.upd _ _ _ j=_
   unfold Go.Sx.upd
   by_cases h:j=c
   ·subst h;rw [e2,List.length_append];exact if_pos rfl
   ·obtain ⟨o1,_,o2⟩:=qgm (E:=E) (e:=⟨k,mv,pr,c,ms,fr⟩) (c:=(j:Int)) (by simp only;omega)
    rw [o2];exact if_neg h
  ·have hq:q<Go.Sx.upd (fun k=>(qw E k).length) c ((qw E c).length+1) j:=hq
   show Go.Sx.upd (α:=Nat→List AV) _ _ _ j q=_
   unfold Go.Sx.upd at hq ⊢
   by_cases h:j=c
   ·subst h
    rw [if_pos rfl] at hq
    refine (congrFun (if_pos rfl) q).trans ?_
    rw [e2]
    exact jtu rfl hq
   ·obtain ⟨o1,_,o2⟩:=qgm (E:=E) (e:=⟨k,mv,pr,c,ms,fr⟩) (c:=(j:Int)) (by simp only;omega)
    refine (congrFun (if_neg h) q).trans ?_
    rw [o2]
theorem jfm (m:Md) (E:List Ev) (hE:E.length≤1000000) (k mv pr ms fr:Int) (c:Nat) (hc:c<m.chans.length) (hp:qho c ⟨k,mv,pr,c,ms,(qw E c).getD 0 0⟩=true) (hg:jq E c≤(qbj E c).length) (hw:0<(qw E c).length) :
  Trip Tryz.prog 89 [.ptr 0 0,.agg [iv k,iv mv,iv pr,iv c,iv ms,iv fr]] [boxG m E.length,rowE E,rowW m E,famW m E] (.tup []) [(0,boxG m (E.length+1)),(1,rowE (E++[⟨k,mv,pr,c,ms,(qw E c).getD 0 0⟩])),(2,rowW m (E++[⟨k,mv,pr,c,ms,(qw E c).getD 0 0⟩])),(3,famW m (E++[⟨k,mv,pr,c,ms,(qw E c).getD 0 0⟩]))] 4:=by
 unfold boxG rowE rowW famW
 refine zL {lit:=true,cuts:=[29]} 300 Tryz.func89 (fun c0 rdb mpb=>?_)
 (repeat' ((conv=>whnf);first|refine zO ?_|refine Ob.auto ?_|refine zD 300 ?_|refine Ob.intro ?_ ?_|fail))
 ·exact ⟨hc,⟨rfl,rfl⟩,by decide,show (1:Int)≤((qw E c).length:Int) by omega⟩
 ·exact ⟨⟨⟨rfl,rfl⟩,hc⟩,hc,by simp [upd],by simp [upd]⟩
 ·obtain ⟨e1,_,e2⟩:=jdw hp hg hw
  refine ⟨Le.refl _,⟨rfl,LeL.refl _⟩,qnu Ev.cells {} rfl rfl,⟨⟨rfl,rfl,rfl⟩,rfl,rfl,fun j hj=>?_⟩,qfx (fun j hj=>?_) (fun j hj=>?_) (fun j q hj hq=>?_),trivial⟩
  ·refine LeL.of_eq (show (if j=c then [AV.own 3 c (jq E c+1) ((qw E c).length - 1)] else [AV.own 3 j (jq E j) (qw E j).length])=[AV.own 3 j (jq (E++[⟨k,mv,pr,c,ms,(qw E c).getD 0 0⟩]) j) (qw (E++[⟨k,mv,pr,c,ms,(qw E c).getD 0 0⟩]) j).length] from ?_)
   by_cases h:j=c
   ·subst h;rw [if_pos rfl,e1,e2,List.length_drop]
   ·obtain ⟨o1,_,o2⟩:=qgm (E:=E) (e:=⟨k,mv,pr,c,ms,(qw E c).getD 0 0⟩) (c:=(j:Int)) (by simp only;omega)
    rw [if_neg h,o1,o2]
  ·show Go.Sx.upd _ _ _ j=_
   unfold Go.Sx.upd
   by_cases h:j=c
   ·subst h;exact (if_pos rfl).trans e1.symm
   ·obtain ⟨o1,_,o2⟩:=qgm (E:=E) (e:=⟨k,mv,pr,c,ms,(qw E c).getD 0 0⟩) (c:=(j:Int)) (by simp only;omega)
    exact (if_neg h).trans o1.symm
  ·show Go.Sx.upd _ _ _ j=_
   unfold Go.Sx.upd
   by_cases h:j=c
   ·subst h;rw [e2,List.length_drop];exact if_pos rfl
   ·obtain ⟨o1,_,o2⟩:=qgm (E:=E) (e:=⟨k,mv,pr,c,ms,(qw E c).getD 0 0⟩) (c:=(j:Int)) (by simp only;omega)
    rw [o2];exact if_neg h
  ·show Go.Sx.upd (α:=Nat→List AV) _ _ _ j q=_
   unfold Go.Sx.upd
   by_cases h:j=c
   ·subst h
    refine (congrFun (if_pos rfl) q).trans ?_
    rw [e2]
    show encL (fun n:Nat=>[iv n]) 0 (qw E j) (1+q)=_
    unfold encL
    rw [List.getD_eq_getElem?_getD (l:=List.drop 1 _),List.getElem?_drop,← List.getD_eq_getElem?_getD]
   ·obtain ⟨o1,_,o2⟩:=qgm (E:=E) (e:=⟨k,mv,pr,c,ms,(qw E c).getD 0 0⟩) (c:=(j:Int)) (by simp only;omega)
    refine (congrFun (if_neg h) q).trans ?_
    rw [o2]
end Go.Proofs.YtcfllgdfhfcicaaGreatDoor
end
section
namespace Go.Proofs.YtcfllgdfhfcicaaGreatDoor
open List renaming getD_eq_getElem?_getD → zd
open Go Go.Sx Go.RowKit Go.St
set_option maxRecDepth 100000
set_option maxHeartbeats 4000000
theorem jtv (m:Md) (s t:Stt) (E:List Ev) (hE:E.length≤1000000) (i:Nat) (c:Nat) (hcl:s.chans.length=m.chans.length) (hW:qcy m s E) (hc:c<m.chans.length) (hq:0<(s.chans.getD c []).length) :
  Trip Tryz.prog 49 [.ptr 0 0,iv i,(⟨1,0,0,c⟩:Mv).av,s.av,t.av] [boxG m E.length,rowE E,rowW m E,famW m E] (.tup []) [(0,boxG m (E.length+1)),(1,rowE (E++[⟨2,i,-1,c,qba s c,qaz E c⟩])),(2,rowW m (E++[⟨2,i,-1,c,qba s c,qaz E c⟩])),(3,famW m (E++[⟨2,i,-1,c,qba s c,qaz E c⟩]))] 4:=by
 obtain ⟨w1,w2⟩:=hW c hc
 rw [qvu (by omega)]
 have ht:=jfm m E hE 2 i (-1) (qba s c) 0 c hc (decide_eq_true ⟨rfl,.inr rfl⟩) w1 (by omega)
 unfold boxG rowE rowW famW at *
 refine zL {} 300 Tryz.func49 (fun c0 rdb mpb=>?_)
 (repeat' ((conv=>whnf);first|(apply zB <;> intro hb <;> (try simp [-zd] at hb) <;> try (exfalso;omega))))
 ((conv=>whnf);refine zQ 300 ?_)
 (repeat' ((conv=>whnf);first|refine Ob.auto ?_|fail))
 ((conv=>whnf);refine CallY.trip [0,1,2,3] (ht) (by kernel_rfl) leA qa (by exact qcz ⟨fun _ _=>rfl,trivial⟩) (by exact qcz ⟨fun _ _=>rfl,trivial⟩) ?_)
 (repeat' ((conv=>whnf);first|refine zA ?_|fail))
 exact ⟨Le.refl _,SoLe.refl _,SoLe.refl _,SoLe.refl _,SoLe.refl _,trivial⟩
theorem jtw (m:Md) (s t:Stt) (E:List Ev) (hE:E.length≤1000000) (i:Nat) (c:Nat) (hcl:s.chans.length=m.chans.length) (hW:qcy m s E) (hc:c<m.chans.length) (hq:0<(s.chans.getD c []).length) :
  Trip Tryz.prog 49 [.ptr 0 0,iv i,(⟨2,0,0,c⟩:Mv).av,s.av,t.av] [boxG m E.length,rowE E,rowW m E,famW m E] (.tup []) [(0,boxG m (E.length+1)),(1,rowE (E++[⟨3,i,-1,c,qba s c,qaz E c⟩])),(2,rowW m (E++[⟨3,i,-1,c,qba s c,qaz E c⟩])),(3,famW m (E++[⟨3,i,-1,c,qba s c,qaz E c⟩]))] 4:=by
 obtain ⟨w1,w2⟩:=hW c hc
 rw [qvu (by omega)]
 have ht:=jfl m E hE ⟨3,i,-1,c,qba s c,((qw E c).getD 0 0:Nat)⟩ c hc rfl (decide_eq_true ⟨rfl,.inr rfl⟩) w1
 unfold boxG rowE rowW famW at *
 refine zL {} 300 Tryz.func49 (fun c0 rdb mpb=>?_)
 (repeat' ((conv=>whnf);first|(apply zB <;> intro hb <;> (try simp [-zd] at hb) <;> try (exfalso;omega))))
 ((conv=>whnf);refine zQ 300 ?_)
 (repeat' ((conv=>whnf);first|refine Ob.auto ?_|fail))
 ((conv=>whnf);refine CallY.trip [0,1,2,3] (ht) (by kernel_rfl) leA qa (by exact qcz ⟨fun _ _=>rfl,trivial⟩) (by exact qcz ⟨fun _ _=>rfl,trivial⟩) ?_)
 (repeat' ((conv=>whnf);first|refine zA ?_|fail))
 exact ⟨Le.refl _,SoLe.refl _,SoLe.refl _,SoLe.refl _,SoLe.refl _,trivial⟩
theorem jtx (m:Md) (s t:Stt) (E:List Ev) (hE:E.length≤1000000) (i P e c:Nat) (hW:qcy m s E) (hP:P<m.procs.length) (he:e<(m.procs.getD P pr0).edges.length) (ha:((m.procs.getD P pr0).edges.getD e ed0).act=2) (hx:((m.procs.getD P pr0).edges.getD e ed0).chn=c) (hc:c<m.chans.length) (htl:t.chans.length=m.chans.length) (hq:0<(t.chans.getD c []).length) (hqb:(t.chans.getD c []).length≤1000000) :
  Trip Tryz.prog 49 [.ptr 0 0,iv i,(⟨0,P,e,0⟩:Mv).av,s.av,t.av] [boxG m E.length,rowE E,rowW m E,famW m E] (.tup []) [(0,boxG m (E.length+1)),(1,rowE (E++[⟨0,i,P,c,qei t c,-1⟩])),(2,rowW m (E++[⟨0,i,P,c,qei t c,-1⟩])),(3,famW m (E++[⟨0,i,P,c,qei t c,-1⟩]))] 4:=by
 obtain ⟨w1,w2⟩:=hW c hc
 have ht:=jfl m E hE ⟨0,i,P,c,qei t c,-1⟩ c hc rfl (decide_eq_true ⟨rfl,.inl rfl⟩) w1
 unfold boxG rowE rowW famW at *
 have hq':0<(t.chans.getD ((m.procs.getD P pr0).edges.getD e ed0).chn.toNat []).length∧(t.chans.getD ((m.procs.getD P pr0).edges.getD e ed0).chn.toNat []).length≤1000000:=by rw [hx];exact ⟨hq,hqb⟩
 refine zL {} 300 Tryz.func49 (fun c0 rdb mpb=>?_)
 (repeat' ((conv=>whnf);first|refine zO ?_|refine Ob.auto ?_|(refine Ob.intro (by (first|exact ⟨by omega,by omega⟩|exact ⟨show (-9223372036854775808:Int)≤((t.chans.getD ((m.procs.getD P pr0).edges.getD e ed0).chn.toNat []).length:Int) - 1 by omega,show ((t.chans.getD ((m.procs.getD P pr0).edges.getD e ed0).chn.toNat []).length:Int) - 1≤9223372036854775807 by omega⟩|exact ⟨show (0:Int)≤((t.chans.getD ((m.procs.getD P pr0).edges.getD e ed0).chn.toNat []).length:Int) - 1 by omega,show ((t.chans.getD ((m.procs.getD P pr0).edges.getD e ed0).chn.toNat []).length:Int) - 1<((t.chans.getD ((m.procs.getD P pr0).edges.getD e ed0).chn.toNat []).length:Int) by omega⟩)) ?_)|refine zD 300 ?_|(apply zB <;> intro hb <;> (try simp [-zd] at hb) <;> try (exfalso;omega))))
 ((conv=>whnf);refine qdd (fun _=>rfl) 300 [0,1,2,3] (ht) (by kernel_rfl) ⟨Le.refl _,Le.agg ⟨Le.refl _,Le.refl _,Le.refl _,Le.of_eq (congrArg (AV.int _) hx),Le.of_eq (congrArg (AV.int _) ?_),Le.refl _,trivial⟩,trivial⟩ qa (by exact qcz ⟨fun _ _=>rfl,trivial⟩) (by exact qcz ⟨fun _ _=>rfl,trivial⟩) (by kernel_rfl) ?_)
 ·show (t.chans.getD ((m.procs.getD P pr0).edges.getD e ed0).chn.toNat []).getD (((t.chans.getD ((m.procs.getD P pr0).edges.getD e ed0).chn.toNat []).length:Int) - 1).toNat 0=qei t c
  unfold qei
  rw [hx,show ∀ n:Nat,((n:Int) - 1).toNat=n - 1 from fun n=>by omega]
 exact ⟨Le.refl _,SoLe.refl _,SoLe.refl _,SoLe.refl _,SoLe.refl _,trivial⟩
theorem jty (m:Md) (s t:Stt) (E:List Ev) (hE:E.length≤1000000) (i P e c:Nat) (hW:qcy m s E) (hP:P<m.procs.length) (he:e<(m.procs.getD P pr0).edges.length) (ha:((m.procs.getD P pr0).edges.getD e ed0).act=3) (hx:((m.procs.getD P pr0).edges.getD e ed0).chn=c) (hc:c<m.chans.length) (hcl:s.chans.length=m.chans.length) (hq:0<(s.chans.getD c []).length) :
  Trip Tryz.prog 49 [.ptr 0 0,iv i,(⟨0,P,e,0⟩:Mv).av,s.av,t.av] [boxG m E.length,rowE E,rowW m E,famW m E] (.tup []) [(0,boxG m (E.length+1)),(1,rowE (E++[⟨1,i,P,c,qba s c,qaz E c⟩])),(2,rowW m (E++[⟨1,i,P,c,qba s c,qaz E c⟩])),(3,famW m (E++[⟨1,i,P,c,qba s c,qaz E c⟩]))] 4:=by
 obtain ⟨w1,w2⟩:=hW c hc
 rw [qvu (by omega)]
 have ht:=jfm m E hE 1 i P (qba s c) 0 c hc (decide_eq_true ⟨rfl,.inl rfl⟩) w1 (by omega)
 unfold boxG rowE rowW famW at *
 have hq':0<(s.chans.getD ((m.procs.getD P pr0).edges.getD e ed0).chn.toNat []).length:=by rw [hx];exact hq
 refine zL {} 300 Tryz.func49 (fun c0 rdb mpb=>?_)
 (repeat' ((conv=>whnf);first|refine zO ?_|refine Ob.auto ?_|refine zD 300 ?_|(apply zB <;> intro hb <;> (try simp [-zd] at hb) <;> try (exfalso;omega))))
 ((conv=>whnf);refine qdd (fun _=>rfl) 300 [0,1,2,3] (ht) (by kernel_rfl) ⟨Le.refl _,Le.agg ⟨Le.refl _,Le.refl _,Le.refl _,Le.of_eq (congrArg (AV.int _) hx),Le.of_eq (congrArg (AV.int _) ?_),Le.refl _,trivial⟩,trivial⟩ qa (by exact qcz ⟨fun _ _=>rfl,trivial⟩) (by exact qcz ⟨fun _ _=>rfl,trivial⟩) (by kernel_rfl) ?_)
 ·show (s.chans.getD ((m.procs.getD P pr0).edges.getD e ed0).chn.toNat []).getD 0 0=qba s c
  unfold qba
  rw [hx]
 exact ⟨Le.refl _,SoLe.refl _,SoLe.refl _,SoLe.refl _,SoLe.refl _,trivial⟩
theorem jtz (m:Md) (s t:Stt) (E:List Ev) (i P e:Nat) (hP:P<m.procs.length) (he:e<(m.procs.getD P pr0).edges.length) (h2:((m.procs.getD P pr0).edges.getD e ed0).act≠2) (h3:((m.procs.getD P pr0).edges.getD e ed0).act≠3) :
  Trip Tryz.prog 49 [.ptr 0 0,iv i,(⟨0,P,e,0⟩:Mv).av,s.av,t.av] [boxG m E.length,rowE E,rowW m E,famW m E] (.tup []) [(0,boxG m E.length),(1,rowE E),(2,rowW m E),(3,famW m E)] 4:=by
 unfold boxG rowE rowW famW at *
 refine zL {} 300 Tryz.func49 (fun c0 rdb mpb=>?_)
 (repeat' ((conv=>whnf);first|refine zO ?_|refine Ob.auto ?_|refine zD 300 ?_|(apply zB <;> intro hb <;> (try simp [-zd] at hb) <;> try (exfalso;omega))))
 exact ⟨Le.refl _,SoLe.refl _,SoLe.refl _,SoLe.refl _,SoLe.refl _,trivial⟩
end Go.Proofs.YtcfllgdfhfcicaaGreatDoor
end
