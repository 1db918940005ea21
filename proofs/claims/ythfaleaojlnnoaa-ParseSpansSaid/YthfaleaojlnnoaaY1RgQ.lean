/- Which lists are trees: the program's way is the document's. Plain. -/
import Derived.Test.YthfaleaojlnnoaaY1RgP
import Derived.Test.YthfaleaojlnnoaaY12
set_option linter.unusedSimpArgs false
set_option linter.unusedVariables false
namespace Go.St
open List renaming getD_eq_getElem?_getD → zd
open Go Go.Sx
theorem qya {α:Type} (p:α→Bool):∀ l:List α,l.dropWhile p=l.drop (l.takeWhile p).length
 | []=>rfl
 | x::r=>by
  rw [List.dropWhile_cons,List.takeWhile_cons]
  cases p x with
  | true=>exact qya p r
  | false=>rfl
theorem qyb {α:Type} (p:α→Bool) (d:α):∀ l:List α,(l.takeWhile p).length≤l.length∧(∀ j,j<(l.takeWhile p).length→p (l.getD j d)=true)∧((l.takeWhile p).length=l.length∨p (l.getD (l.takeWhile p).length d)=false)
 | []=>⟨zi _,fun j hj=>absurd hj (xq _),.inl rfl⟩
 | x::r=>by
  obtain ⟨h1,h2,h3⟩:=qyb p d r
  rw [List.takeWhile_cons]
  cases hp:p x with
  | true=>
   rw [zb rfl,zo,zo]
   refine ⟨by omega,fun j hj=>?_,?_⟩
   ·cases j with
    | zero=>exact hp
    | succ j=>exact h2 j (by omega)
   ·rcases h3 with h3|h3
    ·exact .inl (by omega)
    ·exact .inr h3
  | false=>
   rw [za (by simp)]
   exact ⟨xt _,fun j hj=>absurd hj (xq _),.inr hp⟩
theorem jib (l:List Nd) (n:Nd) (a b:Int):allB l n (qek l n) a b=((qai l n.kids).dropWhile (· == 2)).all fun k=>inK k a b:=by
 have hl:(qai l n.kids).length=n.kids.length:=by unfold qai;rw [zr]
 obtain ⟨h1,h2,h3⟩:=qyb (· == 2) (0:Int) (qai l n.kids)
 have hv:qek l n=((qai l n.kids).takeWhile (· == 2)).length:=by
  refine qxn l n _ (by omega) (fun j hj=>?_) ?_
  ·have:=h2 j hj
   rw [qjy l n (by omega)]
   exact beq_iff_eq.1 this
  ·rcases h3 with h3|h3
   ·exact .inl (by omega)
   ·by_cases h4:((qai l n.kids).takeWhile (· == 2)).length<n.kids.length
    ·rw [qjy l n h4]
     exact .inr (beq_eq_false_iff_ne.1 h3)
    ·exact .inl (by omega)
 rw [hv,qya]
 generalize ((qai l n.kids).takeWhile (· == 2)).length=v at h1
 rw [← qoq (fun k=>inK k a b) 0,zp,hl]
 unfold allB
 rw [xd,zs,zs]
 constructor
 ·intro h i hi
  rw [zam] at hi
  have:=h (v+i) (List.mem_range.2 (by omega))
  rw [zt (by omega),xn,qjy l n (by omega)] at this
  rw [zd,zx,← zd]
  exact this
 ·intro h i hi
  rw [zam] at hi
  by_cases hiv:i<v
  ·rw [zal hiv];rfl
  ·have:=h (i - v) (List.mem_range.2 (by omega))
   rw [zd,zx,← zd,show v+(i - v)=i by omega] at this
   rw [qjy l n hi,this,Bool.or_true]
def qst (l:List Nd) (n:Nd) (k:Int):Bool:=
 if k=0 then qj n 0 && qv n 0 0 && allB l n 0 1 5
 else if k=1 then qj n 1 && qv n 4 999999 && decide (n.nums.getD 2 0≤1) && decide (n.nums.getD 3 0≤1) && (n.kids.length:Int) == 0
 else if k=2 then qj n 1 && (n.nums.length:Int) == 2 && inK (n.nums.getD 0 0) 0 999999 && inK (n.nums.getD 1 0) (-999999) 999999 && (n.kids.length:Int) == 0
 else if k=3 then qj n 1 && qv n 1 999999 && allB l n (qek l n) 6 15
 else if k=4∨k=20∨k=21 then qj n 0 && qv n 0 0 && qao l n 1 0 0
 else if k=5∨k=14∨k=15 then qj n 0 && qv n 0 0 && (n.kids.length:Int) == 0
 else if k=6∨k=7 then qj n 1 && qv n 0 0 && qao l n 1 0 0
 else if k=8 then qj n 2 && qv n 1 1 && (n.kids.length:Int) == 0
 else if k=9 then qj n 0 && qv n 1 1 && qao l n 1 0 0
 else if k=10 then qj n 0 && qv n 1 1 && qao l n 0 1 800
 else if k=11 then qj n 0 && qv n 0 0 && qao l n 1 1 2
 else if k=12 then qj n 0 && qv n 0 0 && qao l n 1 1 1
 else if k=13 then qj n 0 && qv n 0 0 && qao l n 0 1 1
 else if k=16 then qj n 0 && qv n 0 0 && allB l n 0 6 15
 else if k=17 then qj n 0 && qv n 1 999999 && (n.kids.length:Int) == 0
 else if k=18∨k=19 then qj n 1 && qv n 0 0 && (n.kids.length:Int) == 0
 else if k=22 then qj n 0 && qv n 1 8 && qao l n 2 0 0
 else false
theorem jic (l:List Nd) (n:Nd) (h:n.kids.length≤800):qxx n (qai l n.kids)=qaw l n:=by
 have W0:jv n.nums []=qv n 0 0:=qos _ 0 [] (fun b hb=>absurd hb List.not_mem_nil)
 have W1:jv n.nums [(0,999999)]=qv n 1 999999:=qos _ 999999 [(0,999999)] (fun b hb=>List.mem_singleton.1 hb)
 have Wf:jv n.nums [(0,1)]=qv n 1 1:=qos _ 1 [(0,1)] (fun b hb=>List.mem_singleton.1 hb)
 have W8:jv n.nums [(0,8)]=qv n 1 8:=qos _ 8 [(0,8)] (fun b hb=>List.mem_singleton.1 hb)
 have Wc:=jhz n.nums
 have Wv:=jia n.nums
 have hl:(qai l n.kids).length=n.kids.length:=by unfold qai;rw [zr]
 have L0:decide ((qai l n.kids).length=0)=((n.kids.length:Int) == 0):=by
  rw [xd,zw,xr];omega
 have A1:allK (qai l n.kids) 1=allB l n 0 1 5:=by
  rw [qxy];unfold allK;rw [show (fun k=>qbb k == 1)=(fun k:Int=>inK k 1 5) from funext sort1]
 have A2:allK (qai l n.kids) 2=allB l n 0 6 15:=by
  rw [qxy];unfold allK;rw [show (fun k=>qbb k == 2)=(fun k:Int=>inK k 6 15) from funext qxz]
 have AV:allK ((qai l n.kids).dropWhile (· == 2)) 2=allB l n (qek l n) 6 15:=by
  rw [jib];unfold allK;rw [show (fun k=>qbb k == 2)=(fun k:Int=>inK k 6 15) from funext qxz]
 have Ee:areK (qai l n.kids) [3]=qao l n 1 0 0:=by rw [qjz,are_e]
 have Eb:areK (qai l n.kids) [4]=qao l n 0 1 1:=by rw [qjz,are_b]
 have Eeb:areK (qai l n.kids) [3,4]=qao l n 1 1 1:=by rw [qjz,jhv]
 have Eee:areK (qai l n.kids) [3,3]=qao l n 2 0 0:=by rw [qjz,jhw]
 have Eif:(areK (qai l n.kids) [3,4] || areK (qai l n.kids) [3,4,4])=qao l n 1 1 2:=by rw [qjz,jhx]
 have Ech:(decide (0<(qai l n.kids).length) && allK (qai l n.kids) 4)=qao l n 0 1 800:=by rw [qjz,jhy _ (by omega)]
 show (qj n (cntW n.kind) && jv n.nums (bndF n.kind) && qop n.kind (qai l n.kids))=qst l n n.kind
 generalize qai l n.kids=ks at L0 A1 A2 AV Ee Eb Eeb Eee Eif Ech
 generalize n.kind=k
 clear hl
 by_cases h0:k=0
 ·subst h0;show (qj n 0 && jv n.nums [] && allK ks 1)=_;rw [W0,A1];rfl
 by_cases h1:k=1
 ·subst h1;show (qj n 1 && jv n.nums [(0,999999),(0,999999),(0,1),(0,1)] && decide (ks.length=0))=(qj n 1 && qv n 4 999999 && decide (n.nums.getD 2 0≤1) && decide (n.nums.getD 3 0≤1) && (n.kids.length:Int) == 0)
  rw [Wc,L0,show (n.nums.all (fun x=>decide (0≤x) && decide (x≤999999)) && (n.nums.length:Int) == 4)=qv n 4 999999 from rfl]
  simp only [Bool.and_assoc]
 by_cases h2:k=2
 ·subst h2;show (qj n 1 && jv n.nums [(0,999999),(-999999,999999)] && decide (ks.length=0))=(qj n 1 && (n.nums.length:Int) == 2 && inK (n.nums.getD 0 0) 0 999999 && inK (n.nums.getD 1 0) (-999999) 999999 && (n.kids.length:Int) == 0)
  rw [Wv,L0]
  simp only [Bool.and_assoc]
 by_cases h3:k=3
 ·subst h3;show (qj n 1 && jv n.nums [(0,999999)] && allK (ks.dropWhile (· == 2)) 2)=_;rw [W1,AV];rfl
 by_cases h4:k=4
 ·subst h4;show (qj n 0 && jv n.nums [] && areK ks [3])=_;rw [W0,Ee];rfl
 by_cases h5:k=5
 ·subst h5;show (qj n 0 && jv n.nums [] && decide (ks.length=0))=_;rw [W0,L0];rfl
 by_cases h6:k=6
 ·subst h6;show (qj n 1 && jv n.nums [] && areK ks [3])=_;rw [W0,Ee];rfl
 by_cases h7:k=7
 ·subst h7;show (qj n 1 && jv n.nums [] && areK ks [3])=_;rw [W0,Ee];rfl
 by_cases h8:k=8
 ·subst h8;show (qj n 2 && jv n.nums [(0,1)] && decide (ks.length=0))=_;rw [Wf,L0];rfl
 by_cases h9:k=9
 ·subst h9;show (qj n 0 && jv n.nums [(0,1)] && areK ks [3])=_;rw [Wf,Ee];rfl
 by_cases h10:k=10
 ·subst h10;show (qj n 0 && jv n.nums [(0,1)] && (decide (0<ks.length) && allK ks 4))=_;rw [Wf,Ech];rfl
 by_cases h11:k=11
 ·subst h11;show (qj n 0 && jv n.nums [] && (areK ks [3,4] || areK ks [3,4,4]))=_;rw [W0,Eif];rfl
 by_cases h12:k=12
 ·subst h12;show (qj n 0 && jv n.nums [] && areK ks [3,4])=_;rw [W0,Eeb];rfl
 by_cases h13:k=13
 ·subst h13;show (qj n 0 && jv n.nums [] && areK ks [4])=_;rw [W0,Eb];rfl
 by_cases h14:k=14
 ·subst h14;show (qj n 0 && jv n.nums [] && decide (ks.length=0))=_;rw [W0,L0];rfl
 by_cases h15:k=15
 ·subst h15;show (qj n 0 && jv n.nums [] && decide (ks.length=0))=_;rw [W0,L0];rfl
 by_cases h16:k=16
 ·subst h16;show (qj n 0 && jv n.nums [] && allK ks 2)=_;rw [W0,A2];rfl
 by_cases h17:k=17
 ·subst h17;show (qj n 0 && jv n.nums [(0,999999)] && decide (ks.length=0))=_;rw [W1,L0];rfl
 by_cases h18:k=18
 ·subst h18;show (qj n 1 && jv n.nums [] && decide (ks.length=0))=_;rw [W0,L0];rfl
 by_cases h19:k=19
 ·subst h19;show (qj n 1 && jv n.nums [] && decide (ks.length=0))=_;rw [W0,L0];rfl
 by_cases h20:k=20
 ·subst h20;show (qj n 0 && jv n.nums [] && areK ks [3])=_;rw [W0,Ee];rfl
 by_cases h21:k=21
 ·subst h21;show (qj n 0 && jv n.nums [] && areK ks [3])=_;rw [W0,Ee];rfl
 by_cases h22:k=22
 ·subst h22;show (qj n 0 && jv n.nums [(0,8)] && areK ks [3,3])=_;rw [W8,Eee];rfl
 have k1:qop k ks=false:=by
  unfold qop
  repeat rw [za (by omega)]
 have k2:qst l n k=false:=by
  unfold qst
  repeat rw [za (by omega)]
 rw [k1,k2,Bool.and_false]
/-! Trees. -/
end Go.St
