/- Some texts of the library, one behind the other. -/
import Derived.Test.YthfaleaojlnnoaaY513
import Derived.Test.YthfaleaojlnnoaaY55
import Derived.Test.YthfaleaojlnnoaaY52
set_option linter.unusedSimpArgs false
set_option linter.unusedVariables false
section
namespace Go.St
open List renaming getD_eq_getElem?_getD → zd
open Go Go.Sx
def cntW (k:Int):Int:=if k=1∨k=2∨k=3∨k=6∨k=7∨k=18∨k=19 then 1 else if k=8 then 2 else 0
def bndF (k:Int):List (Int × Int):=
 if k=1 then [(0,999999),(0,999999),(0,1),(0,1)] else if k=2 then [(0,999999),(-999999,999999)] else if k=3∨k=17 then [(0,999999)]
 else if k=8∨k=9∨k=10 then [(0,1)] else if k=22 then [(0,8)] else []
def qan (ns:List Int) (bs:List (Int × Int)):Bool:=
 decide (ns.length=bs.length) && (List.range bs.length).all fun i=>decide ((bs.getD i (0,0)).1≤ns.getD i 0) && decide (ns.getD i 0≤(bs.getD i (0,0)).2)
def qci (k:Int):Int:=if 1≤k∧k≤5 then 1 else if 6≤k∧k≤15 then 2 else if 17≤k∧k≤22 then 3 else if k=16 then 4 else 0
def allK (ks:List Int) (s:Int):Bool:=ks.all fun k=>qci k == s
def areK (ks ss:List Int):Bool:=decide (ks.length=ss.length) && (List.range ss.length).all fun i=>qci (ks.getD i 0) == ss.getD i 0
def qrj (k:Int) (ks:List Int):Bool:=
 if k=0 then allK ks 1
 else if k=3 then allK (ks.dropWhile (· == 2)) 2
 else if k=16 then allK ks 2
 else if k=10 then decide (0<ks.length) && allK ks 4
 else if k=11 then areK ks [3,4] || areK ks [3,4,4]
 else if k=12 then areK ks [3,4]
 else if k=13 then areK ks [4]
 else if k=4∨k=6∨k=7∨k=9∨k=20∨k=21 then areK ks [3]
 else if k=22 then areK ks [3,3]
 else if k=1∨k=2∨k=5∨k=8∨k=14∨k=15∨k=17∨k=18∨k=19 then decide (ks.length=0)
 else false
def jbu (n:Nd) (ks:List Int):Bool:=qq n (cntW n.kind) && qan n.nums (bndF n.kind) && qrj n.kind ks
def qax (l:List Nd) (ks:List Int):List Int:=ks.map fun k=>(l.getD k.toNat nd0).kind
/-! A node. -/
theorem qmh (l:List Nd) (n:Nd) {i:Nat} (hi:i<n.kids.length):kidK l n i=(qax l n.kids).getD i 0:=by
 unfold kidK qax
 rw [zd (l:=n.kids),zd (l:=n.kids.map _),zi,zg hi]
 rfl
theorem qrk {α:Type} (q:α→Bool) (d:α) (l:List α):((List.range l.length).all fun i=>q (l.getD i d))=l.all q:=by
 rw [xh,zx,zx]
 constructor
 ·intro h x hx
  obtain ⟨i,hi,rfl⟩:=List.getElem_of_mem hx
  have:=h i (List.mem_range.2 hi)
  rwa [zd,zg hi] at this
 ·intro h i hi
  rw [zba] at hi
  rw [zd,zg hi]
  exact h _ (xj hi)
theorem qrl {n:Nat} {p q:Nat→Bool} (h:∀ i,i<n→p i=q i):(List.range n).all p=(List.range n).all q:=by
 rw [xh,zx,zx]
 exact ⟨fun a i hi=>by rw [← h i (List.mem_range.1 hi)];exact a i hi,fun a i hi=>by rw [h i (List.mem_range.1 hi)];exact a i hi⟩
def qew (ks:List Int) (first least most:Int):Bool:=
 ((List.range ks.length).all fun i=>!(decide ((i:Int)<first) && !inK (ks.getD i 0) 17 22 || decide (first≤(i:Int)) && ks.getD i 0 != 16)) && (decide (first+least≤(ks.length:Int)) && decide ((ks.length:Int)≤first+most))
theorem qmi (l:List Nd) (n:Nd) (a b c:Int):qbh l n a b c=qew (qax l n.kids) a b c:=by
 unfold qbh qew
 have hl:(qax l n.kids).length=n.kids.length:=by unfold qax;rw [zl]
 rw [hl]
 congr 1
 exact qrl fun i hi=>by rw [qmh l n hi]
theorem jbv (l:List Nd) (n:Nd) (a b:Int):allB l n 0 a b=(qax l n.kids).all fun k=>inK k a b:=by
 unfold allB
 have hl:(qax l n.kids).length=n.kids.length:=by unfold qax;rw [zl]
 rw [← qrk (fun k=>inK k a b) 0,hl]
 exact qrl fun i hi=>by rw [qmh l n hi,xa (xf i)];rfl
theorem sort1 (k:Int):(qci k == 1)=inK k 1 5:=by
 unfold qci inK
 rw [xh,xw,zh,zw,zw]
 repeat' split
 all_goals omega
theorem jbw (k:Int):(qci k == 2)=inK k 6 15:=by
 unfold qci inK
 rw [xh,xw,zh,zw,zw]
 repeat' split
 all_goals omega
theorem qmj (k:Int):(qci k == 3)=inK k 17 22:=by
 unfold qci inK
 rw [xh,xw,zh,zw,zw]
 repeat' split
 all_goals omega
theorem qmk (k:Int):(qci k == 4)=(k == 16):=by
 unfold qci
 rw [xh,xw,xw]
 repeat' split
 all_goals omega
theorem are_e (ks:List Int):areK ks [3]=qew ks 1 0 0:=by
 unfold areK qew
 match ks with
 | []=>rfl
 | [a]=>
  show (true && ((qci a == 3) && true))=_
  rw [qmj]
  show _=((!(true && !inK a 17 22 || false && a != 16) && true) && (true && true))
  cases inK a 17 22 <;> rfl
 | a::b::r=>
  rw [xa (by simp)]
  rw [show (decide ((((a::b::r).length:Nat):Int)≤1+0))=false from xa (by simp;omega)]
  simp
theorem are_b (ks:List Int):areK ks [4]=qew ks 0 1 1:=by
 unfold areK qew
 match ks with
 | []=>rfl
 | [a]=>
  show (true && ((qci a == 4) && true))=_
  rw [qmk]
  show _=((!(false && !inK a 17 22 || true && a != 16) && true) && (true && true))
  rw [show (a != 16)=!(a == 16) from rfl]
  cases (a == 16) <;> rfl
 | a::b::r=>
  rw [xa (by simp)]
  rw [show (decide ((((a::b::r).length:Nat):Int)≤0+1))=false from xa (by simp;omega)]
  simp
theorem jnp (ks:List Int):areK ks [3,4]=qew ks 1 1 1:=by
 unfold areK qew
 match ks with
 | []=>rfl
 | [a]=>simp
 | [a,b]=>
  show (true && ((qci a == 3) && ((qci b == 4) && true)))=_
  rw [qmj,qmk]
  show _=((!(true && !inK a 17 22 || false && a != 16) && (!(false && !inK b 17 22 || true && b != 16) && true)) && (true && true))
  rw [show (b != 16)=!(b == 16) from rfl]
  cases (b == 16) <;> cases inK a 17 22 <;> rfl
 | a::b::c::r=>
  rw [xa (by simp)]
  rw [show (decide ((((a::b::c::r).length:Nat):Int)≤1+1))=false from xa (by simp;omega)]
  simp
theorem jnq (ks:List Int):areK ks [3,3]=qew ks 2 0 0:=by
 unfold areK qew
 match ks with
 | []=>rfl
 | [a]=>simp
 | [a,b]=>
  show (true && ((qci a == 3) && ((qci b == 3) && true)))=_
  rw [qmj,qmj]
  show _=((!(true && !inK a 17 22 || false && a != 16) && (!(true && !inK b 17 22 || false && b != 16) && true)) && (true && true))
  cases inK b 17 22 <;> cases inK a 17 22 <;> rfl
 | a::b::c::r=>
  rw [xa (by simp)]
  rw [show (decide ((((a::b::c::r).length:Nat):Int)≤2+0))=false from xa (by simp;omega)]
  simp
theorem jnr (ks:List Int):(areK ks [3,4] || areK ks [3,4,4])=qew ks 1 1 2:=by
 unfold areK qew
 match ks with
 | []=>rfl
 | [a]=>simp
 | [a,b]=>
  show ((true && ((qci a == 3) && ((qci b == 4) && true))) || (false && _))=_
  rw [qmj,qmk]
  show _=((!(true && !inK a 17 22 || false && a != 16) && (!(false && !inK b 17 22 || true && b != 16) && true)) && (true && true))
  rw [show (b != 16)=!(b == 16) from rfl]
  cases (b == 16) <;> cases inK a 17 22 <;> rfl
 | [a,b,c]=>
  show ((false && _) || (true && ((qci a == 3) && ((qci b == 4) && ((qci c == 4) && true)))))=_
  rw [qmj,qmk,qmk]
  show _=((!(true && !inK a 17 22 || false && a != 16) && (!(false && !inK b 17 22 || true && b != 16) && (!(false && !inK c 17 22 || true && c != 16) && true))) && (true && true))
  rw [show (b != 16)=!(b == 16) from rfl,show (c != 16)=!(c == 16) from rfl]
  cases (b == 16) <;> cases (c == 16) <;> cases inK a 17 22 <;> rfl
 | a::b::c::d::r=>
  rw [xa (by simp),xa (by simp)]
  rw [show (decide ((((a::b::c::d::r).length:Nat):Int)≤1+2))=false from xa (by simp;omega)]
  simp
theorem jns (ks:List Int) (h:ks.length≤800):(decide (0<ks.length) && allK ks 4)=qew ks 0 1 800:=by
 unfold allK qew
 rw [show (fun k=>qci k == 4)=(fun k:Int=>k == 16) from funext qmk,← qrk (fun k:Int=>k == 16) 0]
 rw [show decide ((ks.length:Int)≤0+800)=true from zas (by omega),Bool.and_true,Bool.and_comm]
 congr 1
 ·exact qrl fun i hi=>by
   rw [show decide ((i:Int)<0)=false from xa (by omega),show decide ((0:Int)≤(i:Int))=true from zas (by omega)]
   rw [Bool.false_and,xx,Bool.true_and]
   show _=!!_
   rw [Bool.not_not]
 ·exact decide_eq_decide.2 (by omega)
theorem qrm (ns:List Int) (m:Int) (bs:List (Int × Int)) (h:∀ b∈bs,b=(0,m)):qan ns bs=(ns.all (fun x=>decide (0≤x) && decide (x≤m)) && ((ns.length:Int) == (bs.length:Int))):=by
 unfold qan
 by_cases hl:ns.length=bs.length
 ·rw [zas hl,Bool.true_and,show ((ns.length:Int) == (bs.length:Int))=true from beq_iff_eq.2 (by omega),Bool.and_true,← qrk (fun x=>decide (0≤x) && decide (x≤m)) 0,hl]
  refine qrl fun i hi=>?_
  have:bs.getD i (0,0)=(0,m):=by rw [zd,zg hi];exact h _ (xj hi)
  rw [this]
 ·rw [xa hl,show ((ns.length:Int) == (bs.length:Int))=false from beq_eq_false_iff_ne.2 (by omega),Bool.and_false,Bool.false_and]
theorem jnt (ns:List Int):qan ns [(0,999999),(0,999999),(0,1),(0,1)]=((ns.all (fun x=>decide (0≤x) && decide (x≤999999)) && ((ns.length:Int) == 4)) && decide (ns.getD 2 0≤1) && decide (ns.getD 3 0≤1)):=by
 unfold qan
 match ns with
 | []=>rfl
 | [a]=>simp
 | [a,b]=>simp
 | [a,b,c]=>simp
 | [a,b,c,d]=>
  rw [xh]
  simp [List.range_succ]
  omega
 | a::b::c::d::e::r=>
  rw [xa (by simp),show (((a::b::c::d::e::r).length:Int) == 4)=false from beq_eq_false_iff_ne.2 (by simp;omega)]
  simp
theorem jnu (ns:List Int):qan ns [(0,999999),(-999999,999999)]=(((ns.length:Int) == 2) && inK (ns.getD 0 0) 0 999999 && inK (ns.getD 1 0) (-999999) 999999):=by
 unfold qan inK
 match ns with
 | []=>rfl
 | [a]=>rfl
 | [a,b]=>
  rw [xh]
  simp [List.range_succ,and_assoc]
 | a::b::c::r=>
  rw [xa (by simp),show (((a::b::c::r).length:Int) == 2)=false from beq_eq_false_iff_ne.2 (by simp;omega)]
  simp
theorem jbx {α:Type} (p:α→Bool):∀ l:List α,l.dropWhile p=l.drop (l.takeWhile p).length
 | []=>rfl
 | x::r=>by
  rw [List.dropWhile_cons,List.takeWhile_cons]
  cases p x with
  | true=>exact jbx p r
  | false=>rfl
theorem jby {α:Type} (p:α→Bool) (d:α):∀ l:List α,(l.takeWhile p).length≤l.length∧(∀ j,j<(l.takeWhile p).length→p (l.getD j d)=true)∧((l.takeWhile p).length=l.length∨p (l.getD (l.takeWhile p).length d)=false)
 | []=>⟨zj _,fun j hj=>absurd hj (xf _),.inl rfl⟩
 | x::r=>by
  obtain ⟨h1,h2,h3⟩:=jby p d r
  rw [List.takeWhile_cons]
  cases hp:p x with
  | true=>
   rw [zf rfl,zr,zr]
   refine ⟨by omega,fun j hj=>?_,?_⟩
   ·cases j with
    | zero=>exact hp
    | succ j=>exact h2 j (by omega)
   ·rcases h3 with h3|h3
    ·exact .inl (by omega)
    ·exact .inr h3
  | false=>
   rw [ze (by simp)]
   exact ⟨xu _,fun j hj=>absurd hj (xf _),.inr hp⟩
theorem jnv (l:List Nd) (n:Nd) (a b:Int):allB l n (qgb l n) a b=((qax l n.kids).dropWhile (· == 2)).all fun k=>inK k a b:=by
 have hl:(qax l n.kids).length=n.kids.length:=by unfold qax;rw [zl]
 obtain ⟨h1,h2,h3⟩:=jby (· == 2) (0:Int) (qax l n.kids)
 have hv:qgb l n=((qax l n.kids).takeWhile (· == 2)).length:=by
  refine jat l n _ (by omega) (fun j hj=>?_) ?_
  ·have:=h2 j hj
   rw [qmh l n (by omega)]
   exact beq_iff_eq.1 this
  ·rcases h3 with h3|h3
   ·exact .inl (by omega)
   ·by_cases h4:((qax l n.kids).takeWhile (· == 2)).length<n.kids.length
    ·rw [qmh l n h4]
     exact .inr (beq_eq_false_iff_ne.1 h3)
    ·exact .inl (by omega)
 rw [hv,jbx]
 generalize ((qax l n.kids).takeWhile (· == 2)).length=v at h1
 rw [← qrk (fun k=>inK k a b) 0,zq,hl]
 unfold allB
 rw [xh,zx,zx]
 constructor
 ·intro h i hi
  rw [zba] at hi
  have:=h (v+i) (List.mem_range.2 (by omega))
  rw [xa (by omega),xx,qmh l n (by omega)] at this
  rw [zd,xg,← zd]
  exact this
 ·intro h i hi
  rw [zba] at hi
  by_cases hiv:i<v
  ·rw [zas hiv];rfl
  ·have:=h (i - v) (List.mem_range.2 (by omega))
   rw [zd,xg,← zd,show v+(i - v)=i by omega] at this
   rw [qmh l n hi,this,Bool.or_true]
def qvz (l:List Nd) (n:Nd) (k:Int):Bool:=
 if k=0 then qq n 0 && jb n 0 0 && allB l n 0 1 5
 else if k=1 then qq n 1 && jb n 4 999999 && decide (n.nums.getD 2 0≤1) && decide (n.nums.getD 3 0≤1) && (n.kids.length:Int) == 0
 else if k=2 then qq n 1 && (n.nums.length:Int) == 2 && inK (n.nums.getD 0 0) 0 999999 && inK (n.nums.getD 1 0) (-999999) 999999 && (n.kids.length:Int) == 0
 else if k=3 then qq n 1 && jb n 1 999999 && allB l n (qgb l n) 6 15
 else if k=4∨k=20∨k=21 then qq n 0 && jb n 0 0 && qbh l n 1 0 0
 else if k=5∨k=14∨k=15 then qq n 0 && jb n 0 0 && (n.kids.length:Int) == 0
 else if k=6∨k=7 then qq n 1 && jb n 0 0 && qbh l n 1 0 0
 else if k=8 then qq n 2 && jb n 1 1 && (n.kids.length:Int) == 0
 else if k=9 then qq n 0 && jb n 1 1 && qbh l n 1 0 0
 else if k=10 then qq n 0 && jb n 1 1 && qbh l n 0 1 800
 else if k=11 then qq n 0 && jb n 0 0 && qbh l n 1 1 2
 else if k=12 then qq n 0 && jb n 0 0 && qbh l n 1 1 1
 else if k=13 then qq n 0 && jb n 0 0 && qbh l n 0 1 1
 else if k=16 then qq n 0 && jb n 0 0 && allB l n 0 6 15
 else if k=17 then qq n 0 && jb n 1 999999 && (n.kids.length:Int) == 0
 else if k=18∨k=19 then qq n 1 && jb n 0 0 && (n.kids.length:Int) == 0
 else if k=22 then qq n 0 && jb n 1 8 && qbh l n 2 0 0
 else false
theorem jnw (l:List Nd) (n:Nd) (h:n.kids.length≤800):jbu n (qax l n.kids)=qbt l n:=by
 have W0:qan n.nums []=jb n 0 0:=qrm _ 0 [] (fun b hb=>absurd hb List.not_mem_nil)
 have W1:qan n.nums [(0,999999)]=jb n 1 999999:=qrm _ 999999 [(0,999999)] (fun b hb=>List.mem_singleton.1 hb)
 have Wf:qan n.nums [(0,1)]=jb n 1 1:=qrm _ 1 [(0,1)] (fun b hb=>List.mem_singleton.1 hb)
 have W8:qan n.nums [(0,8)]=jb n 1 8:=qrm _ 8 [(0,8)] (fun b hb=>List.mem_singleton.1 hb)
 have Wc:=jnt n.nums
 have Wv:=jnu n.nums
 have hl:(qax l n.kids).length=n.kids.length:=by unfold qax;rw [zl]
 have L0:decide ((qax l n.kids).length=0)=((n.kids.length:Int) == 0):=by
  rw [xh,zw,xw];omega
 have A1:allK (qax l n.kids) 1=allB l n 0 1 5:=by
  rw [jbv];unfold allK;rw [show (fun k=>qci k == 1)=(fun k:Int=>inK k 1 5) from funext sort1]
 have A2:allK (qax l n.kids) 2=allB l n 0 6 15:=by
  rw [jbv];unfold allK;rw [show (fun k=>qci k == 2)=(fun k:Int=>inK k 6 15) from funext jbw]
 have AV:allK ((qax l n.kids).dropWhile (· == 2)) 2=allB l n (qgb l n) 6 15:=by
  rw [jnv];unfold allK;rw [show (fun k=>qci k == 2)=(fun k:Int=>inK k 6 15) from funext jbw]
 have Ee:areK (qax l n.kids) [3]=qbh l n 1 0 0:=by rw [qmi,are_e]
 have Eb:areK (qax l n.kids) [4]=qbh l n 0 1 1:=by rw [qmi,are_b]
 have Eeb:areK (qax l n.kids) [3,4]=qbh l n 1 1 1:=by rw [qmi,jnp]
 have Eee:areK (qax l n.kids) [3,3]=qbh l n 2 0 0:=by rw [qmi,jnq]
 have Eif:(areK (qax l n.kids) [3,4] || areK (qax l n.kids) [3,4,4])=qbh l n 1 1 2:=by rw [qmi,jnr]
 have Ech:(decide (0<(qax l n.kids).length) && allK (qax l n.kids) 4)=qbh l n 0 1 800:=by rw [qmi,jns _ (by omega)]
 show (qq n (cntW n.kind) && qan n.nums (bndF n.kind) && qrj n.kind (qax l n.kids))=qvz l n n.kind
 generalize qax l n.kids=ks at L0 A1 A2 AV Ee Eb Eeb Eee Eif Ech
 generalize n.kind=k
 clear hl
 by_cases h0:k=0
 ·subst h0;show (qq n 0 && qan n.nums [] && allK ks 1)=_;rw [W0,A1];rfl
 by_cases h1:k=1
 ·subst h1;show (qq n 1 && qan n.nums [(0,999999),(0,999999),(0,1),(0,1)] && decide (ks.length=0))=(qq n 1 && jb n 4 999999 && decide (n.nums.getD 2 0≤1) && decide (n.nums.getD 3 0≤1) && (n.kids.length:Int) == 0)
  rw [Wc,L0,show (n.nums.all (fun x=>decide (0≤x) && decide (x≤999999)) && (n.nums.length:Int) == 4)=jb n 4 999999 from rfl]
  simp only [Bool.and_assoc]
 by_cases h2:k=2
 ·subst h2;show (qq n 1 && qan n.nums [(0,999999),(-999999,999999)] && decide (ks.length=0))=(qq n 1 && (n.nums.length:Int) == 2 && inK (n.nums.getD 0 0) 0 999999 && inK (n.nums.getD 1 0) (-999999) 999999 && (n.kids.length:Int) == 0)
  rw [Wv,L0]
  simp only [Bool.and_assoc]
 by_cases h3:k=3
 ·subst h3;show (qq n 1 && qan n.nums [(0,999999)] && allK (ks.dropWhile (· == 2)) 2)=_;rw [W1,AV];rfl
 by_cases h4:k=4
 ·subst h4;show (qq n 0 && qan n.nums [] && areK ks [3])=_;rw [W0,Ee];rfl
 by_cases h5:k=5
 ·subst h5;show (qq n 0 && qan n.nums [] && decide (ks.length=0))=_;rw [W0,L0];rfl
 by_cases h6:k=6
 ·subst h6;show (qq n 1 && qan n.nums [] && areK ks [3])=_;rw [W0,Ee];rfl
 by_cases h7:k=7
 ·subst h7;show (qq n 1 && qan n.nums [] && areK ks [3])=_;rw [W0,Ee];rfl
 by_cases h8:k=8
 ·subst h8;show (qq n 2 && qan n.nums [(0,1)] && decide (ks.length=0))=_;rw [Wf,L0];rfl
 by_cases h9:k=9
 ·subst h9;show (qq n 0 && qan n.nums [(0,1)] && areK ks [3])=_;rw [Wf,Ee];rfl
 by_cases h10:k=10
 ·subst h10;show (qq n 0 && qan n.nums [(0,1)] && (decide (0<ks.length) && allK ks 4))=_;rw [Wf,Ech];rfl
 by_cases h11:k=11
 ·subst h11;show (qq n 0 && qan n.nums [] && (areK ks [3,4] || areK ks [3,4,4]))=_;rw [W0,Eif];rfl
 by_cases h12:k=12
 ·subst h12;show (qq n 0 && qan n.nums [] && areK ks [3,4])=_;rw [W0,Eeb];rfl
 by_cases h13:k=13
 ·subst h13;show (qq n 0 && qan n.nums [] && areK ks [4])=_;rw [W0,Eb];rfl
 by_cases h14:k=14
 ·subst h14;show (qq n 0 && qan n.nums [] && decide (ks.length=0))=_;rw [W0,L0];rfl
 by_cases h15:k=15
 ·subst h15;show (qq n 0 && qan n.nums [] && decide (ks.length=0))=_;rw [W0,L0];rfl
 by_cases h16:k=16
 ·subst h16;show (qq n 0 && qan n.nums [] && allK ks 2)=_;rw [W0,A2];rfl
 by_cases h17:k=17
 ·subst h17;show (qq n 0 && qan n.nums [(0,999999)] && decide (ks.length=0))=_;rw [W1,L0];rfl
 by_cases h18:k=18
 ·subst h18;show (qq n 1 && qan n.nums [] && decide (ks.length=0))=_;rw [W0,L0];rfl
 by_cases h19:k=19
 ·subst h19;show (qq n 1 && qan n.nums [] && decide (ks.length=0))=_;rw [W0,L0];rfl
 by_cases h20:k=20
 ·subst h20;show (qq n 0 && qan n.nums [] && areK ks [3])=_;rw [W0,Ee];rfl
 by_cases h21:k=21
 ·subst h21;show (qq n 0 && qan n.nums [] && areK ks [3])=_;rw [W0,Ee];rfl
 by_cases h22:k=22
 ·subst h22;show (qq n 0 && qan n.nums [(0,8)] && areK ks [3,3])=_;rw [W8,Eee];rfl
 have k1:qrj k ks=false:=by
  unfold qrj
  repeat rw [ze (by omega)]
 have k2:qvz l n k=false:=by
  unfold qvz
  repeat rw [ze (by omega)]
 rw [k1,k2,Bool.and_false]
/-! Trees. -/
end Go.St
end
section
namespace Go.Proofs.Ythfaleaojlnnoaa
namespace Pa
open Go Go.Sx
theorem joa:∀ b:UInt8,Lx.digB b=true→48≤b.toNat∧b.toNat≤57:=by
 have h:∀ b:Fin 256,Lx.digB (UInt8.ofNat b)=true→48≤b.val∧b.val≤57:=by decide +kernel
 intro b hb
 have:=h ⟨b.toNat,b.toNat_lt⟩
 simp only [UInt8.ofNat_toNat] at this
 exact this hb
theorem jcc (p:UInt8→Bool):∀ l:List UInt8,∀ b∈l.take (Lx.spanN p l),p b=true
 | [],b,h=>by simp at h
 | x::r,b,h=>by
  rw [Lx.spanN] at h
  split at h
  ·rename_i hx
   rw [Nat.add_comm,List.take_succ_cons] at h
   rcases List.mem_cons.1 h with rfl|h
   ·exact hx
   ·exact jcc p r b h
  ·simp at h
theorem job (l:List UInt8):Lx.firstK l≠3:=by
 unfold Lx.firstK
 split
 ·decide
 ·split
  ·decide
  ·split <;> decide
theorem joc {l:List UInt8} (h:Lx.firstK l=1) (h0:Lx.firstN l≠0):(l.take (Lx.firstN l)).length≤6∧∀ b∈l.take (Lx.firstN l),48≤b.toNat∧b.toNat≤57:=by
 cases l with
 | nil=>simp [Lx.firstK] at h
 | cons x r=>
  unfold Lx.firstK at h
  unfold Lx.firstN at h0 ⊢
  simp only at h h0 ⊢
  split at h
  ·simp at h
  ·rename_i h2
   rw [ze h2] at h0 ⊢
   split at h
   ·rename_i h3
    rw [zf h3] at h0 ⊢
    split at h0
    ·exact absurd rfl h0
    ·rename_i h6
     rw [ze h6]
     refine ⟨?_,fun b hb=>joa b (jcc _ _ b hb)⟩
     rw [xi];omega
   ·simp at h
theorem jod:∀ (n:Nat) (l:List UInt8) (p:Nat) (ts:List Lx.Tok),l.length≤n→Lx.lexR l p=.ok ts→
  ∃ pre e,ts=pre++[⟨3,[],e⟩]∧(∀ t∈pre,t.kind≠3∧(t.kind=1→t.s.length≤6∧∀ b∈t.s,48≤b.toNat∧b.toNat≤57))∧pre.length≤l.length:=by
 intro n
 induction n with
 | zero=>
  intro l p ts hl h
  obtain rfl:l=[]:=List.length_eq_zero_iff.1 (by omega)
  rw [Lx.lexR_nil] at h
  cases h
  exact ⟨[],_,rfl,fun t ht=>by simp at ht,zj _⟩
 | succ n ih=>
  intro l p ts hl h
  cases l with
  | nil=>
   rw [Lx.lexR_nil] at h
   cases h
   exact ⟨[],_,rfl,fun t ht=>by simp at ht,zj _⟩
  | cons b r=>
   have hr:r.length≤n:=by simpa using hl
   rw [Lx.lexR_cons] at h
   split at h
   ·obtain ⟨pre,e,h1,h2,h3⟩:=ih r _ ts hr h
    exact ⟨pre,e,h1,h2,by simp;omega⟩
   split at h
   ·obtain ⟨pre,e,h1,h2,h3⟩:=ih (r.drop (Lx.lineN r)) _ ts (by rw [zq];omega) h
    exact ⟨pre,e,h1,h2,by rw [zq] at h3;simp;omega⟩
   split at h
   ·cases h
   ·rename_i h0
    cases hx:Lx.lexR (r.drop (Lx.firstN (b::r) - 1)) (p+Lx.firstN (b::r)) with
    | error e=>rw [hx] at h;cases h
    | ok ts'=>
     rw [hx] at h
     cases h
     obtain ⟨pre,e,h1,h2,h3⟩:=ih (r.drop (Lx.firstN (b::r) - 1)) _ ts' (by rw [zq];omega) hx
     refine ⟨⟨Lx.firstK (b::r),(b::r).take (Lx.firstN (b::r)),p⟩::pre,e,by rw [h1];rfl,fun t ht=>?_,by rw [zq] at h3;simp;omega⟩
     rcases List.mem_cons.1 ht with rfl|ht
     ·exact ⟨job (b::r),fun hk=>joc (l:=b::r) hk h0⟩
     ·exact h2 t ht
theorem qgi {s:List UInt8} (h:(Lx.lexAll s).2.1=0):ToksOk (Lx.lexAll s).1∧0<(Lx.lexAll s).1.length:=by
 unfold Lx.lexAll at h ⊢
 split at h
 ·simp at h
 rename_i hs
 rw [ze hs]
 split at h
 ·rename_i ts hts
  obtain ⟨pre,e,h1,h2,h3⟩:=jod _ s 0 ts (zj _) hts
  simp only
  subst h1
  refine ⟨⟨by simp;omega,fun i hi=>?_,fun t ht hk=>?_⟩,by simp⟩
  ·rw [List.getD_eq_getElem?_getD]
   by_cases hip:i<pre.length
   ·rw [zt hip,zg hip]
    have:=(h2 _ (xj hip)).1
    simp only [zaw,zv,List.length_singleton]
    constructor
    ·intro h;exact absurd h this
    ·intro h;omega
   ·have:i=pre.length:=by simp at hi;omega
    subst this
    rw [zn (zj _),zaa]
    simp
  ·rcases List.mem_append.1 ht with ht|ht
   ·exact (h2 t ht).2 hk
   ·rw [xq] at ht
    subst ht
    simp at hk
 ·simp at h
end Pa
end Go.Proofs.Ythfaleaojlnnoaa
end
