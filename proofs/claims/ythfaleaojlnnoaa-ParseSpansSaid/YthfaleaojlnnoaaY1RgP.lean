/- Which lists are trees, as the program says it: plain, and the same as the document's. -/
import Derived.Test.YthfaleaojlnnoaaY18
import Derived.Test.YthfaleaojlnnoaaY12
set_option linter.unusedSimpArgs false
set_option linter.unusedVariables false
namespace Go.St
open List renaming getD_eq_getElem?_getD → zd
open Go Go.Sx
def cntW (k:Int):Int:=if k=1∨k=2∨k=3∨k=6∨k=7∨k=18∨k=19 then 1 else if k=8 then 2 else 0
def bndF (k:Int):List (Int × Int):=
 if k=1 then [(0,999999),(0,999999),(0,1),(0,1)] else if k=2 then [(0,999999),(-999999,999999)] else if k=3∨k=17 then [(0,999999)]
 else if k=8∨k=9∨k=10 then [(0,1)] else if k=22 then [(0,8)] else []
def jv (ns:List Int) (bs:List (Int × Int)):Bool:=
 decide (ns.length=bs.length) && (List.range bs.length).all fun i=>decide ((bs.getD i (0,0)).1≤ns.getD i 0) && decide (ns.getD i 0≤(bs.getD i (0,0)).2)
def qbb (k:Int):Int:=if 1≤k∧k≤5 then 1 else if 6≤k∧k≤15 then 2 else if 17≤k∧k≤22 then 3 else if k=16 then 4 else 0
def allK (ks:List Int) (s:Int):Bool:=ks.all fun k=>qbb k == s
def areK (ks ss:List Int):Bool:=decide (ks.length=ss.length) && (List.range ss.length).all fun i=>qbb (ks.getD i 0) == ss.getD i 0
def qop (k:Int) (ks:List Int):Bool:=
 if k=0 then allK ks 1
 else if k=3 then allK (ks.dropWhile (· == 2)) 2
 else if k=16 then allK ks 2
 else if k=10 then decide (0<ks.length) && allK ks 4
 else if k=11 then areK ks [3,4] || areK ks [3,4,4]
 else if k=12 then areK ks [3,4]
 else if k=13 then areK ks [4]
 else if k=4∨k=6∨k=7∨k=9∨k=20∨k=21 then areK ks [3]
 else if k=22 then areK ks [3,3]
 else if k=1∨k=2∨k=5∨k=8∨k=14∨k=15∨k=17∨k=18∨k=19 then decide (ks.length=0)
 else false
def qxx (n:Nd) (ks:List Int):Bool:=qj n (cntW n.kind) && jv n.nums (bndF n.kind) && qop n.kind ks
def qai (l:List Nd) (ks:List Int):List Int:=ks.map fun k=>(l.getD k.toNat nd0).kind
/-! A node. -/
theorem qjy (l:List Nd) (n:Nd) {i:Nat} (hi:i<n.kids.length):kidK l n i=(qai l n.kids).getD i 0:=by
 unfold kidK qai
 rw [zd (l:=n.kids),zd (l:=n.kids.map _),zg,ze hi]
 rfl
theorem qoq {α:Type} (q:α→Bool) (d:α) (l:List α):((List.range l.length).all fun i=>q (l.getD i d))=l.all q:=by
 rw [xd,zs,zs]
 constructor
 ·intro h x hx
  obtain ⟨i,hi,rfl⟩:=List.getElem_of_mem hx
  have:=h i (List.mem_range.2 hi)
  rwa [zd,ze hi] at this
 ·intro h i hi
  rw [zam] at hi
  rw [zd,ze hi]
  exact h _ (xa hi)
theorem qor {n:Nat} {p q:Nat→Bool} (h:∀ i,i<n→p i=q i):(List.range n).all p=(List.range n).all q:=by
 rw [xd,zs,zs]
 exact ⟨fun a i hi=>by rw [← h i (List.mem_range.1 hi)];exact a i hi,fun a i hi=>by rw [h i (List.mem_range.1 hi)];exact a i hi⟩
def qdj (ks:List Int) (first least most:Int):Bool:=
 ((List.range ks.length).all fun i=>!(decide ((i:Int)<first) && !inK (ks.getD i 0) 17 22 || decide (first≤(i:Int)) && ks.getD i 0 != 16)) && (decide (first+least≤(ks.length:Int)) && decide ((ks.length:Int)≤first+most))
theorem qjz (l:List Nd) (n:Nd) (a b c:Int):qao l n a b c=qdj (qai l n.kids) a b c:=by
 unfold qao qdj
 have hl:(qai l n.kids).length=n.kids.length:=by unfold qai;rw [zr]
 rw [hl]
 congr 1
 exact qor fun i hi=>by rw [qjy l n hi]
theorem qxy (l:List Nd) (n:Nd) (a b:Int):allB l n 0 a b=(qai l n.kids).all fun k=>inK k a b:=by
 unfold allB
 have hl:(qai l n.kids).length=n.kids.length:=by unfold qai;rw [zr]
 rw [← qoq (fun k=>inK k a b) 0,hl]
 exact qor fun i hi=>by rw [qjy l n hi,zt (xq i)];rfl
theorem sort1 (k:Int):(qbb k == 1)=inK k 1 5:=by
 unfold qbb inK
 rw [xd,xr,zf,zw,zw]
 repeat' split
 all_goals omega
theorem qxz (k:Int):(qbb k == 2)=inK k 6 15:=by
 unfold qbb inK
 rw [xd,xr,zf,zw,zw]
 repeat' split
 all_goals omega
theorem qka (k:Int):(qbb k == 3)=inK k 17 22:=by
 unfold qbb inK
 rw [xd,xr,zf,zw,zw]
 repeat' split
 all_goals omega
theorem qkb (k:Int):(qbb k == 4)=(k == 16):=by
 unfold qbb
 rw [xd,xr,xr]
 repeat' split
 all_goals omega
theorem are_e (ks:List Int):areK ks [3]=qdj ks 1 0 0:=by
 unfold areK qdj
 match ks with
 | []=>rfl
 | [a]=>
  show (true && ((qbb a == 3) && true))=_
  rw [qka]
  show _=((!(true && !inK a 17 22 || false && a != 16) && true) && (true && true))
  cases inK a 17 22 <;> rfl
 | a::b::r=>
  rw [zt (by simp)]
  rw [show (decide ((((a::b::r).length:Nat):Int)≤1+0))=false from zt (by simp;omega)]
  simp
theorem are_b (ks:List Int):areK ks [4]=qdj ks 0 1 1:=by
 unfold areK qdj
 match ks with
 | []=>rfl
 | [a]=>
  show (true && ((qbb a == 4) && true))=_
  rw [qkb]
  show _=((!(false && !inK a 17 22 || true && a != 16) && true) && (true && true))
  rw [show (a != 16)=!(a == 16) from rfl]
  cases (a == 16) <;> rfl
 | a::b::r=>
  rw [zt (by simp)]
  rw [show (decide ((((a::b::r).length:Nat):Int)≤0+1))=false from zt (by simp;omega)]
  simp
theorem jhv (ks:List Int):areK ks [3,4]=qdj ks 1 1 1:=by
 unfold areK qdj
 match ks with
 | []=>rfl
 | [a]=>simp
 | [a,b]=>
  show (true && ((qbb a == 3) && ((qbb b == 4) && true)))=_
  rw [qka,qkb]
  show _=((!(true && !inK a 17 22 || false && a != 16) && (!(false && !inK b 17 22 || true && b != 16) && true)) && (true && true))
  rw [show (b != 16)=!(b == 16) from rfl]
  cases (b == 16) <;> cases inK a 17 22 <;> rfl
 | a::b::c::r=>
  rw [zt (by simp)]
  rw [show (decide ((((a::b::c::r).length:Nat):Int)≤1+1))=false from zt (by simp;omega)]
  simp
theorem jhw (ks:List Int):areK ks [3,3]=qdj ks 2 0 0:=by
 unfold areK qdj
 match ks with
 | []=>rfl
 | [a]=>simp
 | [a,b]=>
  show (true && ((qbb a == 3) && ((qbb b == 3) && true)))=_
  rw [qka,qka]
  show _=((!(true && !inK a 17 22 || false && a != 16) && (!(true && !inK b 17 22 || false && b != 16) && true)) && (true && true))
  cases inK b 17 22 <;> cases inK a 17 22 <;> rfl
 | a::b::c::r=>
  rw [zt (by simp)]
  rw [show (decide ((((a::b::c::r).length:Nat):Int)≤2+0))=false from zt (by simp;omega)]
  simp
theorem jhx (ks:List Int):(areK ks [3,4] || areK ks [3,4,4])=qdj ks 1 1 2:=by
 unfold areK qdj
 match ks with
 | []=>rfl
 | [a]=>simp
 | [a,b]=>
  show ((true && ((qbb a == 3) && ((qbb b == 4) && true))) || (false && _))=_
  rw [qka,qkb]
  show _=((!(true && !inK a 17 22 || false && a != 16) && (!(false && !inK b 17 22 || true && b != 16) && true)) && (true && true))
  rw [show (b != 16)=!(b == 16) from rfl]
  cases (b == 16) <;> cases inK a 17 22 <;> rfl
 | [a,b,c]=>
  show ((false && _) || (true && ((qbb a == 3) && ((qbb b == 4) && ((qbb c == 4) && true)))))=_
  rw [qka,qkb,qkb]
  show _=((!(true && !inK a 17 22 || false && a != 16) && (!(false && !inK b 17 22 || true && b != 16) && (!(false && !inK c 17 22 || true && c != 16) && true))) && (true && true))
  rw [show (b != 16)=!(b == 16) from rfl,show (c != 16)=!(c == 16) from rfl]
  cases (b == 16) <;> cases (c == 16) <;> cases inK a 17 22 <;> rfl
 | a::b::c::d::r=>
  rw [zt (by simp),zt (by simp)]
  rw [show (decide ((((a::b::c::d::r).length:Nat):Int)≤1+2))=false from zt (by simp;omega)]
  simp
theorem jhy (ks:List Int) (h:ks.length≤800):(decide (0<ks.length) && allK ks 4)=qdj ks 0 1 800:=by
 unfold allK qdj
 rw [show (fun k=>qbb k == 4)=(fun k:Int=>k == 16) from funext qkb,← qoq (fun k:Int=>k == 16) 0]
 rw [show decide ((ks.length:Int)≤0+800)=true from zal (by omega),Bool.and_true,Bool.and_comm]
 congr 1
 ·exact qor fun i hi=>by
   rw [show decide ((i:Int)<0)=false from zt (by omega),show decide ((0:Int)≤(i:Int))=true from zal (by omega)]
   rw [Bool.false_and,xn,Bool.true_and]
   show _=!!_
   rw [Bool.not_not]
 ·exact decide_eq_decide.2 (by omega)
theorem qos (ns:List Int) (m:Int) (bs:List (Int × Int)) (h:∀ b∈bs,b=(0,m)):jv ns bs=(ns.all (fun x=>decide (0≤x) && decide (x≤m)) && ((ns.length:Int) == (bs.length:Int))):=by
 unfold jv
 by_cases hl:ns.length=bs.length
 ·rw [zal hl,Bool.true_and,show ((ns.length:Int) == (bs.length:Int))=true from beq_iff_eq.2 (by omega),Bool.and_true,← qoq (fun x=>decide (0≤x) && decide (x≤m)) 0,hl]
  refine qor fun i hi=>?_
  have:bs.getD i (0,0)=(0,m):=by rw [zd,ze hi];exact h _ (xa hi)
  rw [this]
 ·rw [zt hl,show ((ns.length:Int) == (bs.length:Int))=false from beq_eq_false_iff_ne.2 (by omega),Bool.and_false,Bool.false_and]
theorem jhz (ns:List Int):jv ns [(0,999999),(0,999999),(0,1),(0,1)]=((ns.all (fun x=>decide (0≤x) && decide (x≤999999)) && ((ns.length:Int) == 4)) && decide (ns.getD 2 0≤1) && decide (ns.getD 3 0≤1)):=by
 unfold jv
 match ns with
 | []=>rfl
 | [a]=>simp
 | [a,b]=>simp
 | [a,b,c]=>simp
 | [a,b,c,d]=>
  rw [xd]
  simp [List.range_succ]
  omega
 | a::b::c::d::e::r=>
  rw [zt (by simp),show (((a::b::c::d::e::r).length:Int) == 4)=false from beq_eq_false_iff_ne.2 (by simp;omega)]
  simp
theorem jia (ns:List Int):jv ns [(0,999999),(-999999,999999)]=(((ns.length:Int) == 2) && inK (ns.getD 0 0) 0 999999 && inK (ns.getD 1 0) (-999999) 999999):=by
 unfold jv inK
 match ns with
 | []=>rfl
 | [a]=>rfl
 | [a,b]=>
  rw [xd]
  simp [List.range_succ,and_assoc]
 | a::b::c::r=>
  rw [zt (by simp),show (((a::b::c::r).length:Int) == 2)=false from beq_eq_false_iff_ne.2 (by simp;omega)]
  simp
end Go.St
