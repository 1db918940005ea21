/- Which lists are trees, as the program says it: plain, and the same as the document's. -/
import Derived.Test.YthfaleaojlnnoaaY310
import Derived.Test.YthfaleaojlnnoaaY32
set_option linter.unusedSimpArgs false
set_option linter.unusedVariables false
namespace Go.St
open List renaming getD_eq_getElem?_getD → zd
open Go Go.Sx
def cntW (k:Int):Int:=if k=1∨k=2∨k=3∨k=6∨k=7∨k=18∨k=19 then 1 else if k=8 then 2 else 0
def bndF (k:Int):List (Int × Int):=
 if k=1 then [(0,999999),(0,999999),(0,1),(0,1)] else if k=2 then [(0,999999),(-999999,999999)] else if k=3∨k=17 then [(0,999999)]
 else if k=8∨k=9∨k=10 then [(0,1)] else if k=22 then [(0,8)] else []
def qaa (ns:List Int) (bs:List (Int × Int)):Bool:=
 decide (ns.length=bs.length) && (List.range bs.length).all fun i=>decide ((bs.getD i (0,0)).1≤ns.getD i 0) && decide (ns.getD i 0≤(bs.getD i (0,0)).2)
def qbi (k:Int):Int:=if 1≤k∧k≤5 then 1 else if 6≤k∧k≤15 then 2 else if 17≤k∧k≤22 then 3 else if k=16 then 4 else 0
def allK (ks:List Int) (s:Int):Bool:=ks.all fun k=>qbi k == s
def areK (ks ss:List Int):Bool:=decide (ks.length=ss.length) && (List.range ss.length).all fun i=>qbi (ks.getD i 0) == ss.getD i 0
def qpk (k:Int) (ks:List Int):Bool:=
 if k=0 then allK ks 1
 else if k=3 then allK (ks.dropWhile (· == 2)) 2
 else if k=16 then allK ks 2
 else if k=10 then decide (0<ks.length) && allK ks 4
 else if k=11 then areK ks [3,4] || areK ks [3,4,4]
 else if k=12 then areK ks [3,4]
 else if k=13 then areK ks [4]
 else if k=4∨k=6∨k=7∨k=9∨k=20∨k=21 then areK ks [3]
 else if k=22 then areK ks [3,3]
 else if k=1∨k=2∨k=5∨k=8∨k=14∨k=15∨k=17∨k=18∨k=19 then decide (ks.length=0)
 else false
def qyy (n:Nd) (ks:List Int):Bool:=qj n (cntW n.kind) && qaa n.nums (bndF n.kind) && qpk n.kind ks
def qak (l:List Nd) (ks:List Int):List Int:=ks.map fun k=>(l.getD k.toNat nd0).kind
/-! A node. -/
theorem qkp (l:List Nd) (n:Nd) {i:Nat} (hi:i<n.kids.length):kidK l n i=(qak l n.kids).getD i 0:=by
 unfold kidK qak
 rw [zd (l:=n.kids),zd (l:=n.kids.map _),zg,ze hi]
 rfl
theorem qpl {α:Type} (q:α→Bool) (d:α) (l:List α):((List.range l.length).all fun i=>q (l.getD i d))=l.all q:=by
 rw [xe,zu,zu]
 constructor
 ·intro h x hx
  obtain ⟨i,hi,rfl⟩:=List.getElem_of_mem hx
  have:=h i (List.mem_range.2 hi)
  rwa [zd,ze hi] at this
 ·intro h i hi
  rw [zas] at hi
  rw [zd,ze hi]
  exact h _ (xq hi)
theorem qpm {n:Nat} {p q:Nat→Bool} (h:∀ i,i<n→p i=q i):(List.range n).all p=(List.range n).all q:=by
 rw [xe,zu,zu]
 exact ⟨fun a i hi=>by rw [← h i (List.mem_range.1 hi)];exact a i hi,fun a i hi=>by rw [h i (List.mem_range.1 hi)];exact a i hi⟩
def qds (ks:List Int) (first least most:Int):Bool:=
 ((List.range ks.length).all fun i=>!(decide ((i:Int)<first) && !inK (ks.getD i 0) 17 22 || decide (first≤(i:Int)) && ks.getD i 0 != 16)) && (decide (first+least≤(ks.length:Int)) && decide ((ks.length:Int)≤first+most))
theorem qkq (l:List Nd) (n:Nd) (a b c:Int):qar l n a b c=qds (qak l n.kids) a b c:=by
 unfold qar qds
 have hl:(qak l n.kids).length=n.kids.length:=by unfold qak;rw [zm]
 rw [hl]
 congr 1
 exact qpm fun i hi=>by rw [qkp l n hi]
theorem qyz (l:List Nd) (n:Nd) (a b:Int):allB l n 0 a b=(qak l n.kids).all fun k=>inK k a b:=by
 unfold allB
 have hl:(qak l n.kids).length=n.kids.length:=by unfold qak;rw [zm]
 rw [← qpl (fun k=>inK k a b) 0,hl]
 exact qpm fun i hi=>by rw [qkp l n hi,zv (xw i)];rfl
theorem sort1 (k:Int):(qbi k == 1)=inK k 1 5:=by
 unfold qbi inK
 rw [xe,xu,zf,zt,zt]
 repeat' split
 all_goals omega
theorem qza (k:Int):(qbi k == 2)=inK k 6 15:=by
 unfold qbi inK
 rw [xe,xu,zf,zt,zt]
 repeat' split
 all_goals omega
theorem qkr (k:Int):(qbi k == 3)=inK k 17 22:=by
 unfold qbi inK
 rw [xe,xu,zf,zt,zt]
 repeat' split
 all_goals omega
theorem qks (k:Int):(qbi k == 4)=(k == 16):=by
 unfold qbi
 rw [xe,xu,xu]
 repeat' split
 all_goals omega
theorem are_e (ks:List Int):areK ks [3]=qds ks 1 0 0:=by
 unfold areK qds
 match ks with
 | []=>rfl
 | [a]=>
  show (true && ((qbi a == 3) && true))=_
  rw [qkr]
  show _=((!(true && !inK a 17 22 || false && a != 16) && true) && (true && true))
  cases inK a 17 22 <;> rfl
 | a::b::r=>
  rw [zv (by simp)]
  rw [show (decide ((((a::b::r).length:Nat):Int)≤1+0))=false from zv (by simp;omega)]
  simp
theorem are_b (ks:List Int):areK ks [4]=qds ks 0 1 1:=by
 unfold areK qds
 match ks with
 | []=>rfl
 | [a]=>
  show (true && ((qbi a == 4) && true))=_
  rw [qks]
  show _=((!(false && !inK a 17 22 || true && a != 16) && true) && (true && true))
  rw [show (a != 16)=!(a == 16) from rfl]
  cases (a == 16) <;> rfl
 | a::b::r=>
  rw [zv (by simp)]
  rw [show (decide ((((a::b::r).length:Nat):Int)≤0+1))=false from zv (by simp;omega)]
  simp
theorem jjt (ks:List Int):areK ks [3,4]=qds ks 1 1 1:=by
 unfold areK qds
 match ks with
 | []=>rfl
 | [a]=>simp
 | [a,b]=>
  show (true && ((qbi a == 3) && ((qbi b == 4) && true)))=_
  rw [qkr,qks]
  show _=((!(true && !inK a 17 22 || false && a != 16) && (!(false && !inK b 17 22 || true && b != 16) && true)) && (true && true))
  rw [show (b != 16)=!(b == 16) from rfl]
  cases (b == 16) <;> cases inK a 17 22 <;> rfl
 | a::b::c::r=>
  rw [zv (by simp)]
  rw [show (decide ((((a::b::c::r).length:Nat):Int)≤1+1))=false from zv (by simp;omega)]
  simp
theorem jju (ks:List Int):areK ks [3,3]=qds ks 2 0 0:=by
 unfold areK qds
 match ks with
 | []=>rfl
 | [a]=>simp
 | [a,b]=>
  show (true && ((qbi a == 3) && ((qbi b == 3) && true)))=_
  rw [qkr,qkr]
  show _=((!(true && !inK a 17 22 || false && a != 16) && (!(true && !inK b 17 22 || false && b != 16) && true)) && (true && true))
  cases inK b 17 22 <;> cases inK a 17 22 <;> rfl
 | a::b::c::r=>
  rw [zv (by simp)]
  rw [show (decide ((((a::b::c::r).length:Nat):Int)≤2+0))=false from zv (by simp;omega)]
  simp
theorem jjv (ks:List Int):(areK ks [3,4] || areK ks [3,4,4])=qds ks 1 1 2:=by
 unfold areK qds
 match ks with
 | []=>rfl
 | [a]=>simp
 | [a,b]=>
  show ((true && ((qbi a == 3) && ((qbi b == 4) && true))) || (false && _))=_
  rw [qkr,qks]
  show _=((!(true && !inK a 17 22 || false && a != 16) && (!(false && !inK b 17 22 || true && b != 16) && true)) && (true && true))
  rw [show (b != 16)=!(b == 16) from rfl]
  cases (b == 16) <;> cases inK a 17 22 <;> rfl
 | [a,b,c]=>
  show ((false && _) || (true && ((qbi a == 3) && ((qbi b == 4) && ((qbi c == 4) && true)))))=_
  rw [qkr,qks,qks]
  show _=((!(true && !inK a 17 22 || false && a != 16) && (!(false && !inK b 17 22 || true && b != 16) && (!(false && !inK c 17 22 || true && c != 16) && true))) && (true && true))
  rw [show (b != 16)=!(b == 16) from rfl,show (c != 16)=!(c == 16) from rfl]
  cases (b == 16) <;> cases (c == 16) <;> cases inK a 17 22 <;> rfl
 | a::b::c::d::r=>
  rw [zv (by simp),zv (by simp)]
  rw [show (decide ((((a::b::c::d::r).length:Nat):Int)≤1+2))=false from zv (by simp;omega)]
  simp
theorem jjw (ks:List Int) (h:ks.length≤800):(decide (0<ks.length) && allK ks 4)=qds ks 0 1 800:=by
 unfold allK qds
 rw [show (fun k=>qbi k == 4)=(fun k:Int=>k == 16) from funext qks,← qpl (fun k:Int=>k == 16) 0]
 rw [show decide ((ks.length:Int)≤0+800)=true from zan (by omega),Bool.and_true,Bool.and_comm]
 congr 1
 ·exact qpm fun i hi=>by
   rw [show decide ((i:Int)<0)=false from zv (by omega),show decide ((0:Int)≤(i:Int))=true from zan (by omega)]
   rw [Bool.false_and,xt,Bool.true_and]
   show _=!!_
   rw [Bool.not_not]
 ·exact decide_eq_decide.2 (by omega)
theorem qpn (ns:List Int) (m:Int) (bs:List (Int × Int)) (h:∀ b∈bs,b=(0,m)):qaa ns bs=(ns.all (fun x=>decide (0≤x) && decide (x≤m)) && ((ns.length:Int) == (bs.length:Int))):=by
 unfold qaa
 by_cases hl:ns.length=bs.length
 ·rw [zan hl,Bool.true_and,show ((ns.length:Int) == (bs.length:Int))=true from beq_iff_eq.2 (by omega),Bool.and_true,← qpl (fun x=>decide (0≤x) && decide (x≤m)) 0,hl]
  refine qpm fun i hi=>?_
  have:bs.getD i (0,0)=(0,m):=by rw [zd,ze hi];exact h _ (xq hi)
  rw [this]
 ·rw [zv hl,show ((ns.length:Int) == (bs.length:Int))=false from beq_eq_false_iff_ne.2 (by omega),Bool.and_false,Bool.false_and]
theorem jjx (ns:List Int):qaa ns [(0,999999),(0,999999),(0,1),(0,1)]=((ns.all (fun x=>decide (0≤x) && decide (x≤999999)) && ((ns.length:Int) == 4)) && decide (ns.getD 2 0≤1) && decide (ns.getD 3 0≤1)):=by
 unfold qaa
 match ns with
 | []=>rfl
 | [a]=>simp
 | [a,b]=>simp
 | [a,b,c]=>simp
 | [a,b,c,d]=>
  rw [xe]
  simp [List.range_succ]
  omega
 | a::b::c::d::e::r=>
  rw [zv (by simp),show (((a::b::c::d::e::r).length:Int) == 4)=false from beq_eq_false_iff_ne.2 (by simp;omega)]
  simp
theorem jjy (ns:List Int):qaa ns [(0,999999),(-999999,999999)]=(((ns.length:Int) == 2) && inK (ns.getD 0 0) 0 999999 && inK (ns.getD 1 0) (-999999) 999999):=by
 unfold qaa inK
 match ns with
 | []=>rfl
 | [a]=>rfl
 | [a,b]=>
  rw [xe]
  simp [List.range_succ,and_assoc]
 | a::b::c::r=>
  rw [zv (by simp),show (((a::b::c::r).length:Int) == 2)=false from beq_eq_false_iff_ne.2 (by simp;omega)]
  simp
end Go.St
