/- Which lists are trees, as the program says it: plain, and the same as the document's. -/
import Derived.Test.YthfaleaojlnnoaaY79
import Derived.Test.YthfaleaojlnnoaaY72
set_option linter.unusedSimpArgs false
set_option linter.unusedVariables false
namespace Go.St
open List renaming getD_eq_getElem?_getD → zd
open Go Go.Sx
def cntW (k:Int):Int:=if k=1∨k=2∨k=3∨k=6∨k=7∨k=18∨k=19 then 1 else if k=8 then 2 else 0
def bndF (k:Int):List (Int × Int):=
 if k=1 then [(0,999999),(0,999999),(0,1),(0,1)] else if k=2 then [(0,999999),(-999999,999999)] else if k=3∨k=17 then [(0,999999)]
 else if k=8∨k=9∨k=10 then [(0,1)] else if k=22 then [(0,8)] else []
def jo (ns:List Int) (bs:List (Int × Int)):Bool:=
 decide (ns.length=bs.length) && (List.range bs.length).all fun i=>decide ((bs.getD i (0,0)).1≤ns.getD i 0) && decide (ns.getD i 0≤(bs.getD i (0,0)).2)
def qak (k:Int):Int:=if 1≤k∧k≤5 then 1 else if 6≤k∧k≤15 then 2 else if 17≤k∧k≤22 then 3 else if k=16 then 4 else 0
def allK (ks:List Int) (s:Int):Bool:=ks.all fun k=>qak k == s
def areK (ks ss:List Int):Bool:=decide (ks.length=ss.length) && (List.range ss.length).all fun i=>qak (ks.getD i 0) == ss.getD i 0
def qjd (k:Int) (ks:List Int):Bool:=
 if k=0 then allK ks 1
 else if k=3 then allK (ks.dropWhile (· == 2)) 2
 else if k=16 then allK ks 2
 else if k=10 then decide (0<ks.length) && allK ks 4
 else if k=11 then areK ks [3,4] || areK ks [3,4,4]
 else if k=12 then areK ks [3,4]
 else if k=13 then areK ks [4]
 else if k=4∨k=6∨k=7∨k=9∨k=20∨k=21 then areK ks [3]
 else if k=22 then areK ks [3,3]
 else if k=1∨k=2∨k=5∨k=8∨k=14∨k=15∨k=17∨k=18∨k=19 then decide (ks.length=0)
 else false
def qni (n:Nd) (ks:List Int):Bool:=qg n (cntW n.kind) && jo n.nums (bndF n.kind) && qjd n.kind ks
def jv (l:List Nd) (ks:List Int):List Int:=ks.map fun k=>(l.getD k.toNat nd0).kind
def qds (l:List Nd) (w:Int→Int × Bool):List Int→Int→List Int→Option (Int × List Int)
 | [],next,ks=>some (next,ks)
 | k::r,next,ks=>if k≠next then none else if (w next).2=false then none else qds l w r (w next).1 (ks++[(l.getD next.toNat nd0).kind])
def endT (l:List Nd) (at_:Int):Option (Int × List Int)→Int × Bool
 | none=>(0,false)
 | some (e,ks)=>(e,qni (l.getD at_.toNat nd0) ks)
def qal (l:List Nd):Nat→Int→Int × Bool
 | 0,_=>(0,false)
 | d+1,at_=>if (l.length:Int)≤at_ then (0,false) else endT l at_ (qds l (qal l d) (l.getD at_.toNat nd0).kids (at_+1) [])
def qkx (l:List Nd):Bool:=
 !(decide (l.length=0) || decide (800<l.length) || (l.getD 0 nd0).kind != 0) && ((qal l 20 0).2 && (qal l 20 0).1 == l.length)
/-! A node. -/
theorem qky (l:List Nd) (n:Nd) {i:Nat} (hi:i<n.kids.length):kidK l n i=(jv l n.kids).getD i 0:=by
 unfold kidK jv
 rw [zd (l:=n.kids),zd (l:=n.kids.map _),zg,ze hi]
 rfl
theorem qpu {α:Type} (q:α→Bool) (d:α) (l:List α):((List.range l.length).all fun i=>q (l.getD i d))=l.all q:=by
 rw [xc,zs,zs]
 constructor
 ·intro h x hx
  obtain ⟨i,hi,rfl⟩:=List.getElem_of_mem hx
  have:=h i (List.mem_range.2 hi)
  rwa [zd,ze hi] at this
 ·intro h i hi
  rw [zas] at hi
  rw [zd,ze hi]
  exact h _ (xt hi)
theorem qpv {n:Nat} {p q:Nat→Bool} (h:∀ i,i<n→p i=q i):(List.range n).all p=(List.range n).all q:=by
 rw [xc,zs,zs]
 exact ⟨fun a i hi=>by rw [← h i (List.mem_range.1 hi)];exact a i hi,fun a i hi=>by rw [h i (List.mem_range.1 hi)];exact a i hi⟩
def qdt (ks:List Int) (first least most:Int):Bool:=
 ((List.range ks.length).all fun i=>!(decide ((i:Int)<first) && !inK (ks.getD i 0) 17 22 || decide (first≤(i:Int)) && ks.getD i 0 != 16)) && (decide (first+least≤(ks.length:Int)) && decide ((ks.length:Int)≤first+most))
theorem qkz (l:List Nd) (n:Nd) (a b c:Int):qag l n a b c=qdt (jv l n.kids) a b c:=by
 unfold qag qdt
 have hl:(jv l n.kids).length=n.kids.length:=by unfold jv;rw [zu]
 rw [hl]
 congr 1
 exact qpv fun i hi=>by rw [qky l n hi]
theorem qzu (l:List Nd) (n:Nd) (a b:Int):allB l n 0 a b=(jv l n.kids).all fun k=>inK k a b:=by
 unfold allB
 have hl:(jv l n.kids).length=n.kids.length:=by unfold jv;rw [zu]
 rw [← qpu (fun k=>inK k a b) 0,hl]
 exact qpv fun i hi=>by rw [qky l n hi,zt (zv i)];rfl
theorem sort1 (k:Int):(qak k == 1)=inK k 1 5:=by
 unfold qak inK
 rw [xc,xn,zf,zo,zo]
 repeat' split
 all_goals omega
theorem qzv (k:Int):(qak k == 2)=inK k 6 15:=by
 unfold qak inK
 rw [xc,xn,zf,zo,zo]
 repeat' split
 all_goals omega
theorem qla (k:Int):(qak k == 3)=inK k 17 22:=by
 unfold qak inK
 rw [xc,xn,zf,zo,zo]
 repeat' split
 all_goals omega
theorem qlb (k:Int):(qak k == 4)=(k == 16):=by
 unfold qak
 rw [xc,xn,xn]
 repeat' split
 all_goals omega
theorem are_e (ks:List Int):areK ks [3]=qdt ks 1 0 0:=by
 unfold areK qdt
 match ks with
 | []=>rfl
 | [a]=>
  show (true && ((qak a == 3) && true))=_
  rw [qla]
  show _=((!(true && !inK a 17 22 || false && a != 16) && true) && (true && true))
  cases inK a 17 22 <;> rfl
 | a::b::r=>
  rw [zt (by simp)]
  rw [show (decide ((((a::b::r).length:Nat):Int)≤1+0))=false from zt (by simp;omega)]
  simp
theorem are_b (ks:List Int):areK ks [4]=qdt ks 0 1 1:=by
 unfold areK qdt
 match ks with
 | []=>rfl
 | [a]=>
  show (true && ((qak a == 4) && true))=_
  rw [qlb]
  show _=((!(false && !inK a 17 22 || true && a != 16) && true) && (true && true))
  rw [show (a != 16)=!(a == 16) from rfl]
  cases (a == 16) <;> rfl
 | a::b::r=>
  rw [zt (by simp)]
  rw [show (decide ((((a::b::r).length:Nat):Int)≤0+1))=false from zt (by simp;omega)]
  simp
theorem jkj (ks:List Int):areK ks [3,4]=qdt ks 1 1 1:=by
 unfold areK qdt
 match ks with
 | []=>rfl
 | [a]=>simp
 | [a,b]=>
  show (true && ((qak a == 3) && ((qak b == 4) && true)))=_
  rw [qla,qlb]
  show _=((!(true && !inK a 17 22 || false && a != 16) && (!(false && !inK b 17 22 || true && b != 16) && true)) && (true && true))
  rw [show (b != 16)=!(b == 16) from rfl]
  cases (b == 16) <;> cases inK a 17 22 <;> rfl
 | a::b::c::r=>
  rw [zt (by simp)]
  rw [show (decide ((((a::b::c::r).length:Nat):Int)≤1+1))=false from zt (by simp;omega)]
  simp
theorem jkk (ks:List Int):areK ks [3,3]=qdt ks 2 0 0:=by
 unfold areK qdt
 match ks with
 | []=>rfl
 | [a]=>simp
 | [a,b]=>
  show (true && ((qak a == 3) && ((qak b == 3) && true)))=_
  rw [qla,qla]
  show _=((!(true && !inK a 17 22 || false && a != 16) && (!(true && !inK b 17 22 || false && b != 16) && true)) && (true && true))
  cases inK b 17 22 <;> cases inK a 17 22 <;> rfl
 | a::b::c::r=>
  rw [zt (by simp)]
  rw [show (decide ((((a::b::c::r).length:Nat):Int)≤2+0))=false from zt (by simp;omega)]
  simp
theorem jkl (ks:List Int):(areK ks [3,4] || areK ks [3,4,4])=qdt ks 1 1 2:=by
 unfold areK qdt
 match ks with
 | []=>rfl
 | [a]=>simp
 | [a,b]=>
  show ((true && ((qak a == 3) && ((qak b == 4) && true))) || (false && _))=_
  rw [qla,qlb]
  show _=((!(true && !inK a 17 22 || false && a != 16) && (!(false && !inK b 17 22 || true && b != 16) && true)) && (true && true))
  rw [show (b != 16)=!(b == 16) from rfl]
  cases (b == 16) <;> cases inK a 17 22 <;> rfl
 | [a,b,c]=>
  show ((false && _) || (true && ((qak a == 3) && ((qak b == 4) && ((qak c == 4) && true)))))=_
  rw [qla,qlb,qlb]
  show _=((!(true && !inK a 17 22 || false && a != 16) && (!(false && !inK b 17 22 || true && b != 16) && (!(false && !inK c 17 22 || true && c != 16) && true))) && (true && true))
  rw [show (b != 16)=!(b == 16) from rfl,show (c != 16)=!(c == 16) from rfl]
  cases (b == 16) <;> cases (c == 16) <;> cases inK a 17 22 <;> rfl
 | a::b::c::d::r=>
  rw [zt (by simp),zt (by simp)]
  rw [show (decide ((((a::b::c::d::r).length:Nat):Int)≤1+2))=false from zt (by simp;omega)]
  simp
theorem jkm (ks:List Int) (h:ks.length≤800):(decide (0<ks.length) && allK ks 4)=qdt ks 0 1 800:=by
 unfold allK qdt
 rw [show (fun k=>qak k == 4)=(fun k:Int=>k == 16) from funext qlb,← qpu (fun k:Int=>k == 16) 0]
 rw [show decide ((ks.length:Int)≤0+800)=true from xw (by omega),Bool.and_true,Bool.and_comm]
 congr 1
 ·exact qpv fun i hi=>by
   rw [show decide ((i:Int)<0)=false from zt (by omega),show decide ((0:Int)≤(i:Int))=true from xw (by omega)]
   rw [Bool.false_and,xq,zan]
   show _=!!_
   rw [Bool.not_not]
 ·exact decide_eq_decide.2 (by omega)
theorem qpw (ns:List Int) (m:Int) (bs:List (Int × Int)) (h:∀ b∈bs,b=(0,m)):jo ns bs=(ns.all (fun x=>decide (0≤x) && decide (x≤m)) && ((ns.length:Int) == (bs.length:Int))):=by
 unfold jo
 by_cases hl:ns.length=bs.length
 ·rw [xw hl,zan,show ((ns.length:Int) == (bs.length:Int))=true from beq_iff_eq.2 (by omega),Bool.and_true,← qpu (fun x=>decide (0≤x) && decide (x≤m)) 0,hl]
  refine qpv fun i hi=>?_
  have:bs.getD i (0,0)=(0,m):=by rw [zd,ze hi];exact h _ (xt hi)
  rw [this]
 ·rw [zt hl,show ((ns.length:Int) == (bs.length:Int))=false from beq_eq_false_iff_ne.2 (by omega),Bool.and_false,Bool.false_and]
theorem jkn (ns:List Int):jo ns [(0,999999),(0,999999),(0,1),(0,1)]=((ns.all (fun x=>decide (0≤x) && decide (x≤999999)) && ((ns.length:Int) == 4)) && decide (ns.getD 2 0≤1) && decide (ns.getD 3 0≤1)):=by
 unfold jo
 match ns with
 | []=>rfl
 | [a]=>simp
 | [a,b]=>simp
 | [a,b,c]=>simp
 | [a,b,c,d]=>
  rw [xc]
  simp [List.range_succ]
  omega
 | a::b::c::d::e::r=>
  rw [zt (by simp),show (((a::b::c::d::e::r).length:Int) == 4)=false from beq_eq_false_iff_ne.2 (by simp;omega)]
  simp
theorem jko (ns:List Int):jo ns [(0,999999),(-999999,999999)]=(((ns.length:Int) == 2) && inK (ns.getD 0 0) 0 999999 && inK (ns.getD 1 0) (-999999) 999999):=by
 unfold jo inK
 match ns with
 | []=>rfl
 | [a]=>rfl
 | [a,b]=>
  rw [xc]
  simp [List.range_succ,and_assoc]
 | a::b::c::r=>
  rw [zt (by simp),show (((a::b::c::r).length:Int) == 2)=false from beq_eq_false_iff_ne.2 (by simp;omega)]
  simp
end Go.St
