/- Some texts of the library, one behind the other. -/
import Derived.Test.YthfaleaojlnnoaaY6PaL
import Derived.Test.YthfaleaojlnnoaaY63
import Derived.Test.YthfaleaojlnnoaaY62
set_option linter.unusedSimpArgs false
set_option linter.unusedVariables false
section
namespace Go.Proofs.Ythfaleaojlnnoaa
open List renaming getD_eq_getElem?_getD → zd
open Go Go.Sx Go.RowKit Go.St Pa
set_option maxRecDepth 100000
set_option maxHeartbeats 4000000
structure LikeN (x y:Nd):Prop where
 kind:x.kind=y.kind
 words:x.words=y.words
 nums:x.nums=y.nums
 kids:x.kids=y.kids
 lw:x.words.length≤100000
 ln:x.nums.length≤100000
 lk:x.kids.length≤100000
theorem jlm (a b:List Nd) (hl:a.length=b.length) (hb:a.length≤100000) (hz:∀ i,i<a.length→LikeN (a.getD i nd0) (b.getD i nd0)):Con Try.prog 13 [qdm a,qdm b] (.bool true):=by
 refine zK {} 300 Try.func13 (fun c0 rdb=>?_)
 (repeat' ((conv=>whnf);first|refine zA ?_|refine zO ?_|refine Ob.auto ?_|refine zD 300 ?_|(apply zB <;> intro hb <;> (try simp [-zd] at hb) <;> try (exfalso;omega))|refine Ob.intro ?_ ?_))
 ((conv=>whnf);refine qag (fun _=>rfl) 300 1 (fun i:Nat=>[(5,iv i)]) (fun _=>[]) (fun i=>i≤a.length) (fun i=>a.length - i) (0) (xa _) qa qa (fun _=>rfl) (by kernel_rfl) ?_;(conv=>whnf))
 intro i hi
 by_cases hil:i<a.length
 ·have hx:=hz i hil
  generalize hX:a.getD i nd0=x at hx
  generalize hY:b.getD i nd0=y at hx
  have h1:=hx.kind
  have h2:=congrArg List.length hx.words
  have h3:=congrArg List.length hx.nums
  have h4:=congrArg List.length hx.kids
  have lw:=hx.lw
  have ln:=hx.ln
  have lk:=hx.lk
  subst hX hY
  (repeat' ((conv=>whnf);first|refine zA ?_|refine zO ?_|refine Ob.auto ?_|refine zI ?_|refine zD 300 ?_|(apply zB <;> intro hb <;> (try simp [-zd] at hb) <;> try (exfalso;omega))|refine Ob.intro ?_ ?_))
  ((conv=>whnf);refine qag (fun _=>rfl) 300 2 (fun k:Nat=>[(8,iv k),(0,qdm a),(1,qdm b)]) (fun _=>[]) (fun k=>k≤(a.getD i nd0).words.length) (fun k=>(a.getD i nd0).words.length - k) (0) (xa _) qa qa (fun _=>rfl) (by kernel_rfl) ?_;(conv=>whnf))
  intro k2 hk2
  have e2:=congrArg (fun l=>l.getD k2 []) hx.words
  by_cases hkl2:k2<(a.getD i nd0).words.length
  ·(repeat' ((conv=>whnf);first|refine zA ?_|refine zO ?_|refine Ob.auto ?_|refine zI ?_|refine zD 300 ?_|(apply zB <;> intro hb <;> (try simp [-zd] at hb) <;> (try (exfalso;omega)) <;> (try contradiction))|refine Ob.intro ?_ ?_))
   ((conv=>whnf);refine ⟨k2+1,hkl2,⟨qa,qa⟩,⟨qa,qa⟩,?_⟩;(first|omega|(dsimp only;omega)|skip))
  have q2:k2=(a.getD i nd0).words.length:=by omega
  (repeat' ((conv=>whnf);first|refine zA ?_|refine zO ?_|refine Ob.auto ?_|refine zI ?_|refine zD 300 ?_|(apply zB <;> intro hb <;> (try simp [-zd] at hb) <;> try (exfalso;omega))|refine Ob.intro ?_ ?_))
  ((conv=>whnf);refine qag (fun _=>rfl) 300 3 (fun k:Nat=>[(9,iv k),(0,qdm a),(1,qdm b)]) (fun _=>[]) (fun k=>k≤(a.getD i nd0).nums.length) (fun k=>(a.getD i nd0).nums.length - k) (0) (xa _) qa qa (fun _=>rfl) (by kernel_rfl) ?_;(conv=>whnf))
  intro k3 hk3
  have e3:=congrArg (fun l=>l.getD k3 0) hx.nums
  by_cases hkl3:k3<(a.getD i nd0).nums.length
  ·(repeat' ((conv=>whnf);first|refine zA ?_|refine zO ?_|refine Ob.auto ?_|refine zI ?_|refine zD 300 ?_|(apply zB <;> intro hb <;> (try simp [-zd] at hb) <;> (try (exfalso;omega)) <;> (try contradiction))|refine Ob.intro ?_ ?_))
   ((conv=>whnf);refine ⟨k3+1,hkl3,⟨qa,qa⟩,⟨qa,qa⟩,?_⟩;(first|omega|(dsimp only;omega)|skip))
  have q3:k3=(a.getD i nd0).nums.length:=by omega
  (repeat' ((conv=>whnf);first|refine zA ?_|refine zO ?_|refine Ob.auto ?_|refine zI ?_|refine zD 300 ?_|(apply zB <;> intro hb <;> (try simp [-zd] at hb) <;> try (exfalso;omega))|refine Ob.intro ?_ ?_))
  ((conv=>whnf);refine qag (fun _=>rfl) 300 4 (fun k:Nat=>[(10,iv k),(0,qdm a),(1,qdm b)]) (fun _=>[]) (fun k=>k≤(a.getD i nd0).kids.length) (fun k=>(a.getD i nd0).kids.length - k) (0) (xa _) qa qa (fun _=>rfl) (by kernel_rfl) ?_;(conv=>whnf))
  intro k4 hk4
  have e4:=congrArg (fun l=>l.getD k4 0) hx.kids
  by_cases hkl4:k4<(a.getD i nd0).kids.length
  ·(repeat' ((conv=>whnf);first|refine zA ?_|refine zO ?_|refine Ob.auto ?_|refine zI ?_|refine zD 300 ?_|(apply zB <;> intro hb <;> (try simp [-zd] at hb) <;> (try (exfalso;omega)) <;> (try contradiction))|refine Ob.intro ?_ ?_))
   ((conv=>whnf);refine ⟨k4+1,hkl4,⟨qa,qa⟩,⟨qa,qa⟩,?_⟩;(first|omega|(dsimp only;omega)|skip))
  have q4:k4=(a.getD i nd0).kids.length:=by omega
  (repeat' ((conv=>whnf);first|refine zA ?_|refine zO ?_|refine Ob.auto ?_|refine zI ?_|refine zD 300 ?_|(apply zB <;> intro hb <;> (try simp [-zd] at hb) <;> try (exfalso;omega))|refine Ob.intro ?_ ?_))
  ((conv=>whnf);refine ⟨i+1,hil,⟨qa,qa⟩,⟨qa,qa⟩,?_⟩;(first|omega|(dsimp only;omega)|skip))
 ·(repeat' ((conv=>whnf);first|refine zA ?_|refine zO ?_|refine Ob.auto ?_|refine zD 300 ?_|(apply zB <;> intro hb <;> (try simp [-zd] at hb) <;> try (exfalso;omega))|refine Ob.intro ?_ ?_))
  exact Le.refl _
end Go.Proofs.Ythfaleaojlnnoaa
end
section
namespace Go.St
open Go Go.Sx
def walkL (w:Int→Int × Bool) (len:Int):List Int→Int→Int × Bool
 | [],next=>(next,true)
 | k::ks,next=>if k≠next∨len≤next then (next,false) else if (w next).2=false then ((w next).1,false) else walkL w len ks (w next).1
def walkF (l:List Nd):Nat→Int→Int × Bool
 | 0,at_=>(at_,false)
 | f+1,at_=>walkL (walkF l f) l.length (l.getD at_.toNat nd0).kids (at_+1)
def quz (l:List Nd):Bool:=
 !(decide (l.length=0) || decide (800<l.length) || (l.getD 0 nd0).kind != 0) && ((walkF l 20 0).2 && (walkF l 20 0).1 == l.length) && l.all (qbo l)
end Go.St
end
section
namespace Go.St
open List renaming getD_eq_getElem?_getD → zd
open Go Go.Sx
def cntW (k:Int):Int:=if k=1∨k=2∨k=3∨k=6∨k=7∨k=18∨k=19 then 1 else if k=8 then 2 else 0
def bndF (k:Int):List (Int × Int):=
 if k=1 then [(0,999999),(0,999999),(0,1),(0,1)] else if k=2 then [(0,999999),(-999999,999999)] else if k=3∨k=17 then [(0,999999)]
 else if k=8∨k=9∨k=10 then [(0,1)] else if k=22 then [(0,8)] else []
def qah (ns:List Int) (bs:List (Int × Int)):Bool:=
 decide (ns.length=bs.length) && (List.range bs.length).all fun i=>decide ((bs.getD i (0,0)).1≤ns.getD i 0) && decide (ns.getD i 0≤(bs.getD i (0,0)).2)
def qca (k:Int):Int:=if 1≤k∧k≤5 then 1 else if 6≤k∧k≤15 then 2 else if 17≤k∧k≤22 then 3 else if k=16 then 4 else 0
def allK (ks:List Int) (s:Int):Bool:=ks.all fun k=>qca k == s
def areK (ks ss:List Int):Bool:=decide (ks.length=ss.length) && (List.range ss.length).all fun i=>qca (ks.getD i 0) == ss.getD i 0
def qqo (k:Int) (ks:List Int):Bool:=
 if k=0 then allK ks 1
 else if k=3 then allK (ks.dropWhile (· == 2)) 2
 else if k=16 then allK ks 2
 else if k=10 then decide (0<ks.length) && allK ks 4
 else if k=11 then areK ks [3,4] || areK ks [3,4,4]
 else if k=12 then areK ks [3,4]
 else if k=13 then areK ks [4]
 else if k=4∨k=6∨k=7∨k=9∨k=20∨k=21 then areK ks [3]
 else if k=22 then areK ks [3,3]
 else if k=1∨k=2∨k=5∨k=8∨k=14∨k=15∨k=17∨k=18∨k=19 then decide (ks.length=0)
 else false
def jap (n:Nd) (ks:List Int):Bool:=qn n (cntW n.kind) && qah n.nums (bndF n.kind) && qqo n.kind ks
def qar (l:List Nd) (ks:List Int):List Int:=ks.map fun k=>(l.getD k.toNat nd0).kind
/-! A node. -/
theorem qlq (l:List Nd) (n:Nd) {i:Nat} (hi:i<n.kids.length):kidK l n i=(qar l n.kids).getD i 0:=by
 unfold kidK qar
 rw [zd (l:=n.kids),zd (l:=n.kids.map _),zg,zf hi]
 rfl
theorem qqp {α:Type} (q:α→Bool) (d:α) (l:List α):((List.range l.length).all fun i=>q (l.getD i d))=l.all q:=by
 rw [xf,zu,zu]
 constructor
 ·intro h x hx
  obtain ⟨i,hi,rfl⟩:=List.getElem_of_mem hx
  have:=h i (List.mem_range.2 hi)
  rwa [zd,zf hi] at this
 ·intro h i hi
  rw [zax] at hi
  rw [zd,zf hi]
  exact h _ (xh hi)
theorem qqq {n:Nat} {p q:Nat→Bool} (h:∀ i,i<n→p i=q i):(List.range n).all p=(List.range n).all q:=by
 rw [xf,zu,zu]
 exact ⟨fun a i hi=>by rw [← h i (List.mem_range.1 hi)];exact a i hi,fun a i hi=>by rw [h i (List.mem_range.1 hi)];exact a i hi⟩
def qej (ks:List Int) (first least most:Int):Bool:=
 ((List.range ks.length).all fun i=>!(decide ((i:Int)<first) && !inK (ks.getD i 0) 17 22 || decide (first≤(i:Int)) && ks.getD i 0 != 16)) && (decide (first+least≤(ks.length:Int)) && decide ((ks.length:Int)≤first+most))
theorem qlr (l:List Nd) (n:Nd) (a b c:Int):qbc l n a b c=qej (qar l n.kids) a b c:=by
 unfold qbc qej
 have hl:(qar l n.kids).length=n.kids.length:=by unfold qar;rw [zt]
 rw [hl]
 congr 1
 exact qqq fun i hi=>by rw [qlq l n hi]
theorem jaq (l:List Nd) (n:Nd) (a b:Int):allB l n 0 a b=(qar l n.kids).all fun k=>inK k a b:=by
 unfold allB
 have hl:(qar l n.kids).length=n.kids.length:=by unfold qar;rw [zt]
 rw [← qqp (fun k=>inK k a b) 0,hl]
 exact qqq fun i hi=>by rw [qlq l n hi,zw (xc i)];rfl
theorem sort1 (k:Int):(qca k == 1)=inK k 1 5:=by
 unfold qca inK
 rw [xf,xr,ze,zr,zr]
 repeat' split
 all_goals omega
theorem jar (k:Int):(qca k == 2)=inK k 6 15:=by
 unfold qca inK
 rw [xf,xr,ze,zr,zr]
 repeat' split
 all_goals omega
theorem qls (k:Int):(qca k == 3)=inK k 17 22:=by
 unfold qca inK
 rw [xf,xr,ze,zr,zr]
 repeat' split
 all_goals omega
theorem qlt (k:Int):(qca k == 4)=(k == 16):=by
 unfold qca
 rw [xf,xr,xr]
 repeat' split
 all_goals omega
theorem are_e (ks:List Int):areK ks [3]=qej ks 1 0 0:=by
 unfold areK qej
 match ks with
 | []=>rfl
 | [a]=>
  show (true && ((qca a == 3) && true))=_
  rw [qls]
  show _=((!(true && !inK a 17 22 || false && a != 16) && true) && (true && true))
  cases inK a 17 22 <;> rfl
 | a::b::r=>
  rw [zw (by simp)]
  rw [show (decide ((((a::b::r).length:Nat):Int)≤1+0))=false from zw (by simp;omega)]
  simp
theorem are_b (ks:List Int):areK ks [4]=qej ks 0 1 1:=by
 unfold areK qej
 match ks with
 | []=>rfl
 | [a]=>
  show (true && ((qca a == 4) && true))=_
  rw [qlt]
  show _=((!(false && !inK a 17 22 || true && a != 16) && true) && (true && true))
  rw [show (a != 16)=!(a == 16) from rfl]
  cases (a == 16) <;> rfl
 | a::b::r=>
  rw [zw (by simp)]
  rw [show (decide ((((a::b::r).length:Nat):Int)≤0+1))=false from zw (by simp;omega)]
  simp
theorem jln (ks:List Int):areK ks [3,4]=qej ks 1 1 1:=by
 unfold areK qej
 match ks with
 | []=>rfl
 | [a]=>simp
 | [a,b]=>
  show (true && ((qca a == 3) && ((qca b == 4) && true)))=_
  rw [qls,qlt]
  show _=((!(true && !inK a 17 22 || false && a != 16) && (!(false && !inK b 17 22 || true && b != 16) && true)) && (true && true))
  rw [show (b != 16)=!(b == 16) from rfl]
  cases (b == 16) <;> cases inK a 17 22 <;> rfl
 | a::b::c::r=>
  rw [zw (by simp)]
  rw [show (decide ((((a::b::c::r).length:Nat):Int)≤1+1))=false from zw (by simp;omega)]
  simp
theorem jlo (ks:List Int):areK ks [3,3]=qej ks 2 0 0:=by
 unfold areK qej
 match ks with
 | []=>rfl
 | [a]=>simp
 | [a,b]=>
  show (true && ((qca a == 3) && ((qca b == 3) && true)))=_
  rw [qls,qls]
  show _=((!(true && !inK a 17 22 || false && a != 16) && (!(true && !inK b 17 22 || false && b != 16) && true)) && (true && true))
  cases inK b 17 22 <;> cases inK a 17 22 <;> rfl
 | a::b::c::r=>
  rw [zw (by simp)]
  rw [show (decide ((((a::b::c::r).length:Nat):Int)≤2+0))=false from zw (by simp;omega)]
  simp
theorem jlp (ks:List Int):(areK ks [3,4] || areK ks [3,4,4])=qej ks 1 1 2:=by
 unfold areK qej
 match ks with
 | []=>rfl
 | [a]=>simp
 | [a,b]=>
  show ((true && ((qca a == 3) && ((qca b == 4) && true))) || (false && _))=_
  rw [qls,qlt]
  show _=((!(true && !inK a 17 22 || false && a != 16) && (!(false && !inK b 17 22 || true && b != 16) && true)) && (true && true))
  rw [show (b != 16)=!(b == 16) from rfl]
  cases (b == 16) <;> cases inK a 17 22 <;> rfl
 | [a,b,c]=>
  show ((false && _) || (true && ((qca a == 3) && ((qca b == 4) && ((qca c == 4) && true)))))=_
  rw [qls,qlt,qlt]
  show _=((!(true && !inK a 17 22 || false && a != 16) && (!(false && !inK b 17 22 || true && b != 16) && (!(false && !inK c 17 22 || true && c != 16) && true))) && (true && true))
  rw [show (b != 16)=!(b == 16) from rfl,show (c != 16)=!(c == 16) from rfl]
  cases (b == 16) <;> cases (c == 16) <;> cases inK a 17 22 <;> rfl
 | a::b::c::d::r=>
  rw [zw (by simp),zw (by simp)]
  rw [show (decide ((((a::b::c::d::r).length:Nat):Int)≤1+2))=false from zw (by simp;omega)]
  simp
theorem jlq (ks:List Int) (h:ks.length≤800):(decide (0<ks.length) && allK ks 4)=qej ks 0 1 800:=by
 unfold allK qej
 rw [show (fun k=>qca k == 4)=(fun k:Int=>k == 16) from funext qlt,← qqp (fun k:Int=>k == 16) 0]
 rw [show decide ((ks.length:Int)≤0+800)=true from zaj (by omega),Bool.and_true,Bool.and_comm]
 congr 1
 ·exact qqq fun i hi=>by
   rw [show decide ((i:Int)<0)=false from zw (by omega),show decide ((0:Int)≤(i:Int))=true from zaj (by omega)]
   rw [Bool.false_and,xt,Bool.true_and]
   show _=!!_
   rw [Bool.not_not]
 ·exact decide_eq_decide.2 (by omega)
theorem qqr (ns:List Int) (m:Int) (bs:List (Int × Int)) (h:∀ b∈bs,b=(0,m)):qah ns bs=(ns.all (fun x=>decide (0≤x) && decide (x≤m)) && ((ns.length:Int) == (bs.length:Int))):=by
 unfold qah
 by_cases hl:ns.length=bs.length
 ·rw [zaj hl,Bool.true_and,show ((ns.length:Int) == (bs.length:Int))=true from beq_iff_eq.2 (by omega),Bool.and_true,← qqp (fun x=>decide (0≤x) && decide (x≤m)) 0,hl]
  refine qqq fun i hi=>?_
  have:bs.getD i (0,0)=(0,m):=by rw [zd,zf hi];exact h _ (xh hi)
  rw [this]
 ·rw [zw hl,show ((ns.length:Int) == (bs.length:Int))=false from beq_eq_false_iff_ne.2 (by omega),Bool.and_false,Bool.false_and]
theorem jlr (ns:List Int):qah ns [(0,999999),(0,999999),(0,1),(0,1)]=((ns.all (fun x=>decide (0≤x) && decide (x≤999999)) && ((ns.length:Int) == 4)) && decide (ns.getD 2 0≤1) && decide (ns.getD 3 0≤1)):=by
 unfold qah
 match ns with
 | []=>rfl
 | [a]=>simp
 | [a,b]=>simp
 | [a,b,c]=>simp
 | [a,b,c,d]=>
  rw [xf]
  simp [List.range_succ]
  omega
 | a::b::c::d::e::r=>
  rw [zw (by simp),show (((a::b::c::d::e::r).length:Int) == 4)=false from beq_eq_false_iff_ne.2 (by simp;omega)]
  simp
theorem jls (ns:List Int):qah ns [(0,999999),(-999999,999999)]=(((ns.length:Int) == 2) && inK (ns.getD 0 0) 0 999999 && inK (ns.getD 1 0) (-999999) 999999):=by
 unfold qah inK
 match ns with
 | []=>rfl
 | [a]=>rfl
 | [a,b]=>
  rw [xf]
  simp [List.range_succ,and_assoc]
 | a::b::c::r=>
  rw [zw (by simp),show (((a::b::c::r).length:Int) == 2)=false from beq_eq_false_iff_ne.2 (by simp;omega)]
  simp
end Go.St
end
