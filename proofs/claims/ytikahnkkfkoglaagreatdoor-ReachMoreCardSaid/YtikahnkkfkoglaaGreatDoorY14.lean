/- Some texts of the library, one behind the other. -/
import Derived.Test.YtikahnkkfkoglaaGreatDoorY13
import Derived.Test.YtikahnkkfkoglaaGreatDoorY11
import Derived.Test.YtikahnkkfkoglaaGreatDoorRows
import Derived.ProofKit
import Derived.Test.YtikahnkkfkoglaaGreatDoorY12
set_option linter.unusedSimpArgs false
set_option linter.unusedVariables false
section
namespace Go.St
open List renaming getD_eq_getElem?_getD → zd
open Go Go.Sx
theorem qm {α:Type} (l:List α) (i:Nat) (d:α) (h:i<l.length):l.getD i d∈l:=by
 rw [zd,ze h];exact xt h
theorem qbe {p:Nat→Prop} {i:Nat} (h:∀ j,j<i→p j) (hi:p i):∀ j,j<i+1→p j:=fun j hj=>by
 by_cases e:j=i
 ·exact e ▸ hi
 ·exact h j (by omega)
structure NdOk (len i:Nat) (n:Nd):Prop where
 num:n.kind=17→1≤n.nums.length
 word:n.kind=18∨n.kind=19→1≤n.words.length
 un:n.kind=20∨n.kind=21→1≤n.kids.length∧(i:Int)<n.kids.getD 0 0∧n.kids.getD 0 0<len
 bin:n.kind=22→(2≤n.kids.length∧1≤n.nums.length)∧((i:Int)<n.kids.getD 0 0∧n.kids.getD 0 0<len)∧((i:Int)<n.kids.getD 1 0∧n.kids.getD 1 0<len)∧0≤n.nums.getD 0 0∧n.nums.getD 0 0≤8
structure MOk (m:Md):Prop where
 tree:∀ i,i<m.tree.length→NdOk m.tree.length i (m.tree.getD i nd0)
 glob:0≤m.globals∧m.globals≤m.vars.length
 procs:∀ q∈m.procs,q.names.length≤q.vars.length∧∀ v∈q.vars,0≤v∧v<m.vars.length
 sz:(m.tree.length≤1000000∧m.vars.length≤1000000∧m.chans.length≤1000000)∧m.procs.length≤1000000∧m.safe.length≤1000000
 psz:∀ q∈m.procs,q.names.length≤1000000∧q.edges.length≤1000000
 safe:∀ k∈m.safe,0≤k∧k<m.tree.length
 chan:∀ c∈m.chans,0≤c.room∧c.room≤3
 place:∀ q∈m.procs,1≤q.places∧q.places≤1000000
structure SOk (m:Md) (s:Stt):Prop where
 vl:s.vars.length=m.vars.length
 cl:s.chans.length=m.chans.length
 vb:∀ v∈s.vars,-32768≤v∧v≤32768
 cb:∀ c∈s.chans,c.length≤32768
def idx {α:Type} (p:α→Bool) (l:List α):Int:=match l.findIdx? p with|some i=>i|none=>-1
theorem qhg {α:Type} (p:α→Bool) (l:List α) (d:α) (i:Nat) (hi:i<l.length) (hp:p (l.getD i d)=true) (hb:∀ j,j<i→p (l.getD j d)=false):idx p l=i:=by
 have:l.findIdx? p=some i:=by
  rw [zao]
  refine ⟨hi,?_,fun j hj=>?_⟩
  ·rw [zd,ze hi] at hp;exact hp
  ·have h:=hb j hj
   rw [zd,ze (by omega)] at h
   simp only [zaj] at h
   rw [h];decide
 rw [idx,this]
theorem qhh {α:Type} (p:α→Bool) (l:List α) (d:α) (hb:∀ j,j<l.length→p (l.getD j d)=false):idx p l=-1:=by
 have:l.findIdx? p=none:=by
  rw [List.findIdx?_eq_none_iff]
  intro x hx
  obtain ⟨j,hj,rfl⟩:=List.mem_iff_getElem.1 hx
  have h:=hb j hj
  rw [zd,ze hj] at h
  exact h
 rw [idx,this]
theorem qil {α:Type} (p:α→Bool) (l:List α):-1≤idx p l∧idx p l<l.length:=by
 unfold idx
 cases h:l.findIdx? p with
 | none=>simp;omega
 | some i=>
  rw [zao] at h
  obtain ⟨h,_⟩:=h
  simp;omega
def varN (m:Md) (p:Int) (s:List UInt8):Int:=
 if 0≤p∧p<m.procs.length then
  (if idx (· == s) (m.procs.getD p.toNat pr0).names<0 then -1 else (m.procs.getD p.toNat pr0).vars.getD (idx (· == s) (m.procs.getD p.toNat pr0).names).toNat 0)
 else idx (fun v:Vr=>v.name == s) (m.vars.take m.globals.toNat)
theorem jay {m:Md} (hm:MOk m) (p:Int) (s:List UInt8):-1≤varN m p s∧varN m p s<m.vars.length:=by
 unfold varN
 split
 ·rename_i h
  split
  ·omega
  ·have hq:=hm.procs _ (qm m.procs p.toNat pr0 (by omega))
   have hi:=qil (· == s) (m.procs.getD p.toNat pr0).names
   have:=hq.2 _ (qm (m.procs.getD p.toNat pr0).vars (idx (· == s) (m.procs.getD p.toNat pr0).names).toNat 0 (by omega))
   omega
 ·have:=qil (fun v:Vr=>v.name == s) (m.vars.take m.globals.toNat)
  rw [xa] at this
  omega
def valN (m:Md) (p:Int) (s:Stt):Nat→Int→Int × Bool
 | 0,_=>(0,false)
 | n+1,k=>
  if (m.tree.getD k.toNat nd0).kind=17 then (trim ((m.tree.getD k.toNat nd0).nums.getD 0 0) 8,true)
  else if (m.tree.getD k.toNat nd0).kind=18 then
   (if varN m p ((m.tree.getD k.toNat nd0).words.getD 0 [])<0 then (0,false) else (s.vars.getD (varN m p ((m.tree.getD k.toNat nd0).words.getD 0 [])).toNat 0,true))
  else if (m.tree.getD k.toNat nd0).kind=19 then
   (if idx (fun c:Ch=>c.name == (m.tree.getD k.toNat nd0).words.getD 0 []) m.chans<0 then (0,false) else ((s.chans.getD (idx (fun c:Ch=>c.name == (m.tree.getD k.toNat nd0).words.getD 0 []) m.chans).toNat []).length,true))
  else if (m.tree.getD k.toNat nd0).kind=20 then
   (trim (0 - (valN m p s n ((m.tree.getD k.toNat nd0).kids.getD 0 0)).1) 8,(valN m p s n ((m.tree.getD k.toNat nd0).kids.getD 0 0)).2)
  else if (m.tree.getD k.toNat nd0).kind=21 then
   (if ((valN m p s n ((m.tree.getD k.toNat nd0).kids.getD 0 0)).2 && (valN m p s n ((m.tree.getD k.toNat nd0).kids.getD 0 0)).1 == 0) then 1 else 0,(valN m p s n ((m.tree.getD k.toNat nd0).kids.getD 0 0)).2)
  else if (m.tree.getD k.toNat nd0).kind=22 then
   (if (valN m p s n ((m.tree.getD k.toNat nd0).kids.getD 0 0)).2=true∧(valN m p s n ((m.tree.getD k.toNat nd0).kids.getD 1 0)).2=true then
    qjt ((m.tree.getD k.toNat nd0).nums.getD 0 0) (valN m p s n ((m.tree.getD k.toNat nd0).kids.getD 0 0)).1 (valN m p s n ((m.tree.getD k.toNat nd0).kids.getD 1 0)).1
   else (0,false))
  else (0,false)
def binF (sg:Int) (A B:Int × Bool):Int × Bool:=if A.2=true∧B.2=true then qjt sg A.1 B.1 else (0,false)
theorem jaz (m:Md) (p:Int) (s:Stt) (n:Nat) (k:Int) (h:(m.tree.getD k.toNat nd0).kind=21):valN m p s (n+1) k =
  (if ((valN m p s n ((m.tree.getD k.toNat nd0).kids.getD 0 0)).2 && (valN m p s n ((m.tree.getD k.toNat nd0).kids.getD 0 0)).1 == 0) then 1 else 0,(valN m p s n ((m.tree.getD k.toNat nd0).kids.getD 0 0)).2):=by
 rw [valN,za (by omega),za (by omega),za (by omega),za (by omega),zb h]
theorem jba (m:Md) (p:Int) (s:Stt) (n:Nat) (k:Int) (h:(m.tree.getD k.toNat nd0).kind=22):valN m p s (n+1) k =
  binF ((m.tree.getD k.toNat nd0).nums.getD 0 0) (valN m p s n ((m.tree.getD k.toNat nd0).kids.getD 0 0)) (valN m p s n ((m.tree.getD k.toNat nd0).kids.getD 1 0)):=by
 rw [binF,valN,za (by omega),za (by omega),za (by omega),za (by omega),za (by omega),zb h]
theorem jmt (op a b:Int):-32768≤(qjt op a b).1∧(qjt op a b).1≤32768:=by
 have t:=fun n=>qnk n 8
 unfold qjt
 (repeat' split) <;> first|(have:=t (a+b);simp;omega)|(have:=t (a - b);simp;omega)|(have:=t (a * b);simp;omega)|(have:=t (a.tdiv b);simp;omega)|(have:=t (a.tmod b);simp;omega)|simp
theorem jmu {m:Md} {s:Stt} (hm:MOk m) (hs:SOk m s) (p:Int):∀ (n:Nat) (k:Int),-32768≤(valN m p s n k).1∧(valN m p s n k).1≤32768
 | 0,_=>by simp [valN]
 | n+1,k=>by
  have t:=fun n=>qnk n 8
  unfold valN
  split
  ·have:=t ((m.tree.getD k.toNat nd0).nums.getD 0 0);simp only;omega
  split
  ·split
   ·simp
   ·have:=jay hm p ((m.tree.getD k.toNat nd0).words.getD 0 [])
    have h2:=hs.vl
    exact hs.vb _ (qm _ _ _ (by omega))
  split
  ·split
   ·simp
   ·have:=qil (fun c:Ch=>c.name == (m.tree.getD k.toNat nd0).words.getD 0 []) m.chans
    have h2:=hs.cl
    have:=hs.cb _ (qm s.chans (idx (fun c:Ch=>c.name == (m.tree.getD k.toNat nd0).words.getD 0 []) m.chans).toNat [] (by omega))
    simp only;omega
  split
  ·have:=t (0 - (valN m p s n ((m.tree.getD k.toNat nd0).kids.getD 0 0)).1);simp only;omega
  split
  ·simp only;split <;> omega
  split
  ·split
   ·exact jmt _ _ _
   ·simp
  ·simp
theorem qli {α:Type} (q:α→Bool) (l:List α) (d:α):l.all q=true↔∀ j,j<l.length→q (l.getD j d)=true:=by
 rw [xr]
 constructor
 ·exact fun h j hj=>h _ (qm l j d hj)
 ·intro h x hx
  obtain ⟨j,hj,rfl⟩:=List.mem_iff_getElem.1 hx
  have:=h j hj
  rw [zd,ze hj] at this
  exact this
def fitsB (m:Md) (s:Stt):Bool:=
 decide (s.at_.length=m.procs.length∧s.vars.length=m.vars.length∧s.chans.length=m.chans.length∧-1≤s.holder∧s.holder<m.procs.length) &&
 (List.range s.at_.length).all (fun i=>decide (0≤s.at_.getD i 0∧s.at_.getD i 0<(m.procs.getD i pr0).places)) &&
 (List.range s.vars.length).all (fun i=>trim (s.vars.getD i 0) (m.vars.getD i vr0).width == s.vars.getD i 0) &&
 (List.range s.chans.length).all (fun i=>decide ((s.chans.getD i []).length≤(m.chans.getD i ch0).room) && (s.chans.getD i []).all fun x=>trim x (m.chans.getD i ch0).width == x)
def val (m:Md) (p:Int) (s:Stt) (k:Int):Int × Bool:=valN m p s m.tree.length k
def qrd (m:Md) (s:Stt) (k:Int):Bool:=(val m (-1) s k).2 && !((val m (-1) s k).1 == 0)
def qnl (m:Md) (s:Stt):Bool:=m.safe.all (qrd m s)
theorem qre {α:Type} {q:α→Bool} {l:List α} (d:α) (h:∀ j,j<l.length→q (l.getD j d)=true):l.all q=true:=(qli q l d).2 h
theorem qrf {α:Type} {q:α→Bool} {l:List α} (d:α) {j:Nat} (hj:j<l.length) (h:q (l.getD j d)=false):l.all q=false:=by
 rw [xj]
 intro h'
 rw [(qli q l d).1 h' j hj] at h
 cases h
theorem qrg {q:Nat→Bool} {n i:Nat} (hi:i<n) (h:q i=false):(List.range n).all q=false:=by
 rw [xj]
 intro h'
 rw [xr] at h'
 rw [h' i (List.mem_range.2 hi)] at h
 cases h
theorem qju {q:Nat→Bool} {n:Nat} (h:∀ i,i<n→q i=true):(List.range n).all q=true:=by
 rw [xr]
 exact fun i hi=>h i (List.mem_range.1 hi)
theorem qnm {q:Nat→Bool} {n i:Nat} (h:(List.range n).all q=true) (hi:i<n):q i=true:=by
 rw [xr] at h
 exact h i (List.mem_range.2 hi)
abbrev qnn (m:Md) (s:Stt):Prop:=s.at_.length=m.procs.length∧s.vars.length=m.vars.length∧s.chans.length=m.chans.length∧-1≤s.holder∧s.holder<m.procs.length
abbrev qjv (m:Md) (s:Stt) (i:Nat):Prop:=0≤s.at_.getD i 0∧s.at_.getD i 0<(m.procs.getD i pr0).places
abbrev qjw (m:Md) (s:Stt) (i:Nat):Prop:=trim (s.vars.getD i 0) (m.vars.getD i vr0).width=s.vars.getD i 0
abbrev qim (m:Md) (s:Stt) (i:Nat):Prop:=(s.chans.getD i []).length≤(m.chans.getD i ch0).room
abbrev qjx (m:Md) (s:Stt) (i k:Nat):Prop:=trim ((s.chans.getD i []).getD k 0) (m.chans.getD i ch0).width=(s.chans.getD i []).getD k 0
theorem qao (m:Md) (s:Stt):fitsB m s=true↔qnn m s∧(∀ i,i<s.at_.length→qjv m s i)∧(∀ i,i<s.vars.length→qjw m s i)∧∀ i,i<s.chans.length→qim m s i∧∀ k,k<(s.chans.getD i []).length→qjx m s i k:=by
 unfold fitsB
 simp only [zf]
 constructor
 ·rintro ⟨⟨⟨h1,h2⟩,h3⟩,h4⟩
  refine ⟨zm h1,fun i hi=>zm (qnm h2 hi),fun i hi=>by have:=qnm h3 hi;exact beq_iff_eq.1 this,fun i hi=>?_⟩
  have:=qnm h4 hi
  simp only [zf] at this
  exact ⟨zm this.1,fun k hk=>beq_iff_eq.1 ((qli _ _ 0).1 this.2 k hk)⟩
 ·rintro ⟨h1,h2,h3,h4⟩
  exact ⟨⟨⟨xl h1,qju fun i hi=>xl (h2 i hi)⟩,qju fun i hi=>beq_iff_eq.2 (h3 i hi)⟩,qju fun i hi=>by
   simp only [zf]
   exact ⟨xl (h4 i hi).1,(qli _ _ 0).2 fun k hk=>beq_iff_eq.2 ((h4 i hi).2 k hk)⟩⟩
theorem jbb {m:Md} {s:Stt} (h:¬ qnn m s):fitsB m s=false:=by
 rw [xj];exact fun h'=>h ((qao m s).1 h').1
theorem jmv {m:Md} {s:Stt} (i:Nat) (hi:i<s.at_.length) (h:¬ qjv m s i):fitsB m s=false:=by
 rw [xj];exact fun h'=>h (((qao m s).1 h').2.1 i hi)
theorem jmw {m:Md} {s:Stt} (i:Nat) (hi:i<s.vars.length) (h:¬ qjw m s i):fitsB m s=false:=by
 rw [xj];exact fun h'=>h (((qao m s).1 h').2.2.1 i hi)
theorem jmx {m:Md} {s:Stt} (i:Nat) (hi:i<s.chans.length) (h:¬ qim m s i):fitsB m s=false:=by
 rw [xj];exact fun h'=>h (((qao m s).1 h').2.2.2 i hi).1
theorem jmy {m:Md} {s:Stt} (i k:Nat) (hi:i<s.chans.length) (hk:k<(s.chans.getD i []).length) (h:¬ qjx m s i k):fitsB m s=false:=by
 rw [xj];exact fun h'=>h ((((qao m s).1 h').2.2.2 i hi).2 k hk)
structure SSz (s:Stt):Prop where
 a:s.at_.length≤1000000
 v:s.vars.length≤1000000
 c:s.chans.length≤1000000
 l:∀ c∈s.chans,c.length≤1000000
def jj (m:Md):Stt where
 at_:=List.replicate m.procs.length 0
 vars:=m.vars.map (·.value)
 chans:=List.replicate m.chans.length []
 holder:=-1
theorem jbc {α β:Type} (f:α→β) (l:List α) (i:Nat) (d:β) (d':α) (h:i<l.length):(l.map f).getD i d=f (l.getD i d'):=by
 rw [zd,zd,zh,ze h];rfl
theorem qrh {α:Type} (x:α) (n i:Nat) (d:α) (h:i<n):(List.replicate n x).getD i d=x:=by
 rw [zd,List.getElem?_replicate,zb h];rfl
end Go.St
end
section
namespace Go.St
open Go Go.Sx
def qno (c:Int):Bool:=(decide (65≤c) && decide (c≤90)) || (decide (97≤c) && decide (c≤122))
def qnp (c:Int):Bool:=qno c || (decide (48≤c) && decide (c≤57)) || c == 95
def keyL:List (List UInt8):=[[99,104,97,110],[111,102],[108,111,115,115,121],[99,111,112,121,105,110,103],[118,97,114],[112,114,111,99],[115,97,102,101],[100,101,97,100,108,111,99,107],[115,101,110,100],[114,101,99,118],[105,100,108,101],[119,104,101,110],[99,104,111,111,115,101],[111,114],[105,102],[101,108,115,101],[119,104,105,108,101],[97,116,111,109,105,99],[115,107,105,112],[115,116,111,112],[108,101,110]]
def keyF (s:List UInt8):Bool:=keyL.any (· == s)
def nameF (s:List UInt8):Bool:=!(decide (s.length=0) || decide (12<s.length) || !qno (qbc s 0) || keyF s) && (List.range s.length).all fun i=>qnp (qbc s i)
def inK (k a b:Int):Bool:=decide (a≤k) && decide (k≤b)
def kidK (l:List Nd) (n:Nd) (i:Nat):Int:=(l.getD (n.kids.getD i 0).toNat nd0).kind
def wordsB (n:Nd) (c:Int):Bool:=n.words.all nameF && ((n.words.length:Int) == c)
def numsB (n:Nd) (c most:Int):Bool:=n.nums.all (fun x=>decide (0≤x) && decide (x≤most)) && ((n.nums.length:Int) == c)
def allB (l:List Nd) (n:Nd) (frm:Nat) (a b:Int):Bool:=(List.range n.kids.length).all fun i=>decide (i<frm) || inK (kidK l n i) a b
def exprsB (l:List Nd) (n:Nd) (first least most:Int):Bool:=
 ((List.range n.kids.length).all fun i=>!(decide ((i:Int)<first) && !inK (kidK l n i) 17 22 || decide (first≤(i:Int)) && kidK l n i != 16)) && (decide (first+least≤(n.kids.length:Int)) && decide ((n.kids.length:Int)≤first+most))
def varsN (l:List Nd) (n:Nd):Nat:=if idx (fun i=>kidK l n i != 2) (List.range n.kids.length)<0 then n.kids.length else (idx (fun i=>kidK l n i != 2) (List.range n.kids.length)).toNat
def nodeB (l:List Nd) (n:Nd):Bool:=
 if n.kind=0 then wordsB n 0 && numsB n 0 0 && allB l n 0 1 5
 else if n.kind=1 then wordsB n 1 && numsB n 4 999999 && decide (n.nums.getD 2 0≤1) && decide (n.nums.getD 3 0≤1) && (n.kids.length:Int) == 0
 else if n.kind=2 then wordsB n 1 && (n.nums.length:Int) == 2 && inK (n.nums.getD 0 0) 0 999999 && inK (n.nums.getD 1 0) (-999999) 999999 && (n.kids.length:Int) == 0
 else if n.kind=3 then wordsB n 1 && numsB n 1 999999 && allB l n (varsN l n) 6 15
 else if n.kind=4∨n.kind=20∨n.kind=21 then wordsB n 0 && numsB n 0 0 && exprsB l n 1 0 0
 else if n.kind=5∨n.kind=14∨n.kind=15 then wordsB n 0 && numsB n 0 0 && (n.kids.length:Int) == 0
 else if n.kind=6∨n.kind=7 then wordsB n 1 && numsB n 0 0 && exprsB l n 1 0 0
 else if n.kind=8 then wordsB n 2 && numsB n 1 1 && (n.kids.length:Int) == 0
 else if n.kind=9 then wordsB n 0 && numsB n 1 1 && exprsB l n 1 0 0
 else if n.kind=10 then wordsB n 0 && numsB n 1 1 && exprsB l n 0 1 800
 else if n.kind=11 then wordsB n 0 && numsB n 0 0 && exprsB l n 1 1 2
 else if n.kind=12 then wordsB n 0 && numsB n 0 0 && exprsB l n 1 1 1
 else if n.kind=13 then wordsB n 0 && numsB n 0 0 && exprsB l n 0 1 1
 else if n.kind=16 then wordsB n 0 && numsB n 0 0 && allB l n 0 6 15
 else if n.kind=17 then wordsB n 0 && numsB n 1 999999 && (n.kids.length:Int) == 0
 else if n.kind=18∨n.kind=19 then wordsB n 1 && numsB n 0 0 && (n.kids.length:Int) == 0
 else if n.kind=22 then wordsB n 0 && numsB n 1 8 && exprsB l n 2 0 0
 else false
theorem qhi (n i d:Nat) (h:i<n):(List.range n).getD i d=i:=by
 rw [List.getD_eq_getElem?_getD,List.getElem?_range h];rfl
theorem jbd (l:List Nd) (n:Nd) (v:Nat) (hv:v≤n.kids.length) (h:∀ j,j<v→kidK l n j=2) (he:v=n.kids.length∨kidK l n v≠2):varsN l n=v:=by
 unfold varsN
 by_cases hl:v<n.kids.length
 ·have h2:kidK l n v≠2:=by omega
  have:=qhg (fun i=>kidK l n i != 2) (List.range n.kids.length) 0 v (by simpa using hl) (by rw [qhi _ _ _ hl];simpa using h2) (fun j hj=>by rw [qhi _ _ _ (by omega)];simpa using h j hj)
  rw [this,za (by omega)];omega
 ·have hz:∀ j,j<(List.range n.kids.length).length→(kidK l n ((List.range n.kids.length).getD j 0) != 2)=false:=by
   intro j hj
   have hj':j<n.kids.length:=by simpa using hj
   rw [qhi _ _ _ hj'];simpa using h j (by omega)
  have:=qhh (fun i=>kidK l n i != 2) (List.range n.kids.length) 0 hz
  rw [this,zb (by omega)];omega
theorem jmz {n:Nd} {c m:Int} (h:numsB n c m=true):(n.nums.length:Int)=c:=by
 unfold numsB at h
 rw [zf,xx] at h
 exact h.2
structure NdSz (n:Nd):Prop where
 lw:n.words.length≤9223372036854775807
 ln:n.nums.length≤9223372036854775807
 lk:n.kids.length≤9223372036854775807
 ls:∀ s∈n.words,s.length≤9223372036854775807
end Go.St
end
section
namespace Go.Proofs.YtikahnkkfkoglaaGreatDoor
open Go Go.Sx Go.RowKit Go.St
set_option maxRecDepth 100000
section
variable {H:Type} {enc:TypeId × Value→H}
theorem jbe:maxLen=9223372036854775807:=by decide +kernel
theorem rdr_ints:Rdr enc Tryz.prog 27 (fun ys=>∃ l:List Int,(l.length≤maxLen∧∀ n∈l,(Lit.int .i64 n).wf=true)∧ys=[ints l]):=
 qtk (en:=fun n=>[iv n]) Tryz.underlying27 (by kernel_rfl) (by decide) (fun _=>rfl) (qqd Tryz.underlying3)
theorem rdr_strs:Rdr enc Tryz.prog 78 (fun ys=>∃ l:List (List UInt8),(l.length≤maxLen∧∀ s∈l,s.length≤maxLen)∧ys=[strs l]):=
 qtk (en:=fun s=>[.str s]) Tryz.underlying78 (by kernel_rfl) (by decide) (fun _=>rfl) (jiw Tryz.underlying9)
def ndQ:Nat→AV→Prop
 | 0,y|4,y=>∃ n:Int,y=iv n
 | 1,y=>∃ l:List (List UInt8),(l.length≤maxLen∧∀ s∈l,s.length≤maxLen)∧y=strs l
 | 2,y|3,y=>∃ l:List Int,l.length≤maxLen∧y=ints l
 | _,_=>True
theorem jna:Rdr enc Tryz.prog 99 (fun ys=>∃ n:Nd,NdSz n∧ys=n.cells):=by
 refine (jix (q:=ndQ) Tryz.underlying99 (by kernel_rfl) (fun i f hf=>?_)).mono fun ys hy=>?_
 ·match i with
  | 0=>cases hf;exact ⟨⟨rfl,by kernel_rfl⟩,(qqd Tryz.underlying3).mono fun ys ⟨n,_,h⟩=>⟨_,⟨n,rfl⟩,h⟩⟩
  | 1=>cases hf;exact ⟨⟨rfl,by kernel_rfl⟩,rdr_strs.mono fun ys ⟨l,h1,h⟩=>⟨_,⟨l,h1,rfl⟩,h⟩⟩
  | 2=>cases hf;exact ⟨⟨rfl,by kernel_rfl⟩,rdr_ints.mono fun ys ⟨l,h1,h⟩=>⟨_,⟨l,h1.1,rfl⟩,h⟩⟩
  | 3=>cases hf;exact ⟨⟨rfl,by kernel_rfl⟩,rdr_ints.mono fun ys ⟨l,h1,h⟩=>⟨_,⟨l,h1.1,rfl⟩,h⟩⟩
  | 4=>cases hf;exact ⟨⟨rfl,by kernel_rfl⟩,(qqd Tryz.underlying3).mono fun ys ⟨n,_,h⟩=>⟨_,⟨n,rfl⟩,h⟩⟩
  | i+5=>simp at hf
 ·obtain ⟨h1,h2⟩:=hy
  match ys,h1 with
  | [a,b,c,d,e],_=>
   obtain ⟨k,rfl⟩:=h2 0 a rfl
   obtain ⟨w,hw,rfl⟩:=h2 1 b rfl
   obtain ⟨ns,hn,rfl⟩:=h2 2 c rfl
   obtain ⟨ks,hk,rfl⟩:=h2 3 d rfl
   obtain ⟨p,rfl⟩:=h2 4 e rfl
   rw [jbe] at hw hn hk
   exact ⟨⟨k,w,ns,ks,p⟩,⟨hw.1,hn,hk,hw.2⟩,rfl⟩
theorem jnb:Rdr enc Tryz.prog 22 (fun ys=>∃ l:List Nd,(l.length≤maxLen∧∀ n∈l,NdSz n)∧ys=[jr l]):=
 qtk (en:=Nd.cells) Tryz.underlying22 (by kernel_rfl) (by decide) (fun _=>rfl) jna
end
end Go.Proofs.YtikahnkkfkoglaaGreatDoor
end
