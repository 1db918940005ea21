/- Some texts of the library, one behind the other. -/
import Derived.Test.YtikahnkkfkoglaaGreatDoorY21
import Derived.Test.YtikahnkkfkoglaaGreatDoorY22
import Derived.IntWalk
set_option linter.unusedSimpArgs false
set_option linter.unusedVariables false
section
namespace Go.Sx
open Go Go.RowKit
abbrev iv (n:Int):AV:=.int .i64 n
def ints (l:List Int):AV:=slcL (fun n=>[iv n]) 0 1 l
def strs (l:List (List UInt8)):AV:=slcL (fun s=>[.str s]) [] 1 l
def qmb (l:List Bool):AV:=slcL (fun b=>[.bool b]) false 1 l
structure Nd where
 kind:Int
 words:List (List UInt8):=[]
 nums:List Int:=[]
 kids:List Int:=[]
 at_:Int
def Nd.cells (n:Nd):List AV:=[iv n.kind,strs n.words,ints n.nums,ints n.kids,iv n.at_]
def nd0:Nd:=⟨0,[],[],[],0⟩
def jx (l:List Nd):AV:=slcL Nd.cells nd0 5 l
structure Ch where
 name:List UInt8
 room:Int
 width:Int
 lossy:Bool
 copying:Bool
def Ch.cells (c:Ch):List AV:=[.str c.name,iv c.room,iv c.width,.bool c.lossy,.bool c.copying]
def ch0:Ch:=⟨[],0,0,false,false⟩
structure Vr where
 name:List UInt8
 width:Int
 value:Int
def Vr.cells (v:Vr):List AV:=[.str v.name,iv v.width,iv v.value]
def vr0:Vr:=⟨[],0,0⟩
structure Ed where
 frm:Int
 to:Int
 act:Int
 expr:Int:=-1
 var:Int:=-1
 chn:Int:=-1
 keep:Bool:=false
 node:Int
def Ed.cells (e:Ed):List AV:=[iv e.frm,iv e.to,iv e.act,iv e.expr,iv e.var,iv e.chn,.bool e.keep,iv e.node]
def ed0:Ed:=⟨0,0,0,0,0,0,false,0⟩
structure Pr where
 name:List UInt8
 copy:Int
 locals:List Int:=[]
 places:Int
 rest:List Bool
 edges:List Ed
 names:List (List UInt8):=[]
 vars:List Int:=[]
def Pr.cells (p:Pr):List AV:=[.str p.name,iv p.copy,ints p.locals,iv p.places,qmb p.rest,slcL Ed.cells ed0 8 p.edges,strs p.names,ints p.vars]
def pr0:Pr:=⟨[],0,[],0,[],[],[],[]⟩
structure Md where
 tree:List Nd
 globals:Int:=0
 chans:List Ch:=[]
 vars:List Vr:=[]
 procs:List Pr:=[]
 safe:List Int:=[]
 dead:Bool:=false
def Md.cells (m:Md):List AV:=[jx m.tree,iv m.globals,slcL Ch.cells ch0 5 m.chans,slcL Vr.cells vr0 3 m.vars,slcL Pr.cells pr0 8 m.procs,ints m.safe,.bool m.dead]
def Md.av (m:Md):AV:=.agg m.cells
structure Stt where
 at_:List Int
 vars:List Int
 chans:List (List Int)
 holder:Int
def Stt.cells (s:Stt):List AV:=[ints s.at_,ints s.vars,slcL (fun l=>[ints l]) [] 1 s.chans,iv s.holder]
def Stt.av (s:Stt):AV:=.agg s.cells
def flt (e at_:Int):AV:=.agg [iv e,iv at_]
end Go.Sx
end
section
namespace Go.St
open Go Go.Sx
def wid (w:Int):Nat:=(min (max w 1) 16).toNat
def trim (n w:Int):Int:=if n % 2 ^ wid w≥2 ^ (wid w - 1) then n % 2 ^ wid w - 2 ^ wid w else n % 2 ^ wid w
theorem qgx (w:Int):1≤wid w∧wid w≤16:=by unfold wid;omega
theorem qgy (k:Nat) (h:k≤16):(1:Int)≤2 ^ k∧(2:Int) ^ k≤65536:=by
 have h1:(2:Nat) ^ k≤2 ^ 16:=Nat.pow_le_pow_right (by decide) h
 have h2:1≤2 ^ k:=Nat.one_le_two_pow
 have h3:((2 ^ k:Nat):Int)=(2:Int) ^ k:=by simp
 omega
theorem qsl (k:Nat) (h:1≤k):(2:Int) ^ k=2 * 2 ^ (k - 1):=by
 obtain ⟨j,rfl⟩:∃ j,k=j+1:=⟨k - 1,by omega⟩
 rw [Int.pow_succ,Nat.add_sub_cancel];omega
theorem jom (n w:Int):-(2:Int) ^ (wid w - 1)≤trim n w∧trim n w<(2:Int) ^ (wid w - 1):=by
 have h1:=qsl (wid w) (qgx w).1
 have h2:=qgy (wid w) (qgx w).2
 have h3:=Int.emod_nonneg n (b:=2 ^ wid w) (by omega)
 have h4:=Int.emod_lt_of_pos n (b:=2 ^ wid w) (by omega)
 unfold trim
 split <;> omega
theorem qon (n w:Int):-32768≤trim n w∧trim n w<32768:=by
 have h1:=jom n w
 have h2:=qgy (wid w - 1) (by have:=qgx w;omega)
 have h3:=qsl (wid w) (qgx w).1
 have h4:=qgy (wid w) (qgx w).2
 omega
theorem mask (k:Nat) (hk:k≤16) (n:Int):bitI .and .i64 n (2 ^ k - 1)=n % 2 ^ k:=by
 have hp:=qgy k hk
 have e1:(BitVec.ofInt 64 (2 ^ k - 1:Int)).toNat=2 ^ k - 1:=by
  rw [BitVec.toNat_ofInt]
  have h3:((2 ^ k:Nat):Int)=(2:Int) ^ k:=by simp
  have:(2:Int) ^ k - 1=((2 ^ k - 1:Nat):Int):=by have:=Nat.one_le_two_pow (n:=k);omega
  rw [this]
  have h4:2 ^ k - 1<2 ^ 64:=by omega
  omega
 have e2:(BitVec.ofInt 64 n &&& BitVec.ofInt 64 (2 ^ k - 1:Int)).toNat=(n % 2 ^ k).toNat:=by
  rw [BitVec.toNat_and,e1,Nat.and_two_pow_sub_one_eq_mod,BitVec.toNat_ofInt]
  have hd:((2:Int) ^ k) ∣ ((2 ^ 64:Nat):Int):=by
   refine ⟨2 ^ (64 - k),?_⟩
   rw [← Int.pow_add]
   have:k+(64 - k)=64:=by omega
   rw [this];rfl
  have h1:=Int.emod_emod_of_dvd n hd
  have h2:0≤n % ((2 ^ 64:Nat):Int):=Int.emod_nonneg _ (by decide)
  rw [← h1]
  have h3:(n % ((2 ^ 64:Nat):Int))=(((n % ((2 ^ 64:Nat):Int)).toNat:Nat):Int):=by omega
  generalize (n % ((2 ^ 64:Nat):Int)).toNat=m at h3 ⊢
  rw [h3]
  have:((m:Int) % 2 ^ k)=((m % 2 ^ k:Nat):Int):=by push_cast;rfl
  rw [this];rfl
 have hb:=Int.emod_nonneg n (b:=2 ^ k) (by omega)
 have hl:=Int.emod_lt_of_pos n (b:=2 ^ k) (by omega)
 show IntKind.i64.wrap ((BitVec.ofInt 64 n &&& BitVec.ofInt 64 (2 ^ k - 1:Int)).toNat:Int)=_
 rw [e2,Int.toNat_of_nonneg hb]
 exact IntWalk.i64_in _ ⟨by omega,by omega⟩
theorem jon (n M:Int) (h:0<M):(if n.tmod M<0 then n.tmod M+M else n.tmod M)=n % M:=by
 have h1:n.tmod M<M:=Int.tmod_lt_of_pos n h
 have h2:-M<n.tmod M:=Int.lt_tmod_of_pos n h
 have h3:=Int.mul_tdiv_add_tmod n M
 have h4:n % M=n.tmod M % M:=by
  conv=>lhs;rw [← h3]
  rw [Int.add_comm,Int.add_mul_emod_self_left]
 rw [h4]
 split
 ·rw [← Int.add_emod_right,Int.emod_eq_of_lt (by omega) (by omega)]
 ·rw [Int.emod_eq_of_lt (by omega) (by omega)]
def doF (op a b:Int):Int:=if op=0 then trim (a+b) 8 else if op=1 then trim (a - b) 8 else if op=2 then trim (a * b) 8 else if b=0 then 0 else if op=3 then trim (a.tdiv b) 8 else trim (a.tmod b) 8
def qfa (op a b:Int):Int × Bool:=
 if op=0 then (if (a != 0 || b != 0) then 1 else 0,true) else if op=1 then (if (a != 0 && b != 0) then 1 else 0,true)
 else if op=2 then (if a == b then 1 else 0,true) else if op=3 then (if decide (a<b) then 1 else 0,true)
 else if op=4 then (trim (a+b) 8,true) else if op=5 then (trim (a - b) 8,true) else if op=6 then (trim (a * b) 8,true)
 else if b=0 then (0,false) else if op=7 then (trim (a.tdiv b) 8,true) else (trim (a.tmod b) 8,true)
def qkq (p:Int × Bool):AV:=.tup [iv p.1,.bool p.2]
def jcc (op a b:Int):AV:=qkq (qfa op a b)
theorem joo (n w:Int):trim n w=if (if n.tmod (2 ^ wid w)<0 then n.tmod (2 ^ wid w)+2 ^ wid w else n.tmod (2 ^ wid w))≥2 ^ wid w / 2
  then (if n.tmod (2 ^ wid w)<0 then n.tmod (2 ^ wid w)+2 ^ wid w else n.tmod (2 ^ wid w)) - 2 ^ wid w else (if n.tmod (2 ^ wid w)<0 then n.tmod (2 ^ wid w)+2 ^ wid w else n.tmod (2 ^ wid w)):=by
 have h1:=qsl (wid w) (qgx w).1
 have h2:=qgy (wid w) (qgx w).2
 rw [jon n _ (by omega)]
 unfold trim
 split <;> split <;> omega
theorem jcd {a b:Int} (h:-32768≤a∧a≤32768) (h':-32768≤b∧b≤32768):-1073741824≤a * b∧a * b≤1073741824:=by
 have h1:(a * b).natAbs≤32768 * 32768:=by rw [Int.natAbs_mul];exact Nat.mul_le_mul (by omega) (by omega)
 omega
theorem jop (a b:Int) (h:-32768≤a∧a≤32768):-32768≤a.tdiv b∧a.tdiv b≤32768:=by
 have h1:(a.tdiv b).natAbs≤a.natAbs:=by rw [Int.natAbs_tdiv];exact Nat.div_le_self _ _
 omega
theorem joq (a b:Int) (q:Nat) (hb:1≤b.natAbs) (h1:q * b.natAbs≤a.natAbs) (h2:(a.natAbs:Int) - q * b.natAbs<b.natAbs) :
  a.tdiv b=(if (decide (a<0) != decide (b<0)) then 0 - (q:Int) else q)∧a.tmod b=(if a<0 then 0 - ((a.natAbs:Int) - q * b.natAbs) else (a.natAbs:Int) - q * b.natAbs):=by
 have hq:a.natAbs / b.natAbs=q:=by
  have:((q * b.natAbs:Nat):Int)=(q:Int) * (b.natAbs:Int):=by push_cast;rfl
  refine Nat.div_eq_of_lt_le h1 ?_
  rw [zav];omega
 have hd:a.tdiv b=(if (decide (a<0) != decide (b<0)) then 0 - (q:Int) else q):=by
  rw [← hq]
  rcases Int.natAbs_eq a with ha|ha <;> rcases Int.natAbs_eq b with hb'|hb'
  all_goals
   generalize ha':a.natAbs=x at *
   generalize hb'':b.natAbs=y at *
   subst ha hb'
  ·rw [← Int.ofNat_tdiv];simp
   intro h;omega
  ·rw [Int.tdiv_neg,← Int.ofNat_tdiv]
   by_cases hx:(x:Int)<0
   ·omega
   ·have:(-(y:Int)<0):=by omega
    simp [hx,this]
    intro h;omega
  ·rw [Int.neg_tdiv,← Int.ofNat_tdiv]
   by_cases hx:x=0
   ·subst hx;simp
   ·have:(-(x:Int)<0):=by omega
    have h3:¬ ((y:Int)<0):=by omega
    simp [this,h3]
    intro h;omega
  ·rw [Int.neg_tdiv_neg,← Int.ofNat_tdiv]
   by_cases hx:x=0
   ·subst hx;simp
   ·have:(-(x:Int)<0):=by omega
    have h3:(-(y:Int)<0):=by omega
    simp [this,h3]
    intro h;exact absurd ⟨fun _=>by omega,fun _=>by omega⟩ h
 refine ⟨hd,?_⟩
 have he:=Int.mul_tdiv_add_tmod a b
 rw [hd] at he
 rcases Int.natAbs_eq a with ha|ha <;> rcases Int.natAbs_eq b with hb'|hb'
 all_goals
  generalize ha':a.natAbs=x at *
  generalize hb'':b.natAbs=y at *
  subst ha hb'
  generalize hr:Int.tmod _ _=r at *
  have hc:=Int.mul_comm (q:Int) (y:Int)
 ·have h3:¬ ((x:Int)<0):=by omega
  have h4:¬ ((y:Int)<0):=by omega
  have e:¬ ((decide ((x:Int)<0) != decide ((y:Int)<0))=true):=by rw [zau h3,zau h4];decide
  rw [za e] at he;rw [za h3]
  omega
 ·have h3:¬ ((x:Int)<0):=by omega
  have h4:(-(y:Int)<0):=by omega
  have e:(decide ((x:Int)<0) != decide (-(y:Int)<0))=true:=by rw [zau h3,xn h4];rfl
  rw [zb e] at he;rw [za h3]
  simp only [Int.zero_sub,Int.neg_mul,Int.mul_neg,Int.neg_neg] at he
  omega
 ·by_cases hx:x=0
  ·subst hx
   have hq0:q=0:=by rw [← hq];simp
   subst hq0
   simp at he ⊢;exact he
  ·have h3:(-(x:Int)<0):=by omega
   have h4:¬ ((y:Int)<0):=by omega
   have e:(decide (-(x:Int)<0) != decide ((y:Int)<0))=true:=by rw [xn h3,zau h4];rfl
   rw [zb e] at he;rw [zb h3]
   simp only [Int.zero_sub,Int.neg_mul,Int.mul_neg,Int.neg_neg] at he
   omega
 ·by_cases hx:x=0
  ·subst hx
   have hq0:q=0:=by rw [← hq];simp
   subst hq0
   simp at he ⊢;exact he
  ·have h3:(-(x:Int)<0):=by omega
   have h4:(-(y:Int)<0):=by omega
   have e:¬ ((decide (-(x:Int)<0) != decide (-(y:Int)<0))=true):=by rw [xn h3,xn h4];decide
   rw [za e] at he;rw [zb h3]
   simp only [Int.zero_sub,Int.neg_mul,Int.mul_neg,Int.neg_neg] at he
   omega
theorem jor (a b:Int) (q:Nat) (hb:1≤b.natAbs) (h1:q * b.natAbs≤a.natAbs) (h2:(a.natAbs:Int) - q * b.natAbs<b.natAbs) :
  a.tdiv b=(if (a<0↔b<0) then (q:Int) else 0 - q)∧a.tmod b=(if a<0 then 0 - ((a.natAbs:Int) - q * b.natAbs) else (a.natAbs:Int) - q * b.natAbs):=by
 obtain ⟨h3,h4⟩:=joq a b q hb h1 h2
 refine ⟨?_,h4⟩
 rw [h3]
 by_cases ha:a<0 <;> by_cases hb:b<0 <;> simp [ha,hb]
end Go.St
end
section
namespace Go.St
open List renaming getD_eq_getElem?_getD → zd
open Go Go.Sx
theorem qk {α:Type} (l:List α) (i:Nat) (d:α) (h:i<l.length):l.getD i d∈l:=by
 rw [zd,ze h];exact zaa h
theorem qaf {p:Nat→Prop} {i:Nat} (h:∀ j,j<i→p j) (hi:p i):∀ j,j<i+1→p j:=fun j hj=>by
 by_cases e:j=i
 ·exact e ▸ hi
 ·exact h j (by omega)
structure NdOk (len i:Nat) (n:Nd):Prop where
 num:n.kind=17→1≤n.nums.length
 word:n.kind=18∨n.kind=19→1≤n.words.length
 un:n.kind=20∨n.kind=21→1≤n.kids.length∧(i:Int)<n.kids.getD 0 0∧n.kids.getD 0 0<len
 bin:n.kind=22→(2≤n.kids.length∧1≤n.nums.length)∧((i:Int)<n.kids.getD 0 0∧n.kids.getD 0 0<len)∧((i:Int)<n.kids.getD 1 0∧n.kids.getD 1 0<len)∧0≤n.nums.getD 0 0∧n.nums.getD 0 0≤8
structure MOk (m:Md):Prop where
 tree:∀ i,i<m.tree.length→NdOk m.tree.length i (m.tree.getD i nd0)
 glob:0≤m.globals∧m.globals≤m.vars.length
 procs:∀ q∈m.procs,q.names.length≤q.vars.length∧∀ v∈q.vars,0≤v∧v<m.vars.length
 sz:(m.tree.length≤1000000∧m.vars.length≤1000000∧m.chans.length≤1000000)∧m.procs.length≤1000000∧m.safe.length≤1000000
 psz:∀ q∈m.procs,q.names.length≤1000000∧q.edges.length≤1000000
 safe:∀ k∈m.safe,0≤k∧k<m.tree.length
 chan:∀ c∈m.chans,0≤c.room∧c.room≤3
 place:∀ q∈m.procs,1≤q.places∧q.places≤1000000
structure SOk (m:Md) (s:Stt):Prop where
 vl:s.vars.length=m.vars.length
 cl:s.chans.length=m.chans.length
 vb:∀ v∈s.vars,-32768≤v∧v≤32768
 cb:∀ c∈s.chans,c.length≤32768
def idx {α:Type} (p:α→Bool) (l:List α):Int:=match l.findIdx? p with|some i=>i|none=>-1
theorem qfb {α:Type} (p:α→Bool) (l:List α) (d:α) (i:Nat) (hi:i<l.length) (hp:p (l.getD i d)=true) (hb:∀ j,j<i→p (l.getD j d)=false):idx p l=i:=by
 have:l.findIdx? p=some i:=by
  rw [zaq]
  refine ⟨hi,?_,fun j hj=>?_⟩
  ·rw [zd,ze hi] at hp;exact hp
  ·have h:=hb j hj
   rw [zd,ze (by omega)] at h
   simp only [zag] at h
   rw [h];decide
 rw [idx,this]
theorem qfc {α:Type} (p:α→Bool) (l:List α) (d:α) (hb:∀ j,j<l.length→p (l.getD j d)=false):idx p l=-1:=by
 have:l.findIdx? p=none:=by
  rw [List.findIdx?_eq_none_iff]
  intro x hx
  obtain ⟨j,hj,rfl⟩:=List.mem_iff_getElem.1 hx
  have h:=hb j hj
  rw [zd,ze hj] at h
  exact h
 rw [idx,this]
theorem qjb {α:Type} (p:α→Bool) (l:List α):-1≤idx p l∧idx p l<l.length:=by
 unfold idx
 cases h:l.findIdx? p with
 | none=>simp;omega
 | some i=>
  rw [zaq] at h
  obtain ⟨h,_⟩:=h
  simp;omega
def varN (m:Md) (p:Int) (s:List UInt8):Int:=
 if 0≤p∧p<m.procs.length then
  (if idx (· == s) (m.procs.getD p.toNat pr0).names<0 then -1 else (m.procs.getD p.toNat pr0).vars.getD (idx (· == s) (m.procs.getD p.toNat pr0).names).toNat 0)
 else idx (fun v:Vr=>v.name == s) (m.vars.take m.globals.toNat)
theorem qvv {m:Md} (hm:MOk m) (p:Int) (s:List UInt8):-1≤varN m p s∧varN m p s<m.vars.length:=by
 unfold varN
 split
 ·rename_i h
  split
  ·omega
  ·have hq:=hm.procs _ (qk m.procs p.toNat pr0 (by omega))
   have hi:=qjb (· == s) (m.procs.getD p.toNat pr0).names
   have:=hq.2 _ (qk (m.procs.getD p.toNat pr0).vars (idx (· == s) (m.procs.getD p.toNat pr0).names).toNat 0 (by omega))
   omega
 ·have:=qjb (fun v:Vr=>v.name == s) (m.vars.take m.globals.toNat)
  rw [xc] at this
  omega
def valN (m:Md) (p:Int) (s:Stt):Nat→Int→Int × Bool
 | 0,_=>(0,false)
 | n+1,k=>
  if (m.tree.getD k.toNat nd0).kind=17 then (trim ((m.tree.getD k.toNat nd0).nums.getD 0 0) 8,true)
  else if (m.tree.getD k.toNat nd0).kind=18 then
   (if varN m p ((m.tree.getD k.toNat nd0).words.getD 0 [])<0 then (0,false) else (s.vars.getD (varN m p ((m.tree.getD k.toNat nd0).words.getD 0 [])).toNat 0,true))
  else if (m.tree.getD k.toNat nd0).kind=19 then
   (if idx (fun c:Ch=>c.name == (m.tree.getD k.toNat nd0).words.getD 0 []) m.chans<0 then (0,false) else ((s.chans.getD (idx (fun c:Ch=>c.name == (m.tree.getD k.toNat nd0).words.getD 0 []) m.chans).toNat []).length,true))
  else if (m.tree.getD k.toNat nd0).kind=20 then
   (trim (0 - (valN m p s n ((m.tree.getD k.toNat nd0).kids.getD 0 0)).1) 8,(valN m p s n ((m.tree.getD k.toNat nd0).kids.getD 0 0)).2)
  else if (m.tree.getD k.toNat nd0).kind=21 then
   (if ((valN m p s n ((m.tree.getD k.toNat nd0).kids.getD 0 0)).2 && (valN m p s n ((m.tree.getD k.toNat nd0).kids.getD 0 0)).1 == 0) then 1 else 0,(valN m p s n ((m.tree.getD k.toNat nd0).kids.getD 0 0)).2)
  else if (m.tree.getD k.toNat nd0).kind=22 then
   (if (valN m p s n ((m.tree.getD k.toNat nd0).kids.getD 0 0)).2=true∧(valN m p s n ((m.tree.getD k.toNat nd0).kids.getD 1 0)).2=true then
    qfa ((m.tree.getD k.toNat nd0).nums.getD 0 0) (valN m p s n ((m.tree.getD k.toNat nd0).kids.getD 0 0)).1 (valN m p s n ((m.tree.getD k.toNat nd0).kids.getD 1 0)).1
   else (0,false))
  else (0,false)
def binF (sg:Int) (A B:Int × Bool):Int × Bool:=if A.2=true∧B.2=true then qfa sg A.1 B.1 else (0,false)
theorem qvw (m:Md) (p:Int) (s:Stt) (n:Nat) (k:Int) (h:(m.tree.getD k.toNat nd0).kind=21):valN m p s (n+1) k =
  (if ((valN m p s n ((m.tree.getD k.toNat nd0).kids.getD 0 0)).2 && (valN m p s n ((m.tree.getD k.toNat nd0).kids.getD 0 0)).1 == 0) then 1 else 0,(valN m p s n ((m.tree.getD k.toNat nd0).kids.getD 0 0)).2):=by
 rw [valN,za (by omega),za (by omega),za (by omega),za (by omega),zb h]
theorem qvx (m:Md) (p:Int) (s:Stt) (n:Nat) (k:Int) (h:(m.tree.getD k.toNat nd0).kind=22):valN m p s (n+1) k =
  binF ((m.tree.getD k.toNat nd0).nums.getD 0 0) (valN m p s n ((m.tree.getD k.toNat nd0).kids.getD 0 0)) (valN m p s n ((m.tree.getD k.toNat nd0).kids.getD 1 0)):=by
 rw [binF,valN,za (by omega),za (by omega),za (by omega),za (by omega),za (by omega),zb h]
theorem jos (op a b:Int):-32768≤(qfa op a b).1∧(qfa op a b).1≤32768:=by
 have t:=fun n=>qon n 8
 unfold qfa
 (repeat' split) <;> first|(have:=t (a+b);simp;omega)|(have:=t (a - b);simp;omega)|(have:=t (a * b);simp;omega)|(have:=t (a.tdiv b);simp;omega)|(have:=t (a.tmod b);simp;omega)|simp
theorem jce {m:Md} {s:Stt} (hm:MOk m) (hs:SOk m s) (p:Int):∀ (n:Nat) (k:Int),-32768≤(valN m p s n k).1∧(valN m p s n k).1≤32768
 | 0,_=>by simp [valN]
 | n+1,k=>by
  have t:=fun n=>qon n 8
  unfold valN
  split
  ·have:=t ((m.tree.getD k.toNat nd0).nums.getD 0 0);simp only;omega
  split
  ·split
   ·simp
   ·have:=qvv hm p ((m.tree.getD k.toNat nd0).words.getD 0 [])
    have h2:=hs.vl
    exact hs.vb _ (qk _ _ _ (by omega))
  split
  ·split
   ·simp
   ·have:=qjb (fun c:Ch=>c.name == (m.tree.getD k.toNat nd0).words.getD 0 []) m.chans
    have h2:=hs.cl
    have:=hs.cb _ (qk s.chans (idx (fun c:Ch=>c.name == (m.tree.getD k.toNat nd0).words.getD 0 []) m.chans).toNat [] (by omega))
    simp only;omega
  split
  ·have:=t (0 - (valN m p s n ((m.tree.getD k.toNat nd0).kids.getD 0 0)).1);simp only;omega
  split
  ·simp only;split <;> omega
  split
  ·split
   ·exact jos _ _ _
   ·simp
  ·simp
theorem jot (op a b:Int) (h:0≤op∧op≤8) (h4:4≤op) (hb:¬ (7≤op∧b=0)):qfa op a b=(doF (op - 4) a b,true):=by
 have:op=4∨op=5∨op=6∨op=7∨op=8:=by omega
 rcases this with rfl|rfl|rfl|rfl|rfl
 ·rfl
 ·rfl
 ·rfl
 ·have:b≠0:=by omega
  simp [qfa,doF,this]
 ·have:b≠0:=by omega
  simp [qfa,doF,this]
theorem jou (sg:Int) {a b:Int} {x y:Bool} (hs:0≤sg∧sg≤8) (h:(x=false∨y=false)∨7≤sg∧b=0):binF sg (a,x) (b,y)=(0,false):=by
 unfold binF
 by_cases hxy:x=true∧y=true
 ·rw [zb hxy]
  have h2:7≤sg∧b=0:=by
   rcases h with (h|h)|h
   ·rw [h] at hxy;exact absurd hxy.1 (by decide)
   ·rw [h] at hxy;exact absurd hxy.2 (by decide)
   ·exact h
  obtain ⟨h7,rfl⟩:=h2
  unfold qfa
  rw [za (by omega),za (by omega),za (by omega),za (by omega),za (by omega),za (by omega),za (by omega),zb rfl]
 ·rw [za hxy]
theorem jov (sg:Int) {a b:Int} {x y:Bool} (h:x=true∧y=true):binF sg (a,x) (b,y)=qfa sg a b:=zb h
theorem qmc {α:Type} (q:α→Bool) (l:List α) (d:α):l.all q=true↔∀ j,j<l.length→q (l.getD j d)=true:=by
 rw [xy]
 constructor
 ·exact fun h j hj=>h _ (qk l j d hj)
 ·intro h x hx
  obtain ⟨j,hj,rfl⟩:=List.mem_iff_getElem.1 hx
  have:=h j hj
  rw [zd,ze hj] at this
  exact this
def fitsB (m:Md) (s:Stt):Bool:=
 decide (s.at_.length=m.procs.length∧s.vars.length=m.vars.length∧s.chans.length=m.chans.length∧-1≤s.holder∧s.holder<m.procs.length) &&
 (List.range s.at_.length).all (fun i=>decide (0≤s.at_.getD i 0∧s.at_.getD i 0<(m.procs.getD i pr0).places)) &&
 (List.range s.vars.length).all (fun i=>trim (s.vars.getD i 0) (m.vars.getD i vr0).width == s.vars.getD i 0) &&
 (List.range s.chans.length).all (fun i=>decide ((s.chans.getD i []).length≤(m.chans.getD i ch0).room) && (s.chans.getD i []).all fun x=>trim x (m.chans.getD i ch0).width == x)
def val (m:Md) (p:Int) (s:Stt) (k:Int):Int × Bool:=valN m p s m.tree.length k
def qkr (m:Md) (s:Stt) (k:Int):Bool:=(val m (-1) s k).2 && !((val m (-1) s k).1 == 0)
def qmd (m:Md) (s:Stt):Bool:=m.safe.all (qkr m s)
theorem qoo {α:Type} {q:α→Bool} {l:List α} (d:α) (h:∀ j,j<l.length→q (l.getD j d)=true):l.all q=true:=(qmc q l d).2 h
theorem qop {α:Type} {q:α→Bool} {l:List α} (d:α) {j:Nat} (hj:j<l.length) (h:q (l.getD j d)=false):l.all q=false:=by
 rw [xf]
 intro h'
 rw [(qmc q l d).1 h' j hj] at h
 cases h
theorem qsm {q:Nat→Bool} {n i:Nat} (hi:i<n) (h:q i=false):(List.range n).all q=false:=by
 rw [xf]
 intro h'
 rw [xy] at h'
 rw [h' i (List.mem_range.2 hi)] at h
 cases h
theorem qks {q:Nat→Bool} {n:Nat} (h:∀ i,i<n→q i=true):(List.range n).all q=true:=by
 rw [xy]
 exact fun i hi=>h i (List.mem_range.1 hi)
theorem qoq {q:Nat→Bool} {n i:Nat} (h:(List.range n).all q=true) (hi:i<n):q i=true:=by
 rw [xy] at h
 exact h i (List.mem_range.2 hi)
abbrev qor (m:Md) (s:Stt):Prop:=s.at_.length=m.procs.length∧s.vars.length=m.vars.length∧s.chans.length=m.chans.length∧-1≤s.holder∧s.holder<m.procs.length
abbrev qjc (m:Md) (s:Stt) (i:Nat):Prop:=0≤s.at_.getD i 0∧s.at_.getD i 0<(m.procs.getD i pr0).places
abbrev qkt (m:Md) (s:Stt) (i:Nat):Prop:=trim (s.vars.getD i 0) (m.vars.getD i vr0).width=s.vars.getD i 0
abbrev qjd (m:Md) (s:Stt) (i:Nat):Prop:=(s.chans.getD i []).length≤(m.chans.getD i ch0).room
abbrev qku (m:Md) (s:Stt) (i k:Nat):Prop:=trim ((s.chans.getD i []).getD k 0) (m.chans.getD i ch0).width=(s.chans.getD i []).getD k 0
theorem jn (m:Md) (s:Stt):fitsB m s=true↔qor m s∧(∀ i,i<s.at_.length→qjc m s i)∧(∀ i,i<s.vars.length→qkt m s i)∧∀ i,i<s.chans.length→qjd m s i∧∀ k,k<(s.chans.getD i []).length→qku m s i k:=by
 unfold fitsB
 simp only [zf]
 constructor
 ·rintro ⟨⟨⟨h1,h2⟩,h3⟩,h4⟩
  refine ⟨zm h1,fun i hi=>zm (qoq h2 hi),fun i hi=>by have:=qoq h3 hi;exact beq_iff_eq.1 this,fun i hi=>?_⟩
  have:=qoq h4 hi
  simp only [zf] at this
  exact ⟨zm this.1,fun k hk=>beq_iff_eq.1 ((qmc _ _ 0).1 this.2 k hk)⟩
 ·rintro ⟨h1,h2,h3,h4⟩
  exact ⟨⟨⟨xn h1,qks fun i hi=>xn (h2 i hi)⟩,qks fun i hi=>beq_iff_eq.2 (h3 i hi)⟩,qks fun i hi=>by
   simp only [zf]
   exact ⟨xn (h4 i hi).1,(qmc _ _ 0).2 fun k hk=>beq_iff_eq.2 ((h4 i hi).2 k hk)⟩⟩
theorem jcf {m:Md} {s:Stt} (h:¬ qor m s):fitsB m s=false:=by
 rw [xf];exact fun h'=>h ((jn m s).1 h').1
theorem jow {m:Md} {s:Stt} (i:Nat) (hi:i<s.at_.length) (h:¬ qjc m s i):fitsB m s=false:=by
 rw [xf];exact fun h'=>h (((jn m s).1 h').2.1 i hi)
theorem jox {m:Md} {s:Stt} (i:Nat) (hi:i<s.vars.length) (h:¬ qkt m s i):fitsB m s=false:=by
 rw [xf];exact fun h'=>h (((jn m s).1 h').2.2.1 i hi)
theorem joy {m:Md} {s:Stt} (i:Nat) (hi:i<s.chans.length) (h:¬ qjd m s i):fitsB m s=false:=by
 rw [xf];exact fun h'=>h (((jn m s).1 h').2.2.2 i hi).1
theorem joz {m:Md} {s:Stt} (i k:Nat) (hi:i<s.chans.length) (hk:k<(s.chans.getD i []).length) (h:¬ qku m s i k):fitsB m s=false:=by
 rw [xf];exact fun h'=>h ((((jn m s).1 h').2.2.2 i hi).2 k hk)
structure SSz (s:Stt):Prop where
 a:s.at_.length≤1000000
 v:s.vars.length≤1000000
 c:s.chans.length≤1000000
 l:∀ c∈s.chans,c.length≤1000000
def qw (m:Md):Stt where
 at_:=List.replicate m.procs.length 0
 vars:=m.vars.map (·.value)
 chans:=List.replicate m.chans.length []
 holder:=-1
theorem qvy {α β:Type} (f:α→β) (l:List α) (i:Nat) (d:β) (d':α) (h:i<l.length):(l.map f).getD i d=f (l.getD i d'):=by
 rw [zd,zd,zi,ze h];rfl
theorem qme {α:Type} (x:α) (n i:Nat) (d:α) (h:i<n):(List.replicate n x).getD i d=x:=by
 rw [zd,List.getElem?_replicate,zb h];rfl
def qeo (a b:Stt):Bool:=a.at_ == b.at_ && a.vars == b.vars && a.chans == b.chans && a.holder == b.holder
theorem jcg {α:Type} {a b:List α} (d:α) (h:a.length=b.length) (h':∀ i,i<a.length→a.getD i d=b.getD i d):a=b:=by
 refine List.ext_getElem h fun i h1 h2=>?_
 have:=h' i h1
 rw [zd,zd,ze h1,ze h2] at this
 exact this
end Go.St
end
