/- Some texts of the library, one behind the other. -/
import Derived.Test.YtikahnkkfkoglaaGreatDoorY11
import Derived.Test.YtikahnkkfkoglaaGreatDoorY12
import Derived.IntWalk
set_option linter.unusedSimpArgs false
set_option linter.unusedVariables false
section
namespace Go.Sx
open Go Go.RowKit
abbrev iv (n:Int):AV:=.int .i64 n
def ints (l:List Int):AV:=slcL (fun n=>[iv n]) 0 1 l
def strs (l:List (List UInt8)):AV:=slcL (fun s=>[.str s]) [] 1 l
def qlg (l:List Bool):AV:=slcL (fun b=>[.bool b]) false 1 l
structure Nd where
 kind:Int
 words:List (List UInt8):=[]
 nums:List Int:=[]
 kids:List Int:=[]
 at_:Int
def Nd.cells (n:Nd):List AV:=[iv n.kind,strs n.words,ints n.nums,ints n.kids,iv n.at_]
def nd0:Nd:=⟨0,[],[],[],0⟩
def jr (l:List Nd):AV:=slcL Nd.cells nd0 5 l
structure Ch where
 name:List UInt8
 room:Int
 width:Int
 lossy:Bool
 copying:Bool
def Ch.cells (c:Ch):List AV:=[.str c.name,iv c.room,iv c.width,.bool c.lossy,.bool c.copying]
def ch0:Ch:=⟨[],0,0,false,false⟩
structure Vr where
 name:List UInt8
 width:Int
 value:Int
def Vr.cells (v:Vr):List AV:=[.str v.name,iv v.width,iv v.value]
def vr0:Vr:=⟨[],0,0⟩
structure Ed where
 frm:Int
 to:Int
 act:Int
 expr:Int:=-1
 var:Int:=-1
 chn:Int:=-1
 keep:Bool:=false
 node:Int
def Ed.cells (e:Ed):List AV:=[iv e.frm,iv e.to,iv e.act,iv e.expr,iv e.var,iv e.chn,.bool e.keep,iv e.node]
def ed0:Ed:=⟨0,0,0,0,0,0,false,0⟩
structure Pr where
 name:List UInt8
 copy:Int
 locals:List Int:=[]
 places:Int
 rest:List Bool
 edges:List Ed
 names:List (List UInt8):=[]
 vars:List Int:=[]
def Pr.cells (p:Pr):List AV:=[.str p.name,iv p.copy,ints p.locals,iv p.places,qlg p.rest,slcL Ed.cells ed0 8 p.edges,strs p.names,ints p.vars]
def pr0:Pr:=⟨[],0,[],0,[],[],[],[]⟩
structure Md where
 tree:List Nd
 globals:Int:=0
 chans:List Ch:=[]
 vars:List Vr:=[]
 procs:List Pr:=[]
 safe:List Int:=[]
 dead:Bool:=false
def Md.cells (m:Md):List AV:=[jr m.tree,iv m.globals,slcL Ch.cells ch0 5 m.chans,slcL Vr.cells vr0 3 m.vars,slcL Pr.cells pr0 8 m.procs,ints m.safe,.bool m.dead]
def Md.av (m:Md):AV:=.agg m.cells
structure Stt where
 at_:List Int
 vars:List Int
 chans:List (List Int)
 holder:Int
def Stt.cells (s:Stt):List AV:=[ints s.at_,ints s.vars,slcL (fun l=>[ints l]) [] 1 s.chans,iv s.holder]
def Stt.av (s:Stt):AV:=.agg s.cells
def flt (e at_:Int):AV:=.agg [iv e,iv at_]
end Go.Sx
end
section
namespace Go.St
open Go Go.Sx
def wid (w:Int):Nat:=(min (max w 1) 16).toNat
def trim (n w:Int):Int:=if n % 2 ^ wid w≥2 ^ (wid w - 1) then n % 2 ^ wid w - 2 ^ wid w else n % 2 ^ wid w
theorem qgg (w:Int):1≤wid w∧wid w≤16:=by unfold wid;omega
theorem qgh (k:Nat) (h:k≤16):(1:Int)≤2 ^ k∧(2:Int) ^ k≤65536:=by
 have h1:(2:Nat) ^ k≤2 ^ 16:=Nat.pow_le_pow_right (by decide) h
 have h2:1≤2 ^ k:=Nat.one_le_two_pow
 have h3:((2 ^ k:Nat):Int)=(2:Int) ^ k:=by simp
 omega
theorem qrc (k:Nat) (h:1≤k):(2:Int) ^ k=2 * 2 ^ (k - 1):=by
 obtain ⟨j,rfl⟩:∃ j,k=j+1:=⟨k - 1,by omega⟩
 rw [Int.pow_succ,Nat.add_sub_cancel];omega
theorem jmn (n w:Int):-(2:Int) ^ (wid w - 1)≤trim n w∧trim n w<(2:Int) ^ (wid w - 1):=by
 have h1:=qrc (wid w) (qgg w).1
 have h2:=qgh (wid w) (qgg w).2
 have h3:=Int.emod_nonneg n (b:=2 ^ wid w) (by omega)
 have h4:=Int.emod_lt_of_pos n (b:=2 ^ wid w) (by omega)
 unfold trim
 split <;> omega
theorem qnk (n w:Int):-32768≤trim n w∧trim n w<32768:=by
 have h1:=jmn n w
 have h2:=qgh (wid w - 1) (by have:=qgg w;omega)
 have h3:=qrc (wid w) (qgg w).1
 have h4:=qgh (wid w) (qgg w).2
 omega
theorem mask (k:Nat) (hk:k≤16) (n:Int):bitI .and .i64 n (2 ^ k - 1)=n % 2 ^ k:=by
 have hp:=qgh k hk
 have e1:(BitVec.ofInt 64 (2 ^ k - 1:Int)).toNat=2 ^ k - 1:=by
  rw [BitVec.toNat_ofInt]
  have h3:((2 ^ k:Nat):Int)=(2:Int) ^ k:=by simp
  have:(2:Int) ^ k - 1=((2 ^ k - 1:Nat):Int):=by have:=Nat.one_le_two_pow (n:=k);omega
  rw [this]
  have h4:2 ^ k - 1<2 ^ 64:=by omega
  omega
 have e2:(BitVec.ofInt 64 n &&& BitVec.ofInt 64 (2 ^ k - 1:Int)).toNat=(n % 2 ^ k).toNat:=by
  rw [BitVec.toNat_and,e1,Nat.and_two_pow_sub_one_eq_mod,BitVec.toNat_ofInt]
  have hd:((2:Int) ^ k) ∣ ((2 ^ 64:Nat):Int):=by
   refine ⟨2 ^ (64 - k),?_⟩
   rw [← Int.pow_add]
   have:k+(64 - k)=64:=by omega
   rw [this];rfl
  have h1:=Int.emod_emod_of_dvd n hd
  have h2:0≤n % ((2 ^ 64:Nat):Int):=Int.emod_nonneg _ (by decide)
  rw [← h1]
  have h3:(n % ((2 ^ 64:Nat):Int))=(((n % ((2 ^ 64:Nat):Int)).toNat:Nat):Int):=by omega
  generalize (n % ((2 ^ 64:Nat):Int)).toNat=m at h3 ⊢
  rw [h3]
  have:((m:Int) % 2 ^ k)=((m % 2 ^ k:Nat):Int):=by push_cast;rfl
  rw [this];rfl
 have hb:=Int.emod_nonneg n (b:=2 ^ k) (by omega)
 have hl:=Int.emod_lt_of_pos n (b:=2 ^ k) (by omega)
 show IntKind.i64.wrap ((BitVec.ofInt 64 n &&& BitVec.ofInt 64 (2 ^ k - 1:Int)).toNat:Int)=_
 rw [e2,Int.toNat_of_nonneg hb]
 exact IntWalk.i64_in _ ⟨by omega,by omega⟩
theorem jmo (n M:Int) (h:0<M):(if n.tmod M<0 then n.tmod M+M else n.tmod M)=n % M:=by
 have h1:n.tmod M<M:=Int.tmod_lt_of_pos n h
 have h2:-M<n.tmod M:=Int.lt_tmod_of_pos n h
 have h3:=Int.mul_tdiv_add_tmod n M
 have h4:n % M=n.tmod M % M:=by
  conv=>lhs;rw [← h3]
  rw [Int.add_comm,Int.add_mul_emod_self_left]
 rw [h4]
 split
 ·rw [← Int.add_emod_right,Int.emod_eq_of_lt (by omega) (by omega)]
 ·rw [Int.emod_eq_of_lt (by omega) (by omega)]
def doF (op a b:Int):Int:=if op=0 then trim (a+b) 8 else if op=1 then trim (a - b) 8 else if op=2 then trim (a * b) 8 else if b=0 then 0 else if op=3 then trim (a.tdiv b) 8 else trim (a.tmod b) 8
def qjt (op a b:Int):Int × Bool:=
 if op=0 then (if (a != 0 || b != 0) then 1 else 0,true) else if op=1 then (if (a != 0 && b != 0) then 1 else 0,true)
 else if op=2 then (if a == b then 1 else 0,true) else if op=3 then (if decide (a<b) then 1 else 0,true)
 else if op=4 then (trim (a+b) 8,true) else if op=5 then (trim (a - b) 8,true) else if op=6 then (trim (a * b) 8,true)
 else if b=0 then (0,false) else if op=7 then (trim (a.tdiv b) 8,true) else (trim (a.tmod b) 8,true)
def qlh (p:Int × Bool):AV:=.tup [iv p.1,.bool p.2]
def jaw (op a b:Int):AV:=qlh (qjt op a b)
theorem jmp (n w:Int):trim n w=if (if n.tmod (2 ^ wid w)<0 then n.tmod (2 ^ wid w)+2 ^ wid w else n.tmod (2 ^ wid w))≥2 ^ wid w / 2
  then (if n.tmod (2 ^ wid w)<0 then n.tmod (2 ^ wid w)+2 ^ wid w else n.tmod (2 ^ wid w)) - 2 ^ wid w else (if n.tmod (2 ^ wid w)<0 then n.tmod (2 ^ wid w)+2 ^ wid w else n.tmod (2 ^ wid w)):=by
 have h1:=qrc (wid w) (qgg w).1
 have h2:=qgh (wid w) (qgg w).2
 rw [jmo n _ (by omega)]
 unfold trim
 split <;> split <;> omega
theorem jax {a b:Int} (h:-32768≤a∧a≤32768) (h':-32768≤b∧b≤32768):-1073741824≤a * b∧a * b≤1073741824:=by
 have h1:(a * b).natAbs≤32768 * 32768:=by rw [Int.natAbs_mul];exact Nat.mul_le_mul (by omega) (by omega)
 omega
theorem jmq (a b:Int) (h:-32768≤a∧a≤32768):-32768≤a.tdiv b∧a.tdiv b≤32768:=by
 have h1:(a.tdiv b).natAbs≤a.natAbs:=by rw [Int.natAbs_tdiv];exact Nat.div_le_self _ _
 omega
theorem jmr (a b:Int) (q:Nat) (hb:1≤b.natAbs) (h1:q * b.natAbs≤a.natAbs) (h2:(a.natAbs:Int) - q * b.natAbs<b.natAbs) :
  a.tdiv b=(if (decide (a<0) != decide (b<0)) then 0 - (q:Int) else q)∧a.tmod b=(if a<0 then 0 - ((a.natAbs:Int) - q * b.natAbs) else (a.natAbs:Int) - q * b.natAbs):=by
 have hq:a.natAbs / b.natAbs=q:=by
  have:((q * b.natAbs:Nat):Int)=(q:Int) * (b.natAbs:Int):=by push_cast;rfl
  refine Nat.div_eq_of_lt_le h1 ?_
  rw [zat];omega
 have hd:a.tdiv b=(if (decide (a<0) != decide (b<0)) then 0 - (q:Int) else q):=by
  rw [← hq]
  rcases Int.natAbs_eq a with ha|ha <;> rcases Int.natAbs_eq b with hb'|hb'
  all_goals
   generalize ha':a.natAbs=x at *
   generalize hb'':b.natAbs=y at *
   subst ha hb'
  ·rw [← Int.ofNat_tdiv];simp
   intro h;omega
  ·rw [Int.tdiv_neg,← Int.ofNat_tdiv]
   by_cases hx:(x:Int)<0
   ·omega
   ·have:(-(y:Int)<0):=by omega
    simp [hx,this]
    intro h;omega
  ·rw [Int.neg_tdiv,← Int.ofNat_tdiv]
   by_cases hx:x=0
   ·subst hx;simp
   ·have:(-(x:Int)<0):=by omega
    have h3:¬ ((y:Int)<0):=by omega
    simp [this,h3]
    intro h;omega
  ·rw [Int.neg_tdiv_neg,← Int.ofNat_tdiv]
   by_cases hx:x=0
   ·subst hx;simp
   ·have:(-(x:Int)<0):=by omega
    have h3:(-(y:Int)<0):=by omega
    simp [this,h3]
    intro h;exact absurd ⟨fun _=>by omega,fun _=>by omega⟩ h
 refine ⟨hd,?_⟩
 have he:=Int.mul_tdiv_add_tmod a b
 rw [hd] at he
 rcases Int.natAbs_eq a with ha|ha <;> rcases Int.natAbs_eq b with hb'|hb'
 all_goals
  generalize ha':a.natAbs=x at *
  generalize hb'':b.natAbs=y at *
  subst ha hb'
  generalize hr:Int.tmod _ _=r at *
  have hc:=Int.mul_comm (q:Int) (y:Int)
 ·have h3:¬ ((x:Int)<0):=by omega
  have h4:¬ ((y:Int)<0):=by omega
  have e:¬ ((decide ((x:Int)<0) != decide ((y:Int)<0))=true):=by rw [zay h3,zay h4];decide
  rw [za e] at he;rw [za h3]
  omega
 ·have h3:¬ ((x:Int)<0):=by omega
  have h4:(-(y:Int)<0):=by omega
  have e:(decide ((x:Int)<0) != decide (-(y:Int)<0))=true:=by rw [zay h3,xl h4];rfl
  rw [zb e] at he;rw [za h3]
  simp only [Int.zero_sub,Int.neg_mul,Int.mul_neg,Int.neg_neg] at he
  omega
 ·by_cases hx:x=0
  ·subst hx
   have hq0:q=0:=by rw [← hq];simp
   subst hq0
   simp at he ⊢;exact he
  ·have h3:(-(x:Int)<0):=by omega
   have h4:¬ ((y:Int)<0):=by omega
   have e:(decide (-(x:Int)<0) != decide ((y:Int)<0))=true:=by rw [xl h3,zay h4];rfl
   rw [zb e] at he;rw [zb h3]
   simp only [Int.zero_sub,Int.neg_mul,Int.mul_neg,Int.neg_neg] at he
   omega
 ·by_cases hx:x=0
  ·subst hx
   have hq0:q=0:=by rw [← hq];simp
   subst hq0
   simp at he ⊢;exact he
  ·have h3:(-(x:Int)<0):=by omega
   have h4:(-(y:Int)<0):=by omega
   have e:¬ ((decide (-(x:Int)<0) != decide (-(y:Int)<0))=true):=by rw [xl h3,xl h4];decide
   rw [za e] at he;rw [zb h3]
   simp only [Int.zero_sub,Int.neg_mul,Int.mul_neg,Int.neg_neg] at he
   omega
theorem jms (a b:Int) (q:Nat) (hb:1≤b.natAbs) (h1:q * b.natAbs≤a.natAbs) (h2:(a.natAbs:Int) - q * b.natAbs<b.natAbs) :
  a.tdiv b=(if (a<0↔b<0) then (q:Int) else 0 - q)∧a.tmod b=(if a<0 then 0 - ((a.natAbs:Int) - q * b.natAbs) else (a.natAbs:Int) - q * b.natAbs):=by
 obtain ⟨h3,h4⟩:=jmr a b q hb h1 h2
 refine ⟨?_,h4⟩
 rw [h3]
 by_cases ha:a<0 <;> by_cases hb:b<0 <;> simp [ha,hb]
end Go.St
end
