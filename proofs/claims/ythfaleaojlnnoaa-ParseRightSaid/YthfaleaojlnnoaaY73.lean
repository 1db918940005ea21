/- Some texts of the library, one behind the other. -/
import Derived.Test.YthfaleaojlnnoaaY71
import Derived.Test.YthfaleaojlnnoaaY72
import Derived.IntWalk
import Derived.Test.YthfaleaojlnnoaaRows
import Derived.ProofKit
set_option linter.unusedSimpArgs false
set_option linter.unusedVariables false
section
namespace Go.Sx
open Go Go.RowKit
abbrev iv (n:Int):AV:=.int .i64 n
def ints (l:List Int):AV:=slcL (fun n=>[iv n]) 0 1 l
def strs (l:List (List UInt8)):AV:=slcL (fun s=>[.str s]) [] 1 l
def bools (l:List Bool):AV:=slcL (fun b=>[.bool b]) false 1 l
structure Nd where
 kind:Int
 words:List (List UInt8):=[]
 nums:List Int:=[]
 kids:List Int:=[]
 at_:Int
def Nd.cells (n:Nd):List AV:=[iv n.kind,strs n.words,ints n.nums,ints n.kids,iv n.at_]
def nd0:Nd:=⟨0,[],[],[],0⟩
def qcv (l:List Nd):AV:=slcL Nd.cells nd0 5 l
structure Ch where
 name:List UInt8
 room:Int
 width:Int
 lossy:Bool
 copying:Bool
def Ch.cells (c:Ch):List AV:=[.str c.name,iv c.room,iv c.width,.bool c.lossy,.bool c.copying]
def ch0:Ch:=⟨[],0,0,false,false⟩
structure Vr where
 name:List UInt8
 width:Int
 value:Int
def Vr.cells (v:Vr):List AV:=[.str v.name,iv v.width,iv v.value]
def vr0:Vr:=⟨[],0,0⟩
structure Ed where
 frm:Int
 to:Int
 act:Int
 expr:Int:=-1
 var:Int:=-1
 chn:Int:=-1
 keep:Bool:=false
 node:Int
def Ed.cells (e:Ed):List AV:=[iv e.frm,iv e.to,iv e.act,iv e.expr,iv e.var,iv e.chn,.bool e.keep,iv e.node]
def ed0:Ed:=⟨0,0,0,0,0,0,false,0⟩
structure Pr where
 name:List UInt8
 copy:Int
 locals:List Int:=[]
 places:Int
 rest:List Bool
 edges:List Ed
 names:List (List UInt8):=[]
 vars:List Int:=[]
def Pr.cells (p:Pr):List AV:=[.str p.name,iv p.copy,ints p.locals,iv p.places,bools p.rest,slcL Ed.cells ed0 8 p.edges,strs p.names,ints p.vars]
def pr0:Pr:=⟨[],0,[],0,[],[],[],[]⟩
structure Md where
 tree:List Nd
 globals:Int:=0
 chans:List Ch:=[]
 vars:List Vr:=[]
 procs:List Pr:=[]
 safe:List Int:=[]
 dead:Bool:=false
def Md.cells (m:Md):List AV:=[qcv m.tree,iv m.globals,slcL Ch.cells ch0 5 m.chans,slcL Vr.cells vr0 3 m.vars,slcL Pr.cells pr0 8 m.procs,ints m.safe,.bool m.dead]
structure Stt where
 at_:List Int
 vars:List Int
 chans:List (List Int)
 holder:Int
def Stt.cells (s:Stt):List AV:=[ints s.at_,ints s.vars,slcL (fun l=>[ints l]) [] 1 s.chans,iv s.holder]
def flt (e at_:Int):AV:=.agg [iv e,iv at_]
end Go.Sx
end
section
namespace Go.St
open Go Go.Sx
def wid (w:Int):Nat:=(min (max w 1) 16).toNat
def trim (n w:Int):Int:=if n % 2 ^ wid w≥2 ^ (wid w - 1) then n % 2 ^ wid w - 2 ^ wid w else n % 2 ^ wid w
def jje (op a b:Int):Int × Bool:=
 if op=0 then (if (a != 0 || b != 0) then 1 else 0,true) else if op=1 then (if (a != 0 && b != 0) then 1 else 0,true)
 else if op=2 then (if a == b then 1 else 0,true) else if op=3 then (if decide (a<b) then 1 else 0,true)
 else if op=4 then (trim (a+b) 8,true) else if op=5 then (trim (a - b) 8,true) else if op=6 then (trim (a * b) 8,true)
 else if b=0 then (0,false) else if op=7 then (trim (a.tdiv b) 8,true) else (trim (a.tmod b) 8,true)
end Go.St
end
section
namespace Go.St
open List renaming getD_eq_getElem?_getD → zd
open Go Go.Sx
theorem qiw {α:Type} (l:List α) (i:Nat) (d:α) (h:i<l.length):l.getD i d∈l:=by
 rw [zd,ze h];exact xt h
theorem qea {p:Nat→Prop} {i:Nat} (h:∀ j,j<i→p j) (hi:p i):∀ j,j<i+1→p j:=fun j hj=>by
 by_cases e:j=i
 ·exact e ▸ hi
 ·exact h j (by omega)
def idx {α:Type} (p:α→Bool) (l:List α):Int:=match l.findIdx? p with|some i=>i|none=>-1
theorem qzb {α:Type} (p:α→Bool) (l:List α) (d:α) (i:Nat) (hi:i<l.length) (hp:p (l.getD i d)=true) (hb:∀ j,j<i→p (l.getD j d)=false):idx p l=i:=by
 have:l.findIdx? p=some i:=by
  rw [List.findIdx?_eq_some_iff_getElem]
  refine ⟨hi,?_,fun j hj=>?_⟩
  ·rw [zd,ze hi] at hp;exact hp
  ·have h:=hb j hj
   rw [zd,ze (by omega)] at h
   simp only [zal] at h
   rw [h];decide
 rw [idx,this]
theorem qzc {α:Type} (p:α→Bool) (l:List α) (d:α) (hb:∀ j,j<l.length→p (l.getD j d)=false):idx p l=-1:=by
 have:l.findIdx? p=none:=by
  rw [List.findIdx?_eq_none_iff]
  intro x hx
  obtain ⟨j,hj,rfl⟩:=List.mem_iff_getElem.1 hx
  have h:=hb j hj
  rw [zd,ze hj] at h
  exact h
 rw [idx,this]
def varN (m:Md) (p:Int) (s:List UInt8):Int:=
 if 0≤p∧p<m.procs.length then
  (if idx (· == s) (m.procs.getD p.toNat pr0).names<0 then -1 else (m.procs.getD p.toNat pr0).vars.getD (idx (· == s) (m.procs.getD p.toNat pr0).names).toNat 0)
 else idx (fun v:Vr=>v.name == s) (m.vars.take m.globals.toNat)
def valN (m:Md) (p:Int) (s:Stt):Nat→Int→Int × Bool
 | 0,_=>(0,false)
 | n+1,k=>
  if (m.tree.getD k.toNat nd0).kind=17 then (trim ((m.tree.getD k.toNat nd0).nums.getD 0 0) 8,true)
  else if (m.tree.getD k.toNat nd0).kind=18 then
   (if varN m p ((m.tree.getD k.toNat nd0).words.getD 0 [])<0 then (0,false) else (s.vars.getD (varN m p ((m.tree.getD k.toNat nd0).words.getD 0 [])).toNat 0,true))
  else if (m.tree.getD k.toNat nd0).kind=19 then
   (if idx (fun c:Ch=>c.name == (m.tree.getD k.toNat nd0).words.getD 0 []) m.chans<0 then (0,false) else ((s.chans.getD (idx (fun c:Ch=>c.name == (m.tree.getD k.toNat nd0).words.getD 0 []) m.chans).toNat []).length,true))
  else if (m.tree.getD k.toNat nd0).kind=20 then
   (trim (0 - (valN m p s n ((m.tree.getD k.toNat nd0).kids.getD 0 0)).1) 8,(valN m p s n ((m.tree.getD k.toNat nd0).kids.getD 0 0)).2)
  else if (m.tree.getD k.toNat nd0).kind=21 then
   (if ((valN m p s n ((m.tree.getD k.toNat nd0).kids.getD 0 0)).2 && (valN m p s n ((m.tree.getD k.toNat nd0).kids.getD 0 0)).1 == 0) then 1 else 0,(valN m p s n ((m.tree.getD k.toNat nd0).kids.getD 0 0)).2)
  else if (m.tree.getD k.toNat nd0).kind=22 then
   (if (valN m p s n ((m.tree.getD k.toNat nd0).kids.getD 0 0)).2=true∧(valN m p s n ((m.tree.getD k.toNat nd0).kids.getD 1 0)).2=true then
    jje ((m.tree.getD k.toNat nd0).nums.getD 0 0) (valN m p s n ((m.tree.getD k.toNat nd0).kids.getD 0 0)).1 (valN m p s n ((m.tree.getD k.toNat nd0).kids.getD 1 0)).1
   else (0,false))
  else (0,false)
theorem qzd {α:Type} (q:α→Bool) (l:List α) (d:α):l.all q=true↔∀ j,j<l.length→q (l.getD j d)=true:=by
 rw [zs]
 constructor
 ·exact fun h j hj=>h _ (qiw l j d hj)
 ·intro h x hx
  obtain ⟨j,hj,rfl⟩:=List.mem_iff_getElem.1 hx
  have:=h j hj
  rw [zd,ze hj] at this
  exact this
def val (m:Md) (p:Int) (s:Stt) (k:Int):Int × Bool:=valN m p s m.tree.length k
theorem qmu {α:Type} {q:α→Bool} {l:List α} (d:α) (h:∀ j,j<l.length→q (l.getD j d)=true):l.all q=true:=(qzd q l d).2 h
theorem qmv {α:Type} {q:α→Bool} {l:List α} (d:α) {j:Nat} (hj:j<l.length) (h:q (l.getD j d)=false):l.all q=false:=by
 rw [Bool.eq_false_iff]
 intro h'
 rw [(qzd q l d).1 h' j hj] at h
 cases h
theorem qmw {q:Nat→Bool} {n i:Nat} (hi:i<n) (h:q i=false):(List.range n).all q=false:=by
 rw [Bool.eq_false_iff]
 intro h'
 rw [zs] at h'
 rw [h' i (List.mem_range.2 hi)] at h
 cases h
theorem qmx {q:Nat→Bool} {n:Nat} (h:∀ i,i<n→q i=true):(List.range n).all q=true:=by
 rw [zs]
 exact fun i hi=>h i (List.mem_range.1 hi)
end Go.St
end
section
namespace Go.St
open Go Go.Sx
def qhn (c:Int):Bool:=(decide (65≤c) && decide (c≤90)) || (decide (97≤c) && decide (c≤122))
def qix (c:Int):Bool:=qhn c || (decide (48≤c) && decide (c≤57)) || c == 95
def keyL:List (List UInt8):=[[99,104,97,110],[111,102],[108,111,115,115,121],[99,111,112,121,105,110,103],[118,97,114],[112,114,111,99],[115,97,102,101],[100,101,97,100,108,111,99,107],[115,101,110,100],[114,101,99,118],[105,100,108,101],[119,104,101,110],[99,104,111,111,115,101],[111,114],[105,102],[101,108,115,101],[119,104,105,108,101],[97,116,111,109,105,99],[115,107,105,112],[115,116,111,112],[108,101,110]]
def keyF (s:List UInt8):Bool:=keyL.any (· == s)
def nameF (s:List UInt8):Bool:=!(decide (s.length=0) || decide (12<s.length) || !qhn (qcl s 0) || keyF s) && (List.range s.length).all fun i=>qix (qcl s i)
def inK (k a b:Int):Bool:=decide (a≤k) && decide (k≤b)
def kidK (l:List Nd) (n:Nd) (i:Nat):Int:=(l.getD (n.kids.getD i 0).toNat nd0).kind
def qg (n:Nd) (c:Int):Bool:=n.words.all nameF && ((n.words.length:Int) == c)
def qt (n:Nd) (c most:Int):Bool:=n.nums.all (fun x=>decide (0≤x) && decide (x≤most)) && ((n.nums.length:Int) == c)
def allB (l:List Nd) (n:Nd) (frm:Nat) (a b:Int):Bool:=(List.range n.kids.length).all fun i=>decide (i<frm) || inK (kidK l n i) a b
def qag (l:List Nd) (n:Nd) (first least most:Int):Bool:=
 ((List.range n.kids.length).all fun i=>!(decide ((i:Int)<first) && !inK (kidK l n i) 17 22 || decide (first≤(i:Int)) && kidK l n i != 16)) && (decide (first+least≤(n.kids.length:Int)) && decide ((n.kids.length:Int)≤first+most))
def qfa (l:List Nd) (n:Nd):Nat:=if idx (fun i=>kidK l n i != 2) (List.range n.kids.length)<0 then n.kids.length else (idx (fun i=>kidK l n i != 2) (List.range n.kids.length)).toNat
def qaa (l:List Nd) (n:Nd):Bool:=
 if n.kind=0 then qg n 0 && qt n 0 0 && allB l n 0 1 5
 else if n.kind=1 then qg n 1 && qt n 4 999999 && decide (n.nums.getD 2 0≤1) && decide (n.nums.getD 3 0≤1) && (n.kids.length:Int) == 0
 else if n.kind=2 then qg n 1 && (n.nums.length:Int) == 2 && inK (n.nums.getD 0 0) 0 999999 && inK (n.nums.getD 1 0) (-999999) 999999 && (n.kids.length:Int) == 0
 else if n.kind=3 then qg n 1 && qt n 1 999999 && allB l n (qfa l n) 6 15
 else if n.kind=4∨n.kind=20∨n.kind=21 then qg n 0 && qt n 0 0 && qag l n 1 0 0
 else if n.kind=5∨n.kind=14∨n.kind=15 then qg n 0 && qt n 0 0 && (n.kids.length:Int) == 0
 else if n.kind=6∨n.kind=7 then qg n 1 && qt n 0 0 && qag l n 1 0 0
 else if n.kind=8 then qg n 2 && qt n 1 1 && (n.kids.length:Int) == 0
 else if n.kind=9 then qg n 0 && qt n 1 1 && qag l n 1 0 0
 else if n.kind=10 then qg n 0 && qt n 1 1 && qag l n 0 1 800
 else if n.kind=11 then qg n 0 && qt n 0 0 && qag l n 1 1 2
 else if n.kind=12 then qg n 0 && qt n 0 0 && qag l n 1 1 1
 else if n.kind=13 then qg n 0 && qt n 0 0 && qag l n 0 1 1
 else if n.kind=16 then qg n 0 && qt n 0 0 && allB l n 0 6 15
 else if n.kind=17 then qg n 0 && qt n 1 999999 && (n.kids.length:Int) == 0
 else if n.kind=18∨n.kind=19 then qg n 1 && qt n 0 0 && (n.kids.length:Int) == 0
 else if n.kind=22 then qg n 0 && qt n 1 8 && qag l n 2 0 0
 else false
theorem qtj (n i d:Nat) (h:i<n):(List.range n).getD i d=i:=by
 rw [List.getD_eq_getElem?_getD,List.getElem?_range h];rfl
theorem qtk (l:List Nd) (n:Nd) (v:Nat) (hv:v≤n.kids.length) (h:∀ j,j<v→kidK l n j=2) (he:v=n.kids.length∨kidK l n v≠2):qfa l n=v:=by
 unfold qfa
 by_cases hl:v<n.kids.length
 ·have h2:kidK l n v≠2:=by omega
  have:=qzb (fun i=>kidK l n i != 2) (List.range n.kids.length) 0 v (by simpa using hl) (by rw [qtj _ _ _ hl];simpa using h2) (fun j hj=>by rw [qtj _ _ _ (by omega)];simpa using h j hj)
  rw [this,za (by omega)];omega
 ·have hz:∀ j,j<(List.range n.kids.length).length→(kidK l n ((List.range n.kids.length).getD j 0) != 2)=false:=by
   intro j hj
   have hj':j<n.kids.length:=by simpa using hj
   rw [qtj _ _ _ hj'];simpa using h j (by omega)
  have:=qzc (fun i=>kidK l n i != 2) (List.range n.kids.length) 0 hz
  rw [this,zb (by omega)];omega
structure NdSz (n:Nd):Prop where
 lw:n.words.length≤9223372036854775807
 ln:n.nums.length≤9223372036854775807
 lk:n.kids.length≤9223372036854775807
 ls:∀ s∈n.words,s.length≤9223372036854775807
end Go.St
end
section
namespace Go.Proofs.Ythfaleaojlnnoaa
open Go Go.Sx Go.RowKit Go.St
set_option maxRecDepth 100000
section
variable {H:Type} {enc:TypeId × Value→H}
theorem qze:maxLen=9223372036854775807:=by decide +kernel
theorem rdr_ints:Rdr enc Try.prog 31 (fun ys=>∃ l:List Int,(l.length≤maxLen∧∀ n∈l,(Lit.int .i64 n).wf=true)∧ys=[ints l]):=
 qry (en:=fun n=>[iv n]) Try.underlying31 (by kernel_rfl) (by decide) (fun _=>rfl) (qrx Try.underlying3)
theorem rdr_strs:Rdr enc Try.prog 30 (fun ys=>∃ l:List (List UInt8),(l.length≤maxLen∧∀ s∈l,s.length≤maxLen)∧ys=[strs l]):=
 qry (en:=fun s=>[.str s]) Try.underlying30 (by kernel_rfl) (by decide) (fun _=>rfl) (qwt Try.underlying9)
def ndQ:Nat→AV→Prop
 | 0,y|4,y=>∃ n:Int,y=iv n
 | 1,y=>∃ l:List (List UInt8),(l.length≤maxLen∧∀ s∈l,s.length≤maxLen)∧y=strs l
 | 2,y|3,y=>∃ l:List Int,l.length≤maxLen∧y=ints l
 | _,_=>True
theorem jjf:Rdr enc Try.prog 33 (fun ys=>∃ n:Nd,NdSz n∧ys=n.cells):=by
 refine (jfq (q:=ndQ) Try.underlying33 (by kernel_rfl) (fun i f hf=>?_)).mono fun ys hy=>?_
 ·match i with
  | 0=>cases hf;exact ⟨⟨rfl,by kernel_rfl⟩,(qrx Try.underlying3).mono fun ys ⟨n,_,h⟩=>⟨_,⟨n,rfl⟩,h⟩⟩
  | 1=>cases hf;exact ⟨⟨rfl,by kernel_rfl⟩,rdr_strs.mono fun ys ⟨l,h1,h⟩=>⟨_,⟨l,h1,rfl⟩,h⟩⟩
  | 2=>cases hf;exact ⟨⟨rfl,by kernel_rfl⟩,rdr_ints.mono fun ys ⟨l,h1,h⟩=>⟨_,⟨l,h1.1,rfl⟩,h⟩⟩
  | 3=>cases hf;exact ⟨⟨rfl,by kernel_rfl⟩,rdr_ints.mono fun ys ⟨l,h1,h⟩=>⟨_,⟨l,h1.1,rfl⟩,h⟩⟩
  | 4=>cases hf;exact ⟨⟨rfl,by kernel_rfl⟩,(qrx Try.underlying3).mono fun ys ⟨n,_,h⟩=>⟨_,⟨n,rfl⟩,h⟩⟩
  | i+5=>simp at hf
 ·obtain ⟨h1,h2⟩:=hy
  match ys,h1 with
  | [a,b,c,d,e],_=>
   obtain ⟨k,rfl⟩:=h2 0 a rfl
   obtain ⟨w,hw,rfl⟩:=h2 1 b rfl
   obtain ⟨ns,hn,rfl⟩:=h2 2 c rfl
   obtain ⟨ks,hk,rfl⟩:=h2 3 d rfl
   obtain ⟨p,rfl⟩:=h2 4 e rfl
   rw [qze] at hw hn hk
   exact ⟨⟨k,w,ns,ks,p⟩,⟨hw.1,hn,hk,hw.2⟩,rfl⟩
theorem jjg:Rdr enc Try.prog 23 (fun ys=>∃ l:List Nd,(l.length≤maxLen∧∀ n∈l,NdSz n)∧ys=[qcv l]):=
 qry (en:=Nd.cells) Try.underlying23 (by kernel_rfl) (by decide) (fun _=>rfl) jjf
end
end Go.Proofs.Ythfaleaojlnnoaa
end
