/- Some texts of the library, one behind the other. -/
import Derived.Test.YtkhdldncbmkidaaY41
import Derived.Test.YtkhdldncbmkidaaY42
import Derived.IntWalk
import Derived.Test.YtkhdldncbmkidaaRows
import Derived.ProofKit
set_option linter.unusedSimpArgs false
set_option linter.unusedVariables false
section
namespace Go.Sx
open Go Go.RowKit
abbrev iv (n:Int):AV:=.int .i64 n
def ints (l:List Int):AV:=slcL (fun n=>[iv n]) 0 1 l
def strs (l:List (List UInt8)):AV:=slcL (fun s=>[.str s]) [] 1 l
def bools (l:List Bool):AV:=slcL (fun b=>[.bool b]) false 1 l
structure Nd where
 kind:Int
 words:List (List UInt8):=[]
 nums:List Int:=[]
 kids:List Int:=[]
 at_:Int
def Nd.cells (n:Nd):List AV:=[iv n.kind,strs n.words,ints n.nums,ints n.kids,iv n.at_]
def nd0:Nd:=⟨0,[],[],[],0⟩
def treeV (l:List Nd):AV:=slcL Nd.cells nd0 5 l
structure Ch where
 name:List UInt8
 room:Int
 width:Int
 lossy:Bool
 copying:Bool
def Ch.cells (c:Ch):List AV:=[.str c.name,iv c.room,iv c.width,.bool c.lossy,.bool c.copying]
def ch0:Ch:=⟨[],0,0,false,false⟩
structure Vr where
 name:List UInt8
 width:Int
 value:Int
def Vr.cells (v:Vr):List AV:=[.str v.name,iv v.width,iv v.value]
def vr0:Vr:=⟨[],0,0⟩
structure Ed where
 frm:Int
 to:Int
 act:Int
 expr:Int:=-1
 var:Int:=-1
 chn:Int:=-1
 keep:Bool:=false
 node:Int
def Ed.cells (e:Ed):List AV:=[iv e.frm,iv e.to,iv e.act,iv e.expr,iv e.var,iv e.chn,.bool e.keep,iv e.node]
def ed0:Ed:=⟨0,0,0,0,0,0,false,0⟩
structure Pr where
 name:List UInt8
 copy:Int
 locals:List Int:=[]
 places:Int
 rest:List Bool
 edges:List Ed
 names:List (List UInt8):=[]
 vars:List Int:=[]
def Pr.cells (p:Pr):List AV:=[.str p.name,iv p.copy,ints p.locals,iv p.places,bools p.rest,slcL Ed.cells ed0 8 p.edges,strs p.names,ints p.vars]
def pr0:Pr:=⟨[],0,[],0,[],[],[],[]⟩
structure Md where
 tree:List Nd
 globals:Int:=0
 chans:List Ch:=[]
 vars:List Vr:=[]
 procs:List Pr:=[]
 safe:List Int:=[]
 dead:Bool:=false
def Md.cells (m:Md):List AV:=[treeV m.tree,iv m.globals,slcL Ch.cells ch0 5 m.chans,slcL Vr.cells vr0 3 m.vars,slcL Pr.cells pr0 8 m.procs,ints m.safe,.bool m.dead]
structure Stt where
 at_:List Int
 vars:List Int
 chans:List (List Int)
 holder:Int
def Stt.cells (s:Stt):List AV:=[ints s.at_,ints s.vars,slcL (fun l=>[ints l]) [] 1 s.chans,iv s.holder]
end Go.Sx
end
section
namespace Go.St
open Go Go.Sx
def wid (w:Int):Nat:=(min (max w 1) 16).toNat
def trim (n w:Int):Int:=if n % 2 ^ wid w≥2 ^ (wid w - 1) then n % 2 ^ wid w - 2 ^ wid w else n % 2 ^ wid w
def jdy (op a b:Int):Int × Bool:=
 if op=0 then (if (a != 0 || b != 0) then 1 else 0,true) else if op=1 then (if (a != 0 && b != 0) then 1 else 0,true)
 else if op=2 then (if a == b then 1 else 0,true) else if op=3 then (if decide (a<b) then 1 else 0,true)
 else if op=4 then (trim (a+b) 8,true) else if op=5 then (trim (a - b) 8,true) else if op=6 then (trim (a * b) 8,true)
 else if b=0 then (0,false) else if op=7 then (trim (a.tdiv b) 8,true) else (trim (a.tmod b) 8,true)
end Go.St
end
section
namespace Go.St
open List renaming getD_eq_getElem?_getD → zd
open Go Go.Sx
theorem qgr {α:Type} (l:List α) (i:Nat) (d:α) (h:i<l.length):l.getD i d∈l:=by
 rw [zd,zb h];exact zar h
theorem qkx {p:Nat→Prop} {i:Nat} (h:∀ j,j<i→p j) (hi:p i):∀ j,j<i+1→p j:=fun j hj=>by
 by_cases e:j=i
 ·exact e ▸ hi
 ·exact h j (by omega)
def idx {α:Type} (p:α→Bool) (l:List α):Int:=match l.findIdx? p with|some i=>i|none=>-1
theorem qua {α:Type} (p:α→Bool) (l:List α) (d:α) (i:Nat) (hi:i<l.length) (hp:p (l.getD i d)=true) (hb:∀ j,j<i→p (l.getD j d)=false):idx p l=i:=by
 have:l.findIdx? p=some i:=by
  rw [List.findIdx?_eq_some_iff_getElem]
  refine ⟨hi,?_,fun j hj=>?_⟩
  ·rw [zd,zb hi] at hp;exact hp
  ·have h:=hb j hj
   rw [zd,zb (by omega)] at h
   simp only [Option.getD_some] at h
   rw [h];decide
 rw [idx,this]
theorem qub {α:Type} (p:α→Bool) (l:List α) (d:α) (hb:∀ j,j<l.length→p (l.getD j d)=false):idx p l=-1:=by
 have:l.findIdx? p=none:=by
  rw [List.findIdx?_eq_none_iff]
  intro x hx
  obtain ⟨j,hj,rfl⟩:=List.mem_iff_getElem.1 hx
  have h:=hb j hj
  rw [zd,zb hj] at h
  exact h
 rw [idx,this]
def varN (m:Md) (p:Int) (s:List UInt8):Int:=
 if 0≤p∧p<m.procs.length then
  (if idx (· == s) (m.procs.getD p.toNat pr0).names<0 then -1 else (m.procs.getD p.toNat pr0).vars.getD (idx (· == s) (m.procs.getD p.toNat pr0).names).toNat 0)
 else idx (fun v:Vr=>v.name == s) (m.vars.take m.globals.toNat)
def valN (m:Md) (p:Int) (s:Stt):Nat→Int→Int × Bool
 | 0,_=>(0,false)
 | n+1,k=>
  if (m.tree.getD k.toNat nd0).kind=17 then (trim ((m.tree.getD k.toNat nd0).nums.getD 0 0) 8,true)
  else if (m.tree.getD k.toNat nd0).kind=18 then
   (if varN m p ((m.tree.getD k.toNat nd0).words.getD 0 [])<0 then (0,false) else (s.vars.getD (varN m p ((m.tree.getD k.toNat nd0).words.getD 0 [])).toNat 0,true))
  else if (m.tree.getD k.toNat nd0).kind=19 then
   (if idx (fun c:Ch=>c.name == (m.tree.getD k.toNat nd0).words.getD 0 []) m.chans<0 then (0,false) else ((s.chans.getD (idx (fun c:Ch=>c.name == (m.tree.getD k.toNat nd0).words.getD 0 []) m.chans).toNat []).length,true))
  else if (m.tree.getD k.toNat nd0).kind=20 then
   (trim (0 - (valN m p s n ((m.tree.getD k.toNat nd0).kids.getD 0 0)).1) 8,(valN m p s n ((m.tree.getD k.toNat nd0).kids.getD 0 0)).2)
  else if (m.tree.getD k.toNat nd0).kind=21 then
   (if ((valN m p s n ((m.tree.getD k.toNat nd0).kids.getD 0 0)).2 && (valN m p s n ((m.tree.getD k.toNat nd0).kids.getD 0 0)).1 == 0) then 1 else 0,(valN m p s n ((m.tree.getD k.toNat nd0).kids.getD 0 0)).2)
  else if (m.tree.getD k.toNat nd0).kind=22 then
   (if (valN m p s n ((m.tree.getD k.toNat nd0).kids.getD 0 0)).2=true∧(valN m p s n ((m.tree.getD k.toNat nd0).kids.getD 1 0)).2=true then
    jdy ((m.tree.getD k.toNat nd0).nums.getD 0 0) (valN m p s n ((m.tree.getD k.toNat nd0).kids.getD 0 0)).1 (valN m p s n ((m.tree.getD k.toNat nd0).kids.getD 1 0)).1
   else (0,false))
  else (0,false)
def val (m:Md) (p:Int) (s:Stt) (k:Int):Int × Bool:=valN m p s m.tree.length k
end Go.St
end
section
namespace Go.St
open Go Go.Sx

end Go.St
end
section
namespace Go.Proofs.Ytkhdldncbmkidaa
open Go Go.Sx Go.RowKit Go.St
set_option maxRecDepth 100000
section
variable {H:Type} {enc:TypeId × Value→H}
theorem rdr_ints:Rdr enc Try.prog 23 (fun ys=>∃ l:List Int,(l.length≤maxLen∧∀ n∈l,(Lit.int .i64 n).wf=true)∧ys=[ints l]):=
 rdr_slice (en:=fun n=>[iv n]) Try.underlying23 (by kernel_rfl) (by decide) (fun _=>rfl) (rdr_int Try.underlying3)
end
end Go.Proofs.Ytkhdldncbmkidaa
end
