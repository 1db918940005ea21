/- Names, bounds and automata by the document's answer, in plain Lean. -/
import Derived.Test.YtikahnkkfkoglaaGreatDoorY18
import Derived.Test.YtikahnkkfkoglaaGreatDoorY12
set_option linter.unusedSimpArgs false
set_option linter.unusedVariables false
namespace Go.St
open Go Go.Sx
def qp (l:List Nd) (i:Int):Int:=(l.getD i.toNat nd0).kind
def qba (at_:Int):List Int→Int→Int
 | [],o=>o
 | k::r,o=>qba at_ r (if k≤at_ then k else o)
def itemF (l:List Nd) (at_:Int):Int:=qba at_ (l.getD 0 nd0).kids 0
def inF (l:List (List UInt8)) (s:List UInt8):Bool:=l.any (· == s)
def qfp (n:Nd):List UInt8:=n.words.getD 0 []
def qnr (l:List Nd) (item kind:Int) (out:List (List UInt8)) (i:Nat):List (List UInt8):=
 if (l.getD i nd0).kind=kind then
  (if (itemF l i == (i:Int) || itemF l i == item)=true then (if inF out (qfp (l.getD i nd0))=true then out else out++[qfp (l.getD i nd0)]) else out)
 else out
def qfq (l:List Nd) (item kind:Int) (i:Nat):List (List UInt8):=(List.range i).foldl (qnr l item kind) []
def qdd (l:List Nd) (at_:Int) (kind:Int):List (List UInt8):=qfq l (itemF l at_) kind at_.toNat
def badF (l:List Nd) (i:Nat):Bool:=
 if (l.getD i nd0).kind=1∨(l.getD i nd0).kind=2∨(l.getD i nd0).kind=3 then
  inF (qdd l i 1) (qfp (l.getD i nd0)) || inF (qdd l i 2) (qfp (l.getD i nd0)) || inF (qdd l i 3) (qfp (l.getD i nd0))
 else if (l.getD i nd0).kind=6∨(l.getD i nd0).kind=18 then !inF (qdd l i 2) (qfp (l.getD i nd0))
 else if (l.getD i nd0).kind=7∨(l.getD i nd0).kind=19 then !inF (qdd l i 1) (qfp (l.getD i nd0))
 else if (l.getD i nd0).kind=8 then !inF (qdd l i 1) (qfp (l.getD i nd0)) || !inF (qdd l i 2) ((l.getD i nd0).words.getD 1 [])
 else false
def qhk (l:List Nd):Int × Int:=if Go.St.idx (badF l) (List.range l.length)<0 then (0,0) else (20,(l.getD (Go.St.idx (badF l) (List.range l.length)).toNat nd0).at_)
def qfr (l:List Nd) (at_:Int):Int:=if qp l (itemF l at_)=3 then (l.getD (itemF l at_).toNat nd0).nums.getD 0 0 else 1
def qhl (l:List Nd) (kind:Int) (n:Int) (i:Nat):Int:=
 if n<100 then (if (l.getD i nd0).kind=kind then (if kind=1 then n+1 else n+min (qfr l i) 100) else n) else n
def sumF (l:List Nd) (kind:Int) (i:Nat):Int:=(List.range i).foldl (qhl l kind) 0
def qns (l:List Nd) (at_:Int):Nat→Int→Bool
 | 0,_=>false
 | f+1,a=>(l.getD a.toNat nd0).kids.any fun k=>k == at_ || qns l at_ f k
def qbi (l:List Nd) (i:Nat):Int:=
 if (l.getD i nd0).kind=1 then
  (if ((l.getD i nd0).nums.getD 0 0<1∨3<(l.getD i nd0).nums.getD 0 0)∨((l.getD i nd0).nums.getD 1 0<1∨8<(l.getD i nd0).nums.getD 1 0)∨3<sumF l 1 (i+1) then 22 else 0)
 else if (l.getD i nd0).kind=2 then
  (if ((l.getD i nd0).nums.getD 0 0<1∨8<(l.getD i nd0).nums.getD 0 0)∨trim ((l.getD i nd0).nums.getD 1 0) ((l.getD i nd0).nums.getD 0 0)≠(l.getD i nd0).nums.getD 1 0∨8<sumF l 2 (i+1) then 22 else 0)
 else if (l.getD i nd0).kind=3 then (if (l.getD i nd0).nums.getD 0 0<1∨4<sumF l 3 (i+1) then 22 else 0)
 else if (l.getD i nd0).kind=13 then (if ((List.range i).any fun j=>(l.getD j nd0).kind == 13 && qns l i l.length j)=true then 21 else 0)
 else if (l.getD i nd0).kind=17 then (if 127<(l.getD i nd0).nums.getD 0 0 then 22 else 0)
 else 0
def qbx (l:List Nd):Int × Int:=
 if (qhk l).1≠0 then qhk l
 else if Go.St.idx (fun i=>qbi l i != 0) (List.range l.length)<0 then (0,0)
 else (qbi l (Go.St.idx (fun i=>qbi l i != 0) (List.range l.length)).toNat,(l.getD (Go.St.idx (fun i=>qbi l i != 0) (List.range l.length)).toNat nd0).at_)
def qg (p:Pr):Pr:={ p with places:=p.places+1,rest:=p.rest++[false] }
def putF (p:Pr) (frm to act node expr v c:Int):Pr:={ p with edges:=p.edges++[⟨frm,to,act,expr,v,c,false,node⟩] }
def qcf (l:List (List UInt8)) (s:List UInt8):Int:=if Go.St.idx (· == s) l<0 then 0 else Go.St.idx (· == s) l
def jy (p:Pr) (at_ idle:Int):Pr:={ p with rest:=if idle=1 then p.rest.set at_.toNat true else p.rest }
def qeu (l:List Ch) (s:List UInt8):Int:=if Go.St.idx (fun c:Ch=>c.name == s) l<0 then 0 else Go.St.idx (fun c:Ch=>c.name == s) l
def qbf (st:Pr→Int→Int→Int→Pr) (node:Int):Pr→List Int→Int→Int→Pr
 | p,[],frm,to=>putF p frm to 0 node (-1) (-1) (-1)
 | p,[k],frm,to=>st p k frm to
 | p,k::k'::r,frm,to=>qbf st node (st (qg p) k frm p.places) (k'::r) p.places to
def qhm (l:List Nd) (blk:Pr→Int→Int→Int→Pr) (frm to:Int) (p:Pr) (k:Int):Pr:=
 if (l.getD k.toNat nd0).kids.length≠0∧qp l ((l.getD k.toNat nd0).kids.getD 0 0)=12 then
  blk (putF (qg p) frm p.places 0 k (-1) (-1) (-1)) k p.places to
 else blk p k frm to
def qei (to:Int) (e:Ed):Ed:={ e with keep:=e.to != to && e.to != 1 }
def qd (l:List Nd) (cs:List Ch):Nat→Pr→Int→Int→Int→Pr
  | 0,p,_,_,_=>p
  | f+1,p,a,frm,to=>
    let n:=l.getD a.toNat nd0
    let blk:=fun (p:Pr) (b frm to:Int)=>qbf (qd l cs f) b p (l.getD b.toNat nd0).kids frm to
    if n.kind=6 then putF p frm to 1 a (n.kids.getD 0 0) (p.vars.getD (qcf p.names (n.words.getD 0 [])).toNat 0) (-1)
    else if n.kind=7 then putF p frm to 2 a (n.kids.getD 0 0) (-1) (qeu cs (n.words.getD 0 []))
    else if n.kind=8 then putF (jy p frm (n.nums.getD 0 0)) frm to 3 a (-1) (p.vars.getD (qcf p.names (n.words.getD 1 [])).toNat 0) (qeu cs (n.words.getD 0 []))
    else if n.kind=9 then putF (jy p frm (n.nums.getD 0 0)) frm to 4 a (n.kids.getD 0 0) (-1) (-1)
    else if n.kind=10 then n.kids.foldl (qhm l blk frm to) (jy p frm (n.nums.getD 0 0))
    else if n.kind=11 then
      (let q:=blk (putF (qg p) frm p.places 4 a (n.kids.getD 0 0) (-1) (-1)) (n.kids.getD 1 0) p.places to
       if n.kids.length=2 then putF q frm to 5 a (n.kids.getD 0 0) (-1) (-1)
       else blk (putF (qg q) frm q.places 5 a (n.kids.getD 0 0) (-1) (-1)) (n.kids.getD 2 0) q.places to)
    else if n.kind=12 then blk (putF (putF (qg p) frm p.places 4 a (n.kids.getD 0 0) (-1) (-1)) frm to 5 a (n.kids.getD 0 0) (-1) (-1)) (n.kids.getD 1 0) p.places frm
    else if n.kind=13 then
      (let q:=blk p (n.kids.getD 0 0) frm to
       { q with edges:=q.edges.take p.edges.length++(q.edges.drop p.edges.length).map (qei to) })
    else if n.kind=15 then putF p frm 1 0 a (-1) (-1) (-1)
    else putF p frm to 0 a (-1) (-1) (-1)
def qgj (l:List Nd) (m:Md) (k:Int):Md:=
 let n:=l.getD k.toNat nd0
 if n.kind=1 then { m with chans:=m.chans++[⟨n.words.getD 0 [],n.nums.getD 0 0,n.nums.getD 1 0,n.nums.getD 2 0 == 1,n.nums.getD 3 0 == 1⟩] }
 else if n.kind=2 then { m with vars:=m.vars++[⟨n.words.getD 0 [],n.nums.getD 0 0,n.nums.getD 1 0⟩] }
 else if n.kind=4 then { m with safe:=m.safe++[n.kids.getD 0 0] }
 else if n.kind=5 then { m with dead:=true }
 else m
def qdv (l:List Nd) (x:Pr × List Vr) (k:Int):Pr × List Vr:=
 let n:=l.getD k.toNat nd0
 ({ x.1 with locals:=x.1.locals++[(x.2.length:Int)],names:=x.1.names++[n.words.getD 0 []],vars:=x.1.vars++[(x.2.length:Int)] },x.2++[⟨n.words.getD 0 [],n.nums.getD 0 0,n.nums.getD 1 0⟩])
def qjy (l:List Nd) (vs:List Vr) (seen:Nat) (k c:Int):Pr:=
 { name:=(l.getD k.toNat nd0).words.getD 0 [],copy:=c,places:=2,rest:=[false,true],names:=(vs.take seen).map (·.name),vars:=(List.range seen).map fun (i:Nat)=>(i:Int),edges:=[] }
def qdk (l:List Nd) (cs:List Ch) (k:Int) (seen:Nat) (x:List Vr × List Pr) (c:Nat):List Vr × List Pr:=
 let n:=l.getD k.toNat nd0
 let y:=(n.kids.take (varsN l n)).foldl (qdv l) (qjy l x.1 seen k c,x.1)
 (y.2,x.2++[qbf (qd l cs 20) k y.1 (n.kids.drop (varsN l n)) 0 1])
def qco (l:List Nd) (cs:List Ch) (x:Nat × List Vr × List Pr) (k:Int):Nat × List Vr × List Pr:=
 let n:=l.getD k.toNat nd0
 let seen:=if n.kind=2 then x.1+1 else x.1
 (seen,if n.kind=3 then (List.range (n.nums.getD 0 0).toNat).foldl (qdk l cs k seen) x.2 else x.2)
def qcp (l:List Nd):Md:=(l.getD 0 nd0).kids.foldl (qgj l) { tree:=l }
def qev (l:List Nd):Md:=
 let m:=qcp l
 let y:=(l.getD 0 nd0).kids.foldl (qco l m.chans) (0,m.vars,[])
 { m with globals:=m.vars.length,vars:=y.2.1,procs:=y.2.2 }
end Go.St
