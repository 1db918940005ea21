/- The document's parser in plain Lean: which tree a text is, or its first fault. Nothing of the program. -/
import Derived.Test.YthfaleaojlnnoaaY1LexPlain
import Derived.Test.YthfaleaojlnnoaaY13
import Derived.Test.YthfaleaojlnnoaaY12
set_option linter.unusedSimpArgs false
set_option linter.unusedVariables false
namespace Go.Proofs.Ythfaleaojlnnoaa
namespace Pa
open Go Go.Sx
abbrev qel:List UInt8:=[99,104,97,110]
abbrev kOf:List UInt8:=[111,102]
abbrev qfi:List UInt8:=[108,111,115,115,121]
abbrev qfj:List UInt8:=[99,111,112,121,105,110,103]
abbrev kVar:List UInt8:=[118,97,114]
abbrev qm:List UInt8:=[112,114,111,99]
abbrev qgy:List UInt8:=[115,97,102,101]
abbrev qid:List UInt8:=[100,101,97,100,108,111,99,107]
abbrev qbv:List UInt8:=[115,101,110,100]
abbrev ju:List UInt8:=[114,101,99,118]
abbrev jy:List UInt8:=[105,100,108,101]
abbrev jz:List UInt8:=[119,104,101,110]
abbrev jf:List UInt8:=[99,104,111,111,115,101]
abbrev kOr:List UInt8:=[111,114]
abbrev kIf:List UInt8:=[105,102]
abbrev qfk:List UInt8:=[101,108,115,101]
abbrev qbw:List UInt8:=[119,104,105,108,101]
abbrev qbx:List UInt8:=[97,116,111,109,105,99]
abbrev qby:List UInt8:=[115,107,105,112]
abbrev qbz:List UInt8:=[115,116,111,112]
abbrev kLen:List UInt8:=[108,101,110]
abbrev sLb:List UInt8:=[91]
abbrev sRb:List UInt8:=[93]
abbrev sLc:List UInt8:=[123]
abbrev sRc:List UInt8:=[125]
abbrev sLp:List UInt8:=[40]
abbrev sRp:List UInt8:=[41]
abbrev qi:List UInt8:=[59]
abbrev sEq:List UInt8:=[61]
abbrev sLt:List UInt8:=[60]
abbrev qly:List UInt8:=[43]
abbrev qba:List UInt8:=[45]
abbrev qbg:List UInt8:=[42]
abbrev qlz:List UInt8:=[47]
abbrev sPct:List UInt8:=[37]
abbrev qjs:List UInt8:=[33]
abbrev sOr2:List UInt8:=[124,124]
abbrev qof:List UInt8:=[38,38]
abbrev sEq2:List UInt8:=[61,61]
inductive Tr where
 | mk (kind:Int) (words:List (List UInt8)) (nums:List Int) (at_:Int) (l:List Tr)
def Tr.kind:Tr→Int | .mk k _ _ _ _=>k
def Tr.words:Tr→List (List UInt8) | .mk _ w _ _ _=>w
def Tr.nums:Tr→List Int | .mk _ _ n _ _=>n
def Tr.at_:Tr→Int | .mk _ _ _ a _=>a
def Tr.l:Tr→List Tr | .mk _ _ _ _ l=>l
def Tr.none:Tr:=.mk 0 [] [] 0 []
structure Ps where
 at_:Int
 deep:Int:=0
 err:Int:=0
 fat:Int:=0
section
variable (ts:List Lx.Tok)
def tk (p:Ps):Lx.Tok:=ts.getD p.at_.toNat Lx.tok0
def Ps.cells (p:Ps):List AV:=[Lx.toks ts,iv p.at_,iv p.deep,iv p.err,iv p.fat]
def qsg (t:Lx.Tok) (s:List UInt8):Bool:=t.s == s && (t.kind == 2 || t.kind == 0 && Go.St.keyF s)
def sees (p:Ps) (s:List UInt8):Bool:=p.err == 0 && qsg (tk ts p) s
def adv (p:Ps):Ps:={ p with at_:=p.at_+1 }
def bad (p:Ps) (e:Int):Ps:=if p.err=0 then { p with err:=e,fat:=(tk ts p).pos } else p
def took (p:Ps) (s:List UInt8):Ps:=if sees ts p s=true then adv p else p
def must (p:Ps) (s:List UInt8):Ps:=if sees ts p s=true then adv p else bad ts p 11
def qdh (p:Ps):Bool:=(tk ts p).kind == 0 && Go.St.nameF (tk ts p).s && p.err == 0
def jk (p:Ps):List UInt8:=if qdh ts p=true then (tk ts p).s else []
def qd (p:Ps):Ps:=if qdh ts p=true then adv p else bad ts p 11
def qdi (p:Ps):Bool:=(tk ts p).kind == 1 && p.err == 0
def qcz (s:List UInt8):Int:=s.foldl (fun n b=>10 * n+((b.toNat:Int) - 48)) 0
def numN (p:Ps):Int:=if qdi ts p=true then qcz (tk ts p).s else 0
def numP (p:Ps):Ps:=if qdi ts p=true then adv p else bad ts p 11
def qac (p:Ps) (s:List UInt8):Int:=if sees ts p s=true then 1 else 0
def inP (p:Ps):Ps:=if 200<p.deep+1 then bad ts { p with deep:=p.deep+1 } 12 else { p with deep:=p.deep+1 }
def outP (p:Ps):Ps:={ p with deep:=p.deep - 1 }
def binT (sg:Int) (a b:Tr):Tr:=.mk 22 [] [sg] a.at_ [a,b]
def qbq (f:Ps→Tr × Ps) (c:Ps→Bool) (sg:Ps→Int):Nat→Tr→Ps→Tr × Ps
 | 0,a,p=>(a,p)
 | n+1,a,p=>if c p=true then qbq f c sg n (binT (sg p) a (f (adv p)).1) (f (adv p)).2 else (a,p)
def qgz (f:Ps→Tr × Ps) (s:List UInt8) (sg:Int) (p:Ps):Tr × Ps:=
 if sees ts (f p).2 s=true then (binT sg (f p).1 (f (adv (f p).2)).1,(f (adv (f p).2)).2) else f p
def qma (p:Ps):Bool:=sees ts p qbg || (sees ts p qlz || sees ts p sPct)
def qog (p:Ps):Int:=if sees ts p qbg=true then 6 else if sees ts p qlz=true then 7 else 8
def sumC (p:Ps):Bool:=sees ts p qly || sees ts p qba
def sumS (p:Ps):Int:=if sees ts p qly=true then 4 else 5
def qie (part:Ps→Tr × Ps) (p:Ps):Tr × Ps:=qbq part (qma ts) (qog ts) ts.length (part p).1 (part p).2
def sumF (part:Ps→Tr × Ps) (p:Ps):Tr × Ps:=qbq (qie ts part) (sumC ts) (sumS ts) ts.length (qie ts part p).1 (qie ts part p).2
def qmb (part:Ps→Tr × Ps) (p:Ps):Tr × Ps:=qgz ts (sumF ts part) sLt 3 p
def qif (part:Ps→Tr × Ps) (p:Ps):Tr × Ps:=qgz ts (qmb ts part) sEq2 2 p
def andF (part:Ps→Tr × Ps) (p:Ps):Tr × Ps:=qbq (qif ts part) (fun p=>sees ts p qof) (fun _=>1) ts.length (qif ts part p).1 (qif ts part p).2
def qbn (part:Ps→Tr × Ps) (p:Ps):Tr × Ps:=qbq (andF ts part) (fun p=>sees ts p sOr2) (fun _=>0) ts.length (andF ts part p).1 (andF ts part p).2
def ifOk (f:Ps→Tr × Ps) (p:Ps):List Tr × Ps:=if p.err=0 then ([(f p).1],(f p).2) else ([],p)
def jb:Nat→Ps→Tr × Ps
 | 0,p=>(.none,p)
 | n+1,p=>
  let a:=(tk ts p).pos
  if p.err=0∧(tk ts p).kind=1 then (.mk 17 [] [numN ts p] a [],numP ts p)
  else if sees ts p kLen=true then (.mk 19 [jk ts (adv p)] [] a [],qd ts (adv p))
  else if sees ts p qba=true∨sees ts p qjs=true then
   (.mk (if sees ts p qba=true then 20 else 21) [] [] a (ifOk (jb n) (inP ts (adv p))).1,outP (ifOk (jb n) (inP ts (adv p))).2)
  else if sees ts p sLp=true then
   ((if (inP ts (adv p)).err=0 then (qbn ts (jb n) (inP ts (adv p))).1 else .mk 17 [] [] a []),
    must ts (outP (if (inP ts (adv p)).err=0 then (qbn ts (jb n) (inP ts (adv p))).2 else inP ts (adv p))) sRp)
  else (.mk 18 [jk ts p] [] a [],qd ts p)
def eF (p:Ps):Tr × Ps:=qbn ts (jb ts ts.length) p
def jc (stat:Ps→Tr × Ps):Nat→List Tr→Ps→List Tr × Ps
 | 0,l,p=>(l,p)
 | n+1,l,p=>if p.err=0 then (if sees ts p sRc=true then (l,adv p) else jc stat n (l++[(stat p).1]) (stat p).2) else (l,p)
def qw (stat:Ps→Tr × Ps) (p:Ps):Tr × Ps:=
 (.mk 16 [] [] (tk ts p).pos (jc ts stat ts.length [] (inP ts (must ts p sLc))).1,outP (jc ts stat ts.length [] (inP ts (must ts p sLc))).2)
def orL (blk:Ps→Tr × Ps):Nat→List Tr→Ps→List Tr × Ps
 | 0,l,p=>(l,p)
 | n+1,l,p=>if sees ts p kOr=true then orL blk n (l++[(blk (adv p)).1]) (blk (adv p)).2 else (l,p)
def qca (blk:Ps→Tr × Ps) (a idle:Int) (p:Ps):Tr × Ps:=
 if sees ts p ju=true then
  (.mk 8 [jk ts (adv p),jk ts (qd ts (adv p))] [idle] a [],must ts (qd ts (qd ts (adv p))) qi)
 else if sees ts p jz=true then (.mk 9 [] [idle] a [(eF ts (adv p)).1],must ts (eF ts (adv p)).2 qi)
 else
  let q:=must ts p jf
  let r:=orL ts blk ts.length [(blk q).1] (blk q).2
  (.mk 10 [] [idle] a r.1,r.2)
def qf:Nat→Ps→Tr × Ps
 | 0,p=>(.none,p)
 | n+1,p=>
  let a:=(tk ts p).pos
  let blk:=qw ts (qf n)
  if sees ts p jy=true∨sees ts p ju=true∨sees ts p jz=true∨sees ts p jf=true then qca ts blk a (qac ts p jy) (took ts p jy)
  else if sees ts p qbv=true then
   (.mk 7 [jk ts (adv p)] [] a [(eF ts (qd ts (adv p))).1],must ts (eF ts (qd ts (adv p))).2 qi)
  else if sees ts p kIf=true then
   let e:=eF ts (adv p)
   let b:=blk e.2
   if sees ts b.2 qfk=true then (.mk 11 [] [] a [e.1,b.1,(blk (adv b.2)).1],(blk (adv b.2)).2) else (.mk 11 [] [] a [e.1,b.1],b.2)
  else if sees ts p qbw=true then
   let e:=eF ts (adv p)
   (.mk 12 [] [] a [e.1,(blk e.2).1],(blk e.2).2)
  else if sees ts p qbx=true then (.mk 13 [] [] a [(blk (adv p)).1],(blk (adv p)).2)
  else if sees ts p qby=true then (.mk 14 [] [] a [],must ts (adv p) qi)
  else if sees ts p qbz=true then (.mk 15 [] [] a [],must ts (adv p) qi)
  else
   let q:=must ts (qd ts p) sEq
   (.mk 6 [jk ts p] [] a [(eF ts q).1],must ts (eF ts q).2 qi)
def sF (p:Ps):Tr × Ps:=qf ts ts.length p
def qae (p:Ps):Tr × Ps:=
 let w:=qd ts (must ts p kVar)
 let q:=must ts w kOf
 let r:=numP ts q
 let v:=if sees ts r sEq=true then (if sees ts (adv r) qba=true then (0 - numN ts (adv (adv r)),numP ts (adv (adv r))) else (numN ts (adv r),numP ts (adv r))) else (0,r)
 (.mk 2 [jk ts (must ts p kVar)] [numN ts q,v.1] (tk ts p).pos [],must ts v.2 qi)
def qaf:Nat→List Tr→Ps→List Tr × Ps
 | 0,l,p=>(l,p)
 | n+1,l,p=>if sees ts p kVar=true then qaf n (l++[(qae ts p).1]) (qae ts p).2 else (l,p)
def qbr (p:Ps):Tr × Ps:=
 let q:=qd ts (must ts p qm)
 let c:=if sees ts q qbg=true then (numN ts (adv q),numP ts (adv q)) else (1,q)
 let r:=must ts c.2 sLc
 let v:=qaf ts ts.length [] r
 let s:=jc ts (sF ts) ts.length v.1 (inP ts v.2)
 (.mk 3 [jk ts (must ts p qm)] [c.1] (tk ts p).pos s.1,outP s.2)
def qat (p:Ps):Tr × Ps:=
 let a:=(tk ts p).pos
 if sees ts p kVar=true then qae ts p
 else if sees ts p qm=true then qbr ts p
 else if sees ts p qel=true then
  let q:=must ts (qd ts (adv p)) sLb
  let r:=must ts (must ts (numP ts q) sRb) kOf
  let u:=took ts (numP ts r) qfi
  (.mk 1 [jk ts (adv p)] [numN ts q,numN ts r,qac ts (numP ts r) qfi,qac ts u qfj] a [],must ts (took ts u qfj) qi)
 else if sees ts p qgy=true then (.mk 4 [] [] a [(eF ts (adv p)).1],must ts (eF ts (adv p)).2 qi)
 else (.mk 5 [] [] a [],must ts (must ts p qid) qi)
def qci:Nat→List Tr→Ps→List Tr × Ps
 | 0,l,p=>(l,p)
 | n+1,l,p=>if p.err=0∧(tk ts p).kind≠3 then qci n (l++[(qat ts p).1]) (qat ts p).2 else (l,p)
def qad (p:Ps):Tr × Ps:=
 (.mk 0 [] [] (tk ts p).pos (qci ts ts.length [] p).1,(qci ts ts.length [] p).2)
end
mutual
def Tr.cellsA:Tr→List AV
 | .mk k w n a l=>[iv k,strs w,ints n,.nils,iv a,.slc 6 l.length fun i=>(Tr.cellsL l).getD i []]
def Tr.cellsL:List Tr→List (List AV)
 | []=>[]
 | t::r=>t.cellsA::Tr.cellsL r
end
def kidsV (l:List Tr):AV:=.slc 6 l.length fun i=>(Tr.cellsL l).getD i []
def Tr.cells (t:Tr):List AV:=[iv t.kind,strs t.words,ints t.nums,.nils,iv t.at_,kidsV t.l]
mutual
def Tr.size:Tr→Nat
 | .mk _ _ _ _ l=>1+Tr.sizeL l
def Tr.sizeL:List Tr→Nat
 | []=>0
 | t::r=>t.size+Tr.sizeL r
end
def qt:Nat→List Tr→List Int
 | _,[]=>[]
 | n,t::r=>(n:Int)::qt (n+t.size) r
mutual
def layT:Nat→Tr→List Nd
 | n,.mk k w ns a l=>⟨k,w,ns,qt (n+1) l,a⟩::layL (n+1) l
def layL:Nat→List Tr→List Nd
 | _,[]=>[]
 | n,t::r=>layT n t++layL (n+t.size) r
end
mutual
def deepT:Tr→Int→Int
 | .mk _ _ _ a l,n=>if 20<n then a else deepL l n
def deepL:List Tr→Int→Int
 | [],_=>-1
 | t::r,n=>if 0≤deepT t (n+1) then deepT t (n+1) else deepL r n
end
def qfz (ts:List Lx.Tok):List Nd × (Int × Int):=
 let r:=qad ts ⟨0,0,0,0⟩
 if r.2.err≠0 then ([],(r.2.err,r.2.fat))
 else if 800<(layT 0 r.1).length then ([],(12,0))
 else if 0≤deepT r.1 1 then ([],(12,deepT r.1 1))
 else (layT 0 r.1,(0,0))
def jr (s:List UInt8):List Nd × (Int × Int):=if (Lx.lexAll s).2.1≠0 then ([],(Lx.lexAll s).2) else qfz (Lx.lexAll s).1
def qsh (r:List Nd × (Int × Int)):AV:=.tup [qgx r.1,flt r.2.1 r.2.2]
end Pa
end Go.Proofs.Ythfaleaojlnnoaa
