/- The document's parser in plain Lean: which tree a text is, or its first fault. Nothing of the program. -/
import Derived.Test.YthfaleaojlnnoaaY7LexPlain
import Derived.Test.YthfaleaojlnnoaaY73
import Derived.Test.YthfaleaojlnnoaaY72
set_option linter.unusedSimpArgs false
set_option linter.unusedVariables false
namespace Go.Proofs.Ythfaleaojlnnoaa
namespace Pa
open Go Go.Sx
abbrev qfb:List UInt8:=[99,104,97,110]
abbrev kOf:List UInt8:=[111,102]
abbrev qfy:List UInt8:=[108,111,115,115,121]
abbrev qfz:List UInt8:=[99,111,112,121,105,110,103]
abbrev kVar:List UInt8:=[118,97,114]
abbrev qo:List UInt8:=[112,114,111,99]
abbrev qho:List UInt8:=[115,97,102,101]
abbrev qiy:List UInt8:=[100,101,97,100,108,111,99,107]
abbrev qbz:List UInt8:=[115,101,110,100]
abbrev jy:List UInt8:=[114,101,99,118]
abbrev qab:List UInt8:=[105,100,108,101]
abbrev qac:List UInt8:=[119,104,101,110]
abbrev ji:List UInt8:=[99,104,111,111,115,101]
abbrev kOr:List UInt8:=[111,114]
abbrev kIf:List UInt8:=[105,102]
abbrev qga:List UInt8:=[101,108,115,101]
abbrev qca:List UInt8:=[119,104,105,108,101]
abbrev qcb:List UInt8:=[97,116,111,109,105,99]
abbrev qcc:List UInt8:=[115,107,105,112]
abbrev qcd:List UInt8:=[115,116,111,112]
abbrev kLen:List UInt8:=[108,101,110]
abbrev sLb:List UInt8:=[91]
abbrev sRb:List UInt8:=[93]
abbrev sLc:List UInt8:=[123]
abbrev sRc:List UInt8:=[125]
abbrev sLp:List UInt8:=[40]
abbrev sRp:List UInt8:=[41]
abbrev qj:List UInt8:=[59]
abbrev sEq:List UInt8:=[61]
abbrev sLt:List UInt8:=[60]
abbrev qmy:List UInt8:=[43]
abbrev qbf:List UInt8:=[45]
abbrev qbl:List UInt8:=[42]
abbrev qmz:List UInt8:=[47]
abbrev sPct:List UInt8:=[37]
abbrev qkr:List UInt8:=[33]
abbrev sOr2:List UInt8:=[124,124]
abbrev qpj:List UInt8:=[38,38]
abbrev sEq2:List UInt8:=[61,61]
inductive Tr where
 | mk (kind:Int) (words:List (List UInt8)) (nums:List Int) (at_:Int) (l:List Tr)
def Tr.kind:Tr→Int | .mk k _ _ _ _=>k
def Tr.words:Tr→List (List UInt8) | .mk _ w _ _ _=>w
def Tr.nums:Tr→List Int | .mk _ _ n _ _=>n
def Tr.at_:Tr→Int | .mk _ _ _ a _=>a
def Tr.l:Tr→List Tr | .mk _ _ _ _ l=>l
def Tr.none:Tr:=.mk 0 [] [] 0 []
structure Ps where
 at_:Int
 deep:Int:=0
 err:Int:=0
 fat:Int:=0
section
variable (ts:List Lx.Tok)
def tk (p:Ps):Lx.Tok:=ts.getD p.at_.toNat Lx.tok0
def Ps.cells (p:Ps):List AV:=[Lx.toks ts,iv p.at_,iv p.deep,iv p.err,iv p.fat]
def qtl (t:Lx.Tok) (s:List UInt8):Bool:=t.s == s && (t.kind == 2 || t.kind == 0 && Go.St.keyF s)
def sees (p:Ps) (s:List UInt8):Bool:=p.err == 0 && qtl (tk ts p) s
def adv (p:Ps):Ps:={ p with at_:=p.at_+1 }
def bad (p:Ps) (e:Int):Ps:=if p.err=0 then { p with err:=e,fat:=(tk ts p).pos } else p
def took (p:Ps) (s:List UInt8):Ps:=if sees ts p s=true then adv p else p
def must (p:Ps) (s:List UInt8):Ps:=if sees ts p s=true then adv p else bad ts p 11
def qdq (p:Ps):Bool:=(tk ts p).kind == 0 && Go.St.nameF (tk ts p).s && p.err == 0
def jn (p:Ps):List UInt8:=if qdq ts p=true then (tk ts p).s else []
def qd (p:Ps):Ps:=if qdq ts p=true then adv p else bad ts p 11
def qdr (p:Ps):Bool:=(tk ts p).kind == 1 && p.err == 0
def qdk (s:List UInt8):Int:=s.foldl (fun n b=>10 * n+((b.toNat:Int) - 48)) 0
def numN (p:Ps):Int:=if qdr ts p=true then qdk (tk ts p).s else 0
def numP (p:Ps):Ps:=if qdr ts p=true then adv p else bad ts p 11
def qaf (p:Ps) (s:List UInt8):Int:=if sees ts p s=true then 1 else 0
def inP (p:Ps):Ps:=if 200<p.deep+1 then bad ts { p with deep:=p.deep+1 } 12 else { p with deep:=p.deep+1 }
def outP (p:Ps):Ps:={ p with deep:=p.deep - 1 }
def binT (sg:Int) (a b:Tr):Tr:=.mk 22 [] [sg] a.at_ [a,b]
def qbt (f:Ps→Tr × Ps) (c:Ps→Bool) (sg:Ps→Int):Nat→Tr→Ps→Tr × Ps
 | 0,a,p=>(a,p)
 | n+1,a,p=>if c p=true then qbt f c sg n (binT (sg p) a (f (adv p)).1) (f (adv p)).2 else (a,p)
def qhp (f:Ps→Tr × Ps) (s:List UInt8) (sg:Int) (p:Ps):Tr × Ps:=
 if sees ts (f p).2 s=true then (binT sg (f p).1 (f (adv (f p).2)).1,(f (adv (f p).2)).2) else f p
def qna (p:Ps):Bool:=sees ts p qbl || (sees ts p qmz || sees ts p sPct)
def qpk (p:Ps):Int:=if sees ts p qbl=true then 6 else if sees ts p qmz=true then 7 else 8
def sumC (p:Ps):Bool:=sees ts p qmy || sees ts p qbf
def sumS (p:Ps):Int:=if sees ts p qmy=true then 4 else 5
def qiz (part:Ps→Tr × Ps) (p:Ps):Tr × Ps:=qbt part (qna ts) (qpk ts) ts.length (part p).1 (part p).2
def sumF (part:Ps→Tr × Ps) (p:Ps):Tr × Ps:=qbt (qiz ts part) (sumC ts) (sumS ts) ts.length (qiz ts part p).1 (qiz ts part p).2
def qnb (part:Ps→Tr × Ps) (p:Ps):Tr × Ps:=qhp ts (sumF ts part) sLt 3 p
def qja (part:Ps→Tr × Ps) (p:Ps):Tr × Ps:=qhp ts (qnb ts part) sEq2 2 p
def andF (part:Ps→Tr × Ps) (p:Ps):Tr × Ps:=qbt (qja ts part) (fun p=>sees ts p qpj) (fun _=>1) ts.length (qja ts part p).1 (qja ts part p).2
def qbr (part:Ps→Tr × Ps) (p:Ps):Tr × Ps:=qbt (andF ts part) (fun p=>sees ts p sOr2) (fun _=>0) ts.length (andF ts part p).1 (andF ts part p).2
def ifOk (f:Ps→Tr × Ps) (p:Ps):List Tr × Ps:=if p.err=0 then ([(f p).1],(f p).2) else ([],p)
def ja:Nat→Ps→Tr × Ps
 | 0,p=>(.none,p)
 | n+1,p=>
  let a:=(tk ts p).pos
  if p.err=0∧(tk ts p).kind=1 then (.mk 17 [] [numN ts p] a [],numP ts p)
  else if sees ts p kLen=true then (.mk 19 [jn ts (adv p)] [] a [],qd ts (adv p))
  else if sees ts p qbf=true∨sees ts p qkr=true then
   (.mk (if sees ts p qbf=true then 20 else 21) [] [] a (ifOk (ja n) (inP ts (adv p))).1,outP (ifOk (ja n) (inP ts (adv p))).2)
  else if sees ts p sLp=true then
   ((if (inP ts (adv p)).err=0 then (qbr ts (ja n) (inP ts (adv p))).1 else .mk 17 [] [] a []),
    must ts (outP (if (inP ts (adv p)).err=0 then (qbr ts (ja n) (inP ts (adv p))).2 else inP ts (adv p))) sRp)
  else (.mk 18 [jn ts p] [] a [],qd ts p)
def eF (p:Ps):Tr × Ps:=qbr ts (ja ts ts.length) p
def jb (stat:Ps→Tr × Ps):Nat→List Tr→Ps→List Tr × Ps
 | 0,l,p=>(l,p)
 | n+1,l,p=>if p.err=0 then (if sees ts p sRc=true then (l,adv p) else jb stat n (l++[(stat p).1]) (stat p).2) else (l,p)
def qw (stat:Ps→Tr × Ps) (p:Ps):Tr × Ps:=
 (.mk 16 [] [] (tk ts p).pos (jb ts stat ts.length [] (inP ts (must ts p sLc))).1,outP (jb ts stat ts.length [] (inP ts (must ts p sLc))).2)
def orL (blk:Ps→Tr × Ps):Nat→List Tr→Ps→List Tr × Ps
 | 0,l,p=>(l,p)
 | n+1,l,p=>if sees ts p kOr=true then orL blk n (l++[(blk (adv p)).1]) (blk (adv p)).2 else (l,p)
def qce (blk:Ps→Tr × Ps) (a idle:Int) (p:Ps):Tr × Ps:=
 if sees ts p jy=true then
  (.mk 8 [jn ts (adv p),jn ts (qd ts (adv p))] [idle] a [],must ts (qd ts (qd ts (adv p))) qj)
 else if sees ts p qac=true then (.mk 9 [] [idle] a [(eF ts (adv p)).1],must ts (eF ts (adv p)).2 qj)
 else
  let q:=must ts p ji
  let r:=orL ts blk ts.length [(blk q).1] (blk q).2
  (.mk 10 [] [idle] a r.1,r.2)
def qf:Nat→Ps→Tr × Ps
 | 0,p=>(.none,p)
 | n+1,p=>
  let a:=(tk ts p).pos
  let blk:=qw ts (qf n)
  if sees ts p qab=true∨sees ts p jy=true∨sees ts p qac=true∨sees ts p ji=true then qce ts blk a (qaf ts p qab) (took ts p qab)
  else if sees ts p qbz=true then
   (.mk 7 [jn ts (adv p)] [] a [(eF ts (qd ts (adv p))).1],must ts (eF ts (qd ts (adv p))).2 qj)
  else if sees ts p kIf=true then
   let e:=eF ts (adv p)
   let b:=blk e.2
   if sees ts b.2 qga=true then (.mk 11 [] [] a [e.1,b.1,(blk (adv b.2)).1],(blk (adv b.2)).2) else (.mk 11 [] [] a [e.1,b.1],b.2)
  else if sees ts p qca=true then
   let e:=eF ts (adv p)
   (.mk 12 [] [] a [e.1,(blk e.2).1],(blk e.2).2)
  else if sees ts p qcb=true then (.mk 13 [] [] a [(blk (adv p)).1],(blk (adv p)).2)
  else if sees ts p qcc=true then (.mk 14 [] [] a [],must ts (adv p) qj)
  else if sees ts p qcd=true then (.mk 15 [] [] a [],must ts (adv p) qj)
  else
   let q:=must ts (qd ts p) sEq
   (.mk 6 [jn ts p] [] a [(eF ts q).1],must ts (eF ts q).2 qj)
def sF (p:Ps):Tr × Ps:=qf ts ts.length p
def qah (p:Ps):Tr × Ps:=
 let w:=qd ts (must ts p kVar)
 let q:=must ts w kOf
 let r:=numP ts q
 let v:=if sees ts r sEq=true then (if sees ts (adv r) qbf=true then (0 - numN ts (adv (adv r)),numP ts (adv (adv r))) else (numN ts (adv r),numP ts (adv r))) else (0,r)
 (.mk 2 [jn ts (must ts p kVar)] [numN ts q,v.1] (tk ts p).pos [],must ts v.2 qj)
def qai:Nat→List Tr→Ps→List Tr × Ps
 | 0,l,p=>(l,p)
 | n+1,l,p=>if sees ts p kVar=true then qai n (l++[(qah ts p).1]) (qah ts p).2 else (l,p)
def qbu (p:Ps):Tr × Ps:=
 let q:=qd ts (must ts p qo)
 let c:=if sees ts q qbl=true then (numN ts (adv q),numP ts (adv q)) else (1,q)
 let r:=must ts c.2 sLc
 let v:=qai ts ts.length [] r
 let s:=jb ts (sF ts) ts.length v.1 (inP ts v.2)
 (.mk 3 [jn ts (must ts p qo)] [c.1] (tk ts p).pos s.1,outP s.2)
def qax (p:Ps):Tr × Ps:=
 let a:=(tk ts p).pos
 if sees ts p kVar=true then qah ts p
 else if sees ts p qo=true then qbu ts p
 else if sees ts p qfb=true then
  let q:=must ts (qd ts (adv p)) sLb
  let r:=must ts (must ts (numP ts q) sRb) kOf
  let u:=took ts (numP ts r) qfy
  (.mk 1 [jn ts (adv p)] [numN ts q,numN ts r,qaf ts (numP ts r) qfy,qaf ts u qfz] a [],must ts (took ts u qfz) qj)
 else if sees ts p qho=true then (.mk 4 [] [] a [(eF ts (adv p)).1],must ts (eF ts (adv p)).2 qj)
 else (.mk 5 [] [] a [],must ts (must ts p qiy) qj)
def qcp:Nat→List Tr→Ps→List Tr × Ps
 | 0,l,p=>(l,p)
 | n+1,l,p=>if p.err=0∧(tk ts p).kind≠3 then qcp n (l++[(qax ts p).1]) (qax ts p).2 else (l,p)
def qaj (p:Ps):Tr × Ps:=
 (.mk 0 [] [] (tk ts p).pos (qcp ts ts.length [] p).1,(qcp ts ts.length [] p).2)
end
mutual
def Tr.cellsA:Tr→List AV
 | .mk k w n a l=>[iv k,strs w,ints n,.nils,iv a,.slc 6 l.length fun i=>(Tr.cellsL l).getD i []]
def Tr.cellsL:List Tr→List (List AV)
 | []=>[]
 | t::r=>t.cellsA::Tr.cellsL r
end
def kidsV (l:List Tr):AV:=.slc 6 l.length fun i=>(Tr.cellsL l).getD i []
def Tr.cells (t:Tr):List AV:=[iv t.kind,strs t.words,ints t.nums,.nils,iv t.at_,kidsV t.l]
mutual
def Tr.size:Tr→Nat
 | .mk _ _ _ _ l=>1+Tr.sizeL l
def Tr.sizeL:List Tr→Nat
 | []=>0
 | t::r=>t.size+Tr.sizeL r
end
def qx:Nat→List Tr→List Int
 | _,[]=>[]
 | n,t::r=>(n:Int)::qx (n+t.size) r
mutual
def layT:Nat→Tr→List Nd
 | n,.mk k w ns a l=>⟨k,w,ns,qx (n+1) l,a⟩::layL (n+1) l
def layL:Nat→List Tr→List Nd
 | _,[]=>[]
 | n,t::r=>layT n t++layL (n+t.size) r
end
mutual
def deepT:Tr→Int→Int
 | .mk _ _ _ a l,n=>if 20<n then a else deepL l n
def deepL:List Tr→Int→Int
 | [],_=>-1
 | t::r,n=>if 0≤deepT t (n+1) then deepT t (n+1) else deepL r n
end
def qhq (ts:List Lx.Tok):List Nd × (Int × Int):=
 let r:=qaj ts ⟨0,0,0,0⟩
 if r.2.err≠0 then ([],(r.2.err,r.2.fat))
 else if 800<(layT 0 r.1).length then ([],(12,0))
 else if 0≤deepT r.1 1 then ([],(12,deepT r.1 1))
 else (layT 0 r.1,(0,0))
def qar (s:List UInt8):List Nd × (Int × Int):=if (Lx.lexAll s).2.1≠0 then ([],(Lx.lexAll s).2) else qhq (Lx.lexAll s).1
def qtm (r:List Nd × (Int × Int)):AV:=.tup [qcv r.1,flt r.2.1 r.2.2]
end Pa
end Go.Proofs.Ythfaleaojlnnoaa
