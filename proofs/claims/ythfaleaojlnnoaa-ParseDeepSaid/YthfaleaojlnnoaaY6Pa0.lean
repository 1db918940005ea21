/- The document's parser in plain Lean: which tree a text is, or its first fault. Nothing of the program. -/
import Derived.Test.YthfaleaojlnnoaaY6LexPlain
import Derived.Test.YthfaleaojlnnoaaY63
import Derived.Test.YthfaleaojlnnoaaY62
set_option linter.unusedSimpArgs false
set_option linter.unusedVariables false
namespace Go.Proofs.Ythfaleaojlnnoaa
namespace Pa
open Go Go.Sx
abbrev qdw:List UInt8:=[99,104,97,110]
abbrev kOf:List UInt8:=[111,102]
abbrev qdx:List UInt8:=[108,111,115,115,121]
abbrev qeh:List UInt8:=[99,111,112,121,105,110,103]
abbrev kVar:List UInt8:=[118,97,114]
abbrev qk:List UInt8:=[112,114,111,99]
abbrev kSafe:List UInt8:=[115,97,102,101]
abbrev qgn:List UInt8:=[100,101,97,100,108,111,99,107]
abbrev qbv:List UInt8:=[115,101,110,100]
abbrev ji:List UInt8:=[114,101,99,118]
abbrev jq:List UInt8:=[105,100,108,101]
abbrev jm:List UInt8:=[119,104,101,110]
abbrev qp:List UInt8:=[99,104,111,111,115,101]
abbrev kOr:List UInt8:=[111,114]
abbrev kIf:List UInt8:=[105,102]
abbrev qei:List UInt8:=[101,108,115,101]
abbrev qbw:List UInt8:=[119,104,105,108,101]
abbrev qbx:List UInt8:=[97,116,111,109,105,99]
abbrev qby:List UInt8:=[115,107,105,112]
abbrev qbz:List UInt8:=[115,116,111,112]
abbrev kLen:List UInt8:=[108,101,110]
abbrev sLb:List UInt8:=[91]
abbrev sRb:List UInt8:=[93]
abbrev sLc:List UInt8:=[123]
abbrev sRc:List UInt8:=[125]
abbrev sLp:List UInt8:=[40]
abbrev sRp:List UInt8:=[41]
abbrev sSemi:List UInt8:=[59]
abbrev sEq:List UInt8:=[61]
abbrev sLt:List UInt8:=[60]
abbrev qli:List UInt8:=[43]
abbrev qaj:List UInt8:=[45]
abbrev qbg:List UInt8:=[42]
abbrev qlj:List UInt8:=[47]
abbrev sPct:List UInt8:=[37]
abbrev qgo:List UInt8:=[33]
abbrev sOr2:List UInt8:=[124,124]
abbrev qhg:List UInt8:=[38,38]
abbrev sEq2:List UInt8:=[61,61]
inductive Tr where
 | mk (kind:Int) (words:List (List UInt8)) (nums:List Int) (at_:Int) (l:List Tr)
def Tr.kind:Tr→Int | .mk k _ _ _ _=>k
def Tr.words:Tr→List (List UInt8) | .mk _ w _ _ _=>w
def Tr.nums:Tr→List Int | .mk _ _ n _ _=>n
def Tr.at_:Tr→Int | .mk _ _ _ a _=>a
def Tr.l:Tr→List Tr | .mk _ _ _ _ l=>l
def Tr.none:Tr:=.mk 0 [] [] 0 []
structure Ps where
 at_:Int
 deep:Int:=0
 err:Int:=0
 fat:Int:=0
section
variable (ts:List Lx.Tok)
def tk (p:Ps):Lx.Tok:=ts.getD p.at_.toNat Lx.tok0
def Ps.cells (p:Ps):List AV:=[Lx.toks ts,iv p.at_,iv p.deep,iv p.err,iv p.fat]
def qlk (t:Lx.Tok) (s:List UInt8):Bool:=t.s == s && (t.kind == 2 || t.kind == 0 && Go.St.keyF s)
def sees (p:Ps) (s:List UInt8):Bool:=p.err == 0 && qlk (tk ts p) s
def adv (p:Ps):Ps:={ p with at_:=p.at_+1 }
def bad (p:Ps) (e:Int):Ps:=if p.err=0 then { p with err:=e,fat:=(tk ts p).pos } else p
def took (p:Ps) (s:List UInt8):Ps:=if sees ts p s=true then adv p else p
def must (p:Ps) (s:List UInt8):Ps:=if sees ts p s=true then adv p else bad ts p 11
def qdf (p:Ps):Bool:=(tk ts p).kind == 0 && Go.St.nameF (tk ts p).s && p.err == 0
def jd (p:Ps):List UInt8:=if qdf ts p=true then (tk ts p).s else []
def qd (p:Ps):Ps:=if qdf ts p=true then adv p else bad ts p 11
def qcu (p:Ps):Bool:=(tk ts p).kind == 1 && p.err == 0
def qdg (s:List UInt8):Int:=s.foldl (fun n b=>10 * n+((b.toNat:Int) - 48)) 0
def numN (p:Ps):Int:=if qcu ts p=true then qdg (tk ts p).s else 0
def numP (p:Ps):Ps:=if qcu ts p=true then adv p else bad ts p 11
def js (p:Ps) (s:List UInt8):Int:=if sees ts p s=true then 1 else 0
def inP (p:Ps):Ps:=if 200<p.deep+1 then bad ts { p with deep:=p.deep+1 } 12 else { p with deep:=p.deep+1 }
def outP (p:Ps):Ps:={ p with deep:=p.deep - 1 }
def binT (sg:Int) (a b:Tr):Tr:=.mk 22 [] [sg] a.at_ [a,b]
def jv (f:Ps→Tr × Ps) (c:Ps→Bool) (sg:Ps→Int):Nat→Tr→Ps→Tr × Ps
 | 0,a,p=>(a,p)
 | n+1,a,p=>if c p=true then jv f c sg n (binT (sg p) a (f (adv p)).1) (f (adv p)).2 else (a,p)
def qgp (f:Ps→Tr × Ps) (s:List UInt8) (sg:Int) (p:Ps):Tr × Ps:=
 if sees ts (f p).2 s=true then (binT sg (f p).1 (f (adv (f p).2)).1,(f (adv (f p).2)).2) else f p
def qdn (p:Ps):Bool:=sees ts p qbg || (sees ts p qlj || sees ts p sPct)
def qfp (p:Ps):Int:=if sees ts p qbg=true then 6 else if sees ts p qlj=true then 7 else 8
def sumC (p:Ps):Bool:=sees ts p qli || sees ts p qaj
def sumS (p:Ps):Int:=if sees ts p qli=true then 4 else 5
def qco (part:Ps→Tr × Ps) (p:Ps):Tr × Ps:=jv part (qdn ts) (qfp ts) ts.length (part p).1 (part p).2
def sumF (part:Ps→Tr × Ps) (p:Ps):Tr × Ps:=jv (qco ts part) (sumC ts) (sumS ts) ts.length (qco ts part p).1 (qco ts part p).2
def qck (part:Ps→Tr × Ps) (p:Ps):Tr × Ps:=qgp ts (sumF ts part) sLt 3 p
def qcy (part:Ps→Tr × Ps) (p:Ps):Tr × Ps:=qgp ts (qck ts part) sEq2 2 p
def andF (part:Ps→Tr × Ps) (p:Ps):Tr × Ps:=jv (qcy ts part) (fun p=>sees ts p qhg) (fun _=>1) ts.length (qcy ts part p).1 (qcy ts part p).2
def qal (part:Ps→Tr × Ps) (p:Ps):Tr × Ps:=jv (andF ts part) (fun p=>sees ts p sOr2) (fun _=>0) ts.length (andF ts part p).1 (andF ts part p).2
def ifOk (f:Ps→Tr × Ps) (p:Ps):List Tr × Ps:=if p.err=0 then ([(f p).1],(f p).2) else ([],p)
def qo:Nat→Ps→Tr × Ps
 | 0,p=>(.none,p)
 | n+1,p=>
  let a:=(tk ts p).pos
  if p.err=0∧(tk ts p).kind=1 then (.mk 17 [] [numN ts p] a [],numP ts p)
  else if sees ts p kLen=true then (.mk 19 [jd ts (adv p)] [] a [],qd ts (adv p))
  else if sees ts p qaj=true∨sees ts p qgo=true then
   (.mk (if sees ts p qaj=true then 20 else 21) [] [] a (ifOk (qo n) (inP ts (adv p))).1,outP (ifOk (qo n) (inP ts (adv p))).2)
  else if sees ts p sLp=true then
   ((if (inP ts (adv p)).err=0 then (qal ts (qo n) (inP ts (adv p))).1 else .mk 17 [] [] a []),
    must ts (outP (if (inP ts (adv p)).err=0 then (qal ts (qo n) (inP ts (adv p))).2 else inP ts (adv p))) sRp)
  else (.mk 18 [jd ts p] [] a [],qd ts p)
def eF (p:Ps):Tr × Ps:=qal ts (qo ts ts.length) p
def qq (stat:Ps→Tr × Ps):Nat→List Tr→Ps→List Tr × Ps
 | 0,l,p=>(l,p)
 | n+1,l,p=>if p.err=0 then (if sees ts p sRc=true then (l,adv p) else qq stat n (l++[(stat p).1]) (stat p).2) else (l,p)
def qi (stat:Ps→Tr × Ps) (p:Ps):Tr × Ps:=
 (.mk 16 [] [] (tk ts p).pos (qq ts stat ts.length [] (inP ts (must ts p sLc))).1,outP (qq ts stat ts.length [] (inP ts (must ts p sLc))).2)
def orL (blk:Ps→Tr × Ps):Nat→List Tr→Ps→List Tr × Ps
 | 0,l,p=>(l,p)
 | n+1,l,p=>if sees ts p kOr=true then orL blk n (l++[(blk (adv p)).1]) (blk (adv p)).2 else (l,p)
def qbh (blk:Ps→Tr × Ps) (a idle:Int) (p:Ps):Tr × Ps:=
 if sees ts p ji=true then
  (.mk 8 [jd ts (adv p),jd ts (qd ts (adv p))] [idle] a [],must ts (qd ts (qd ts (adv p))) sSemi)
 else if sees ts p jm=true then (.mk 9 [] [idle] a [(eF ts (adv p)).1],must ts (eF ts (adv p)).2 sSemi)
 else
  let q:=must ts p qp
  let r:=orL ts blk ts.length [(blk q).1] (blk q).2
  (.mk 10 [] [idle] a r.1,r.2)
def qe:Nat→Ps→Tr × Ps
 | 0,p=>(.none,p)
 | n+1,p=>
  let a:=(tk ts p).pos
  let blk:=qi ts (qe n)
  if sees ts p jq=true∨sees ts p ji=true∨sees ts p jm=true∨sees ts p qp=true then qbh ts blk a (js ts p jq) (took ts p jq)
  else if sees ts p qbv=true then
   (.mk 7 [jd ts (adv p)] [] a [(eF ts (qd ts (adv p))).1],must ts (eF ts (qd ts (adv p))).2 sSemi)
  else if sees ts p kIf=true then
   let e:=eF ts (adv p)
   let b:=blk e.2
   if sees ts b.2 qei=true then (.mk 11 [] [] a [e.1,b.1,(blk (adv b.2)).1],(blk (adv b.2)).2) else (.mk 11 [] [] a [e.1,b.1],b.2)
  else if sees ts p qbw=true then
   let e:=eF ts (adv p)
   (.mk 12 [] [] a [e.1,(blk e.2).1],(blk e.2).2)
  else if sees ts p qbx=true then (.mk 13 [] [] a [(blk (adv p)).1],(blk (adv p)).2)
  else if sees ts p qby=true then (.mk 14 [] [] a [],must ts (adv p) sSemi)
  else if sees ts p qbz=true then (.mk 15 [] [] a [],must ts (adv p) sSemi)
  else
   let q:=must ts (qd ts p) sEq
   (.mk 6 [jd ts p] [] a [(eF ts q).1],must ts (eF ts q).2 sSemi)
def sF (p:Ps):Tr × Ps:=qe ts ts.length p
def jf (p:Ps):Tr × Ps:=
 let w:=qd ts (must ts p kVar)
 let q:=must ts w kOf
 let r:=numP ts q
 let v:=if sees ts r sEq=true then (if sees ts (adv r) qaj=true then (0 - numN ts (adv (adv r)),numP ts (adv (adv r))) else (numN ts (adv r),numP ts (adv r))) else (0,r)
 (.mk 2 [jd ts (must ts p kVar)] [numN ts q,v.1] (tk ts p).pos [],must ts v.2 sSemi)
def jr:Nat→List Tr→Ps→List Tr × Ps
 | 0,l,p=>(l,p)
 | n+1,l,p=>if sees ts p kVar=true then jr n (l++[(jf ts p).1]) (jf ts p).2 else (l,p)
def qbk (p:Ps):Tr × Ps:=
 let q:=qd ts (must ts p qk)
 let c:=if sees ts q qbg=true then (numN ts (adv q),numP ts (adv q)) else (1,q)
 let r:=must ts c.2 sLc
 let v:=jr ts ts.length [] r
 let s:=qq ts (sF ts) ts.length v.1 (inP ts v.2)
 (.mk 3 [jd ts (must ts p qk)] [c.1] (tk ts p).pos s.1,outP s.2)
def jg (p:Ps):Tr × Ps:=
 let a:=(tk ts p).pos
 if sees ts p kVar=true then jf ts p
 else if sees ts p qk=true then qbk ts p
 else if sees ts p qdw=true then
  let q:=must ts (qd ts (adv p)) sLb
  let r:=must ts (must ts (numP ts q) sRb) kOf
  let u:=took ts (numP ts r) qdx
  (.mk 1 [jd ts (adv p)] [numN ts q,numN ts r,js ts (numP ts r) qdx,js ts u qeh] a [],must ts (took ts u qeh) sSemi)
 else if sees ts p kSafe=true then (.mk 4 [] [] a [(eF ts (adv p)).1],must ts (eF ts (adv p)).2 sSemi)
 else (.mk 5 [] [] a [],must ts (must ts p qgn) sSemi)
def qau:Nat→List Tr→Ps→List Tr × Ps
 | 0,l,p=>(l,p)
 | n+1,l,p=>if p.err=0∧(tk ts p).kind≠3 then qau n (l++[(jg ts p).1]) (jg ts p).2 else (l,p)
def jk (p:Ps):Tr × Ps:=
 (.mk 0 [] [] (tk ts p).pos (qau ts ts.length [] p).1,(qau ts ts.length [] p).2)
end
mutual
def Tr.cellsA:Tr→List AV
 | .mk k w n a l=>[iv k,strs w,ints n,.nils,iv a,.slc 6 l.length fun i=>(Tr.cellsL l).getD i []]
def Tr.cellsL:List Tr→List (List AV)
 | []=>[]
 | t::r=>t.cellsA::Tr.cellsL r
end
def qll (l:List Tr):AV:=.slc 6 l.length fun i=>(Tr.cellsL l).getD i []
def Tr.cells (t:Tr):List AV:=[iv t.kind,strs t.words,ints t.nums,.nils,iv t.at_,qll t.l]
def Tr.av (t:Tr):AV:=.agg t.cells
theorem Tr.cellsA_eq (t:Tr):t.cellsA=t.cells:=by cases t;rfl
theorem Tr.cellsL_get:∀ (l:List Tr) (i:Nat),i<l.length→(Tr.cellsL l).getD i []=(l.getD i Tr.none).cells
 | [],i,h=>absurd h (xc i)
 | t::r,0,_=>by rw [Tr.cellsL];exact t.cellsA_eq
 | t::r,i+1,h=>by
  have:=Tr.cellsL_get r i (by simpa using h)
  rw [Tr.cellsL]
  simpa using this
mutual
def Tr.size:Tr→Nat
 | .mk _ _ _ _ l=>1+Tr.sizeL l
def Tr.sizeL:List Tr→Nat
 | []=>0
 | t::r=>t.size+Tr.sizeL r
end
def ql:Nat→List Tr→List Int
 | _,[]=>[]
 | n,t::r=>(n:Int)::ql (n+t.size) r
mutual
def layT:Nat→Tr→List Nd
 | n,.mk k w ns a l=>⟨k,w,ns,ql (n+1) l,a⟩::layL (n+1) l
def layL:Nat→List Tr→List Nd
 | _,[]=>[]
 | n,t::r=>layT n t++layL (n+t.size) r
end
mutual
def deepT:Tr→Int→Int
 | .mk _ _ _ a l,n=>if 20<n then a else deepL l n
def deepL:List Tr→Int→Int
 | [],_=>-1
 | t::r,n=>if 0≤deepT t (n+1) then deepT t (n+1) else deepL r n
end
def qeq (ts:List Lx.Tok):List Nd × (Int × Int):=
 let r:=jk ts ⟨0,0,0,0⟩
 if r.2.err≠0 then ([],(r.2.err,r.2.fat))
 else if 800<(layT 0 r.1).length then ([],(12,0))
 else if 0≤deepT r.1 1 then ([],(12,deepT r.1 1))
 else (layT 0 r.1,(0,0))
def qan (s:List UInt8):List Nd × (Int × Int):=if (Lx.lexAll s).2.1≠0 then ([],(Lx.lexAll s).2) else qeq (Lx.lexAll s).1
def qqb (r:List Nd × (Int × Int)):AV:=.tup [qdm r.1,flt r.2.1 r.2.2]
end Pa
end Go.Proofs.Ythfaleaojlnnoaa
