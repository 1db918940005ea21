/- Some texts of the library, one behind the other. -/
import Derived.Test.YtikahnkkfkoglaaGreatDoorY121
import Derived.Test.YtikahnkkfkoglaaGreatDoorY14
import Derived.Test.YtikahnkkfkoglaaGreatDoorY1Mk0
import Derived.Test.YtikahnkkfkoglaaGreatDoorY120
import Derived.Test.YtikahnkkfkoglaaGreatDoorY12
set_option linter.unusedSimpArgs false
set_option linter.unusedVariables false
section
namespace Go.Proofs.YtikahnkkfkoglaaGreatDoor
namespace Pa
open Go Go.Sx
abbrev qoh:List UInt8:=[99,104,97,110]
abbrev kOf:List UInt8:=[111,102]
abbrev qhn:List UInt8:=[108,111,115,115,121]
abbrev qir:List UInt8:=[99,111,112,121,105,110,103]
abbrev kVar:List UInt8:=[118,97,114]
abbrev qy:List UInt8:=[112,114,111,99]
abbrev qoi:List UInt8:=[115,97,102,101]
abbrev qlt:List UInt8:=[100,101,97,100,108,111,99,107]
abbrev qoj:List UInt8:=[115,101,110,100]
abbrev qdl:List UInt8:=[114,101,99,118]
abbrev qdy:List UInt8:=[105,100,108,101]
abbrev qez:List UInt8:=[119,104,101,110]
abbrev je:List UInt8:=[99,104,111,111,115,101]
abbrev kOr:List UInt8:=[111,114]
abbrev kIf:List UInt8:=[105,102]
abbrev qok:List UInt8:=[101,108,115,101]
abbrev qol:List UInt8:=[119,104,105,108,101]
abbrev qom:List UInt8:=[97,116,111,109,105,99]
abbrev qon:List UInt8:=[115,107,105,112]
abbrev qoo:List UInt8:=[115,116,111,112]
abbrev kLen:List UInt8:=[108,101,110]
abbrev sLb:List UInt8:=[91]
abbrev sRb:List UInt8:=[93]
abbrev sLc:List UInt8:=[123]
abbrev sRc:List UInt8:=[125]
abbrev sLp:List UInt8:=[40]
abbrev sRp:List UInt8:=[41]
abbrev qq:List UInt8:=[59]
abbrev sEq:List UInt8:=[61]
abbrev sLt:List UInt8:=[60]
abbrev jdp:List UInt8:=[43]
abbrev qfa:List UInt8:=[45]
abbrev qft:List UInt8:=[42]
abbrev jdq:List UInt8:=[47]
abbrev sPct:List UInt8:=[37]
abbrev qsa:List UInt8:=[33]
abbrev sOr2:List UInt8:=[124,124]
abbrev qop:List UInt8:=[38,38]
abbrev sEq2:List UInt8:=[61,61]
inductive Tr where
 | mk (kind:Int) (words:List (List UInt8)) (nums:List Int) (at_:Int) (l:List Tr)
def Tr.kind:Tr→Int | .mk k _ _ _ _=>k
def Tr.words:Tr→List (List UInt8) | .mk _ w _ _ _=>w
def Tr.nums:Tr→List Int | .mk _ _ n _ _=>n
def Tr.at_:Tr→Int | .mk _ _ _ a _=>a
def Tr.l:Tr→List Tr | .mk _ _ _ _ l=>l
def Tr.none:Tr:=.mk 0 [] [] 0 []
structure Ps where
 at_:Int
 deep:Int:=0
 err:Int:=0
 fat:Int:=0
section
variable (ts:List Lx.Tok)
def tk (p:Ps):Lx.Tok:=ts.getD p.at_.toNat Lx.tok0
def Ps.cells (p:Ps):List AV:=[Lx.toks ts,iv p.at_,iv p.deep,iv p.err,iv p.fat]
def qwe (t:Lx.Tok) (s:List UInt8):Bool:=t.s == s && (t.kind == 2 || t.kind == 0 && Go.St.keyF s)
def sees (p:Ps) (s:List UInt8):Bool:=p.err == 0 && qwe (tk ts p) s
def adv (p:Ps):Ps:={ p with at_:=p.at_+1 }
def bad (p:Ps) (e:Int):Ps:=if p.err=0 then { p with err:=e,fat:=(tk ts p).pos } else p
def took (p:Ps) (s:List UInt8):Ps:=if sees ts p s=true then adv p else p
def must (p:Ps) (s:List UInt8):Ps:=if sees ts p s=true then adv p else bad ts p 11
def qho (p:Ps):Bool:=(tk ts p).kind == 0 && Go.St.nameF (tk ts p).s && p.err == 0
def qad (p:Ps):List UInt8:=if qho ts p=true then (tk ts p).s else []
def qf (p:Ps):Ps:=if qho ts p=true then adv p else bad ts p 11
def qgm (p:Ps):Bool:=(tk ts p).kind == 1 && p.err == 0
def qgn (s:List UInt8):Int:=s.foldl (fun n b=>10 * n+((b.toNat:Int) - 48)) 0
def numN (p:Ps):Int:=if qgm ts p=true then qgn (tk ts p).s else 0
def numP (p:Ps):Ps:=if qgm ts p=true then adv p else bad ts p 11
def qgo (p:Ps) (s:List UInt8):Int:=if sees ts p s=true then 1 else 0
def inP (p:Ps):Ps:=if 200<p.deep+1 then bad ts { p with deep:=p.deep+1 } 12 else { p with deep:=p.deep+1 }
def outP (p:Ps):Ps:={ p with deep:=p.deep - 1 }
def binT (sg:Int) (a b:Tr):Tr:=.mk 22 [] [sg] a.at_ [a,b]
def qau (f:Ps→Tr × Ps) (c:Ps→Bool) (sg:Ps→Int):Nat→Tr→Ps→Tr × Ps
 | 0,a,p=>(a,p)
 | n+1,a,p=>if c p=true then qau f c sg n (binT (sg p) a (f (adv p)).1) (f (adv p)).2 else (a,p)
def qlu (f:Ps→Tr × Ps) (s:List UInt8) (sg:Int) (p:Ps):Tr × Ps:=
 if sees ts (f p).2 s=true then (binT sg (f p).1 (f (adv (f p).2)).1,(f (adv (f p).2)).2) else f p
def qdz (p:Ps):Bool:=sees ts p qft || (sees ts p jdq || sees ts p sPct)
def qis (p:Ps):Int:=if sees ts p qft=true then 6 else if sees ts p jdq=true then 7 else 8
def sumC (p:Ps):Bool:=sees ts p jdp || sees ts p qfa
def sumS (p:Ps):Int:=if sees ts p jdp=true then 4 else 5
def qci (part:Ps→Tr × Ps) (p:Ps):Tr × Ps:=qau part (qdz ts) (qis ts) ts.length (part p).1 (part p).2
def sumF (part:Ps→Tr × Ps) (p:Ps):Tr × Ps:=qau (qci ts part) (sumC ts) (sumS ts) ts.length (qci ts part p).1 (qci ts part p).2
def qcd (part:Ps→Tr × Ps) (p:Ps):Tr × Ps:=qlu ts (sumF ts part) sLt 3 p
def qdm (part:Ps→Tr × Ps) (p:Ps):Tr × Ps:=qlu ts (qcd ts part) sEq2 2 p
def andF (part:Ps→Tr × Ps) (p:Ps):Tr × Ps:=qau (qdm ts part) (fun p=>sees ts p qop) (fun _=>1) ts.length (qdm ts part p).1 (qdm ts part p).2
def qea (part:Ps→Tr × Ps) (p:Ps):Tr × Ps:=qau (andF ts part) (fun p=>sees ts p sOr2) (fun _=>0) ts.length (andF ts part p).1 (andF ts part p).2
def ifOk (f:Ps→Tr × Ps) (p:Ps):List Tr × Ps:=if p.err=0 then ([(f p).1],(f p).2) else ([],p)
def qap:Nat→Ps→Tr × Ps
 | 0,p=>(.none,p)
 | n+1,p=>
  let a:=(tk ts p).pos
  if p.err=0∧(tk ts p).kind=1 then (.mk 17 [] [numN ts p] a [],numP ts p)
  else if sees ts p kLen=true then (.mk 19 [qad ts (adv p)] [] a [],qf ts (adv p))
  else if sees ts p qfa=true∨sees ts p qsa=true then
   (.mk (if sees ts p qfa=true then 20 else 21) [] [] a (ifOk (qap n) (inP ts (adv p))).1,outP (ifOk (qap n) (inP ts (adv p))).2)
  else if sees ts p sLp=true then
   ((if (inP ts (adv p)).err=0 then (qea ts (qap n) (inP ts (adv p))).1 else .mk 17 [] [] a []),
    must ts (outP (if (inP ts (adv p)).err=0 then (qea ts (qap n) (inP ts (adv p))).2 else inP ts (adv p))) sRp)
  else (.mk 18 [qad ts p] [] a [],qf ts p)
def eF (p:Ps):Tr × Ps:=qea ts (qap ts ts.length) p
def jh (stat:Ps→Tr × Ps):Nat→List Tr→Ps→List Tr × Ps
 | 0,l,p=>(l,p)
 | n+1,l,p=>if p.err=0 then (if sees ts p sRc=true then (l,adv p) else jh stat n (l++[(stat p).1]) (stat p).2) else (l,p)
def qr (stat:Ps→Tr × Ps) (p:Ps):Tr × Ps:=
 (.mk 16 [] [] (tk ts p).pos (jh ts stat ts.length [] (inP ts (must ts p sLc))).1,outP (jh ts stat ts.length [] (inP ts (must ts p sLc))).2)
def orL (blk:Ps→Tr × Ps):Nat→List Tr→Ps→List Tr × Ps
 | 0,l,p=>(l,p)
 | n+1,l,p=>if sees ts p kOr=true then orL blk n (l++[(blk (adv p)).1]) (blk (adv p)).2 else (l,p)
def qdn (blk:Ps→Tr × Ps) (a idle:Int) (p:Ps):Tr × Ps:=
 if sees ts p qdl=true then
  (.mk 8 [qad ts (adv p),qad ts (qf ts (adv p))] [idle] a [],must ts (qf ts (qf ts (adv p))) qq)
 else if sees ts p qez=true then (.mk 9 [] [idle] a [(eF ts (adv p)).1],must ts (eF ts (adv p)).2 qq)
 else
  let q:=must ts p je
  let r:=orL ts blk ts.length [(blk q).1] (blk q).2
  (.mk 10 [] [idle] a r.1,r.2)
def qd:Nat→Ps→Tr × Ps
 | 0,p=>(.none,p)
 | n+1,p=>
  let a:=(tk ts p).pos
  let blk:=qr ts (qd n)
  if sees ts p qdy=true∨sees ts p qdl=true∨sees ts p qez=true∨sees ts p je=true then qdn ts blk a (qgo ts p qdy) (took ts p qdy)
  else if sees ts p qoj=true then
   (.mk 7 [qad ts (adv p)] [] a [(eF ts (qf ts (adv p))).1],must ts (eF ts (qf ts (adv p))).2 qq)
  else if sees ts p kIf=true then
   let e:=eF ts (adv p)
   let b:=blk e.2
   if sees ts b.2 qok=true then (.mk 11 [] [] a [e.1,b.1,(blk (adv b.2)).1],(blk (adv b.2)).2) else (.mk 11 [] [] a [e.1,b.1],b.2)
  else if sees ts p qol=true then
   let e:=eF ts (adv p)
   (.mk 12 [] [] a [e.1,(blk e.2).1],(blk e.2).2)
  else if sees ts p qom=true then (.mk 13 [] [] a [(blk (adv p)).1],(blk (adv p)).2)
  else if sees ts p qon=true then (.mk 14 [] [] a [],must ts (adv p) qq)
  else if sees ts p qoo=true then (.mk 15 [] [] a [],must ts (adv p) qq)
  else
   let q:=must ts (qf ts p) sEq
   (.mk 6 [qad ts p] [] a [(eF ts q).1],must ts (eF ts q).2 qq)
def sF (p:Ps):Tr × Ps:=qd ts ts.length p
def ju (p:Ps):Tr × Ps:=
 let w:=qf ts (must ts p kVar)
 let q:=must ts w kOf
 let r:=numP ts q
 let v:=if sees ts r sEq=true then (if sees ts (adv r) qfa=true then (0 - numN ts (adv (adv r)),numP ts (adv (adv r))) else (numN ts (adv r),numP ts (adv r))) else (0,r)
 (.mk 2 [qad ts (must ts p kVar)] [numN ts q,v.1] (tk ts p).pos [],must ts v.2 qq)
def qbu:Nat→List Tr→Ps→List Tr × Ps
 | 0,l,p=>(l,p)
 | n+1,l,p=>if sees ts p kVar=true then qbu n (l++[(ju ts p).1]) (ju ts p).2 else (l,p)
def qdo (p:Ps):Tr × Ps:=
 let q:=qf ts (must ts p qy)
 let c:=if sees ts q qft=true then (numN ts (adv q),numP ts (adv q)) else (1,q)
 let r:=must ts c.2 sLc
 let v:=qbu ts ts.length [] r
 let s:=jh ts (sF ts) ts.length v.1 (inP ts v.2)
 (.mk 3 [qad ts (must ts p qy)] [c.1] (tk ts p).pos s.1,outP s.2)
def itemF (p:Ps):Tr × Ps:=
 let a:=(tk ts p).pos
 if sees ts p kVar=true then ju ts p
 else if sees ts p qy=true then qdo ts p
 else if sees ts p qoh=true then
  let q:=must ts (qf ts (adv p)) sLb
  let r:=must ts (must ts (numP ts q) sRb) kOf
  let u:=took ts (numP ts r) qhn
  (.mk 1 [qad ts (adv p)] [numN ts q,numN ts r,qgo ts (numP ts r) qhn,qgo ts u qir] a [],must ts (took ts u qir) qq)
 else if sees ts p qoi=true then (.mk 4 [] [] a [(eF ts (adv p)).1],must ts (eF ts (adv p)).2 qq)
 else (.mk 5 [] [] a [],must ts (must ts p qlt) qq)
def qdp:Nat→List Tr→Ps→List Tr × Ps
 | 0,l,p=>(l,p)
 | n+1,l,p=>if p.err=0∧(tk ts p).kind≠3 then qdp n (l++[(itemF ts p).1]) (itemF ts p).2 else (l,p)
def qcs (p:Ps):Tr × Ps:=
 (.mk 0 [] [] (tk ts p).pos (qdp ts ts.length [] p).1,(qdp ts ts.length [] p).2)
end
mutual
def Tr.cellsA:Tr→List AV
 | .mk k w n a l=>[iv k,strs w,ints n,.nils,iv a,.slc 6 l.length fun i=>(Tr.cellsL l).getD i []]
def Tr.cellsL:List Tr→List (List AV)
 | []=>[]
 | t::r=>t.cellsA::Tr.cellsL r
end
def qlv (l:List Tr):AV:=.slc 6 l.length fun i=>(Tr.cellsL l).getD i []
def Tr.cells (t:Tr):List AV:=[iv t.kind,strs t.words,ints t.nums,.nils,iv t.at_,qlv t.l]
def Tr.av (t:Tr):AV:=.agg t.cells
theorem Tr.cellsA_eq (t:Tr):t.cellsA=t.cells:=by cases t;rfl
theorem Tr.cellsL_get:∀ (l:List Tr) (i:Nat),i<l.length→(Tr.cellsL l).getD i []=(l.getD i Tr.none).cells
 | [],i,h=>absurd h (zj i)
 | t::r,0,_=>by rw [Tr.cellsL];exact t.cellsA_eq
 | t::r,i+1,h=>by
  have:=Tr.cellsL_get r i (by simpa using h)
  rw [Tr.cellsL]
  simpa using this
mutual
def Tr.size:Tr→Nat
 | .mk _ _ _ _ l=>1+Tr.sizeL l
def Tr.sizeL:List Tr→Nat
 | []=>0
 | t::r=>t.size+Tr.sizeL r
end
def jm:Nat→List Tr→List Int
 | _,[]=>[]
 | n,t::r=>(n:Int)::jm (n+t.size) r
mutual
def layT:Nat→Tr→List Nd
 | n,.mk k w ns a l=>⟨k,w,ns,jm (n+1) l,a⟩::layL (n+1) l
def layL:Nat→List Tr→List Nd
 | _,[]=>[]
 | n,t::r=>layT n t++layL (n+t.size) r
end
mutual
def deepT:Tr→Int→Int
 | .mk _ _ _ a l,n=>if 20<n then a else deepL l n
def deepL:List Tr→Int→Int
 | [],_=>-1
 | t::r,n=>if 0≤deepT t (n+1) then deepT t (n+1) else deepL r n
end
def qoq (ts:List Lx.Tok):List Nd × (Int × Int):=
 let r:=qcs ts ⟨0,0,0,0⟩
 if r.2.err≠0 then ([],(r.2.err,r.2.fat))
 else if 800<(layT 0 r.1).length then ([],(12,0))
 else if 0≤deepT r.1 1 then ([],(12,deepT r.1 1))
 else (layT 0 r.1,(0,0))
def qor (s:List UInt8):List Nd × (Int × Int):=if (Lx.lexAll s).2.1≠0 then ([],(Lx.lexAll s).2) else qoq (Lx.lexAll s).1
def jqs (r:List Nd × (Int × Int)):AV:=.tup [jr r.1,flt r.2.1 r.2.2]
end Pa
end Go.Proofs.YtikahnkkfkoglaaGreatDoor
end
section
namespace Go.Proofs.YtikahnkkfkoglaaGreatDoor
namespace Pa
open Go Go.Sx
def lexF:Nat→List UInt8→Nat→Except Nat (List Lx.Tok)
 | 0,_,p=>.error p
 | _+1,[],p=>.ok [⟨3,[],p⟩]
 | n+1,b::r,p=>if Lx.blankB b then lexF n r (p+1) else if Lx.slash2 (b::r) then lexF n (r.drop (Lx.lineN r)) (p+1+Lx.lineN r) else if Lx.firstN (b::r)=0 then .error p
  else (lexF n (r.drop (Lx.firstN (b::r) - 1)) (p+Lx.firstN (b::r))).map (⟨Lx.firstK (b::r),(b::r).take (Lx.firstN (b::r)),p⟩::·)
theorem qsb:∀ (n:Nat) (l:List UInt8) (p:Nat),l.length<n→lexF n l p=Lx.lexR l p
 | 0,_,_,h=>absurd h (zj _)
 | n+1,[],p,_=>by rw [Lx.lexR_nil];rfl
 | n+1,b::r,p,h=>by
  have hr:r.length<n:=by simpa using h
  rw [Lx.lexR_cons,lexF,qsb n r _ hr,qsb n (r.drop (Lx.lineN r)) _ (by rw [xg];omega),qsb n (r.drop (Lx.firstN (b::r) - 1)) _ (by rw [xg];omega)]
def qwf (s:List UInt8):List Nd × (Int × Int):=
 match lexF (s.length+1) s 0 with
 | .ok ts=>qoq ts
 | .error p=>([],(10,p))
theorem jqt {s:List UInt8} {r:List Nd × (Int × Int)} (h:qwf s=r) (hs:s.length≤4000):qor s=r:=by
 unfold qwf at h
 rw [qsb _ _ _ (zba _)] at h
 have hn:¬ 4000<s.length:=by omega
 unfold qor Lx.lexAll
 split at h
 ·rename_i ts hts
  rw [hts,za hn]
  exact h
 ·rename_i p hp
  rw [hp,za hn]
  exact h
end Pa
end Go.Proofs.YtikahnkkfkoglaaGreatDoor
end
section
namespace Go.Proofs.YtikahnkkfkoglaaGreatDoor
open Go Go.Sx Go.St Pa
set_option maxRecDepth 100000
def qwg:List UInt8:=[112,114,111,99,32,112,32,123,32,115,107,105,112,59,32,125]
def qit:List Nd:=[⟨0,[],[],[1],0⟩,⟨3,[[112]],[1],[2],0⟩,⟨14,[],[],[],9⟩]
def model16:Md:={ tree:=qit,globals:=0,chans:=[],vars:=[],procs:=[⟨[112],0,[],2,[false,true],[⟨0,1,0,(-1),(-1),(-1),false,2⟩],[],[]⟩],safe:=[],dead:=false }
theorem px16:qwf qwg=(qit,(0,0)):=by kernel_rfl
theorem jdr:qfo qit=true:=by decide +kernel
theorem jds:(qbx qit).1=0:=by decide +kernel
theorem jdt:qev qit=model16:=by kernel_rfl
theorem jqu:fitsB model16 (jj model16)=true:=by decide +kernel
theorem ex16:(fun r:List Fnd × (Bool × Bool)=>(r.1.length,r.2)) (qbg model16 10)=(2,(true,false)):=by kernel_rfl
end Go.Proofs.YtikahnkkfkoglaaGreatDoor
end
