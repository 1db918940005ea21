/- Some texts of the library, one behind the other. -/
import Derived.Test.YtikahnkkfkoglaaGreatDoorQLexPlain
import Derived.Test.YtikahnkkfkoglaaGreatDoorQ4
import Derived.Test.YtikahnkkfkoglaaGreatDoorQ2
set_option linter.unusedSimpArgs false
set_option linter.unusedVariables false
section
namespace Go.Proofs.YtikahnkkfkoglaaGreatDoor
namespace Pa
open Go Go.Sx
abbrev qob:List UInt8:=[99,104,97,110]
abbrev kOf:List UInt8:=[111,102]
abbrev qhn:List UInt8:=[108,111,115,115,121]
abbrev qip:List UInt8:=[99,111,112,121,105,110,103]
abbrev kVar:List UInt8:=[118,97,114]
abbrev qy:List UInt8:=[112,114,111,99]
abbrev qoc:List UInt8:=[115,97,102,101]
abbrev qlx:List UInt8:=[100,101,97,100,108,111,99,107]
abbrev qod:List UInt8:=[115,101,110,100]
abbrev qdk:List UInt8:=[114,101,99,118]
abbrev qdx:List UInt8:=[105,100,108,101]
abbrev qex:List UInt8:=[119,104,101,110]
abbrev jg:List UInt8:=[99,104,111,111,115,101]
abbrev kOr:List UInt8:=[111,114]
abbrev kIf:List UInt8:=[105,102]
abbrev qoe:List UInt8:=[101,108,115,101]
abbrev qof:List UInt8:=[119,104,105,108,101]
abbrev qog:List UInt8:=[97,116,111,109,105,99]
abbrev qoh:List UInt8:=[115,107,105,112]
abbrev qoi:List UInt8:=[115,116,111,112]
abbrev kLen:List UInt8:=[108,101,110]
abbrev sLb:List UInt8:=[91]
abbrev sRb:List UInt8:=[93]
abbrev sLc:List UInt8:=[123]
abbrev sRc:List UInt8:=[125]
abbrev sLp:List UInt8:=[40]
abbrev sRp:List UInt8:=[41]
abbrev qp:List UInt8:=[59]
abbrev sEq:List UInt8:=[61]
abbrev sLt:List UInt8:=[60]
abbrev jcf:List UInt8:=[43]
abbrev qey:List UInt8:=[45]
abbrev qft:List UInt8:=[42]
abbrev jcg:List UInt8:=[47]
abbrev sPct:List UInt8:=[37]
abbrev qrj:List UInt8:=[33]
abbrev sOr2:List UInt8:=[124,124]
abbrev qoj:List UInt8:=[38,38]
abbrev sEq2:List UInt8:=[61,61]
inductive Tr where
 | mk (kind:Int) (words:List (List UInt8)) (nums:List Int) (at_:Int) (l:List Tr)
def Tr.kind:Tr→Int | .mk k _ _ _ _=>k
def Tr.words:Tr→List (List UInt8) | .mk _ w _ _ _=>w
def Tr.nums:Tr→List Int | .mk _ _ n _ _=>n
def Tr.at_:Tr→Int | .mk _ _ _ a _=>a
def Tr.l:Tr→List Tr | .mk _ _ _ _ l=>l
def Tr.none:Tr:=.mk 0 [] [] 0 []
structure Ps where
 at_:Int
 deep:Int:=0
 err:Int:=0
 fat:Int:=0
section
variable (ts:List Lx.Tok)
def tk (p:Ps):Lx.Tok:=ts.getD p.at_.toNat Lx.tok0
def Ps.cells (p:Ps):List AV:=[Lx.toks ts,iv p.at_,iv p.deep,iv p.err,iv p.fat]
def qup (t:Lx.Tok) (s:List UInt8):Bool:=t.s == s && (t.kind == 2 || t.kind == 0 && Go.St.keyF s)
def sees (p:Ps) (s:List UInt8):Bool:=p.err == 0 && qup (tk ts p) s
def adv (p:Ps):Ps:={ p with at_:=p.at_+1 }
def bad (p:Ps) (e:Int):Ps:=if p.err=0 then { p with err:=e,fat:=(tk ts p).pos } else p
def took (p:Ps) (s:List UInt8):Ps:=if sees ts p s=true then adv p else p
def must (p:Ps) (s:List UInt8):Ps:=if sees ts p s=true then adv p else bad ts p 11
def qho (p:Ps):Bool:=(tk ts p).kind == 0 && Go.St.nameF (tk ts p).s && p.err == 0
def qac (p:Ps):List UInt8:=if qho ts p=true then (tk ts p).s else []
def qf (p:Ps):Ps:=if qho ts p=true then adv p else bad ts p 11
def qgn (p:Ps):Bool:=(tk ts p).kind == 1 && p.err == 0
def qgo (s:List UInt8):Int:=s.foldl (fun n b=>10 * n+((b.toNat:Int) - 48)) 0
def numN (p:Ps):Int:=if qgn ts p=true then qgo (tk ts p).s else 0
def numP (p:Ps):Ps:=if qgn ts p=true then adv p else bad ts p 11
def qgp (p:Ps) (s:List UInt8):Int:=if sees ts p s=true then 1 else 0
def inP (p:Ps):Ps:=if 200<p.deep+1 then bad ts { p with deep:=p.deep+1 } 12 else { p with deep:=p.deep+1 }
def outP (p:Ps):Ps:={ p with deep:=p.deep - 1 }
def binT (sg:Int) (a b:Tr):Tr:=.mk 22 [] [sg] a.at_ [a,b]
def qat (f:Ps→Tr × Ps) (c:Ps→Bool) (sg:Ps→Int):Nat→Tr→Ps→Tr × Ps
 | 0,a,p=>(a,p)
 | n+1,a,p=>if c p=true then qat f c sg n (binT (sg p) a (f (adv p)).1) (f (adv p)).2 else (a,p)
def qly (f:Ps→Tr × Ps) (s:List UInt8) (sg:Int) (p:Ps):Tr × Ps:=
 if sees ts (f p).2 s=true then (binT sg (f p).1 (f (adv (f p).2)).1,(f (adv (f p).2)).2) else f p
def qdy (p:Ps):Bool:=sees ts p qft || (sees ts p jcg || sees ts p sPct)
def qiq (p:Ps):Int:=if sees ts p qft=true then 6 else if sees ts p jcg=true then 7 else 8
def sumC (p:Ps):Bool:=sees ts p jcf || sees ts p qey
def sumS (p:Ps):Int:=if sees ts p jcf=true then 4 else 5
def qcg (part:Ps→Tr × Ps) (p:Ps):Tr × Ps:=qat part (qdy ts) (qiq ts) ts.length (part p).1 (part p).2
def sumF (part:Ps→Tr × Ps) (p:Ps):Tr × Ps:=qat (qcg ts part) (sumC ts) (sumS ts) ts.length (qcg ts part p).1 (qcg ts part p).2
def qcd (part:Ps→Tr × Ps) (p:Ps):Tr × Ps:=qly ts (sumF ts part) sLt 3 p
def qdl (part:Ps→Tr × Ps) (p:Ps):Tr × Ps:=qly ts (qcd ts part) sEq2 2 p
def andF (part:Ps→Tr × Ps) (p:Ps):Tr × Ps:=qat (qdl ts part) (fun p=>sees ts p qoj) (fun _=>1) ts.length (qdl ts part p).1 (qdl ts part p).2
def qdz (part:Ps→Tr × Ps) (p:Ps):Tr × Ps:=qat (andF ts part) (fun p=>sees ts p sOr2) (fun _=>0) ts.length (andF ts part p).1 (andF ts part p).2
def ifOk (f:Ps→Tr × Ps) (p:Ps):List Tr × Ps:=if p.err=0 then ([(f p).1],(f p).2) else ([],p)
def qam:Nat→Ps→Tr × Ps
 | 0,p=>(.none,p)
 | n+1,p=>
  let a:=(tk ts p).pos
  if p.err=0∧(tk ts p).kind=1 then (.mk 17 [] [numN ts p] a [],numP ts p)
  else if sees ts p kLen=true then (.mk 19 [qac ts (adv p)] [] a [],qf ts (adv p))
  else if sees ts p qey=true∨sees ts p qrj=true then
   (.mk (if sees ts p qey=true then 20 else 21) [] [] a (ifOk (qam n) (inP ts (adv p))).1,outP (ifOk (qam n) (inP ts (adv p))).2)
  else if sees ts p sLp=true then
   ((if (inP ts (adv p)).err=0 then (qdz ts (qam n) (inP ts (adv p))).1 else .mk 17 [] [] a []),
    must ts (outP (if (inP ts (adv p)).err=0 then (qdz ts (qam n) (inP ts (adv p))).2 else inP ts (adv p))) sRp)
  else (.mk 18 [qac ts p] [] a [],qf ts p)
def eF (p:Ps):Tr × Ps:=qdz ts (qam ts ts.length) p
def jk (stat:Ps→Tr × Ps):Nat→List Tr→Ps→List Tr × Ps
 | 0,l,p=>(l,p)
 | n+1,l,p=>if p.err=0 then (if sees ts p sRc=true then (l,adv p) else jk stat n (l++[(stat p).1]) (stat p).2) else (l,p)
def qq (stat:Ps→Tr × Ps) (p:Ps):Tr × Ps:=
 (.mk 16 [] [] (tk ts p).pos (jk ts stat ts.length [] (inP ts (must ts p sLc))).1,outP (jk ts stat ts.length [] (inP ts (must ts p sLc))).2)
def orL (blk:Ps→Tr × Ps):Nat→List Tr→Ps→List Tr × Ps
 | 0,l,p=>(l,p)
 | n+1,l,p=>if sees ts p kOr=true then orL blk n (l++[(blk (adv p)).1]) (blk (adv p)).2 else (l,p)
def qdm (blk:Ps→Tr × Ps) (a idle:Int) (p:Ps):Tr × Ps:=
 if sees ts p qdk=true then
  (.mk 8 [qac ts (adv p),qac ts (qf ts (adv p))] [idle] a [],must ts (qf ts (qf ts (adv p))) qp)
 else if sees ts p qex=true then (.mk 9 [] [idle] a [(eF ts (adv p)).1],must ts (eF ts (adv p)).2 qp)
 else
  let q:=must ts p jg
  let r:=orL ts blk ts.length [(blk q).1] (blk q).2
  (.mk 10 [] [idle] a r.1,r.2)
def qd:Nat→Ps→Tr × Ps
 | 0,p=>(.none,p)
 | n+1,p=>
  let a:=(tk ts p).pos
  let blk:=qq ts (qd n)
  if sees ts p qdx=true∨sees ts p qdk=true∨sees ts p qex=true∨sees ts p jg=true then qdm ts blk a (qgp ts p qdx) (took ts p qdx)
  else if sees ts p qod=true then
   (.mk 7 [qac ts (adv p)] [] a [(eF ts (qf ts (adv p))).1],must ts (eF ts (qf ts (adv p))).2 qp)
  else if sees ts p kIf=true then
   let e:=eF ts (adv p)
   let b:=blk e.2
   if sees ts b.2 qoe=true then (.mk 11 [] [] a [e.1,b.1,(blk (adv b.2)).1],(blk (adv b.2)).2) else (.mk 11 [] [] a [e.1,b.1],b.2)
  else if sees ts p qof=true then
   let e:=eF ts (adv p)
   (.mk 12 [] [] a [e.1,(blk e.2).1],(blk e.2).2)
  else if sees ts p qog=true then (.mk 13 [] [] a [(blk (adv p)).1],(blk (adv p)).2)
  else if sees ts p qoh=true then (.mk 14 [] [] a [],must ts (adv p) qp)
  else if sees ts p qoi=true then (.mk 15 [] [] a [],must ts (adv p) qp)
  else
   let q:=must ts (qf ts p) sEq
   (.mk 6 [qac ts p] [] a [(eF ts q).1],must ts (eF ts q).2 qp)
def sF (p:Ps):Tr × Ps:=qd ts ts.length p
def jv (p:Ps):Tr × Ps:=
 let w:=qf ts (must ts p kVar)
 let q:=must ts w kOf
 let r:=numP ts q
 let v:=if sees ts r sEq=true then (if sees ts (adv r) qey=true then (0 - numN ts (adv (adv r)),numP ts (adv (adv r))) else (numN ts (adv r),numP ts (adv r))) else (0,r)
 (.mk 2 [qac ts (must ts p kVar)] [numN ts q,v.1] (tk ts p).pos [],must ts v.2 qp)
def qbw:Nat→List Tr→Ps→List Tr × Ps
 | 0,l,p=>(l,p)
 | n+1,l,p=>if sees ts p kVar=true then qbw n (l++[(jv ts p).1]) (jv ts p).2 else (l,p)
def qdn (p:Ps):Tr × Ps:=
 let q:=qf ts (must ts p qy)
 let c:=if sees ts q qft=true then (numN ts (adv q),numP ts (adv q)) else (1,q)
 let r:=must ts c.2 sLc
 let v:=qbw ts ts.length [] r
 let s:=jk ts (sF ts) ts.length v.1 (inP ts v.2)
 (.mk 3 [qac ts (must ts p qy)] [c.1] (tk ts p).pos s.1,outP s.2)
def itemF (p:Ps):Tr × Ps:=
 let a:=(tk ts p).pos
 if sees ts p kVar=true then jv ts p
 else if sees ts p qy=true then qdn ts p
 else if sees ts p qob=true then
  let q:=must ts (qf ts (adv p)) sLb
  let r:=must ts (must ts (numP ts q) sRb) kOf
  let u:=took ts (numP ts r) qhn
  (.mk 1 [qac ts (adv p)] [numN ts q,numN ts r,qgp ts (numP ts r) qhn,qgp ts u qip] a [],must ts (took ts u qip) qp)
 else if sees ts p qoc=true then (.mk 4 [] [] a [(eF ts (adv p)).1],must ts (eF ts (adv p)).2 qp)
 else (.mk 5 [] [] a [],must ts (must ts p qlx) qp)
def qdo:Nat→List Tr→Ps→List Tr × Ps
 | 0,l,p=>(l,p)
 | n+1,l,p=>if p.err=0∧(tk ts p).kind≠3 then qdo n (l++[(itemF ts p).1]) (itemF ts p).2 else (l,p)
def qco (p:Ps):Tr × Ps:=
 (.mk 0 [] [] (tk ts p).pos (qdo ts ts.length [] p).1,(qdo ts ts.length [] p).2)
end
mutual
def Tr.cellsA:Tr→List AV
 | .mk k w n a l=>[iv k,strs w,ints n,.nils,iv a,.slc 6 l.length fun i=>(Tr.cellsL l).getD i []]
def Tr.cellsL:List Tr→List (List AV)
 | []=>[]
 | t::r=>t.cellsA::Tr.cellsL r
end
def qlz (l:List Tr):AV:=.slc 6 l.length fun i=>(Tr.cellsL l).getD i []
def Tr.cells (t:Tr):List AV:=[iv t.kind,strs t.words,ints t.nums,.nils,iv t.at_,qlz t.l]
def Tr.av (t:Tr):AV:=.agg t.cells
theorem Tr.cellsA_eq (t:Tr):t.cellsA=t.cells:=by cases t;rfl
theorem Tr.cellsL_get:∀ (l:List Tr) (i:Nat),i<l.length→(Tr.cellsL l).getD i []=(l.getD i Tr.none).cells
 | [],i,h=>absurd h (zi i)
 | t::r,0,_=>by rw [Tr.cellsL];exact t.cellsA_eq
 | t::r,i+1,h=>by
  have:=Tr.cellsL_get r i (by simpa using h)
  rw [Tr.cellsL]
  simpa using this
mutual
def Tr.size:Tr→Nat
 | .mk _ _ _ _ l=>1+Tr.sizeL l
def Tr.sizeL:List Tr→Nat
 | []=>0
 | t::r=>t.size+Tr.sizeL r
end
def jo:Nat→List Tr→List Int
 | _,[]=>[]
 | n,t::r=>(n:Int)::jo (n+t.size) r
mutual
def layT:Nat→Tr→List Nd
 | n,.mk k w ns a l=>⟨k,w,ns,jo (n+1) l,a⟩::layL (n+1) l
def layL:Nat→List Tr→List Nd
 | _,[]=>[]
 | n,t::r=>layT n t++layL (n+t.size) r
end
mutual
def deepT:Tr→Int→Int
 | .mk _ _ _ a l,n=>if 20<n then a else deepL l n
def deepL:List Tr→Int→Int
 | [],_=>-1
 | t::r,n=>if 0≤deepT t (n+1) then deepT t (n+1) else deepL r n
end
def qok (ts:List Lx.Tok):List Nd × (Int × Int):=
 let r:=qco ts ⟨0,0,0,0⟩
 if r.2.err≠0 then ([],(r.2.err,r.2.fat))
 else if 800<(layT 0 r.1).length then ([],(12,0))
 else if 0≤deepT r.1 1 then ([],(12,deepT r.1 1))
 else (layT 0 r.1,(0,0))
def qol (s:List UInt8):List Nd × (Int × Int):=if (Lx.lexAll s).2.1≠0 then ([],(Lx.lexAll s).2) else qok (Lx.lexAll s).1
def jpt (r:List Nd × (Int × Int)):AV:=.tup [qz r.1,flt r.2.1 r.2.2]
end Pa
end Go.Proofs.YtikahnkkfkoglaaGreatDoor
end
section
namespace Go.Proofs.YtikahnkkfkoglaaGreatDoor
namespace Pa
open Go Go.Sx
def lexF:Nat→List UInt8→Nat→Except Nat (List Lx.Tok)
 | 0,_,p=>.error p
 | _+1,[],p=>.ok [⟨3,[],p⟩]
 | n+1,b::r,p=>if Lx.blankB b then lexF n r (p+1) else if Lx.slash2 (b::r) then lexF n (r.drop (Lx.lineN r)) (p+1+Lx.lineN r) else if Lx.firstN (b::r)=0 then .error p
  else (lexF n (r.drop (Lx.firstN (b::r) - 1)) (p+Lx.firstN (b::r))).map (⟨Lx.firstK (b::r),(b::r).take (Lx.firstN (b::r)),p⟩::·)
theorem qrk:∀ (n:Nat) (l:List UInt8) (p:Nat),l.length<n→lexF n l p=Lx.lexR l p
 | 0,_,_,h=>absurd h (zi _)
 | n+1,[],p,_=>by rw [Lx.lexR_nil];rfl
 | n+1,b::r,p,h=>by
  have hr:r.length<n:=by simpa using h
  rw [Lx.lexR_cons,lexF,qrk n r _ hr,qrk n (r.drop (Lx.lineN r)) _ (by rw [xd];omega),qrk n (r.drop (Lx.firstN (b::r) - 1)) _ (by rw [xd];omega)]
def qdp (s:List UInt8):List Nd × (Int × Int):=
 match lexF (s.length+1) s 0 with
 | .ok ts=>qok ts
 | .error p=>([],(10,p))
theorem qeh {s:List UInt8} {r:List Nd × (Int × Int)} (h:qdp s=r) (hs:s.length≤4000):qol s=r:=by
 unfold qdp at h
 rw [qrk _ _ _ (zay _)] at h
 have hn:¬ 4000<s.length:=by omega
 unfold qol Lx.lexAll
 split at h
 ·rename_i ts hts
  rw [hts,za hn]
  exact h
 ·rename_i p hp
  rw [hp,za hn]
  exact h
end Pa
end Go.Proofs.YtikahnkkfkoglaaGreatDoor
end
section
namespace Go.St
open Go Go.Sx
def walkL (w:Int→Int × Bool) (len:Int):List Int→Int→Int × Bool
 | [],next=>(next,true)
 | k::ks,next=>if k≠next∨len≤next then (next,false) else if (w next).2=false then ((w next).1,false) else walkL w len ks (w next).1
def walkF (l:List Nd):Nat→Int→Int × Bool
 | 0,at_=>(at_,false)
 | f+1,at_=>walkL (walkF l f) l.length (l.getD at_.toNat nd0).kids (at_+1)
theorem qez (l:List Nd) (w:Int→Int × Bool)
  (hw:∀ a n,0≤a→w a=(n,true)→(a<n∧(a<l.length→n≤l.length))∧∀ j:Nat,a≤j→(j:Int)<n→∀ k∈(l.getD j nd0).kids,(j:Int)<k∧k<n) :
  ∀ (ks:List Int) (next n:Int),0≤next→walkL w l.length ks next=(n,true)→
   (next≤n∧(next≤l.length→n≤l.length))∧(∀ k∈ks,next≤k∧k<n)∧∀ j:Nat,next≤j→(j:Int)<n→∀ k∈(l.getD j nd0).kids,(j:Int)<k∧k<n
 | [],next,n,_,h=>by
  simp only [walkL,Prod.mk.injEq,and_true] at h
  subst h
  exact ⟨⟨xa _,id⟩,(fun k hk=>by cases hk),fun j h1 h2=>by omega⟩
 | k::ks,next,n,h0,h=>by
  rw [walkL] at h
  split at h
  ·simp at h
  ·rename_i hk
   split at h
   ·simp at h
   ·rename_i hb
    have hwn:w next=((w next).1,true):=by
     cases hx:w next with
     | mk a b=>rw [hx] at hb;cases b <;> simp_all
    obtain ⟨h1,h2⟩:=hw next _ h0 hwn
    have hk1:k=next∧next<l.length:=by omega
    obtain ⟨h3,h4,h5⟩:=qez l w hw ks (w next).1 n (by omega) h
    refine ⟨⟨by omega,fun _=>h3.2 (h1.2 hk1.2)⟩,fun q hq=>?_,fun j hj1 hj2 q hq=>?_⟩
    ·rcases List.mem_cons.1 hq with rfl|hq
     ·omega
     ·have:=h4 q hq;omega
    ·by_cases hj:(j:Int)<(w next).1
     ·have:=h2 j hj1 hj q hq;omega
     ·exact h5 j (by omega) hj2 q hq
theorem qan (l:List Nd):∀ (f:Nat) (a n:Int),0≤a→walkF l f a=(n,true)→(a<n∧(a<l.length→n≤l.length))∧∀ j:Nat,a≤j→(j:Int)<n→∀ k∈(l.getD j nd0).kids,(j:Int)<k∧k<n
 | 0,a,n,_,h=>by simp [walkF] at h
 | f+1,a,n,h0,h=>by
  rw [walkF] at h
  obtain ⟨h1,h2,h3⟩:=qez l (walkF l f) (qan l f) _ _ n (by omega) h
  refine ⟨⟨by omega,fun ha=>h1.2 (by omega)⟩,fun j hj1 hj2 k hk=>?_⟩
  by_cases hj:(j:Int)=a
  ·have:a.toNat=j:=by omega
   rw [this] at h2
   have:=h2 k hk
   omega
  ·exact h3 j (by omega) hj2 k hk
theorem qma {α:Type} (l:List α) (i:Nat) (d:α) (h:i<l.length):l.drop i=l.getD i d::l.drop (i+1):=by
 rw [zat h,List.getD_eq_getElem?_getD,ze h];rfl
def qcp (l:List Nd):Bool:=
 !(decide (l.length=0) || decide (800<l.length) || (l.getD 0 nd0).kind != 0) && ((walkF l 20 0).2 && (walkF l 20 0).1 == l.length) && l.all (nodeB l)
structure TreeOk (l:List Nd):Prop where
 len:1≤l.length∧l.length≤800
 root:(l.getD 0 nd0).kind=0
 kids:∀ j:Nat,j<l.length→∀ k∈(l.getD j nd0).kids,(j:Int)<k∧k<l.length
 node:∀ j:Nat,j<l.length→nodeB l (l.getD j nd0)=true
theorem jpu {l:List Nd} (h:qcp l=true):TreeOk l:=by
 unfold qcp at h
 simp only [zf,zam,zah,decide_eq_false_iff_not,bne_eq_false_iff_eq,xy] at h
 obtain ⟨⟨⟨⟨h1,h2⟩,h3⟩,h4,h5⟩,h6⟩:=h
 have hw:walkF l 20 0=((l.length:Int),true):=by rw [← h5];exact Prod.ext rfl h4
 obtain ⟨_,hk⟩:=qan l 20 0 _ (xa _) hw
 exact ⟨by omega,h3,fun j hj k hkk=>hk j (by omega) (by omega) k hkk,fun j hj=>(qls _ _ nd0).1 h6 j hj⟩
end Go.St
end
