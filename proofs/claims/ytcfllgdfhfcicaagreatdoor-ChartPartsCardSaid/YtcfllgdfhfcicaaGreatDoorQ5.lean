/- Some texts of the library, one behind the other. -/
import Derived.Test.YtcfllgdfhfcicaaGreatDoorQ4
import Derived.Test.YtcfllgdfhfcicaaGreatDoorQ2
set_option linter.unusedSimpArgs false
set_option linter.unusedVariables false
section
namespace Go.Proofs.YtcfllgdfhfcicaaGreatDoor
namespace Pa
open Go Go.Sx
abbrev qnt:List UInt8:=[99,104,97,110]
abbrev kOf:List UInt8:=[111,102]
abbrev qhw:List UInt8:=[108,111,115,115,121]
abbrev qjb:List UInt8:=[99,111,112,121,105,110,103]
abbrev kVar:List UInt8:=[118,97,114]
abbrev qy:List UInt8:=[112,114,111,99]
abbrev qnu:List UInt8:=[115,97,102,101]
abbrev qma:List UInt8:=[100,101,97,100,108,111,99,107]
abbrev qnv:List UInt8:=[115,101,110,100]
abbrev qdu:List UInt8:=[114,101,99,118]
abbrev qeg:List UInt8:=[105,100,108,101]
abbrev qfe:List UInt8:=[119,104,101,110]
abbrev jd:List UInt8:=[99,104,111,111,115,101]
abbrev kOr:List UInt8:=[111,114]
abbrev kIf:List UInt8:=[105,102]
abbrev qnw:List UInt8:=[101,108,115,101]
abbrev qnx:List UInt8:=[119,104,105,108,101]
abbrev qny:List UInt8:=[97,116,111,109,105,99]
abbrev qnz:List UInt8:=[115,107,105,112]
abbrev qoa:List UInt8:=[115,116,111,112]
abbrev kLen:List UInt8:=[108,101,110]
abbrev sLb:List UInt8:=[91]
abbrev sRb:List UInt8:=[93]
abbrev sLc:List UInt8:=[123]
abbrev sRc:List UInt8:=[125]
abbrev sLp:List UInt8:=[40]
abbrev sRp:List UInt8:=[41]
abbrev qq:List UInt8:=[59]
abbrev sEq:List UInt8:=[61]
abbrev sLt:List UInt8:=[60]
abbrev jca:List UInt8:=[43]
abbrev qff:List UInt8:=[45]
abbrev qfv:List UInt8:=[42]
abbrev jcb:List UInt8:=[47]
abbrev sPct:List UInt8:=[37]
abbrev qrk:List UInt8:=[33]
abbrev sOr2:List UInt8:=[124,124]
abbrev qob:List UInt8:=[38,38]
abbrev sEq2:List UInt8:=[61,61]
inductive Tr where
 | mk (kind:Int) (words:List (List UInt8)) (nums:List Int) (at_:Int) (l:List Tr)
def Tr.kind:Tr→Int | .mk k _ _ _ _=>k
def Tr.words:Tr→List (List UInt8) | .mk _ w _ _ _=>w
def Tr.nums:Tr→List Int | .mk _ _ n _ _=>n
def Tr.at_:Tr→Int | .mk _ _ _ a _=>a
def Tr.l:Tr→List Tr | .mk _ _ _ _ l=>l
def Tr.none:Tr:=.mk 0 [] [] 0 []
structure Ps where
 at_:Int
 deep:Int:=0
 err:Int:=0
 fat:Int:=0
section
variable (ts:List Lx.Tok)
def tk (p:Ps):Lx.Tok:=ts.getD p.at_.toNat Lx.tok0
def Ps.cells (p:Ps):List AV:=[Lx.toks ts,iv p.at_,iv p.deep,iv p.err,iv p.fat]
def qvk (t:Lx.Tok) (s:List UInt8):Bool:=t.s == s && (t.kind == 2 || t.kind == 0 && Go.St.keyF s)
def sees (p:Ps) (s:List UInt8):Bool:=p.err == 0 && qvk (tk ts p) s
def adv (p:Ps):Ps:={ p with at_:=p.at_+1 }
def bad (p:Ps) (e:Int):Ps:=if p.err=0 then { p with err:=e,fat:=(tk ts p).pos } else p
def took (p:Ps) (s:List UInt8):Ps:=if sees ts p s=true then adv p else p
def must (p:Ps) (s:List UInt8):Ps:=if sees ts p s=true then adv p else bad ts p 11
def qhx (p:Ps):Bool:=(tk ts p).kind == 0 && Go.St.nameF (tk ts p).s && p.err == 0
def qad (p:Ps):List UInt8:=if qhx ts p=true then (tk ts p).s else []
def qf (p:Ps):Ps:=if qhx ts p=true then adv p else bad ts p 11
def qgx (p:Ps):Bool:=(tk ts p).kind == 1 && p.err == 0
def qgy (s:List UInt8):Int:=s.foldl (fun n b=>10 * n+((b.toNat:Int) - 48)) 0
def numN (p:Ps):Int:=if qgx ts p=true then qgy (tk ts p).s else 0
def numP (p:Ps):Ps:=if qgx ts p=true then adv p else bad ts p 11
def qgz (p:Ps) (s:List UInt8):Int:=if sees ts p s=true then 1 else 0
def inP (p:Ps):Ps:=if 200<p.deep+1 then bad ts { p with deep:=p.deep+1 } 12 else { p with deep:=p.deep+1 }
def outP (p:Ps):Ps:={ p with deep:=p.deep - 1 }
def binT (sg:Int) (a b:Tr):Tr:=.mk 22 [] [sg] a.at_ [a,b]
def qav (f:Ps→Tr × Ps) (c:Ps→Bool) (sg:Ps→Int):Nat→Tr→Ps→Tr × Ps
 | 0,a,p=>(a,p)
 | n+1,a,p=>if c p=true then qav f c sg n (binT (sg p) a (f (adv p)).1) (f (adv p)).2 else (a,p)
def qmb (f:Ps→Tr × Ps) (s:List UInt8) (sg:Int) (p:Ps):Tr × Ps:=
 if sees ts (f p).2 s=true then (binT sg (f p).1 (f (adv (f p).2)).1,(f (adv (f p).2)).2) else f p
def qeh (p:Ps):Bool:=sees ts p qfv || (sees ts p jcb || sees ts p sPct)
def qjc (p:Ps):Int:=if sees ts p qfv=true then 6 else if sees ts p jcb=true then 7 else 8
def sumC (p:Ps):Bool:=sees ts p jca || sees ts p qff
def sumS (p:Ps):Int:=if sees ts p jca=true then 4 else 5
def qcn (part:Ps→Tr × Ps) (p:Ps):Tr × Ps:=qav part (qeh ts) (qjc ts) ts.length (part p).1 (part p).2
def sumF (part:Ps→Tr × Ps) (p:Ps):Tr × Ps:=qav (qcn ts part) (sumC ts) (sumS ts) ts.length (qcn ts part p).1 (qcn ts part p).2
def qch (part:Ps→Tr × Ps) (p:Ps):Tr × Ps:=qmb ts (sumF ts part) sLt 3 p
def qdv (part:Ps→Tr × Ps) (p:Ps):Tr × Ps:=qmb ts (qch ts part) sEq2 2 p
def andF (part:Ps→Tr × Ps) (p:Ps):Tr × Ps:=qav (qdv ts part) (fun p=>sees ts p qob) (fun _=>1) ts.length (qdv ts part p).1 (qdv ts part p).2
def qei (part:Ps→Tr × Ps) (p:Ps):Tr × Ps:=qav (andF ts part) (fun p=>sees ts p sOr2) (fun _=>0) ts.length (andF ts part p).1 (andF ts part p).2
def ifOk (f:Ps→Tr × Ps) (p:Ps):List Tr × Ps:=if p.err=0 then ([(f p).1],(f p).2) else ([],p)
def qao:Nat→Ps→Tr × Ps
 | 0,p=>(.none,p)
 | n+1,p=>
  let a:=(tk ts p).pos
  if p.err=0∧(tk ts p).kind=1 then (.mk 17 [] [numN ts p] a [],numP ts p)
  else if sees ts p kLen=true then (.mk 19 [qad ts (adv p)] [] a [],qf ts (adv p))
  else if sees ts p qff=true∨sees ts p qrk=true then
   (.mk (if sees ts p qff=true then 20 else 21) [] [] a (ifOk (qao n) (inP ts (adv p))).1,outP (ifOk (qao n) (inP ts (adv p))).2)
  else if sees ts p sLp=true then
   ((if (inP ts (adv p)).err=0 then (qei ts (qao n) (inP ts (adv p))).1 else .mk 17 [] [] a []),
    must ts (outP (if (inP ts (adv p)).err=0 then (qei ts (qao n) (inP ts (adv p))).2 else inP ts (adv p))) sRp)
  else (.mk 18 [qad ts p] [] a [],qf ts p)
def eF (p:Ps):Tr × Ps:=qei ts (qao ts ts.length) p
def jk (stat:Ps→Tr × Ps):Nat→List Tr→Ps→List Tr × Ps
 | 0,l,p=>(l,p)
 | n+1,l,p=>if p.err=0 then (if sees ts p sRc=true then (l,adv p) else jk stat n (l++[(stat p).1]) (stat p).2) else (l,p)
def qr (stat:Ps→Tr × Ps) (p:Ps):Tr × Ps:=
 (.mk 16 [] [] (tk ts p).pos (jk ts stat ts.length [] (inP ts (must ts p sLc))).1,outP (jk ts stat ts.length [] (inP ts (must ts p sLc))).2)
def orL (blk:Ps→Tr × Ps):Nat→List Tr→Ps→List Tr × Ps
 | 0,l,p=>(l,p)
 | n+1,l,p=>if sees ts p kOr=true then orL blk n (l++[(blk (adv p)).1]) (blk (adv p)).2 else (l,p)
def qdw (blk:Ps→Tr × Ps) (a idle:Int) (p:Ps):Tr × Ps:=
 if sees ts p qdu=true then
  (.mk 8 [qad ts (adv p),qad ts (qf ts (adv p))] [idle] a [],must ts (qf ts (qf ts (adv p))) qq)
 else if sees ts p qfe=true then (.mk 9 [] [idle] a [(eF ts (adv p)).1],must ts (eF ts (adv p)).2 qq)
 else
  let q:=must ts p jd
  let r:=orL ts blk ts.length [(blk q).1] (blk q).2
  (.mk 10 [] [idle] a r.1,r.2)
def qc:Nat→Ps→Tr × Ps
 | 0,p=>(.none,p)
 | n+1,p=>
  let a:=(tk ts p).pos
  let blk:=qr ts (qc n)
  if sees ts p qeg=true∨sees ts p qdu=true∨sees ts p qfe=true∨sees ts p jd=true then qdw ts blk a (qgz ts p qeg) (took ts p qeg)
  else if sees ts p qnv=true then
   (.mk 7 [qad ts (adv p)] [] a [(eF ts (qf ts (adv p))).1],must ts (eF ts (qf ts (adv p))).2 qq)
  else if sees ts p kIf=true then
   let e:=eF ts (adv p)
   let b:=blk e.2
   if sees ts b.2 qnw=true then (.mk 11 [] [] a [e.1,b.1,(blk (adv b.2)).1],(blk (adv b.2)).2) else (.mk 11 [] [] a [e.1,b.1],b.2)
  else if sees ts p qnx=true then
   let e:=eF ts (adv p)
   (.mk 12 [] [] a [e.1,(blk e.2).1],(blk e.2).2)
  else if sees ts p qny=true then (.mk 13 [] [] a [(blk (adv p)).1],(blk (adv p)).2)
  else if sees ts p qnz=true then (.mk 14 [] [] a [],must ts (adv p) qq)
  else if sees ts p qoa=true then (.mk 15 [] [] a [],must ts (adv p) qq)
  else
   let q:=must ts (qf ts p) sEq
   (.mk 6 [qad ts p] [] a [(eF ts q).1],must ts (eF ts q).2 qq)
def sF (p:Ps):Tr × Ps:=qc ts ts.length p
def ju (p:Ps):Tr × Ps:=
 let w:=qf ts (must ts p kVar)
 let q:=must ts w kOf
 let r:=numP ts q
 let v:=if sees ts r sEq=true then (if sees ts (adv r) qff=true then (0 - numN ts (adv (adv r)),numP ts (adv (adv r))) else (numN ts (adv r),numP ts (adv r))) else (0,r)
 (.mk 2 [qad ts (must ts p kVar)] [numN ts q,v.1] (tk ts p).pos [],must ts v.2 qq)
def qbw:Nat→List Tr→Ps→List Tr × Ps
 | 0,l,p=>(l,p)
 | n+1,l,p=>if sees ts p kVar=true then qbw n (l++[(ju ts p).1]) (ju ts p).2 else (l,p)
def qdx (p:Ps):Tr × Ps:=
 let q:=qf ts (must ts p qy)
 let c:=if sees ts q qfv=true then (numN ts (adv q),numP ts (adv q)) else (1,q)
 let r:=must ts c.2 sLc
 let v:=qbw ts ts.length [] r
 let s:=jk ts (sF ts) ts.length v.1 (inP ts v.2)
 (.mk 3 [qad ts (must ts p qy)] [c.1] (tk ts p).pos s.1,outP s.2)
def itemF (p:Ps):Tr × Ps:=
 let a:=(tk ts p).pos
 if sees ts p kVar=true then ju ts p
 else if sees ts p qy=true then qdx ts p
 else if sees ts p qnt=true then
  let q:=must ts (qf ts (adv p)) sLb
  let r:=must ts (must ts (numP ts q) sRb) kOf
  let u:=took ts (numP ts r) qhw
  (.mk 1 [qad ts (adv p)] [numN ts q,numN ts r,qgz ts (numP ts r) qhw,qgz ts u qjb] a [],must ts (took ts u qjb) qq)
 else if sees ts p qnu=true then (.mk 4 [] [] a [(eF ts (adv p)).1],must ts (eF ts (adv p)).2 qq)
 else (.mk 5 [] [] a [],must ts (must ts p qma) qq)
def qdy:Nat→List Tr→Ps→List Tr × Ps
 | 0,l,p=>(l,p)
 | n+1,l,p=>if p.err=0∧(tk ts p).kind≠3 then qdy n (l++[(itemF ts p).1]) (itemF ts p).2 else (l,p)
def qcz (p:Ps):Tr × Ps:=
 (.mk 0 [] [] (tk ts p).pos (qdy ts ts.length [] p).1,(qdy ts ts.length [] p).2)
end
mutual
def Tr.cellsA:Tr→List AV
 | .mk k w n a l=>[iv k,strs w,ints n,.nils,iv a,.slc 6 l.length fun i=>(Tr.cellsL l).getD i []]
def Tr.cellsL:List Tr→List (List AV)
 | []=>[]
 | t::r=>t.cellsA::Tr.cellsL r
end
def qmc (l:List Tr):AV:=.slc 6 l.length fun i=>(Tr.cellsL l).getD i []
def Tr.cells (t:Tr):List AV:=[iv t.kind,strs t.words,ints t.nums,.nils,iv t.at_,qmc t.l]
def Tr.av (t:Tr):AV:=.agg t.cells
theorem Tr.cellsA_eq (t:Tr):t.cellsA=t.cells:=by cases t;rfl
theorem Tr.cellsL_get:∀ (l:List Tr) (i:Nat),i<l.length→(Tr.cellsL l).getD i []=(l.getD i Tr.none).cells
 | [],i,h=>absurd h (zh i)
 | t::r,0,_=>by rw [Tr.cellsL];exact t.cellsA_eq
 | t::r,i+1,h=>by
  have:=Tr.cellsL_get r i (by simpa using h)
  rw [Tr.cellsL]
  simpa using this
mutual
def Tr.size:Tr→Nat
 | .mk _ _ _ _ l=>1+Tr.sizeL l
def Tr.sizeL:List Tr→Nat
 | []=>0
 | t::r=>t.size+Tr.sizeL r
end
def jn:Nat→List Tr→List Int
 | _,[]=>[]
 | n,t::r=>(n:Int)::jn (n+t.size) r
mutual
def layT:Nat→Tr→List Nd
 | n,.mk k w ns a l=>⟨k,w,ns,jn (n+1) l,a⟩::layL (n+1) l
def layL:Nat→List Tr→List Nd
 | _,[]=>[]
 | n,t::r=>layT n t++layL (n+t.size) r
end
mutual
def deepT:Tr→Int→Int
 | .mk _ _ _ a l,n=>if 20<n then a else deepL l n
def deepL:List Tr→Int→Int
 | [],_=>-1
 | t::r,n=>if 0≤deepT t (n+1) then deepT t (n+1) else deepL r n
end
def qoc (ts:List Lx.Tok):List Nd × (Int × Int):=
 let r:=qcz ts ⟨0,0,0,0⟩
 if r.2.err≠0 then ([],(r.2.err,r.2.fat))
 else if 800<(layT 0 r.1).length then ([],(12,0))
 else if 0≤deepT r.1 1 then ([],(12,deepT r.1 1))
 else (layT 0 r.1,(0,0))
def qod (s:List UInt8):List Nd × (Int × Int):=if (Lx.lexAll s).2.1≠0 then ([],(Lx.lexAll s).2) else qoc (Lx.lexAll s).1
def jpv (r:List Nd × (Int × Int)):AV:=.tup [js r.1,flt r.2.1 r.2.2]
end Pa
end Go.Proofs.YtcfllgdfhfcicaaGreatDoor
end
section
namespace Go.Proofs.YtcfllgdfhfcicaaGreatDoor
namespace Pa
open Go Go.Sx
structure ToksOk (ts:List Lx.Tok):Prop where
 len:ts.length≤5000
 last:∀ i,i<ts.length→((ts.getD i Lx.tok0).kind=3↔i+1=ts.length)
 num:∀ t∈ts,t.kind=1→t.s.length≤6∧∀ b∈t.s,48≤b.toNat∧b.toNat≤57
structure AtOk (ts:List Lx.Tok) (p:Ps):Prop where
 lo:0≤p.at_
 hi:p.at_<ts.length
structure Step (ts:List Lx.Tok) (p q:Ps):Prop where
 le:p.at_≤q.at_
 hi:q.at_<ts.length
 deep:q.deep=p.deep
 err:p.err≠0→q=p
theorem jcc (s:List UInt8) (b:UInt8):qgy (s++[b])=10 * qgy s+((b.toNat:Int) - 48):=by
 unfold qgy;rw [xu];rfl
theorem qvl {s:List UInt8} (h:∀ b∈s,48≤b.toNat∧b.toNat≤57):∀ i,i≤s.length→0≤qgy (s.take i)∧qgy (s.take i)<10 ^ i
 | 0,_=>by simp [qgy]
 | i+1,hi=>by
  have h1:=qvl h i (by omega)
  rw [List.take_succ_eq_append_getElem (by omega),jcc,Int.pow_succ]
  have h2:=h _ (zao (by omega:i<s.length))
  omega
section
variable {ts:List Lx.Tok} {p q r:Ps}
theorem jcd (h:AtOk ts p):tk ts p∈ts:=by
 have h0:=h.lo
 have h1:=h.hi
 unfold tk
 rw [List.getD_eq_getElem?_getD,ze (by omega)]
 exact zao _
theorem AtOk.refl (h:AtOk ts p):Step ts p p:=⟨xi _,h.hi,rfl,fun _=>rfl⟩
theorem Step.trans (h:Step ts p q) (k:Step ts q r):Step ts p r:=
 ⟨zbs h.le k.le,k.hi,k.deep.trans h.deep,fun e=>by have:=h.err e;subst this;exact k.err e⟩
theorem Step.ok (h:AtOk ts p) (k:Step ts p q):AtOk ts q:=⟨zbs h.lo k.le,k.hi⟩
theorem jpw {s:List UInt8} (h:sees ts p s=true):p.err=0:=by
 unfold sees at h
 simp only [zf,xz] at h
 exact h.1
theorem jpx {s:List UInt8} (h:sees ts p s=true):(tk ts p).kind=2∨(tk ts p).kind=0:=by
 unfold sees qvk at h
 simp only [zf,zad,xz] at h
 rcases h.2.2 with h|h
 ·exact .inl h
 ·exact .inr h.1
theorem jpy (h:qhx ts p=true):p.err=0:=by
 unfold qhx at h;simp only [zf,xz] at h;exact h.2
theorem jpz (h:qgx ts p=true):p.err=0:=by
 unfold qgx at h;simp only [zf,xz] at h;exact h.2
variable (ht:ToksOk ts)
include ht
theorem jqa (h:AtOk ts p) (hk:(tk ts p).kind≠3):p.at_+1<ts.length:=by
 have h0:=h.lo
 have h1:=h.hi
 have h2:=ht.last p.at_.toNat (by omega)
 have h3:¬ (p.at_.toNat+1=ts.length):=fun e=>hk (h2.2 e)
 omega
theorem qvm (h:AtOk ts p) (hk:(tk ts p).kind≠3) (he:p.err=0):Step ts p (adv p):=
 ⟨by show p.at_≤p.at_+1;omega,jqa ht h hk,rfl,fun e=>absurd he e⟩
theorem qh (h:AtOk ts p) {s:List UInt8} (hs:sees ts p s=true):Step ts p (adv p):=
 qvm ht h (by have:=jpx hs;omega) (jpw hs)
omit ht in
theorem qvn (h:AtOk ts p) (e:Int):Step ts p (bad ts p e):=by
 unfold bad
 split
 ·rename_i he
  exact ⟨xi _,h.hi,rfl,fun e=>absurd he e⟩
 ·exact h.refl
theorem qhy (h:AtOk ts p) (s:List UInt8):Step ts p (took ts p s):=by
 unfold took
 split
 ·exact qh ht h (by assumption)
 ·exact h.refl
theorem ql (h:AtOk ts p) (s:List UInt8):Step ts p (must ts p s):=by
 unfold must
 split
 ·exact qh ht h (by assumption)
 ·exact qvn h 11
theorem qar (h:AtOk ts p):Step ts p (qf ts p):=by
 unfold qf
 split
 ·rename_i hn
  refine qvm ht h ?_ (jpy hn)
  unfold qhx at hn
  simp only [zf,xz] at hn
  omega
 ·exact qvn h 11
theorem qbo (h:AtOk ts p):Step ts p (numP ts p):=by
 unfold numP
 split
 ·rename_i hn
  refine qvm ht h ?_ (jpz hn)
  unfold qgx at hn
  simp only [zf,xz] at hn
  omega
 ·exact qvn h 11
abbrev Runs (ts:List Lx.Tok) (f:Ps→Tr × Ps):Prop:=∀ p,AtOk ts p→Step ts p (f p).2
theorem qkm {f:Ps→Tr × Ps} (hf:Runs ts f) {c:Ps→Bool} {sg:Ps→Int} (hc:∀ p,c p=true→∃ s,sees ts p s=true):∀ (n:Nat) (a:Tr) (p:Ps),AtOk ts p→Step ts p (qav f c sg n a p).2
 | 0,a,p,h=>h.refl
 | n+1,a,p,h=>by
  rw [qav]
  split
  ·rename_i hcp
   obtain ⟨s,hs⟩:=hc p hcp
   have h1:=qh ht h hs
   have h2:=hf _ (h1.ok h)
   exact h1.trans (h2.trans (qkm hf hc n _ _ (h2.ok (h1.ok h))))
  ·exact h.refl
theorem jce {f:Ps→Tr × Ps} (hf:Runs ts f) (s:List UInt8) (sg:Int):Runs ts (qmb ts f s sg):=fun p h=>by
 have h1:=hf p h
 unfold qmb
 split
 ·rename_i hs
  have h2:=qh ht (h1.ok h) hs
  exact h1.trans (h2.trans (hf _ (h2.ok (h1.ok h))))
 ·exact h1
omit ht in
theorem jcf {p:Ps} (h:qeh ts p=true):∃ s,sees ts p s=true:=by
 unfold qeh at h
 simp only [zad] at h
 rcases h with h|h|h <;> exact ⟨_,h⟩
omit ht in
theorem jcg {p:Ps} (h:sumC ts p=true):∃ s,sees ts p s=true:=by
 unfold sumC at h
 simp only [zad] at h
 rcases h with h|h <;> exact ⟨_,h⟩
section
variable {part:Ps→Tr × Ps} (hp:Runs ts part)
include hp
theorem qoe:Runs ts (qcn ts part):=fun p h=>(hp p h).trans (qkm ht hp (fun _=>jcf) _ _ _ ((hp p h).ok h))
theorem qvo:Runs ts (sumF ts part):=fun p h=>(qoe ht hp p h).trans (qkm ht (qoe ht hp) (fun _=>jcg) _ _ _ ((qoe ht hp p h).ok h))
theorem qvp:Runs ts (qch ts part):=jce ht (qvo ht hp) _ _
theorem qof:Runs ts (qdv ts part):=jce ht (qvp ht hp) _ _
theorem qog:Runs ts (andF ts part):=fun p h=>(qof ht hp p h).trans (qkm ht (qof ht hp) (fun _ h=>⟨_,h⟩) _ _ _ ((qof ht hp p h).ok h))
theorem qrl:Runs ts (qei ts part):=fun p h=>(qog ht hp p h).trans (qkm ht (qog ht hp) (fun _ h=>⟨_,h⟩) _ _ _ ((qog ht hp p h).ok h))
end
omit ht in
theorem qda (h:AtOk ts p):AtOk ts (inP ts p)∧(inP ts p).at_=p.at_∧(inP ts p).deep=p.deep+1∧(p.err≠0→(inP ts p).err=p.err∧(inP ts p).fat=p.fat):=by
 unfold inP
 split
 ·unfold bad
  split
  ·rename_i he
   exact ⟨⟨h.lo,h.hi⟩,rfl,rfl,fun e=>absurd he e⟩
  ·exact ⟨⟨h.lo,h.hi⟩,rfl,rfl,fun _=>⟨rfl,rfl⟩⟩
 ·exact ⟨⟨h.lo,h.hi⟩,rfl,rfl,fun _=>⟨rfl,rfl⟩⟩
omit ht in
theorem qjd (h:AtOk ts p) (hs:Step ts (inP ts p) q):Step ts p (outP q):=by
 obtain ⟨h1,h2,h3,h4⟩:=qda h
 refine ⟨by have:=hs.le;show p.at_≤q.at_;omega,hs.hi,by have:=hs.deep;show q.deep - 1=p.deep;omega,fun e=>?_⟩
 have h5:=h4 e
 have h6:=hs.err (by rw [h5.1];exact e)
 subst h6
 show ({ (inP ts p) with deep:=(inP ts p).deep - 1 }:Ps)=p
 rw [h3]
 cases p
 simp only [Ps.mk.injEq]
 exact ⟨h2,by simp,h5.1,h5.2⟩
omit ht in
theorem jqb {f:Ps→Tr × Ps} (hf:Runs ts f) (h:AtOk ts p):Step ts p (ifOk f p).2:=by
 unfold ifOk
 split
 ·exact hf p h
 ·exact h.refl
theorem qfw:∀ n,Runs ts (qao ts n)
 | 0=>fun p h=>h.refl
 | n+1=>fun p h=>by
  unfold qao
  simp only
  split
  ·exact qbo ht h
  split
  ·rename_i hs
   have h1:=qh ht h hs
   exact h1.trans (qar ht (h1.ok h))
  split
  ·rename_i hs
   have h1:Step ts p (adv p):=by rcases hs with hs|hs <;> exact qh ht h hs
   exact h1.trans (qjd (h1.ok h) (jqb (qfw n) (qda (h1.ok h)).1))
  split
  ·rename_i hs
   have h1:=qh ht h hs
   have h2:=(qda (h1.ok h)).1
   have h3:Step ts (adv p) (outP (if (inP ts (adv p)).err=0 then (qei ts (qao ts n) (inP ts (adv p))).2 else inP ts (adv p))):=by
    refine qjd (h1.ok h) ?_
    split
    ·exact qrl ht (qfw n) _ h2
    ·exact h2.refl
   exact h1.trans (h3.trans (ql ht (h3.ok (h1.ok h)) _))
  ·exact qar ht h
theorem qbi:Runs ts (eF ts):=qrl ht (qfw ht _)
section
variable {stat:Ps→Tr × Ps} (hs:Runs ts stat)
include hs
theorem qha:∀ (n:Nat) (l:List Tr) (p:Ps),AtOk ts p→Step ts p (jk ts stat n l p).2
 | 0,l,p,h=>h.refl
 | n+1,l,p,h=>by
  rw [jk]
  split
  ·split
   ·exact qh ht h (by assumption)
   ·exact (hs p h).trans (qha n _ _ ((hs p h).ok h))
  ·exact h.refl
theorem qrm:Runs ts (qr ts stat):=fun p h=>by
 have h1:=ql ht h sLc
 exact h1.trans (qjd (h1.ok h) (qha ht hs _ _ _ (qda (h1.ok h)).1))
end
theorem qoh {blk:Ps→Tr × Ps} (hb:Runs ts blk):∀ (n:Nat) (l:List Tr) (p:Ps),AtOk ts p→Step ts p (orL ts blk n l p).2
 | 0,l,p,h=>h.refl
 | n+1,l,p,h=>by
  rw [orL]
  split
  ·have h1:=qh ht h (by assumption)
   have h2:=hb _ (h1.ok h)
   exact h1.trans (h2.trans (qoh hb n _ _ (h2.ok (h1.ok h))))
  ·exact h.refl
theorem jqc {blk:Ps→Tr × Ps} (hb:Runs ts blk) (a i:Int):Runs ts (qdw ts blk a i):=fun p h=>by
 unfold qdw
 split
 ·have h1:=qh ht h (by assumption)
  have h2:=qar ht (h1.ok h)
  have h3:=qar ht (h2.ok (h1.ok h))
  exact h1.trans (h2.trans (h3.trans (ql ht (h3.ok (h2.ok (h1.ok h))) _)))
 split
 ·have h1:=qh ht h (by assumption)
  have h2:=qbi ht _ (h1.ok h)
  exact h1.trans (h2.trans (ql ht (h2.ok (h1.ok h)) _))
 ·have h1:=ql ht h jd
  have h2:=hb _ (h1.ok h)
  exact h1.trans (h2.trans (qoh ht hb _ _ _ (h2.ok (h1.ok h))))
theorem qkn:∀ n,Runs ts (qc ts n)
 | 0=>fun p h=>h.refl
 | n+1=>fun p h=>by
  have hb:=qrm ht (qkn n)
  unfold qc
  simp only
  split
  ·have h1:=qhy ht h qeg
   exact h1.trans (jqc ht hb _ _ _ (h1.ok h))
  split
  ·have h1:=qh ht h (by assumption)
   have h2:=qar ht (h1.ok h)
   have h3:=qbi ht _ (h2.ok (h1.ok h))
   exact h1.trans (h2.trans (h3.trans (ql ht (h3.ok (h2.ok (h1.ok h))) _)))
  split
  ·have h1:=qh ht h (by assumption)
   have h2:=qbi ht _ (h1.ok h)
   have h3:=hb _ (h2.ok (h1.ok h))
   have h4:=h1.trans (h2.trans h3)
   split
   ·have h5:=qh ht (h4.ok h) (by assumption)
    exact h4.trans (h5.trans (hb _ (h5.ok (h4.ok h))))
   ·exact h4
  split
  ·have h1:=qh ht h (by assumption)
   have h2:=qbi ht _ (h1.ok h)
   exact h1.trans (h2.trans (hb _ (h2.ok (h1.ok h))))
  split
  ·have h1:=qh ht h (by assumption)
   exact h1.trans (hb _ (h1.ok h))
  split
  ·have h1:=qh ht h (by assumption)
   exact h1.trans (ql ht (h1.ok h) _)
  split
  ·have h1:=qh ht h (by assumption)
   exact h1.trans (ql ht (h1.ok h) _)
  ·have h1:=qar ht h
   have h2:=ql ht (h1.ok h) sEq
   have h3:=qbi ht _ (h2.ok (h1.ok h))
   exact h1.trans (h2.trans (h3.trans (ql ht (h3.ok (h2.ok (h1.ok h))) _)))
theorem qje:Runs ts (sF ts):=qkn ht _
theorem qmd:Runs ts (ju ts):=fun p h=>by
 unfold ju
 simp only
 have h1:=ql ht h kVar
 have h2:=qar ht (h1.ok h)
 have h3:=h1.trans h2
 have h4:=h3.trans (ql ht (h3.ok h) kOf)
 have h5:=h4.trans (qbo ht (h4.ok h))
 split
 ·have h6:=h5.trans (qh ht (h5.ok h) (by assumption))
  split
  ·have h7:=h6.trans (qh ht (h6.ok h) (by assumption))
   have h8:=h7.trans (qbo ht (h7.ok h))
   exact h8.trans (ql ht (h8.ok h) _)
  ·have h8:=h6.trans (qbo ht (h6.ok h))
   exact h8.trans (ql ht (h8.ok h) _)
 ·exact h5.trans (ql ht (h5.ok h) _)
theorem qoi:∀ (n:Nat) (l:List Tr) (p:Ps),AtOk ts p→Step ts p (qbw ts n l p).2
 | 0,l,p,h=>h.refl
 | n+1,l,p,h=>by
  rw [qbw]
  split
  ·have h2:=qmd ht _ h
   exact h2.trans (qoi n _ _ (h2.ok h))
  ·exact h.refl
theorem jqd:Runs ts (qdx ts):=fun p h=>by
 unfold qdx
 simp only
 have h1:=ql ht h qy
 have h3:=h1.trans (qar ht (h1.ok h))
 have h4:Step ts p (if sees ts (qf ts (must ts p qy)) qfv=true then (numN ts (adv (qf ts (must ts p qy))),numP ts (adv (qf ts (must ts p qy)))) else (1,qf ts (must ts p qy))).2:=by
  split
  ·have h5:=h3.trans (qh ht (h3.ok h) (by assumption))
   exact h5.trans (qbo ht (h5.ok h))
  ·exact h3
 have h5:=h4.trans (ql ht (h4.ok h) sLc)
 have h6:=h5.trans (qoi ht ts.length [] _ (h5.ok h))
 exact h6.trans (qjd (h6.ok h) (qha ht (qje ht) _ _ _ (qda (h6.ok h)).1))
theorem qvq:Runs ts (itemF ts):=fun p h=>by
 unfold itemF
 simp only
 split
 ·exact qmd ht _ h
 split
 ·exact jqd ht _ h
 split
 ·have h1:=qh ht h (by assumption)
  have h2:=h1.trans (qar ht (h1.ok h))
  have h3:=h2.trans (ql ht (h2.ok h) sLb)
  have h4:=h3.trans (qbo ht (h3.ok h))
  have h5:=h4.trans (ql ht (h4.ok h) sRb)
  have h6:=h5.trans (ql ht (h5.ok h) kOf)
  have h7:=h6.trans (qbo ht (h6.ok h))
  have h8:=h7.trans (qhy ht (h7.ok h) qhw)
  have h9:=h8.trans (qhy ht (h8.ok h) qjb)
  exact h9.trans (ql ht (h9.ok h) _)
 split
 ·have h1:=qh ht h (by assumption)
  have h2:=h1.trans (qbi ht _ (h1.ok h))
  exact h2.trans (ql ht (h2.ok h) _)
 ·have h1:=ql ht h qma
  exact h1.trans (ql ht (h1.ok h) _)
theorem qvr:∀ (n:Nat) (l:List Tr) (p:Ps),AtOk ts p→Step ts p (qdy ts n l p).2
 | 0,l,p,h=>h.refl
 | n+1,l,p,h=>by
  rw [qdy]
  split
  ·have h2:=qvq ht _ h
   exact h2.trans (qvr n _ _ (h2.ok h))
  ·exact h.refl
end
end Pa
end Go.Proofs.YtcfllgdfhfcicaaGreatDoor
end
