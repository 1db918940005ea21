/- Some texts of the library, one behind the other. -/
import Derived.Test.YthfaleaojlnnoaaY5LexPlain
import Derived.Test.YthfaleaojlnnoaaY53
import Derived.Test.YthfaleaojlnnoaaY52
set_option linter.unusedSimpArgs false
set_option linter.unusedVariables false
section
namespace Go.Proofs.Ythfaleaojlnnoaa
namespace Pa
open Go Go.Sx
abbrev qea:List UInt8:=[99,104,97,110]
abbrev kOf:List UInt8:=[111,102]
abbrev qeb:List UInt8:=[108,111,115,115,121]
abbrev qej:List UInt8:=[99,111,112,121,105,110,103]
abbrev kVar:List UInt8:=[118,97,114]
abbrev qh:List UInt8:=[112,114,111,99]
abbrev qfd:List UInt8:=[115,97,102,101]
abbrev qgc:List UInt8:=[100,101,97,100,108,111,99,107]
abbrev qbu:List UInt8:=[115,101,110,100]
abbrev jn:List UInt8:=[114,101,99,118]
abbrev jq:List UInt8:=[105,100,108,101]
abbrev jr:List UInt8:=[119,104,101,110]
abbrev qp:List UInt8:=[99,104,111,111,115,101]
abbrev kOr:List UInt8:=[111,114]
abbrev kIf:List UInt8:=[105,102]
abbrev qdw:List UInt8:=[101,108,115,101]
abbrev qbv:List UInt8:=[119,104,105,108,101]
abbrev qbw:List UInt8:=[97,116,111,109,105,99]
abbrev qbx:List UInt8:=[115,107,105,112]
abbrev qby:List UInt8:=[115,116,111,112]
abbrev kLen:List UInt8:=[108,101,110]
abbrev sLb:List UInt8:=[91]
abbrev sRb:List UInt8:=[93]
abbrev sLc:List UInt8:=[123]
abbrev sRc:List UInt8:=[125]
abbrev sLp:List UInt8:=[40]
abbrev sRp:List UInt8:=[41]
abbrev qj:List UInt8:=[59]
abbrev sEq:List UInt8:=[61]
abbrev sLt:List UInt8:=[60]
abbrev qok:List UInt8:=[43]
abbrev qaq:List UInt8:=[45]
abbrev qai:List UInt8:=[42]
abbrev qol:List UInt8:=[47]
abbrev sPct:List UInt8:=[37]
abbrev qha:List UInt8:=[33]
abbrev sOr2:List UInt8:=[124,124]
abbrev qhr:List UInt8:=[38,38]
abbrev sEq2:List UInt8:=[61,61]
inductive Tr where
 | mk (kind:Int) (words:List (List UInt8)) (nums:List Int) (at_:Int) (l:List Tr)
def Tr.kind:Tr→Int | .mk k _ _ _ _=>k
def Tr.words:Tr→List (List UInt8) | .mk _ w _ _ _=>w
def Tr.nums:Tr→List Int | .mk _ _ n _ _=>n
def Tr.at_:Tr→Int | .mk _ _ _ a _=>a
def Tr.l:Tr→List Tr | .mk _ _ _ _ l=>l
def Tr.none:Tr:=.mk 0 [] [] 0 []
structure Ps where
 at_:Int
 deep:Int:=0
 err:Int:=0
 fat:Int:=0
section
variable (ts:List Lx.Tok)
def tk (p:Ps):Lx.Tok:=ts.getD p.at_.toNat Lx.tok0
def Ps.cells (p:Ps):List AV:=[Lx.toks ts,iv p.at_,iv p.deep,iv p.err,iv p.fat]
def qom (t:Lx.Tok) (s:List UInt8):Bool:=t.s == s && (t.kind == 2 || t.kind == 0 && Go.St.keyF s)
def sees (p:Ps) (s:List UInt8):Bool:=p.err == 0 && qom (tk ts p) s
def adv (p:Ps):Ps:={ p with at_:=p.at_+1 }
def bad (p:Ps) (e:Int):Ps:=if p.err=0 then { p with err:=e,fat:=(tk ts p).pos } else p
def took (p:Ps) (s:List UInt8):Ps:=if sees ts p s=true then adv p else p
def must (p:Ps) (s:List UInt8):Ps:=if sees ts p s=true then adv p else bad ts p 11
def qco (p:Ps):Bool:=(tk ts p).kind == 0 && Go.St.nameF (tk ts p).s && p.err == 0
def qz (p:Ps):List UInt8:=if qco ts p=true then (tk ts p).s else []
def qc (p:Ps):Ps:=if qco ts p=true then adv p else bad ts p 11
def qcg (p:Ps):Bool:=(tk ts p).kind == 1 && p.err == 0
def qdp (s:List UInt8):Int:=s.foldl (fun n b=>10 * n+((b.toNat:Int) - 48)) 0
def numN (p:Ps):Int:=if qcg ts p=true then qdp (tk ts p).s else 0
def numP (p:Ps):Ps:=if qcg ts p=true then adv p else bad ts p 11
def ju (p:Ps) (s:List UInt8):Int:=if sees ts p s=true then 1 else 0
def inP (p:Ps):Ps:=if 200<p.deep+1 then bad ts { p with deep:=p.deep+1 } 12 else { p with deep:=p.deep+1 }
def outP (p:Ps):Ps:={ p with deep:=p.deep - 1 }
def binT (sg:Int) (a b:Tr):Tr:=.mk 22 [] [sg] a.at_ [a,b]
def js (f:Ps→Tr × Ps) (c:Ps→Bool) (sg:Ps→Int):Nat→Tr→Ps→Tr × Ps
 | 0,a,p=>(a,p)
 | n+1,a,p=>if c p=true then js f c sg n (binT (sg p) a (f (adv p)).1) (f (adv p)).2 else (a,p)
def qek (f:Ps→Tr × Ps) (s:List UInt8) (sg:Int) (p:Ps):Tr × Ps:=
 if sees ts (f p).2 s=true then (binT sg (f p).1 (f (adv (f p).2)).1,(f (adv (f p).2)).2) else f p
def qdq (p:Ps):Bool:=sees ts p qai || (sees ts p qol || sees ts p sPct)
def qeu (p:Ps):Int:=if sees ts p qai=true then 6 else if sees ts p qol=true then 7 else 8
def sumC (p:Ps):Bool:=sees ts p qok || sees ts p qaq
def sumS (p:Ps):Int:=if sees ts p qok=true then 4 else 5
def qbm (part:Ps→Tr × Ps) (p:Ps):Tr × Ps:=js part (qdq ts) (qeu ts) ts.length (part p).1 (part p).2
def sumF (part:Ps→Tr × Ps) (p:Ps):Tr × Ps:=js (qbm ts part) (sumC ts) (sumS ts) ts.length (qbm ts part p).1 (qbm ts part p).2
def qch (part:Ps→Tr × Ps) (p:Ps):Tr × Ps:=qek ts (sumF ts part) sLt 3 p
def qcp (part:Ps→Tr × Ps) (p:Ps):Tr × Ps:=qek ts (qch ts part) sEq2 2 p
def andF (part:Ps→Tr × Ps) (p:Ps):Tr × Ps:=js (qcp ts part) (fun p=>sees ts p qhr) (fun _=>1) ts.length (qcp ts part p).1 (qcp ts part p).2
def qal (part:Ps→Tr × Ps) (p:Ps):Tr × Ps:=js (andF ts part) (fun p=>sees ts p sOr2) (fun _=>0) ts.length (andF ts part p).1 (andF ts part p).2
def ifOk (f:Ps→Tr × Ps) (p:Ps):List Tr × Ps:=if p.err=0 then ([(f p).1],(f p).2) else ([],p)
def qr:Nat→Ps→Tr × Ps
 | 0,p=>(.none,p)
 | n+1,p=>
  let a:=(tk ts p).pos
  if p.err=0∧(tk ts p).kind=1 then (.mk 17 [] [numN ts p] a [],numP ts p)
  else if sees ts p kLen=true then (.mk 19 [qz ts (adv p)] [] a [],qc ts (adv p))
  else if sees ts p qaq=true∨sees ts p qha=true then
   (.mk (if sees ts p qaq=true then 20 else 21) [] [] a (ifOk (qr n) (inP ts (adv p))).1,outP (ifOk (qr n) (inP ts (adv p))).2)
  else if sees ts p sLp=true then
   ((if (inP ts (adv p)).err=0 then (qal ts (qr n) (inP ts (adv p))).1 else .mk 17 [] [] a []),
    must ts (outP (if (inP ts (adv p)).err=0 then (qal ts (qr n) (inP ts (adv p))).2 else inP ts (adv p))) sRp)
  else (.mk 18 [qz ts p] [] a [],qc ts p)
def eF (p:Ps):Tr × Ps:=qal ts (qr ts ts.length) p
def ql (stat:Ps→Tr × Ps):Nat→List Tr→Ps→List Tr × Ps
 | 0,l,p=>(l,p)
 | n+1,l,p=>if p.err=0 then (if sees ts p sRc=true then (l,adv p) else ql stat n (l++[(stat p).1]) (stat p).2) else (l,p)
def qi (stat:Ps→Tr × Ps) (p:Ps):Tr × Ps:=
 (.mk 16 [] [] (tk ts p).pos (ql ts stat ts.length [] (inP ts (must ts p sLc))).1,outP (ql ts stat ts.length [] (inP ts (must ts p sLc))).2)
def orL (blk:Ps→Tr × Ps):Nat→List Tr→Ps→List Tr × Ps
 | 0,l,p=>(l,p)
 | n+1,l,p=>if sees ts p kOr=true then orL blk n (l++[(blk (adv p)).1]) (blk (adv p)).2 else (l,p)
def qam (blk:Ps→Tr × Ps) (a idle:Int) (p:Ps):Tr × Ps:=
 if sees ts p jn=true then
  (.mk 8 [qz ts (adv p),qz ts (qc ts (adv p))] [idle] a [],must ts (qc ts (qc ts (adv p))) qj)
 else if sees ts p jr=true then (.mk 9 [] [idle] a [(eF ts (adv p)).1],must ts (eF ts (adv p)).2 qj)
 else
  let q:=must ts p qp
  let r:=orL ts blk ts.length [(blk q).1] (blk q).2
  (.mk 10 [] [idle] a r.1,r.2)
def qd:Nat→Ps→Tr × Ps
 | 0,p=>(.none,p)
 | n+1,p=>
  let a:=(tk ts p).pos
  let blk:=qi ts (qd n)
  if sees ts p jq=true∨sees ts p jn=true∨sees ts p jr=true∨sees ts p qp=true then qam ts blk a (ju ts p jq) (took ts p jq)
  else if sees ts p qbu=true then
   (.mk 7 [qz ts (adv p)] [] a [(eF ts (qc ts (adv p))).1],must ts (eF ts (qc ts (adv p))).2 qj)
  else if sees ts p kIf=true then
   let e:=eF ts (adv p)
   let b:=blk e.2
   if sees ts b.2 qdw=true then (.mk 11 [] [] a [e.1,b.1,(blk (adv b.2)).1],(blk (adv b.2)).2) else (.mk 11 [] [] a [e.1,b.1],b.2)
  else if sees ts p qbv=true then
   let e:=eF ts (adv p)
   (.mk 12 [] [] a [e.1,(blk e.2).1],(blk e.2).2)
  else if sees ts p qbw=true then (.mk 13 [] [] a [(blk (adv p)).1],(blk (adv p)).2)
  else if sees ts p qbx=true then (.mk 14 [] [] a [],must ts (adv p) qj)
  else if sees ts p qby=true then (.mk 15 [] [] a [],must ts (adv p) qj)
  else
   let q:=must ts (qc ts p) sEq
   (.mk 6 [qz ts p] [] a [(eF ts q).1],must ts (eF ts q).2 qj)
def sF (p:Ps):Tr × Ps:=qd ts ts.length p
def jh (p:Ps):Tr × Ps:=
 let w:=qc ts (must ts p kVar)
 let q:=must ts w kOf
 let r:=numP ts q
 let v:=if sees ts r sEq=true then (if sees ts (adv r) qaq=true then (0 - numN ts (adv (adv r)),numP ts (adv (adv r))) else (numN ts (adv r),numP ts (adv r))) else (0,r)
 (.mk 2 [qz ts (must ts p kVar)] [numN ts q,v.1] (tk ts p).pos [],must ts v.2 qj)
def jg:Nat→List Tr→Ps→List Tr × Ps
 | 0,l,p=>(l,p)
 | n+1,l,p=>if sees ts p kVar=true then jg n (l++[(jh ts p).1]) (jh ts p).2 else (l,p)
def qar (p:Ps):Tr × Ps:=
 let q:=qc ts (must ts p qh)
 let c:=if sees ts q qai=true then (numN ts (adv q),numP ts (adv q)) else (1,q)
 let r:=must ts c.2 sLc
 let v:=jg ts ts.length [] r
 let s:=ql ts (sF ts) ts.length v.1 (inP ts v.2)
 (.mk 3 [qz ts (must ts p qh)] [c.1] (tk ts p).pos s.1,outP s.2)
def jm (p:Ps):Tr × Ps:=
 let a:=(tk ts p).pos
 if sees ts p kVar=true then jh ts p
 else if sees ts p qh=true then qar ts p
 else if sees ts p qea=true then
  let q:=must ts (qc ts (adv p)) sLb
  let r:=must ts (must ts (numP ts q) sRb) kOf
  let u:=took ts (numP ts r) qeb
  (.mk 1 [qz ts (adv p)] [numN ts q,numN ts r,ju ts (numP ts r) qeb,ju ts u qej] a [],must ts (took ts u qej) qj)
 else if sees ts p qfd=true then (.mk 4 [] [] a [(eF ts (adv p)).1],must ts (eF ts (adv p)).2 qj)
 else (.mk 5 [] [] a [],must ts (must ts p qgc) qj)
def jd:Nat→List Tr→Ps→List Tr × Ps
 | 0,l,p=>(l,p)
 | n+1,l,p=>if p.err=0∧(tk ts p).kind≠3 then jd n (l++[(jm ts p).1]) (jm ts p).2 else (l,p)
def ji (p:Ps):Tr × Ps:=
 (.mk 0 [] [] (tk ts p).pos (jd ts ts.length [] p).1,(jd ts ts.length [] p).2)
end
mutual
def Tr.cellsA:Tr→List AV
 | .mk k w n a l=>[iv k,strs w,ints n,.nils,iv a,.slc 6 l.length fun i=>(Tr.cellsL l).getD i []]
def Tr.cellsL:List Tr→List (List AV)
 | []=>[]
 | t::r=>t.cellsA::Tr.cellsL r
end
def qma (l:List Tr):AV:=.slc 6 l.length fun i=>(Tr.cellsL l).getD i []
def Tr.cells (t:Tr):List AV:=[iv t.kind,strs t.words,ints t.nums,.nils,iv t.at_,qma t.l]
def Tr.av (t:Tr):AV:=.agg t.cells
theorem Tr.cellsA_eq (t:Tr):t.cellsA=t.cells:=by cases t;rfl
theorem Tr.cellsL_get:∀ (l:List Tr) (i:Nat),i<l.length→(Tr.cellsL l).getD i []=(l.getD i Tr.none).cells
 | [],i,h=>absurd h (xf i)
 | t::r,0,_=>by rw [Tr.cellsL];exact t.cellsA_eq
 | t::r,i+1,h=>by
  have:=Tr.cellsL_get r i (by simpa using h)
  rw [Tr.cellsL]
  simpa using this
mutual
def Tr.size:Tr→Nat
 | .mk _ _ _ _ l=>1+Tr.sizeL l
def Tr.sizeL:List Tr→Nat
 | []=>0
 | t::r=>t.size+Tr.sizeL r
end
def qn:Nat→List Tr→List Int
 | _,[]=>[]
 | n,t::r=>(n:Int)::qn (n+t.size) r
mutual
def layT:Nat→Tr→List Nd
 | n,.mk k w ns a l=>⟨k,w,ns,qn (n+1) l,a⟩::layL (n+1) l
def layL:Nat→List Tr→List Nd
 | _,[]=>[]
 | n,t::r=>layT n t++layL (n+t.size) r
end
mutual
def deepT:Tr→Int→Int
 | .mk _ _ _ a l,n=>if 20<n then a else deepL l n
def deepL:List Tr→Int→Int
 | [],_=>-1
 | t::r,n=>if 0≤deepT t (n+1) then deepT t (n+1) else deepL r n
end
def qbi (ts:List Lx.Tok):List Nd × (Int × Int):=
 let r:=ji ts ⟨0,0,0,0⟩
 if r.2.err≠0 then ([],(r.2.err,r.2.fat))
 else if 800<(layT 0 r.1).length then ([],(12,0))
 else if 0≤deepT r.1 1 then ([],(12,deepT r.1 1))
 else (layT 0 r.1,(0,0))
def jk (s:List UInt8):List Nd × (Int × Int):=if (Lx.lexAll s).2.1≠0 then ([],(Lx.lexAll s).2) else qbi (Lx.lexAll s).1
def qon (r:List Nd × (Int × Int)):AV:=.tup [qkc r.1,flt r.2.1 r.2.2]
end Pa
end Go.Proofs.Ythfaleaojlnnoaa
end
section
namespace Go.Proofs.Ythfaleaojlnnoaa
namespace Pa
open Go Go.Sx
structure ToksOk (ts:List Lx.Tok):Prop where
 len:ts.length≤5000
 last:∀ i,i<ts.length→((ts.getD i Lx.tok0).kind=3↔i+1=ts.length)
 num:∀ t∈ts,t.kind=1→t.s.length≤6∧∀ b∈t.s,48≤b.toNat∧b.toNat≤57
structure AtOk (ts:List Lx.Tok) (p:Ps):Prop where
 lo:0≤p.at_
 hi:p.at_<ts.length
structure Step (ts:List Lx.Tok) (p q:Ps):Prop where
 le:p.at_≤q.at_
 hi:q.at_<ts.length
 deep:q.deep=p.deep
 err:p.err≠0→q=p
 fat:q.fat=p.fat∨∃ t∈ts,q.fat=t.pos
theorem qvl (s:List UInt8) (b:UInt8):qdp (s++[b])=10 * qdp s+((b.toNat:Int) - 48):=by
 unfold qdp;rw [List.foldl_append];rfl
theorem qmb {s:List UInt8} (h:∀ b∈s,48≤b.toNat∧b.toNat≤57):∀ i,i≤s.length→0≤qdp (s.take i)∧qdp (s.take i)<10 ^ i
 | 0,_=>by simp [qdp]
 | i+1,hi=>by
  have h1:=qmb h i (by omega)
  rw [zag (by omega),qvl,Int.pow_succ]
  have h2:=h _ (xj (by omega:i<s.length))
  omega
section
variable {ts:List Lx.Tok} {p q r:Ps}
theorem qhs (h:AtOk ts p):tk ts p∈ts:=by
 have h0:=h.lo
 have h1:=h.hi
 unfold tk
 rw [List.getD_eq_getElem?_getD,zg (by omega)]
 exact xj _
theorem AtOk.refl (h:AtOk ts p):Step ts p p:=⟨zp _,h.hi,rfl,fun _=>rfl,.inl rfl⟩
theorem Step.trans (h:Step ts p q) (k:Step ts q r):Step ts p r:=
 ⟨Int.le_trans h.le k.le,k.hi,k.deep.trans h.deep,fun e=>by have:=h.err e;subst this;exact k.err e,by
  rcases k.fat with e|e
  ·rw [e];exact h.fat
  ·exact .inr e⟩
theorem Step.ok (h:AtOk ts p) (k:Step ts p q):AtOk ts q:=⟨Int.le_trans h.lo k.le,k.hi⟩
theorem qvm {s:List UInt8} (h:sees ts p s=true):p.err=0:=by
 unfold sees at h
 simp only [zh,xw] at h
 exact h.1
theorem qvn {s:List UInt8} (h:sees ts p s=true):(tk ts p).kind=2∨(tk ts p).kind=0:=by
 unfold sees qom at h
 simp only [zh,zab,xw] at h
 rcases h.2.2 with h|h
 ·exact .inl h
 ·exact .inr h.1
theorem qoo {s:List UInt8} (h:p.err≠0):sees ts p s=false:=by
 cases e:sees ts p s with
 | false=>rfl
 | true=>exact absurd (qvm e) h
theorem jmk (h:qco ts p=true):p.err=0:=by
 unfold qco at h;simp only [zh,xw] at h;exact h.2
theorem jml (h:qcg ts p=true):p.err=0:=by
 unfold qcg at h;simp only [zh,xw] at h;exact h.2
variable (ht:ToksOk ts)
include ht
theorem jmm (h:AtOk ts p) (hk:(tk ts p).kind≠3):p.at_+1<ts.length:=by
 have h0:=h.lo
 have h1:=h.hi
 have h2:=ht.last p.at_.toNat (by omega)
 have h3:¬ (p.at_.toNat+1=ts.length):=fun e=>hk (h2.2 e)
 omega
theorem qvo (h:AtOk ts p) (hk:(tk ts p).kind≠3) (he:p.err=0):Step ts p (adv p):=
 ⟨by show p.at_≤p.at_+1;omega,jmm ht h hk,rfl,fun e=>absurd he e,.inl rfl⟩
theorem qf (h:AtOk ts p) {s:List UInt8} (hs:sees ts p s=true):Step ts p (adv p):=
 qvo ht h (by have:=qvn hs;omega) (qvm hs)
omit ht in
theorem qra (h:AtOk ts p) (e:Int):Step ts p (bad ts p e):=by
 unfold bad
 split
 ·rename_i he
  exact ⟨zp _,h.hi,rfl,fun e=>absurd he e,.inr ⟨_,qhs h,rfl⟩⟩
 ·exact h.refl
theorem qcy (h:AtOk ts p) (s:List UInt8):Step ts p (took ts p s):=by
 unfold took
 split
 ·exact qf ht h (by assumption)
 ·exact h.refl
theorem qg (h:AtOk ts p) (s:List UInt8):Step ts p (must ts p s):=by
 unfold must
 split
 ·exact qf ht h (by assumption)
 ·exact qra h 11
theorem jj (h:AtOk ts p):Step ts p (qc ts p):=by
 unfold qc
 split
 ·rename_i hn
  refine qvo ht h ?_ (jmk hn)
  unfold qco at hn
  simp only [zh,xw] at hn
  omega
 ·exact qra h 11
theorem jt (h:AtOk ts p):Step ts p (numP ts p):=by
 unfold numP
 split
 ·rename_i hn
  refine qvo ht h ?_ (jml hn)
  unfold qcg at hn
  simp only [zh,xw] at hn
  omega
 ·exact qra h 11
abbrev Runs (ts:List Lx.Tok) (f:Ps→Tr × Ps):Prop:=∀ p,AtOk ts p→Step ts p (f p).2
theorem qec {f:Ps→Tr × Ps} (hf:Runs ts f) {c:Ps→Bool} {sg:Ps→Int} (hc:∀ p,c p=true→∃ s,sees ts p s=true):∀ (n:Nat) (a:Tr) (p:Ps),AtOk ts p→Step ts p (js f c sg n a p).2
 | 0,a,p,h=>h.refl
 | n+1,a,p,h=>by
  rw [js]
  split
  ·rename_i hcp
   obtain ⟨s,hs⟩:=hc p hcp
   have h1:=qf ht h hs
   have h2:=hf _ (h1.ok h)
   exact h1.trans (h2.trans (qec hf hc n _ _ (h2.ok (h1.ok h))))
  ·exact h.refl
theorem jaw {f:Ps→Tr × Ps} (hf:Runs ts f) (s:List UInt8) (sg:Int):Runs ts (qek ts f s sg):=fun p h=>by
 have h1:=hf p h
 unfold qek
 split
 ·rename_i hs
  have h2:=qf ht (h1.ok h) hs
  exact h1.trans (h2.trans (hf _ (h2.ok (h1.ok h))))
 ·exact h1
omit ht in
theorem qke {p:Ps} (h:qdq ts p=true):∃ s,sees ts p s=true:=by
 unfold qdq at h
 simp only [zab] at h
 rcases h with h|h|h <;> exact ⟨_,h⟩
omit ht in
theorem qkf {p:Ps} (h:sumC ts p=true):∃ s,sees ts p s=true:=by
 unfold sumC at h
 simp only [zab] at h
 rcases h with h|h <;> exact ⟨_,h⟩
section
variable {part:Ps→Tr × Ps} (hp:Runs ts part)
include hp
theorem qiu:Runs ts (qbm ts part):=fun p h=>(hp p h).trans (qec ht hp (fun _=>qke) _ _ _ ((hp p h).ok h))
theorem qmc:Runs ts (sumF ts part):=fun p h=>(qiu ht hp p h).trans (qec ht (qiu ht hp) (fun _=>qkf) _ _ _ ((qiu ht hp p h).ok h))
theorem qmd:Runs ts (qch ts part):=jaw ht (qmc ht hp) _ _
theorem qiv:Runs ts (qcp ts part):=jaw ht (qmd ht hp) _ _
theorem qiw:Runs ts (andF ts part):=fun p h=>(qiv ht hp p h).trans (qec ht (qiv ht hp) (fun _ h=>⟨_,h⟩) _ _ _ ((qiv ht hp p h).ok h))
theorem qix:Runs ts (qal ts part):=fun p h=>(qiw ht hp p h).trans (qec ht (qiw ht hp) (fun _ h=>⟨_,h⟩) _ _ _ ((qiw ht hp p h).ok h))
end
omit ht in
theorem jo (h:AtOk ts p):AtOk ts (inP ts p)∧(inP ts p).at_=p.at_∧(inP ts p).deep=p.deep+1∧(p.err≠0→(inP ts p).err=p.err∧(inP ts p).fat=p.fat):=by
 unfold inP
 split
 ·unfold bad
  split
  ·rename_i he
   exact ⟨⟨h.lo,h.hi⟩,rfl,rfl,fun e=>absurd he e⟩
  ·exact ⟨⟨h.lo,h.hi⟩,rfl,rfl,fun _=>⟨rfl,rfl⟩⟩
 ·exact ⟨⟨h.lo,h.hi⟩,rfl,rfl,fun _=>⟨rfl,rfl⟩⟩
omit ht in
theorem jmn (h:AtOk ts p):(inP ts p).fat=p.fat∨∃ t∈ts,(inP ts p).fat=t.pos:=by
 unfold inP
 split
 ·unfold bad
  split
  ·exact .inr ⟨_,qhs (p:={ p with deep:=p.deep+1 }) ⟨h.lo,h.hi⟩,rfl⟩
  ·exact .inl rfl
 ·exact .inl rfl
omit ht in
theorem qfl (h:AtOk ts p) (hs:Step ts (inP ts p) q):Step ts p (outP q):=by
 obtain ⟨h1,h2,h3,h4⟩:=jo h
 refine ⟨by have:=hs.le;show p.at_≤q.at_;omega,hs.hi,by have:=hs.deep;show q.deep - 1=p.deep;omega,fun e=>?_,by
  rcases hs.fat with e|e
  ·show q.fat=p.fat∨∃ t∈ts,q.fat=t.pos
   rw [e];exact jmn h
  ·exact .inr e⟩
 have h5:=h4 e
 have h6:=hs.err (by rw [h5.1];exact e)
 subst h6
 show ({ (inP ts p) with deep:=(inP ts p).deep - 1 }:Ps)=p
 rw [h3]
 cases p
 simp only [Ps.mk.injEq]
 exact ⟨h2,by simp,h5.1,h5.2⟩
omit ht in
theorem qrb {f:Ps→Tr × Ps} (hf:Runs ts f) (h:AtOk ts p):Step ts p (ifOk f p).2:=by
 unfold ifOk
 split
 ·exact hf p h
 ·exact h.refl
theorem qcq:∀ n,Runs ts (qr ts n)
 | 0=>fun p h=>h.refl
 | n+1=>fun p h=>by
  unfold qr
  simp only
  split
  ·exact jt ht h
  split
  ·rename_i hs
   have h1:=qf ht h hs
   exact h1.trans (jj ht (h1.ok h))
  split
  ·rename_i hs
   have h1:Step ts p (adv p):=by rcases hs with hs|hs <;> exact qf ht h hs
   exact h1.trans (qfl (h1.ok h) (qrb (qcq n) (jo (h1.ok h)).1))
  split
  ·rename_i hs
   have h1:=qf ht h hs
   have h2:=(jo (h1.ok h)).1
   have h3:Step ts (adv p) (outP (if (inP ts (adv p)).err=0 then (qal ts (qr ts n) (inP ts (adv p))).2 else inP ts (adv p))):=by
    refine qfl (h1.ok h) ?_
    split
    ·exact qix ht (qcq n) _ h2
    ·exact h2.refl
   exact h1.trans (h3.trans (qg ht (h3.ok (h1.ok h)) _))
  ·exact jj ht h
theorem jz:Runs ts (eF ts):=qix ht (qcq ht _)
section
variable {stat:Ps→Tr × Ps} (hs:Runs ts stat)
include hs
theorem qdf:∀ (n:Nat) (l:List Tr) (p:Ps),AtOk ts p→Step ts p (ql ts stat n l p).2
 | 0,l,p,h=>h.refl
 | n+1,l,p,h=>by
  rw [ql]
  split
  ·split
   ·exact qf ht h (by assumption)
   ·exact (hs p h).trans (qdf n _ _ ((hs p h).ok h))
  ·exact h.refl
theorem qgd:Runs ts (qi ts stat):=fun p h=>by
 have h1:=qg ht h sLc
 exact h1.trans (qfl (h1.ok h) (qdf ht hs _ _ _ (jo (h1.ok h)).1))
end
theorem qhb {blk:Ps→Tr × Ps} (hb:Runs ts blk):∀ (n:Nat) (l:List Tr) (p:Ps),AtOk ts p→Step ts p (orL ts blk n l p).2
 | 0,l,p,h=>h.refl
 | n+1,l,p,h=>by
  rw [orL]
  split
  ·have h1:=qf ht h (by assumption)
   have h2:=hb _ (h1.ok h)
   exact h1.trans (h2.trans (qhb hb n _ _ (h2.ok (h1.ok h))))
  ·exact h.refl
theorem jax {blk:Ps→Tr × Ps} (hb:Runs ts blk) (a i:Int):Runs ts (qam ts blk a i):=fun p h=>by
 unfold qam
 split
 ·have h1:=qf ht h (by assumption)
  have h2:=jj ht (h1.ok h)
  have h3:=jj ht (h2.ok (h1.ok h))
  exact h1.trans (h2.trans (h3.trans (qg ht (h3.ok (h2.ok (h1.ok h))) _)))
 split
 ·have h1:=qf ht h (by assumption)
  have h2:=jz ht _ (h1.ok h)
  exact h1.trans (h2.trans (qg ht (h2.ok (h1.ok h)) _))
 ·have h1:=qg ht h qp
  have h2:=hb _ (h1.ok h)
  exact h1.trans (h2.trans (qhb ht hb _ _ _ (h2.ok (h1.ok h))))
theorem qdr:∀ n,Runs ts (qd ts n)
 | 0=>fun p h=>h.refl
 | n+1=>fun p h=>by
  have hb:=qgd ht (qdr n)
  unfold qd
  simp only
  split
  ·have h1:=qcy ht h jq
   exact h1.trans (jax ht hb _ _ _ (h1.ok h))
  split
  ·have h1:=qf ht h (by assumption)
   have h2:=jj ht (h1.ok h)
   have h3:=jz ht _ (h2.ok (h1.ok h))
   exact h1.trans (h2.trans (h3.trans (qg ht (h3.ok (h2.ok (h1.ok h))) _)))
  split
  ·have h1:=qf ht h (by assumption)
   have h2:=jz ht _ (h1.ok h)
   have h3:=hb _ (h2.ok (h1.ok h))
   have h4:=h1.trans (h2.trans h3)
   split
   ·have h5:=qf ht (h4.ok h) (by assumption)
    exact h4.trans (h5.trans (hb _ (h5.ok (h4.ok h))))
   ·exact h4
  split
  ·have h1:=qf ht h (by assumption)
   have h2:=jz ht _ (h1.ok h)
   exact h1.trans (h2.trans (hb _ (h2.ok (h1.ok h))))
  split
  ·have h1:=qf ht h (by assumption)
   exact h1.trans (hb _ (h1.ok h))
  split
  ·have h1:=qf ht h (by assumption)
   exact h1.trans (qg ht (h1.ok h) _)
  split
  ·have h1:=qf ht h (by assumption)
   exact h1.trans (qg ht (h1.ok h) _)
  ·have h1:=jj ht h
   have h2:=qg ht (h1.ok h) sEq
   have h3:=jz ht _ (h2.ok (h1.ok h))
   exact h1.trans (h2.trans (h3.trans (qg ht (h3.ok (h2.ok (h1.ok h))) _)))
theorem qel:Runs ts (sF ts):=qdr ht _
theorem qhc:Runs ts (jh ts):=fun p h=>by
 unfold jh
 simp only
 have h1:=qg ht h kVar
 have h2:=jj ht (h1.ok h)
 have h3:=h1.trans h2
 have h4:=h3.trans (qg ht (h3.ok h) kOf)
 have h5:=h4.trans (jt ht (h4.ok h))
 split
 ·have h6:=h5.trans (qf ht (h5.ok h) (by assumption))
  split
  ·have h7:=h6.trans (qf ht (h6.ok h) (by assumption))
   have h8:=h7.trans (jt ht (h7.ok h))
   exact h8.trans (qg ht (h8.ok h) _)
  ·have h8:=h6.trans (jt ht (h6.ok h))
   exact h8.trans (qg ht (h8.ok h) _)
 ·exact h5.trans (qg ht (h5.ok h) _)
theorem qfm:∀ (n:Nat) (l:List Tr) (p:Ps),AtOk ts p→Step ts p (jg ts n l p).2
 | 0,l,p,h=>h.refl
 | n+1,l,p,h=>by
  rw [jg]
  split
  ·have h2:=qhc ht _ h
   exact h2.trans (qfm n _ _ (h2.ok h))
  ·exact h.refl
theorem jay:Runs ts (qar ts):=fun p h=>by
 unfold qar
 simp only
 have h1:=qg ht h qh
 have h3:=h1.trans (jj ht (h1.ok h))
 have h4:Step ts p (if sees ts (qc ts (must ts p qh)) qai=true then (numN ts (adv (qc ts (must ts p qh))),numP ts (adv (qc ts (must ts p qh)))) else (1,qc ts (must ts p qh))).2:=by
  split
  ·have h5:=h3.trans (qf ht (h3.ok h) (by assumption))
   exact h5.trans (jt ht (h5.ok h))
  ·exact h3
 have h5:=h4.trans (qg ht (h4.ok h) sLc)
 have h6:=h5.trans (qfm ht ts.length [] _ (h5.ok h))
 exact h6.trans (qfl (h6.ok h) (qdf ht (qel ht) _ _ _ (jo (h6.ok h)).1))
theorem qiy:Runs ts (jm ts):=fun p h=>by
 unfold jm
 simp only
 split
 ·exact qhc ht _ h
 split
 ·exact jay ht _ h
 split
 ·have h1:=qf ht h (by assumption)
  have h2:=h1.trans (jj ht (h1.ok h))
  have h3:=h2.trans (qg ht (h2.ok h) sLb)
  have h4:=h3.trans (jt ht (h3.ok h))
  have h5:=h4.trans (qg ht (h4.ok h) sRb)
  have h6:=h5.trans (qg ht (h5.ok h) kOf)
  have h7:=h6.trans (jt ht (h6.ok h))
  have h8:=h7.trans (qcy ht (h7.ok h) qeb)
  have h9:=h8.trans (qcy ht (h8.ok h) qej)
  exact h9.trans (qg ht (h9.ok h) _)
 split
 ·have h1:=qf ht h (by assumption)
  have h2:=h1.trans (jz ht _ (h1.ok h))
  exact h2.trans (qg ht (h2.ok h) _)
 ·have h1:=qg ht h qgc
  exact h1.trans (qg ht (h1.ok h) _)
theorem qkg:∀ (n:Nat) (l:List Tr) (p:Ps),AtOk ts p→Step ts p (jd ts n l p).2
 | 0,l,p,h=>h.refl
 | n+1,l,p,h=>by
  rw [jd]
  split
  ·have h2:=qiy ht _ h
   exact h2.trans (qkg n _ _ (h2.ok h))
  ·exact h.refl
end
end Pa
end Go.Proofs.Ythfaleaojlnnoaa
end
