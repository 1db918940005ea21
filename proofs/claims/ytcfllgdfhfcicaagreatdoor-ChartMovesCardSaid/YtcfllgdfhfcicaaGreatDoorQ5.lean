/- Some texts of the library, one behind the other. -/
import Derived.Test.YtcfllgdfhfcicaaGreatDoorQ4
import Derived.Test.YtcfllgdfhfcicaaGreatDoorQ2
section
namespace Go.Proofs.YtcfllgdfhfcicaaGreatDoor
namespace Pa
open Go Go.Sx
abbrev qnm:List UInt8:=[99,104,97,110]
abbrev kOf:List UInt8:=[111,102]
abbrev qho:List UInt8:=[108,111,115,115,121]
abbrev qis:List UInt8:=[99,111,112,121,105,110,103]
abbrev kVar:List UInt8:=[118,97,114]
abbrev qw:List UInt8:=[112,114,111,99]
abbrev qnn:List UInt8:=[115,97,102,101]
abbrev qlp:List UInt8:=[100,101,97,100,108,111,99,107]
abbrev qno:List UInt8:=[115,101,110,100]
abbrev qdo:List UInt8:=[114,101,99,118]
abbrev qea:List UInt8:=[105,100,108,101]
abbrev qey:List UInt8:=[119,104,101,110]
abbrev jd:List UInt8:=[99,104,111,111,115,101]
abbrev kOr:List UInt8:=[111,114]
abbrev kIf:List UInt8:=[105,102]
abbrev qnp:List UInt8:=[101,108,115,101]
abbrev qnq:List UInt8:=[119,104,105,108,101]
abbrev qnr:List UInt8:=[97,116,111,109,105,99]
abbrev qns:List UInt8:=[115,107,105,112]
abbrev qnt:List UInt8:=[115,116,111,112]
abbrev kLen:List UInt8:=[108,101,110]
abbrev sLb:List UInt8:=[91]
abbrev sRb:List UInt8:=[93]
abbrev sLc:List UInt8:=[123]
abbrev sRc:List UInt8:=[125]
abbrev sLp:List UInt8:=[40]
abbrev sRp:List UInt8:=[41]
abbrev qq:List UInt8:=[59]
abbrev sEq:List UInt8:=[61]
abbrev sLt:List UInt8:=[60]
abbrev jan:List UInt8:=[43]
abbrev qez:List UInt8:=[45]
abbrev qfo:List UInt8:=[42]
abbrev jao:List UInt8:=[47]
abbrev sPct:List UInt8:=[37]
abbrev qqw:List UInt8:=[33]
abbrev sOr2:List UInt8:=[124,124]
abbrev qnu:List UInt8:=[38,38]
abbrev sEq2:List UInt8:=[61,61]
inductive Tr where
 | mk (kind:Int) (words:List (List UInt8)) (nums:List Int) (at_:Int) (l:List Tr)
def Tr.kind:Tr→Int | .mk k _ _ _ _=>k
def Tr.words:Tr→List (List UInt8) | .mk _ w _ _ _=>w
def Tr.nums:Tr→List Int | .mk _ _ n _ _=>n
def Tr.at_:Tr→Int | .mk _ _ _ a _=>a
def Tr.l:Tr→List Tr | .mk _ _ _ _ l=>l
def Tr.none:Tr:=.mk 0 [] [] 0 []
structure Ps where
 at_:Int
 deep:Int:=0
 err:Int:=0
 fat:Int:=0
section
variable (ts:List Lx.Tok)
def tk (p:Ps):Lx.Tok:=ts.getD p.at_.toNat Lx.tok0
def Ps.cells (p:Ps):List AV:=[Lx.toks ts,iv p.at_,iv p.deep,iv p.err,iv p.fat]
def qul (t:Lx.Tok) (s:List UInt8):Bool:=t.s == s && (t.kind == 2 || t.kind == 0 && Go.St.keyF s)
def sees (p:Ps) (s:List UInt8):Bool:=p.err == 0 && qul (tk ts p) s
def adv (p:Ps):Ps:={ p with at_:=p.at_+1 }
def bad (p:Ps) (e:Int):Ps:=if p.err=0 then { p with err:=e,fat:=(tk ts p).pos } else p
def took (p:Ps) (s:List UInt8):Ps:=if sees ts p s=true then adv p else p
def must (p:Ps) (s:List UInt8):Ps:=if sees ts p s=true then adv p else bad ts p 11
def qhp (p:Ps):Bool:=(tk ts p).kind == 0 && Go.St.nameF (tk ts p).s && p.err == 0
def jz (p:Ps):List UInt8:=if qhp ts p=true then (tk ts p).s else []
def qe (p:Ps):Ps:=if qhp ts p=true then adv p else bad ts p 11
def qgo (p:Ps):Bool:=(tk ts p).kind == 1 && p.err == 0
def qgp (s:List UInt8):Int:=s.foldl (fun n b=>10 * n+((b.toNat:Int) - 48)) 0
def numN (p:Ps):Int:=if qgo ts p=true then qgp (tk ts p).s else 0
def numP (p:Ps):Ps:=if qgo ts p=true then adv p else bad ts p 11
def qgq (p:Ps) (s:List UInt8):Int:=if sees ts p s=true then 1 else 0
def inP (p:Ps):Ps:=if 200<p.deep+1 then bad ts { p with deep:=p.deep+1 } 12 else { p with deep:=p.deep+1 }
def outP (p:Ps):Ps:={ p with deep:=p.deep - 1 }
def binT (sg:Int) (a b:Tr):Tr:=.mk 22 [] [sg] a.at_ [a,b]
def qar (f:Ps→Tr × Ps) (c:Ps→Bool) (sg:Ps→Int):Nat→Tr→Ps→Tr × Ps
 | 0,a,p=>(a,p)
 | n+1,a,p=>if c p=true then qar f c sg n (binT (sg p) a (f (adv p)).1) (f (adv p)).2 else (a,p)
def qlq (f:Ps→Tr × Ps) (s:List UInt8) (sg:Int) (p:Ps):Tr × Ps:=
 if sees ts (f p).2 s=true then (binT sg (f p).1 (f (adv (f p).2)).1,(f (adv (f p).2)).2) else f p
def qeb (p:Ps):Bool:=sees ts p qfo || (sees ts p jao || sees ts p sPct)
def qit (p:Ps):Int:=if sees ts p qfo=true then 6 else if sees ts p jao=true then 7 else 8
def sumC (p:Ps):Bool:=sees ts p jan || sees ts p qez
def sumS (p:Ps):Int:=if sees ts p jan=true then 4 else 5
def qcf (part:Ps→Tr × Ps) (p:Ps):Tr × Ps:=qar part (qeb ts) (qit ts) ts.length (part p).1 (part p).2
def sumF (part:Ps→Tr × Ps) (p:Ps):Tr × Ps:=qar (qcf ts part) (sumC ts) (sumS ts) ts.length (qcf ts part p).1 (qcf ts part p).2
def qbz (part:Ps→Tr × Ps) (p:Ps):Tr × Ps:=qlq ts (sumF ts part) sLt 3 p
def qdp (part:Ps→Tr × Ps) (p:Ps):Tr × Ps:=qlq ts (qbz ts part) sEq2 2 p
def andF (part:Ps→Tr × Ps) (p:Ps):Tr × Ps:=qar (qdp ts part) (fun p=>sees ts p qnu) (fun _=>1) ts.length (qdp ts part p).1 (qdp ts part p).2
def qec (part:Ps→Tr × Ps) (p:Ps):Tr × Ps:=qar (andF ts part) (fun p=>sees ts p sOr2) (fun _=>0) ts.length (andF ts part p).1 (andF ts part p).2
def ifOk (f:Ps→Tr × Ps) (p:Ps):List Tr × Ps:=if p.err=0 then ([(f p).1],(f p).2) else ([],p)
def qam:Nat→Ps→Tr × Ps
 | 0,p=>(.none,p)
 | n+1,p=>
  let a:=(tk ts p).pos
  if p.err=0∧(tk ts p).kind=1 then (.mk 17 [] [numN ts p] a [],numP ts p)
  else if sees ts p kLen=true then (.mk 19 [jz ts (adv p)] [] a [],qe ts (adv p))
  else if sees ts p qez=true∨sees ts p qqw=true then
   (.mk (if sees ts p qez=true then 20 else 21) [] [] a (ifOk (qam n) (inP ts (adv p))).1,outP (ifOk (qam n) (inP ts (adv p))).2)
  else if sees ts p sLp=true then
   ((if (inP ts (adv p)).err=0 then (qec ts (qam n) (inP ts (adv p))).1 else .mk 17 [] [] a []),
    must ts (outP (if (inP ts (adv p)).err=0 then (qec ts (qam n) (inP ts (adv p))).2 else inP ts (adv p))) sRp)
  else (.mk 18 [jz ts p] [] a [],qe ts p)
def eF (p:Ps):Tr × Ps:=qec ts (qam ts ts.length) p
def jk (stat:Ps→Tr × Ps):Nat→List Tr→Ps→List Tr × Ps
 | 0,l,p=>(l,p)
 | n+1,l,p=>if p.err=0 then (if sees ts p sRc=true then (l,adv p) else jk stat n (l++[(stat p).1]) (stat p).2) else (l,p)
def qr (stat:Ps→Tr × Ps) (p:Ps):Tr × Ps:=
 (.mk 16 [] [] (tk ts p).pos (jk ts stat ts.length [] (inP ts (must ts p sLc))).1,outP (jk ts stat ts.length [] (inP ts (must ts p sLc))).2)
def orL (blk:Ps→Tr × Ps):Nat→List Tr→Ps→List Tr × Ps
 | 0,l,p=>(l,p)
 | n+1,l,p=>if sees ts p kOr=true then orL blk n (l++[(blk (adv p)).1]) (blk (adv p)).2 else (l,p)
def qdq (blk:Ps→Tr × Ps) (a idle:Int) (p:Ps):Tr × Ps:=
 if sees ts p qdo=true then
  (.mk 8 [jz ts (adv p),jz ts (qe ts (adv p))] [idle] a [],must ts (qe ts (qe ts (adv p))) qq)
 else if sees ts p qey=true then (.mk 9 [] [idle] a [(eF ts (adv p)).1],must ts (eF ts (adv p)).2 qq)
 else
  let q:=must ts p jd
  let r:=orL ts blk ts.length [(blk q).1] (blk q).2
  (.mk 10 [] [idle] a r.1,r.2)
def qc:Nat→Ps→Tr × Ps
 | 0,p=>(.none,p)
 | n+1,p=>
  let a:=(tk ts p).pos
  let blk:=qr ts (qc n)
  if sees ts p qea=true∨sees ts p qdo=true∨sees ts p qey=true∨sees ts p jd=true then qdq ts blk a (qgq ts p qea) (took ts p qea)
  else if sees ts p qno=true then
   (.mk 7 [jz ts (adv p)] [] a [(eF ts (qe ts (adv p))).1],must ts (eF ts (qe ts (adv p))).2 qq)
  else if sees ts p kIf=true then
   let e:=eF ts (adv p)
   let b:=blk e.2
   if sees ts b.2 qnp=true then (.mk 11 [] [] a [e.1,b.1,(blk (adv b.2)).1],(blk (adv b.2)).2) else (.mk 11 [] [] a [e.1,b.1],b.2)
  else if sees ts p qnq=true then
   let e:=eF ts (adv p)
   (.mk 12 [] [] a [e.1,(blk e.2).1],(blk e.2).2)
  else if sees ts p qnr=true then (.mk 13 [] [] a [(blk (adv p)).1],(blk (adv p)).2)
  else if sees ts p qns=true then (.mk 14 [] [] a [],must ts (adv p) qq)
  else if sees ts p qnt=true then (.mk 15 [] [] a [],must ts (adv p) qq)
  else
   let q:=must ts (qe ts p) sEq
   (.mk 6 [jz ts p] [] a [(eF ts q).1],must ts (eF ts q).2 qq)
def sF (p:Ps):Tr × Ps:=qc ts ts.length p
def jr (p:Ps):Tr × Ps:=
 let w:=qe ts (must ts p kVar)
 let q:=must ts w kOf
 let r:=numP ts q
 let v:=if sees ts r sEq=true then (if sees ts (adv r) qez=true then (0 - numN ts (adv (adv r)),numP ts (adv (adv r))) else (numN ts (adv r),numP ts (adv r))) else (0,r)
 (.mk 2 [jz ts (must ts p kVar)] [numN ts q,v.1] (tk ts p).pos [],must ts v.2 qq)
def qbp:Nat→List Tr→Ps→List Tr × Ps
 | 0,l,p=>(l,p)
 | n+1,l,p=>if sees ts p kVar=true then qbp n (l++[(jr ts p).1]) (jr ts p).2 else (l,p)
def qdr (p:Ps):Tr × Ps:=
 let q:=qe ts (must ts p qw)
 let c:=if sees ts q qfo=true then (numN ts (adv q),numP ts (adv q)) else (1,q)
 let r:=must ts c.2 sLc
 let v:=qbp ts ts.length [] r
 let s:=jk ts (sF ts) ts.length v.1 (inP ts v.2)
 (.mk 3 [jz ts (must ts p qw)] [c.1] (tk ts p).pos s.1,outP s.2)
def itemF (p:Ps):Tr × Ps:=
 let a:=(tk ts p).pos
 if sees ts p kVar=true then jr ts p
 else if sees ts p qw=true then qdr ts p
 else if sees ts p qnm=true then
  let q:=must ts (qe ts (adv p)) sLb
  let r:=must ts (must ts (numP ts q) sRb) kOf
  let u:=took ts (numP ts r) qho
  (.mk 1 [jz ts (adv p)] [numN ts q,numN ts r,qgq ts (numP ts r) qho,qgq ts u qis] a [],must ts (took ts u qis) qq)
 else if sees ts p qnn=true then (.mk 4 [] [] a [(eF ts (adv p)).1],must ts (eF ts (adv p)).2 qq)
 else (.mk 5 [] [] a [],must ts (must ts p qlp) qq)
def qds:Nat→List Tr→Ps→List Tr × Ps
 | 0,l,p=>(l,p)
 | n+1,l,p=>if p.err=0∧(tk ts p).kind≠3 then qds n (l++[(itemF ts p).1]) (itemF ts p).2 else (l,p)
def qcs (p:Ps):Tr × Ps:=
 (.mk 0 [] [] (tk ts p).pos (qds ts ts.length [] p).1,(qds ts ts.length [] p).2)
end
mutual
def Tr.cellsA:Tr→List AV
 | .mk k w n a l=>[iv k,strs w,ints n,.nils,iv a,.slc 6 l.length fun i=>(Tr.cellsL l).getD i []]
def Tr.cellsL:List Tr→List (List AV)
 | []=>[]
 | t::r=>t.cellsA::Tr.cellsL r
end
def qlr (l:List Tr):AV:=.slc 6 l.length fun i=>(Tr.cellsL l).getD i []
def Tr.cells (t:Tr):List AV:=[iv t.kind,strs t.words,ints t.nums,.nils,iv t.at_,qlr t.l]
def Tr.av (t:Tr):AV:=.agg t.cells
theorem Tr.cellsA_eq (t:Tr):t.cellsA=t.cells:=by cases t;rfl
theorem Tr.cellsL_get:∀ (l:List Tr) (i:Nat),i<l.length→(Tr.cellsL l).getD i []=(l.getD i Tr.none).cells
 | [],i,h=>absurd h (Nat.not_lt_zero i)
 | t::r,0,_=>by rw [Tr.cellsL];exact t.cellsA_eq
 | t::r,i+1,h=>by
  have:=Tr.cellsL_get r i (by simpa using h)
  rw [Tr.cellsL]
  simpa using this
mutual
def Tr.size:Tr→Nat
 | .mk _ _ _ _ l=>1+Tr.sizeL l
def Tr.sizeL:List Tr→Nat
 | []=>0
 | t::r=>t.size+Tr.sizeL r
end
def jn:Nat→List Tr→List Int
 | _,[]=>[]
 | n,t::r=>(n:Int)::jn (n+t.size) r
mutual
def layT:Nat→Tr→List Nd
 | n,.mk k w ns a l=>⟨k,w,ns,jn (n+1) l,a⟩::layL (n+1) l
def layL:Nat→List Tr→List Nd
 | _,[]=>[]
 | n,t::r=>layT n t++layL (n+t.size) r
end
mutual
def deepT:Tr→Int→Int
 | .mk _ _ _ a l,n=>if 20<n then a else deepL l n
def deepL:List Tr→Int→Int
 | [],_=>-1
 | t::r,n=>if 0≤deepT t (n+1) then deepT t (n+1) else deepL r n
end
def qnv (ts:List Lx.Tok):List Nd × (Int × Int):=
 let r:=qcs ts ⟨0,0,0,0⟩
 if r.2.err≠0 then ([],(r.2.err,r.2.fat))
 else if 800<(layT 0 r.1).length then ([],(12,0))
 else if 0≤deepT r.1 1 then ([],(12,deepT r.1 1))
 else (layT 0 r.1,(0,0))
def qnw (s:List UInt8):List Nd × (Int × Int):=if (Lx.lexAll s).2.1≠0 then ([],(Lx.lexAll s).2) else qnv (Lx.lexAll s).1
def jnt (r:List Nd × (Int × Int)):AV:=.tup [jq r.1,flt r.2.1 r.2.2]
end Pa
end Go.Proofs.YtcfllgdfhfcicaaGreatDoor
end
section
namespace Go.Proofs.YtcfllgdfhfcicaaGreatDoor
namespace Pa
open Go Go.Sx
structure ToksOk (ts:List Lx.Tok):Prop where
 len:ts.length≤5000
 last:∀ i,i<ts.length→((ts.getD i Lx.tok0).kind=3↔i+1=ts.length)
 num:∀ t∈ts,t.kind=1→t.s.length≤6∧∀ b∈t.s,48≤b.toNat∧b.toNat≤57
structure AtOk (ts:List Lx.Tok) (p:Ps):Prop where
 lo:0≤p.at_
 hi:p.at_<ts.length
structure Step (ts:List Lx.Tok) (p q:Ps):Prop where
 le:p.at_≤q.at_
 hi:q.at_<ts.length
 deep:q.deep=p.deep
 err:p.err≠0→q=p
theorem jap (s:List UInt8) (b:UInt8):qgp (s++[b])=10 * qgp s+((b.toNat:Int) - 48):=by
 unfold qgp;rw [List.foldl_append];rfl
theorem qum {s:List UInt8} (h:∀ b∈s,48≤b.toNat∧b.toNat≤57):∀ i,i≤s.length→0≤qgp (s.take i)∧qgp (s.take i)<10 ^ i
 | 0,_=>by simp [qgp]
 | i+1,hi=>by
  have h1:=qum h i (by omega)
  rw [List.take_succ_eq_append_getElem (by omega),jap,Int.pow_succ]
  have h2:=h _ (List.getElem_mem (by omega:i<s.length))
  omega
section
variable {ts:List Lx.Tok} {p q r:Ps}
theorem jaq (h:AtOk ts p):tk ts p∈ts:=by
 have h0:=h.lo
 have h1:=h.hi
 unfold tk
 rw [List.getD_eq_getElem?_getD,List.getElem?_eq_getElem (by omega)]
 exact List.getElem_mem _
theorem AtOk.refl (h:AtOk ts p):Step ts p p:=⟨Int.le_refl _,h.hi,rfl,fun _=>rfl⟩
theorem Step.trans (h:Step ts p q) (k:Step ts q r):Step ts p r:=
 ⟨Int.le_trans h.le k.le,k.hi,k.deep.trans h.deep,fun e=>by have:=h.err e;subst this;exact k.err e⟩
theorem Step.ok (h:AtOk ts p) (k:Step ts p q):AtOk ts q:=⟨Int.le_trans h.lo k.le,k.hi⟩
theorem jnu {s:List UInt8} (h:sees ts p s=true):p.err=0:=by
 unfold sees at h
 simp only [Bool.and_eq_true,beq_iff_eq] at h
 exact h.1
theorem jnv {s:List UInt8} (h:sees ts p s=true):(tk ts p).kind=2∨(tk ts p).kind=0:=by
 unfold sees qul at h
 simp only [Bool.and_eq_true,Bool.or_eq_true,beq_iff_eq] at h
 rcases h.2.2 with h|h
 ·exact .inl h
 ·exact .inr h.1
theorem jnw (h:qhp ts p=true):p.err=0:=by
 unfold qhp at h;simp only [Bool.and_eq_true,beq_iff_eq] at h;exact h.2
theorem jnx (h:qgo ts p=true):p.err=0:=by
 unfold qgo at h;simp only [Bool.and_eq_true,beq_iff_eq] at h;exact h.2
variable (ht:ToksOk ts)
include ht
theorem jny (h:AtOk ts p) (hk:(tk ts p).kind≠3):p.at_+1<ts.length:=by
 have h0:=h.lo
 have h1:=h.hi
 have h2:=ht.last p.at_.toNat (by omega)
 have h3:¬ (p.at_.toNat+1=ts.length):=fun e=>hk (h2.2 e)
 omega
theorem qun (h:AtOk ts p) (hk:(tk ts p).kind≠3) (he:p.err=0):Step ts p (adv p):=
 ⟨by show p.at_≤p.at_+1;omega,jny ht h hk,rfl,fun e=>absurd he e⟩
theorem qg (h:AtOk ts p) {s:List UInt8} (hs:sees ts p s=true):Step ts p (adv p):=
 qun ht h (by have:=jnv hs;omega) (jnu hs)
omit ht in
theorem qup (h:AtOk ts p) (e:Int):Step ts p (bad ts p e):=by
 unfold bad
 split
 ·rename_i he
  exact ⟨Int.le_refl _,h.hi,rfl,fun e=>absurd he e⟩
 ·exact h.refl
theorem qhq (h:AtOk ts p) (s:List UInt8):Step ts p (took ts p s):=by
 unfold took
 split
 ·exact qg ht h (by assumption)
 ·exact h.refl
theorem qk (h:AtOk ts p) (s:List UInt8):Step ts p (must ts p s):=by
 unfold must
 split
 ·exact qg ht h (by assumption)
 ·exact qup h 11
theorem qao (h:AtOk ts p):Step ts p (qe ts p):=by
 unfold qe
 split
 ·rename_i hn
  refine qun ht h ?_ (jnw hn)
  unfold qhp at hn
  simp only [Bool.and_eq_true,beq_iff_eq] at hn
  omega
 ·exact qup h 11
theorem qbj (h:AtOk ts p):Step ts p (numP ts p):=by
 unfold numP
 split
 ·rename_i hn
  refine qun ht h ?_ (jnx hn)
  unfold qgo at hn
  simp only [Bool.and_eq_true,beq_iff_eq] at hn
  omega
 ·exact qup h 11
abbrev Runs (ts:List Lx.Tok) (f:Ps→Tr × Ps):Prop:=∀ p,AtOk ts p→Step ts p (f p).2
theorem qkc {f:Ps→Tr × Ps} (hf:Runs ts f) {c:Ps→Bool} {sg:Ps→Int} (hc:∀ p,c p=true→∃ s,sees ts p s=true):∀ (n:Nat) (a:Tr) (p:Ps),AtOk ts p→Step ts p (qar f c sg n a p).2
 | 0,a,p,h=>h.refl
 | n+1,a,p,h=>by
  rw [qar]
  split
  ·rename_i hcp
   obtain ⟨s,hs⟩:=hc p hcp
   have h1:=qg ht h hs
   have h2:=hf _ (h1.ok h)
   exact h1.trans (h2.trans (qkc hf hc n _ _ (h2.ok (h1.ok h))))
  ·exact h.refl
theorem jar {f:Ps→Tr × Ps} (hf:Runs ts f) (s:List UInt8) (sg:Int):Runs ts (qlq ts f s sg):=fun p h=>by
 have h1:=hf p h
 unfold qlq
 split
 ·rename_i hs
  have h2:=qg ht (h1.ok h) hs
  exact h1.trans (h2.trans (hf _ (h2.ok (h1.ok h))))
 ·exact h1
omit ht in
theorem jas {p:Ps} (h:qeb ts p=true):∃ s,sees ts p s=true:=by
 unfold qeb at h
 simp only [Bool.or_eq_true] at h
 rcases h with h|h|h <;> exact ⟨_,h⟩
omit ht in
theorem jat {p:Ps} (h:sumC ts p=true):∃ s,sees ts p s=true:=by
 unfold sumC at h
 simp only [Bool.or_eq_true] at h
 rcases h with h|h <;> exact ⟨_,h⟩
section
variable {part:Ps→Tr × Ps} (hp:Runs ts part)
include hp
theorem qnx:Runs ts (qcf ts part):=fun p h=>(hp p h).trans (qkc ht hp (fun _=>jas) _ _ _ ((hp p h).ok h))
theorem quq:Runs ts (sumF ts part):=fun p h=>(qnx ht hp p h).trans (qkc ht (qnx ht hp) (fun _=>jat) _ _ _ ((qnx ht hp p h).ok h))
theorem qur:Runs ts (qbz ts part):=jar ht (quq ht hp) _ _
theorem qny:Runs ts (qdp ts part):=jar ht (qur ht hp) _ _
theorem qnz:Runs ts (andF ts part):=fun p h=>(qny ht hp p h).trans (qkc ht (qny ht hp) (fun _ h=>⟨_,h⟩) _ _ _ ((qny ht hp p h).ok h))
theorem qqx:Runs ts (qec ts part):=fun p h=>(qnz ht hp p h).trans (qkc ht (qnz ht hp) (fun _ h=>⟨_,h⟩) _ _ _ ((qnz ht hp p h).ok h))
end
omit ht in
theorem qct (h:AtOk ts p):AtOk ts (inP ts p)∧(inP ts p).at_=p.at_∧(inP ts p).deep=p.deep+1∧(p.err≠0→(inP ts p).err=p.err∧(inP ts p).fat=p.fat):=by
 unfold inP
 split
 ·unfold bad
  split
  ·rename_i he
   exact ⟨⟨h.lo,h.hi⟩,rfl,rfl,fun e=>absurd he e⟩
  ·exact ⟨⟨h.lo,h.hi⟩,rfl,rfl,fun _=>⟨rfl,rfl⟩⟩
 ·exact ⟨⟨h.lo,h.hi⟩,rfl,rfl,fun _=>⟨rfl,rfl⟩⟩
omit ht in
theorem qiu (h:AtOk ts p) (hs:Step ts (inP ts p) q):Step ts p (outP q):=by
 obtain ⟨h1,h2,h3,h4⟩:=qct h
 refine ⟨by have:=hs.le;show p.at_≤q.at_;omega,hs.hi,by have:=hs.deep;show q.deep - 1=p.deep;omega,fun e=>?_⟩
 have h5:=h4 e
 have h6:=hs.err (by rw [h5.1];exact e)
 subst h6
 show ({ (inP ts p) with deep:=(inP ts p).deep - 1 }:Ps)=p
 rw [h3]
 cases p
 simp only [Ps.mk.injEq]
 exact ⟨h2,by simp,h5.1,h5.2⟩
omit ht in
theorem jnz {f:Ps→Tr × Ps} (hf:Runs ts f) (h:AtOk ts p):Step ts p (ifOk f p).2:=by
 unfold ifOk
 split
 ·exact hf p h
 ·exact h.refl
theorem qfp:∀ n,Runs ts (qam ts n)
 | 0=>fun p h=>h.refl
 | n+1=>fun p h=>by
  unfold qam
  simp only
  split
  ·exact qbj ht h
  split
  ·rename_i hs
   have h1:=qg ht h hs
   exact h1.trans (qao ht (h1.ok h))
  split
  ·rename_i hs
   have h1:Step ts p (adv p):=by rcases hs with hs|hs <;> exact qg ht h hs
   exact h1.trans (qiu (h1.ok h) (jnz (qfp n) (qct (h1.ok h)).1))
  split
  ·rename_i hs
   have h1:=qg ht h hs
   have h2:=(qct (h1.ok h)).1
   have h3:Step ts (adv p) (outP (if (inP ts (adv p)).err=0 then (qec ts (qam ts n) (inP ts (adv p))).2 else inP ts (adv p))):=by
    refine qiu (h1.ok h) ?_
    split
    ·exact qqx ht (qfp n) _ h2
    ·exact h2.refl
   exact h1.trans (h3.trans (qk ht (h3.ok (h1.ok h)) _))
  ·exact qao ht h
theorem qbe:Runs ts (eF ts):=qqx ht (qfp ht _)
section
variable {stat:Ps→Tr × Ps} (hs:Runs ts stat)
include hs
theorem qgr:∀ (n:Nat) (l:List Tr) (p:Ps),AtOk ts p→Step ts p (jk ts stat n l p).2
 | 0,l,p,h=>h.refl
 | n+1,l,p,h=>by
  rw [jk]
  split
  ·split
   ·exact qg ht h (by assumption)
   ·exact (hs p h).trans (qgr n _ _ ((hs p h).ok h))
  ·exact h.refl
theorem qqy:Runs ts (qr ts stat):=fun p h=>by
 have h1:=qk ht h sLc
 exact h1.trans (qiu (h1.ok h) (qgr ht hs _ _ _ (qct (h1.ok h)).1))
end
theorem qoa {blk:Ps→Tr × Ps} (hb:Runs ts blk):∀ (n:Nat) (l:List Tr) (p:Ps),AtOk ts p→Step ts p (orL ts blk n l p).2
 | 0,l,p,h=>h.refl
 | n+1,l,p,h=>by
  rw [orL]
  split
  ·have h1:=qg ht h (by assumption)
   have h2:=hb _ (h1.ok h)
   exact h1.trans (h2.trans (qoa hb n _ _ (h2.ok (h1.ok h))))
  ·exact h.refl
theorem joa {blk:Ps→Tr × Ps} (hb:Runs ts blk) (a i:Int):Runs ts (qdq ts blk a i):=fun p h=>by
 unfold qdq
 split
 ·have h1:=qg ht h (by assumption)
  have h2:=qao ht (h1.ok h)
  have h3:=qao ht (h2.ok (h1.ok h))
  exact h1.trans (h2.trans (h3.trans (qk ht (h3.ok (h2.ok (h1.ok h))) _)))
 split
 ·have h1:=qg ht h (by assumption)
  have h2:=qbe ht _ (h1.ok h)
  exact h1.trans (h2.trans (qk ht (h2.ok (h1.ok h)) _))
 ·have h1:=qk ht h jd
  have h2:=hb _ (h1.ok h)
  exact h1.trans (h2.trans (qoa ht hb _ _ _ (h2.ok (h1.ok h))))
theorem qkd:∀ n,Runs ts (qc ts n)
 | 0=>fun p h=>h.refl
 | n+1=>fun p h=>by
  have hb:=qqy ht (qkd n)
  unfold qc
  simp only
  split
  ·have h1:=qhq ht h qea
   exact h1.trans (joa ht hb _ _ _ (h1.ok h))
  split
  ·have h1:=qg ht h (by assumption)
   have h2:=qao ht (h1.ok h)
   have h3:=qbe ht _ (h2.ok (h1.ok h))
   exact h1.trans (h2.trans (h3.trans (qk ht (h3.ok (h2.ok (h1.ok h))) _)))
  split
  ·have h1:=qg ht h (by assumption)
   have h2:=qbe ht _ (h1.ok h)
   have h3:=hb _ (h2.ok (h1.ok h))
   have h4:=h1.trans (h2.trans h3)
   split
   ·have h5:=qg ht (h4.ok h) (by assumption)
    exact h4.trans (h5.trans (hb _ (h5.ok (h4.ok h))))
   ·exact h4
  split
  ·have h1:=qg ht h (by assumption)
   have h2:=qbe ht _ (h1.ok h)
   exact h1.trans (h2.trans (hb _ (h2.ok (h1.ok h))))
  split
  ·have h1:=qg ht h (by assumption)
   exact h1.trans (hb _ (h1.ok h))
  split
  ·have h1:=qg ht h (by assumption)
   exact h1.trans (qk ht (h1.ok h) _)
  split
  ·have h1:=qg ht h (by assumption)
   exact h1.trans (qk ht (h1.ok h) _)
  ·have h1:=qao ht h
   have h2:=qk ht (h1.ok h) sEq
   have h3:=qbe ht _ (h2.ok (h1.ok h))
   exact h1.trans (h2.trans (h3.trans (qk ht (h3.ok (h2.ok (h1.ok h))) _)))
theorem qiv:Runs ts (sF ts):=qkd ht _
theorem qls:Runs ts (jr ts):=fun p h=>by
 unfold jr
 simp only
 have h1:=qk ht h kVar
 have h2:=qao ht (h1.ok h)
 have h3:=h1.trans h2
 have h4:=h3.trans (qk ht (h3.ok h) kOf)
 have h5:=h4.trans (qbj ht (h4.ok h))
 split
 ·have h6:=h5.trans (qg ht (h5.ok h) (by assumption))
  split
  ·have h7:=h6.trans (qg ht (h6.ok h) (by assumption))
   have h8:=h7.trans (qbj ht (h7.ok h))
   exact h8.trans (qk ht (h8.ok h) _)
  ·have h8:=h6.trans (qbj ht (h6.ok h))
   exact h8.trans (qk ht (h8.ok h) _)
 ·exact h5.trans (qk ht (h5.ok h) _)
theorem qob:∀ (n:Nat) (l:List Tr) (p:Ps),AtOk ts p→Step ts p (qbp ts n l p).2
 | 0,l,p,h=>h.refl
 | n+1,l,p,h=>by
  rw [qbp]
  split
  ·have h2:=qls ht _ h
   exact h2.trans (qob n _ _ (h2.ok h))
  ·exact h.refl
theorem job:Runs ts (qdr ts):=fun p h=>by
 unfold qdr
 simp only
 have h1:=qk ht h qw
 have h3:=h1.trans (qao ht (h1.ok h))
 have h4:Step ts p (if sees ts (qe ts (must ts p qw)) qfo=true then (numN ts (adv (qe ts (must ts p qw))),numP ts (adv (qe ts (must ts p qw)))) else (1,qe ts (must ts p qw))).2:=by
  split
  ·have h5:=h3.trans (qg ht (h3.ok h) (by assumption))
   exact h5.trans (qbj ht (h5.ok h))
  ·exact h3
 have h5:=h4.trans (qk ht (h4.ok h) sLc)
 have h6:=h5.trans (qob ht ts.length [] _ (h5.ok h))
 exact h6.trans (qiu (h6.ok h) (qgr ht (qiv ht) _ _ _ (qct (h6.ok h)).1))
theorem qus:Runs ts (itemF ts):=fun p h=>by
 unfold itemF
 simp only
 split
 ·exact qls ht _ h
 split
 ·exact job ht _ h
 split
 ·have h1:=qg ht h (by assumption)
  have h2:=h1.trans (qao ht (h1.ok h))
  have h3:=h2.trans (qk ht (h2.ok h) sLb)
  have h4:=h3.trans (qbj ht (h3.ok h))
  have h5:=h4.trans (qk ht (h4.ok h) sRb)
  have h6:=h5.trans (qk ht (h5.ok h) kOf)
  have h7:=h6.trans (qbj ht (h6.ok h))
  have h8:=h7.trans (qhq ht (h7.ok h) qho)
  have h9:=h8.trans (qhq ht (h8.ok h) qis)
  exact h9.trans (qk ht (h9.ok h) _)
 split
 ·have h1:=qg ht h (by assumption)
  have h2:=h1.trans (qbe ht _ (h1.ok h))
  exact h2.trans (qk ht (h2.ok h) _)
 ·have h1:=qk ht h qlp
  exact h1.trans (qk ht (h1.ok h) _)
theorem qut:∀ (n:Nat) (l:List Tr) (p:Ps),AtOk ts p→Step ts p (qds ts n l p).2
 | 0,l,p,h=>h.refl
 | n+1,l,p,h=>by
  rw [qds]
  split
  ·have h2:=qus ht _ h
   exact h2.trans (qut n _ _ (h2.ok h))
  ·exact h.refl
end
end Pa
end Go.Proofs.YtcfllgdfhfcicaaGreatDoor
end
