/- Some texts of the library, one behind the other. -/
import Derived.Test.YtcfllgdfhfcicaaGreatDoorQ4
import Derived.Test.YtcfllgdfhfcicaaGreatDoorQ2
section
namespace Go.Proofs.YtcfllgdfhfcicaaGreatDoor
namespace Pa
open Go Go.Sx
abbrev qms:List UInt8:=[99,104,97,110]
abbrev kOf:List UInt8:=[111,102]
abbrev qhe:List UInt8:=[108,111,115,115,121]
abbrev qih:List UInt8:=[99,111,112,121,105,110,103]
abbrev kVar:List UInt8:=[118,97,114]
abbrev qu:List UInt8:=[112,114,111,99]
abbrev qmt:List UInt8:=[115,97,102,101]
abbrev qla:List UInt8:=[100,101,97,100,108,111,99,107]
abbrev qmu:List UInt8:=[115,101,110,100]
abbrev qdf:List UInt8:=[114,101,99,118]
abbrev qdr:List UInt8:=[105,100,108,101]
abbrev qes:List UInt8:=[119,104,101,110]
abbrev ja:List UInt8:=[99,104,111,111,115,101]
abbrev kOr:List UInt8:=[111,114]
abbrev kIf:List UInt8:=[105,102]
abbrev qmv:List UInt8:=[101,108,115,101]
abbrev qmw:List UInt8:=[119,104,105,108,101]
abbrev qmx:List UInt8:=[97,116,111,109,105,99]
abbrev qmy:List UInt8:=[115,107,105,112]
abbrev qmz:List UInt8:=[115,116,111,112]
abbrev kLen:List UInt8:=[108,101,110]
abbrev sLb:List UInt8:=[91]
abbrev sRb:List UInt8:=[93]
abbrev sLc:List UInt8:=[123]
abbrev sRc:List UInt8:=[125]
abbrev sLp:List UInt8:=[40]
abbrev sRp:List UInt8:=[41]
abbrev qo:List UInt8:=[59]
abbrev sEq:List UInt8:=[61]
abbrev sLt:List UInt8:=[60]
abbrev jak:List UInt8:=[43]
abbrev qet:List UInt8:=[45]
abbrev qfi:List UInt8:=[42]
abbrev jal:List UInt8:=[47]
abbrev sPct:List UInt8:=[37]
abbrev qqa:List UInt8:=[33]
abbrev sOr2:List UInt8:=[124,124]
abbrev qna:List UInt8:=[38,38]
abbrev sEq2:List UInt8:=[61,61]
inductive Tr where
 | mk (kind:Int) (words:List (List UInt8)) (nums:List Int) (at_:Int) (l:List Tr)
def Tr.kind:Tr→Int | .mk k _ _ _ _=>k
def Tr.words:Tr→List (List UInt8) | .mk _ w _ _ _=>w
def Tr.nums:Tr→List Int | .mk _ _ n _ _=>n
def Tr.at_:Tr→Int | .mk _ _ _ a _=>a
def Tr.l:Tr→List Tr | .mk _ _ _ _ l=>l
def Tr.none:Tr:=.mk 0 [] [] 0 []
structure Ps where
 at_:Int
 deep:Int:=0
 err:Int:=0
 fat:Int:=0
section
variable (ts:List Lx.Tok)
def tk (p:Ps):Lx.Tok:=ts.getD p.at_.toNat Lx.tok0
def Ps.cells (p:Ps):List AV:=[Lx.toks ts,iv p.at_,iv p.deep,iv p.err,iv p.fat]
def qtr (t:Lx.Tok) (s:List UInt8):Bool:=t.s == s && (t.kind == 2 || t.kind == 0 && Go.St.keyF s)
def sees (p:Ps) (s:List UInt8):Bool:=p.err == 0 && qtr (tk ts p) s
def adv (p:Ps):Ps:={ p with at_:=p.at_+1 }
def bad (p:Ps) (e:Int):Ps:=if p.err=0 then { p with err:=e,fat:=(tk ts p).pos } else p
def took (p:Ps) (s:List UInt8):Ps:=if sees ts p s=true then adv p else p
def must (p:Ps) (s:List UInt8):Ps:=if sees ts p s=true then adv p else bad ts p 11
def qhf (p:Ps):Bool:=(tk ts p).kind == 0 && Go.St.nameF (tk ts p).s && p.err == 0
def ju (p:Ps):List UInt8:=if qhf ts p=true then (tk ts p).s else []
def qe (p:Ps):Ps:=if qhf ts p=true then adv p else bad ts p 11
def qgc (p:Ps):Bool:=(tk ts p).kind == 1 && p.err == 0
def qgd (s:List UInt8):Int:=s.foldl (fun n b=>10 * n+((b.toNat:Int) - 48)) 0
def numN (p:Ps):Int:=if qgc ts p=true then qgd (tk ts p).s else 0
def numP (p:Ps):Ps:=if qgc ts p=true then adv p else bad ts p 11
def qge (p:Ps) (s:List UInt8):Int:=if sees ts p s=true then 1 else 0
def inP (p:Ps):Ps:=if 200<p.deep+1 then bad ts { p with deep:=p.deep+1 } 12 else { p with deep:=p.deep+1 }
def outP (p:Ps):Ps:={ p with deep:=p.deep - 1 }
def binT (sg:Int) (a b:Tr):Tr:=.mk 22 [] [sg] a.at_ [a,b]
def qal (f:Ps→Tr × Ps) (c:Ps→Bool) (sg:Ps→Int):Nat→Tr→Ps→Tr × Ps
 | 0,a,p=>(a,p)
 | n+1,a,p=>if c p=true then qal f c sg n (binT (sg p) a (f (adv p)).1) (f (adv p)).2 else (a,p)
def qlb (f:Ps→Tr × Ps) (s:List UInt8) (sg:Int) (p:Ps):Tr × Ps:=
 if sees ts (f p).2 s=true then (binT sg (f p).1 (f (adv (f p).2)).1,(f (adv (f p).2)).2) else f p
def qds (p:Ps):Bool:=sees ts p qfi || (sees ts p jal || sees ts p sPct)
def qii (p:Ps):Int:=if sees ts p qfi=true then 6 else if sees ts p jal=true then 7 else 8
def sumC (p:Ps):Bool:=sees ts p jak || sees ts p qet
def sumS (p:Ps):Int:=if sees ts p jak=true then 4 else 5
def qca (part:Ps→Tr × Ps) (p:Ps):Tr × Ps:=qal part (qds ts) (qii ts) ts.length (part p).1 (part p).2
def sumF (part:Ps→Tr × Ps) (p:Ps):Tr × Ps:=qal (qca ts part) (sumC ts) (sumS ts) ts.length (qca ts part p).1 (qca ts part p).2
def qbx (part:Ps→Tr × Ps) (p:Ps):Tr × Ps:=qlb ts (sumF ts part) sLt 3 p
def qdg (part:Ps→Tr × Ps) (p:Ps):Tr × Ps:=qlb ts (qbx ts part) sEq2 2 p
def andF (part:Ps→Tr × Ps) (p:Ps):Tr × Ps:=qal (qdg ts part) (fun p=>sees ts p qna) (fun _=>1) ts.length (qdg ts part p).1 (qdg ts part p).2
def qdt (part:Ps→Tr × Ps) (p:Ps):Tr × Ps:=qal (andF ts part) (fun p=>sees ts p sOr2) (fun _=>0) ts.length (andF ts part p).1 (andF ts part p).2
def ifOk (f:Ps→Tr × Ps) (p:Ps):List Tr × Ps:=if p.err=0 then ([(f p).1],(f p).2) else ([],p)
def qah:Nat→Ps→Tr × Ps
 | 0,p=>(.none,p)
 | n+1,p=>
  let a:=(tk ts p).pos
  if p.err=0∧(tk ts p).kind=1 then (.mk 17 [] [numN ts p] a [],numP ts p)
  else if sees ts p kLen=true then (.mk 19 [ju ts (adv p)] [] a [],qe ts (adv p))
  else if sees ts p qet=true∨sees ts p qqa=true then
   (.mk (if sees ts p qet=true then 20 else 21) [] [] a (ifOk (qah n) (inP ts (adv p))).1,outP (ifOk (qah n) (inP ts (adv p))).2)
  else if sees ts p sLp=true then
   ((if (inP ts (adv p)).err=0 then (qdt ts (qah n) (inP ts (adv p))).1 else .mk 17 [] [] a []),
    must ts (outP (if (inP ts (adv p)).err=0 then (qdt ts (qah n) (inP ts (adv p))).2 else inP ts (adv p))) sRp)
  else (.mk 18 [ju ts p] [] a [],qe ts p)
def eF (p:Ps):Tr × Ps:=qdt ts (qah ts ts.length) p
def je (stat:Ps→Tr × Ps):Nat→List Tr→Ps→List Tr × Ps
 | 0,l,p=>(l,p)
 | n+1,l,p=>if p.err=0 then (if sees ts p sRc=true then (l,adv p) else je stat n (l++[(stat p).1]) (stat p).2) else (l,p)
def qp (stat:Ps→Tr × Ps) (p:Ps):Tr × Ps:=
 (.mk 16 [] [] (tk ts p).pos (je ts stat ts.length [] (inP ts (must ts p sLc))).1,outP (je ts stat ts.length [] (inP ts (must ts p sLc))).2)
def orL (blk:Ps→Tr × Ps):Nat→List Tr→Ps→List Tr × Ps
 | 0,l,p=>(l,p)
 | n+1,l,p=>if sees ts p kOr=true then orL blk n (l++[(blk (adv p)).1]) (blk (adv p)).2 else (l,p)
def qdh (blk:Ps→Tr × Ps) (a idle:Int) (p:Ps):Tr × Ps:=
 if sees ts p qdf=true then
  (.mk 8 [ju ts (adv p),ju ts (qe ts (adv p))] [idle] a [],must ts (qe ts (qe ts (adv p))) qo)
 else if sees ts p qes=true then (.mk 9 [] [idle] a [(eF ts (adv p)).1],must ts (eF ts (adv p)).2 qo)
 else
  let q:=must ts p ja
  let r:=orL ts blk ts.length [(blk q).1] (blk q).2
  (.mk 10 [] [idle] a r.1,r.2)
def qc:Nat→Ps→Tr × Ps
 | 0,p=>(.none,p)
 | n+1,p=>
  let a:=(tk ts p).pos
  let blk:=qp ts (qc n)
  if sees ts p qdr=true∨sees ts p qdf=true∨sees ts p qes=true∨sees ts p ja=true then qdh ts blk a (qge ts p qdr) (took ts p qdr)
  else if sees ts p qmu=true then
   (.mk 7 [ju ts (adv p)] [] a [(eF ts (qe ts (adv p))).1],must ts (eF ts (qe ts (adv p))).2 qo)
  else if sees ts p kIf=true then
   let e:=eF ts (adv p)
   let b:=blk e.2
   if sees ts b.2 qmv=true then (.mk 11 [] [] a [e.1,b.1,(blk (adv b.2)).1],(blk (adv b.2)).2) else (.mk 11 [] [] a [e.1,b.1],b.2)
  else if sees ts p qmw=true then
   let e:=eF ts (adv p)
   (.mk 12 [] [] a [e.1,(blk e.2).1],(blk e.2).2)
  else if sees ts p qmx=true then (.mk 13 [] [] a [(blk (adv p)).1],(blk (adv p)).2)
  else if sees ts p qmy=true then (.mk 14 [] [] a [],must ts (adv p) qo)
  else if sees ts p qmz=true then (.mk 15 [] [] a [],must ts (adv p) qo)
  else
   let q:=must ts (qe ts p) sEq
   (.mk 6 [ju ts p] [] a [(eF ts q).1],must ts (eF ts q).2 qo)
def sF (p:Ps):Tr × Ps:=qc ts ts.length p
def jn (p:Ps):Tr × Ps:=
 let w:=qe ts (must ts p kVar)
 let q:=must ts w kOf
 let r:=numP ts q
 let v:=if sees ts r sEq=true then (if sees ts (adv r) qet=true then (0 - numN ts (adv (adv r)),numP ts (adv (adv r))) else (numN ts (adv r),numP ts (adv r))) else (0,r)
 (.mk 2 [ju ts (must ts p kVar)] [numN ts q,v.1] (tk ts p).pos [],must ts v.2 qo)
def qbp:Nat→List Tr→Ps→List Tr × Ps
 | 0,l,p=>(l,p)
 | n+1,l,p=>if sees ts p kVar=true then qbp n (l++[(jn ts p).1]) (jn ts p).2 else (l,p)
def qdi (p:Ps):Tr × Ps:=
 let q:=qe ts (must ts p qu)
 let c:=if sees ts q qfi=true then (numN ts (adv q),numP ts (adv q)) else (1,q)
 let r:=must ts c.2 sLc
 let v:=qbp ts ts.length [] r
 let s:=je ts (sF ts) ts.length v.1 (inP ts v.2)
 (.mk 3 [ju ts (must ts p qu)] [c.1] (tk ts p).pos s.1,outP s.2)
def itemF (p:Ps):Tr × Ps:=
 let a:=(tk ts p).pos
 if sees ts p kVar=true then jn ts p
 else if sees ts p qu=true then qdi ts p
 else if sees ts p qms=true then
  let q:=must ts (qe ts (adv p)) sLb
  let r:=must ts (must ts (numP ts q) sRb) kOf
  let u:=took ts (numP ts r) qhe
  (.mk 1 [ju ts (adv p)] [numN ts q,numN ts r,qge ts (numP ts r) qhe,qge ts u qih] a [],must ts (took ts u qih) qo)
 else if sees ts p qmt=true then (.mk 4 [] [] a [(eF ts (adv p)).1],must ts (eF ts (adv p)).2 qo)
 else (.mk 5 [] [] a [],must ts (must ts p qla) qo)
def qdj:Nat→List Tr→Ps→List Tr × Ps
 | 0,l,p=>(l,p)
 | n+1,l,p=>if p.err=0∧(tk ts p).kind≠3 then qdj n (l++[(itemF ts p).1]) (itemF ts p).2 else (l,p)
def qci (p:Ps):Tr × Ps:=
 (.mk 0 [] [] (tk ts p).pos (qdj ts ts.length [] p).1,(qdj ts ts.length [] p).2)
end
mutual
def Tr.cellsA:Tr→List AV
 | .mk k w n a l=>[iv k,strs w,ints n,.nils,iv a,.slc 6 l.length fun i=>(Tr.cellsL l).getD i []]
def Tr.cellsL:List Tr→List (List AV)
 | []=>[]
 | t::r=>t.cellsA::Tr.cellsL r
end
def qlc (l:List Tr):AV:=.slc 6 l.length fun i=>(Tr.cellsL l).getD i []
def Tr.cells (t:Tr):List AV:=[iv t.kind,strs t.words,ints t.nums,.nils,iv t.at_,qlc t.l]
def Tr.av (t:Tr):AV:=.agg t.cells
theorem Tr.cellsA_eq (t:Tr):t.cellsA=t.cells:=by cases t;rfl
theorem Tr.cellsL_get:∀ (l:List Tr) (i:Nat),i<l.length→(Tr.cellsL l).getD i []=(l.getD i Tr.none).cells
 | [],i,h=>absurd h (Nat.not_lt_zero i)
 | t::r,0,_=>by rw [Tr.cellsL];exact t.cellsA_eq
 | t::r,i+1,h=>by
  have:=Tr.cellsL_get r i (by simpa using h)
  rw [Tr.cellsL]
  simpa using this
mutual
def Tr.size:Tr→Nat
 | .mk _ _ _ _ l=>1+Tr.sizeL l
def Tr.sizeL:List Tr→Nat
 | []=>0
 | t::r=>t.size+Tr.sizeL r
end
def jj:Nat→List Tr→List Int
 | _,[]=>[]
 | n,t::r=>(n:Int)::jj (n+t.size) r
mutual
def layT:Nat→Tr→List Nd
 | n,.mk k w ns a l=>⟨k,w,ns,jj (n+1) l,a⟩::layL (n+1) l
def layL:Nat→List Tr→List Nd
 | _,[]=>[]
 | n,t::r=>layT n t++layL (n+t.size) r
end
mutual
def deepT:Tr→Int→Int
 | .mk _ _ _ a l,n=>if 20<n then a else deepL l n
def deepL:List Tr→Int→Int
 | [],_=>-1
 | t::r,n=>if 0≤deepT t (n+1) then deepT t (n+1) else deepL r n
end
def qnb (ts:List Lx.Tok):List Nd × (Int × Int):=
 let r:=qci ts ⟨0,0,0,0⟩
 if r.2.err≠0 then ([],(r.2.err,r.2.fat))
 else if 800<(layT 0 r.1).length then ([],(12,0))
 else if 0≤deepT r.1 1 then ([],(12,deepT r.1 1))
 else (layT 0 r.1,(0,0))
def qnc (s:List UInt8):List Nd × (Int × Int):=if (Lx.lexAll s).2.1≠0 then ([],(Lx.lexAll s).2) else qnb (Lx.lexAll s).1
def jnr (r:List Nd × (Int × Int)):AV:=.tup [jl r.1,flt r.2.1 r.2.2]
end Pa
end Go.Proofs.YtcfllgdfhfcicaaGreatDoor
end
section
namespace Go.Proofs.YtcfllgdfhfcicaaGreatDoor
namespace Pa
open Go Go.Sx
structure ToksOk (ts:List Lx.Tok):Prop where
 len:ts.length≤5000
 last:∀ i,i<ts.length→((ts.getD i Lx.tok0).kind=3↔i+1=ts.length)
 num:∀ t∈ts,t.kind=1→t.s.length≤6∧∀ b∈t.s,48≤b.toNat∧b.toNat≤57
structure AtOk (ts:List Lx.Tok) (p:Ps):Prop where
 lo:0≤p.at_
 hi:p.at_<ts.length
structure Step (ts:List Lx.Tok) (p q:Ps):Prop where
 le:p.at_≤q.at_
 hi:q.at_<ts.length
 deep:q.deep=p.deep
 err:p.err≠0→q=p
theorem jam (s:List UInt8) (b:UInt8):qgd (s++[b])=10 * qgd s+((b.toNat:Int) - 48):=by
 unfold qgd;rw [List.foldl_append];rfl
theorem qts {s:List UInt8} (h:∀ b∈s,48≤b.toNat∧b.toNat≤57):∀ i,i≤s.length→0≤qgd (s.take i)∧qgd (s.take i)<10 ^ i
 | 0,_=>by simp [qgd]
 | i+1,hi=>by
  have h1:=qts h i (by omega)
  rw [List.take_succ_eq_append_getElem (by omega),jam,Int.pow_succ]
  have h2:=h _ (List.getElem_mem (by omega:i<s.length))
  omega
section
variable {ts:List Lx.Tok} {p q r:Ps}
theorem jan (h:AtOk ts p):tk ts p∈ts:=by
 have h0:=h.lo
 have h1:=h.hi
 unfold tk
 rw [List.getD_eq_getElem?_getD,List.getElem?_eq_getElem (by omega)]
 exact List.getElem_mem _
theorem AtOk.refl (h:AtOk ts p):Step ts p p:=⟨Int.le_refl _,h.hi,rfl,fun _=>rfl⟩
theorem Step.trans (h:Step ts p q) (k:Step ts q r):Step ts p r:=
 ⟨Int.le_trans h.le k.le,k.hi,k.deep.trans h.deep,fun e=>by have:=h.err e;subst this;exact k.err e⟩
theorem Step.ok (h:AtOk ts p) (k:Step ts p q):AtOk ts q:=⟨Int.le_trans h.lo k.le,k.hi⟩
theorem jns {s:List UInt8} (h:sees ts p s=true):p.err=0:=by
 unfold sees at h
 simp only [Bool.and_eq_true,beq_iff_eq] at h
 exact h.1
theorem jnt {s:List UInt8} (h:sees ts p s=true):(tk ts p).kind=2∨(tk ts p).kind=0:=by
 unfold sees qtr at h
 simp only [Bool.and_eq_true,Bool.or_eq_true,beq_iff_eq] at h
 rcases h.2.2 with h|h
 ·exact .inl h
 ·exact .inr h.1
theorem jnu (h:qhf ts p=true):p.err=0:=by
 unfold qhf at h;simp only [Bool.and_eq_true,beq_iff_eq] at h;exact h.2
theorem jnv (h:qgc ts p=true):p.err=0:=by
 unfold qgc at h;simp only [Bool.and_eq_true,beq_iff_eq] at h;exact h.2
variable (ht:ToksOk ts)
include ht
theorem jnw (h:AtOk ts p) (hk:(tk ts p).kind≠3):p.at_+1<ts.length:=by
 have h0:=h.lo
 have h1:=h.hi
 have h2:=ht.last p.at_.toNat (by omega)
 have h3:¬ (p.at_.toNat+1=ts.length):=fun e=>hk (h2.2 e)
 omega
theorem qtt (h:AtOk ts p) (hk:(tk ts p).kind≠3) (he:p.err=0):Step ts p (adv p):=
 ⟨by show p.at_≤p.at_+1;omega,jnw ht h hk,rfl,fun e=>absurd he e⟩
theorem qg (h:AtOk ts p) {s:List UInt8} (hs:sees ts p s=true):Step ts p (adv p):=
 qtt ht h (by have:=jnt hs;omega) (jns hs)
omit ht in
theorem qtu (h:AtOk ts p) (e:Int):Step ts p (bad ts p e):=by
 unfold bad
 split
 ·rename_i he
  exact ⟨Int.le_refl _,h.hi,rfl,fun e=>absurd he e⟩
 ·exact h.refl
theorem qhg (h:AtOk ts p) (s:List UInt8):Step ts p (took ts p s):=by
 unfold took
 split
 ·exact qg ht h (by assumption)
 ·exact h.refl
theorem qi (h:AtOk ts p) (s:List UInt8):Step ts p (must ts p s):=by
 unfold must
 split
 ·exact qg ht h (by assumption)
 ·exact qtu h 11
theorem qai (h:AtOk ts p):Step ts p (qe ts p):=by
 unfold qe
 split
 ·rename_i hn
  refine qtt ht h ?_ (jnu hn)
  unfold qhf at hn
  simp only [Bool.and_eq_true,beq_iff_eq] at hn
  omega
 ·exact qtu h 11
theorem qbf (h:AtOk ts p):Step ts p (numP ts p):=by
 unfold numP
 split
 ·rename_i hn
  refine qtt ht h ?_ (jnv hn)
  unfold qgc at hn
  simp only [Bool.and_eq_true,beq_iff_eq] at hn
  omega
 ·exact qtu h 11
abbrev Runs (ts:List Lx.Tok) (f:Ps→Tr × Ps):Prop:=∀ p,AtOk ts p→Step ts p (f p).2
theorem qjl {f:Ps→Tr × Ps} (hf:Runs ts f) {c:Ps→Bool} {sg:Ps→Int} (hc:∀ p,c p=true→∃ s,sees ts p s=true):∀ (n:Nat) (a:Tr) (p:Ps),AtOk ts p→Step ts p (qal f c sg n a p).2
 | 0,a,p,h=>h.refl
 | n+1,a,p,h=>by
  rw [qal]
  split
  ·rename_i hcp
   obtain ⟨s,hs⟩:=hc p hcp
   have h1:=qg ht h hs
   have h2:=hf _ (h1.ok h)
   exact h1.trans (h2.trans (qjl hf hc n _ _ (h2.ok (h1.ok h))))
  ·exact h.refl
theorem jao {f:Ps→Tr × Ps} (hf:Runs ts f) (s:List UInt8) (sg:Int):Runs ts (qlb ts f s sg):=fun p h=>by
 have h1:=hf p h
 unfold qlb
 split
 ·rename_i hs
  have h2:=qg ht (h1.ok h) hs
  exact h1.trans (h2.trans (hf _ (h2.ok (h1.ok h))))
 ·exact h1
omit ht in
theorem jap {p:Ps} (h:qds ts p=true):∃ s,sees ts p s=true:=by
 unfold qds at h
 simp only [Bool.or_eq_true] at h
 rcases h with h|h|h <;> exact ⟨_,h⟩
omit ht in
theorem jaq {p:Ps} (h:sumC ts p=true):∃ s,sees ts p s=true:=by
 unfold sumC at h
 simp only [Bool.or_eq_true] at h
 rcases h with h|h <;> exact ⟨_,h⟩
section
variable {part:Ps→Tr × Ps} (hp:Runs ts part)
include hp
theorem qnd:Runs ts (qca ts part):=fun p h=>(hp p h).trans (qjl ht hp (fun _=>jap) _ _ _ ((hp p h).ok h))
theorem qtv:Runs ts (sumF ts part):=fun p h=>(qnd ht hp p h).trans (qjl ht (qnd ht hp) (fun _=>jaq) _ _ _ ((qnd ht hp p h).ok h))
theorem qtw:Runs ts (qbx ts part):=jao ht (qtv ht hp) _ _
theorem qne:Runs ts (qdg ts part):=jao ht (qtw ht hp) _ _
theorem qnf:Runs ts (andF ts part):=fun p h=>(qne ht hp p h).trans (qjl ht (qne ht hp) (fun _ h=>⟨_,h⟩) _ _ _ ((qne ht hp p h).ok h))
theorem qqb:Runs ts (qdt ts part):=fun p h=>(qnf ht hp p h).trans (qjl ht (qnf ht hp) (fun _ h=>⟨_,h⟩) _ _ _ ((qnf ht hp p h).ok h))
end
omit ht in
theorem qcj (h:AtOk ts p):AtOk ts (inP ts p)∧(inP ts p).at_=p.at_∧(inP ts p).deep=p.deep+1∧(p.err≠0→(inP ts p).err=p.err∧(inP ts p).fat=p.fat):=by
 unfold inP
 split
 ·unfold bad
  split
  ·rename_i he
   exact ⟨⟨h.lo,h.hi⟩,rfl,rfl,fun e=>absurd he e⟩
  ·exact ⟨⟨h.lo,h.hi⟩,rfl,rfl,fun _=>⟨rfl,rfl⟩⟩
 ·exact ⟨⟨h.lo,h.hi⟩,rfl,rfl,fun _=>⟨rfl,rfl⟩⟩
omit ht in
theorem qij (h:AtOk ts p) (hs:Step ts (inP ts p) q):Step ts p (outP q):=by
 obtain ⟨h1,h2,h3,h4⟩:=qcj h
 refine ⟨by have:=hs.le;show p.at_≤q.at_;omega,hs.hi,by have:=hs.deep;show q.deep - 1=p.deep;omega,fun e=>?_⟩
 have h5:=h4 e
 have h6:=hs.err (by rw [h5.1];exact e)
 subst h6
 show ({ (inP ts p) with deep:=(inP ts p).deep - 1 }:Ps)=p
 rw [h3]
 cases p
 simp only [Ps.mk.injEq]
 exact ⟨h2,by simp,h5.1,h5.2⟩
omit ht in
theorem jnx {f:Ps→Tr × Ps} (hf:Runs ts f) (h:AtOk ts p):Step ts p (ifOk f p).2:=by
 unfold ifOk
 split
 ·exact hf p h
 ·exact h.refl
theorem qfj:∀ n,Runs ts (qah ts n)
 | 0=>fun p h=>h.refl
 | n+1=>fun p h=>by
  unfold qah
  simp only
  split
  ·exact qbf ht h
  split
  ·rename_i hs
   have h1:=qg ht h hs
   exact h1.trans (qai ht (h1.ok h))
  split
  ·rename_i hs
   have h1:Step ts p (adv p):=by rcases hs with hs|hs <;> exact qg ht h hs
   exact h1.trans (qij (h1.ok h) (jnx (qfj n) (qcj (h1.ok h)).1))
  split
  ·rename_i hs
   have h1:=qg ht h hs
   have h2:=(qcj (h1.ok h)).1
   have h3:Step ts (adv p) (outP (if (inP ts (adv p)).err=0 then (qdt ts (qah ts n) (inP ts (adv p))).2 else inP ts (adv p))):=by
    refine qij (h1.ok h) ?_
    split
    ·exact qqb ht (qfj n) _ h2
    ·exact h2.refl
   exact h1.trans (h3.trans (qi ht (h3.ok (h1.ok h)) _))
  ·exact qai ht h
theorem qay:Runs ts (eF ts):=qqb ht (qfj ht _)
section
variable {stat:Ps→Tr × Ps} (hs:Runs ts stat)
include hs
theorem qgf:∀ (n:Nat) (l:List Tr) (p:Ps),AtOk ts p→Step ts p (je ts stat n l p).2
 | 0,l,p,h=>h.refl
 | n+1,l,p,h=>by
  rw [je]
  split
  ·split
   ·exact qg ht h (by assumption)
   ·exact (hs p h).trans (qgf n _ _ ((hs p h).ok h))
  ·exact h.refl
theorem qqc:Runs ts (qp ts stat):=fun p h=>by
 have h1:=qi ht h sLc
 exact h1.trans (qij (h1.ok h) (qgf ht hs _ _ _ (qcj (h1.ok h)).1))
end
theorem qng {blk:Ps→Tr × Ps} (hb:Runs ts blk):∀ (n:Nat) (l:List Tr) (p:Ps),AtOk ts p→Step ts p (orL ts blk n l p).2
 | 0,l,p,h=>h.refl
 | n+1,l,p,h=>by
  rw [orL]
  split
  ·have h1:=qg ht h (by assumption)
   have h2:=hb _ (h1.ok h)
   exact h1.trans (h2.trans (qng hb n _ _ (h2.ok (h1.ok h))))
  ·exact h.refl
theorem jny {blk:Ps→Tr × Ps} (hb:Runs ts blk) (a i:Int):Runs ts (qdh ts blk a i):=fun p h=>by
 unfold qdh
 split
 ·have h1:=qg ht h (by assumption)
  have h2:=qai ht (h1.ok h)
  have h3:=qai ht (h2.ok (h1.ok h))
  exact h1.trans (h2.trans (h3.trans (qi ht (h3.ok (h2.ok (h1.ok h))) _)))
 split
 ·have h1:=qg ht h (by assumption)
  have h2:=qay ht _ (h1.ok h)
  exact h1.trans (h2.trans (qi ht (h2.ok (h1.ok h)) _))
 ·have h1:=qi ht h ja
  have h2:=hb _ (h1.ok h)
  exact h1.trans (h2.trans (qng ht hb _ _ _ (h2.ok (h1.ok h))))
theorem qjm:∀ n,Runs ts (qc ts n)
 | 0=>fun p h=>h.refl
 | n+1=>fun p h=>by
  have hb:=qqc ht (qjm n)
  unfold qc
  simp only
  split
  ·have h1:=qhg ht h qdr
   exact h1.trans (jny ht hb _ _ _ (h1.ok h))
  split
  ·have h1:=qg ht h (by assumption)
   have h2:=qai ht (h1.ok h)
   have h3:=qay ht _ (h2.ok (h1.ok h))
   exact h1.trans (h2.trans (h3.trans (qi ht (h3.ok (h2.ok (h1.ok h))) _)))
  split
  ·have h1:=qg ht h (by assumption)
   have h2:=qay ht _ (h1.ok h)
   have h3:=hb _ (h2.ok (h1.ok h))
   have h4:=h1.trans (h2.trans h3)
   split
   ·have h5:=qg ht (h4.ok h) (by assumption)
    exact h4.trans (h5.trans (hb _ (h5.ok (h4.ok h))))
   ·exact h4
  split
  ·have h1:=qg ht h (by assumption)
   have h2:=qay ht _ (h1.ok h)
   exact h1.trans (h2.trans (hb _ (h2.ok (h1.ok h))))
  split
  ·have h1:=qg ht h (by assumption)
   exact h1.trans (hb _ (h1.ok h))
  split
  ·have h1:=qg ht h (by assumption)
   exact h1.trans (qi ht (h1.ok h) _)
  split
  ·have h1:=qg ht h (by assumption)
   exact h1.trans (qi ht (h1.ok h) _)
  ·have h1:=qai ht h
   have h2:=qi ht (h1.ok h) sEq
   have h3:=qay ht _ (h2.ok (h1.ok h))
   exact h1.trans (h2.trans (h3.trans (qi ht (h3.ok (h2.ok (h1.ok h))) _)))
theorem qik:Runs ts (sF ts):=qjm ht _
theorem qld:Runs ts (jn ts):=fun p h=>by
 unfold jn
 simp only
 have h1:=qi ht h kVar
 have h2:=qai ht (h1.ok h)
 have h3:=h1.trans h2
 have h4:=h3.trans (qi ht (h3.ok h) kOf)
 have h5:=h4.trans (qbf ht (h4.ok h))
 split
 ·have h6:=h5.trans (qg ht (h5.ok h) (by assumption))
  split
  ·have h7:=h6.trans (qg ht (h6.ok h) (by assumption))
   have h8:=h7.trans (qbf ht (h7.ok h))
   exact h8.trans (qi ht (h8.ok h) _)
  ·have h8:=h6.trans (qbf ht (h6.ok h))
   exact h8.trans (qi ht (h8.ok h) _)
 ·exact h5.trans (qi ht (h5.ok h) _)
theorem qnh:∀ (n:Nat) (l:List Tr) (p:Ps),AtOk ts p→Step ts p (qbp ts n l p).2
 | 0,l,p,h=>h.refl
 | n+1,l,p,h=>by
  rw [qbp]
  split
  ·have h2:=qld ht _ h
   exact h2.trans (qnh n _ _ (h2.ok h))
  ·exact h.refl
theorem jnz:Runs ts (qdi ts):=fun p h=>by
 unfold qdi
 simp only
 have h1:=qi ht h qu
 have h3:=h1.trans (qai ht (h1.ok h))
 have h4:Step ts p (if sees ts (qe ts (must ts p qu)) qfi=true then (numN ts (adv (qe ts (must ts p qu))),numP ts (adv (qe ts (must ts p qu)))) else (1,qe ts (must ts p qu))).2:=by
  split
  ·have h5:=h3.trans (qg ht (h3.ok h) (by assumption))
   exact h5.trans (qbf ht (h5.ok h))
  ·exact h3
 have h5:=h4.trans (qi ht (h4.ok h) sLc)
 have h6:=h5.trans (qnh ht ts.length [] _ (h5.ok h))
 exact h6.trans (qij (h6.ok h) (qgf ht (qik ht) _ _ _ (qcj (h6.ok h)).1))
theorem qtx:Runs ts (itemF ts):=fun p h=>by
 unfold itemF
 simp only
 split
 ·exact qld ht _ h
 split
 ·exact jnz ht _ h
 split
 ·have h1:=qg ht h (by assumption)
  have h2:=h1.trans (qai ht (h1.ok h))
  have h3:=h2.trans (qi ht (h2.ok h) sLb)
  have h4:=h3.trans (qbf ht (h3.ok h))
  have h5:=h4.trans (qi ht (h4.ok h) sRb)
  have h6:=h5.trans (qi ht (h5.ok h) kOf)
  have h7:=h6.trans (qbf ht (h6.ok h))
  have h8:=h7.trans (qhg ht (h7.ok h) qhe)
  have h9:=h8.trans (qhg ht (h8.ok h) qih)
  exact h9.trans (qi ht (h9.ok h) _)
 split
 ·have h1:=qg ht h (by assumption)
  have h2:=h1.trans (qay ht _ (h1.ok h))
  exact h2.trans (qi ht (h2.ok h) _)
 ·have h1:=qi ht h qla
  exact h1.trans (qi ht (h1.ok h) _)
theorem qty:∀ (n:Nat) (l:List Tr) (p:Ps),AtOk ts p→Step ts p (qdj ts n l p).2
 | 0,l,p,h=>h.refl
 | n+1,l,p,h=>by
  rw [qdj]
  split
  ·have h2:=qtx ht _ h
   exact h2.trans (qty n _ _ (h2.ok h))
  ·exact h.refl
end
end Pa
end Go.Proofs.YtcfllgdfhfcicaaGreatDoor
end
