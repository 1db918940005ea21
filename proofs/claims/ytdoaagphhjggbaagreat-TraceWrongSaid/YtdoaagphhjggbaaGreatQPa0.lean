/- The document's parser in plain Lean: which tree a text is, or its first fault. Nothing of the program. -/
import Derived.Test.YtdoaagphhjggbaaGreatQLexPlain
import Derived.Test.YtdoaagphhjggbaaGreatQ4
import Derived.Test.YtdoaagphhjggbaaGreatQ2
namespace Go.Proofs.YtdoaagphhjggbaaGreat
namespace Pa
open Go Go.Sx
abbrev qnj : List UInt8 := [99, 104, 97, 110]
abbrev kOf : List UInt8 := [111, 102]
abbrev qhq : List UInt8 := [108, 111, 115, 115, 121]
abbrev qit : List UInt8 := [99, 111, 112, 121, 105, 110, 103]
abbrev kVar : List UInt8 := [118, 97, 114]
abbrev qz : List UInt8 := [112, 114, 111, 99]
abbrev qnk : List UInt8 := [115, 97, 102, 101]
abbrev qlp : List UInt8 := [100, 101, 97, 100, 108, 111, 99, 107]
abbrev qnl : List UInt8 := [115, 101, 110, 100]
abbrev qdj : List UInt8 := [114, 101, 99, 118]
abbrev qdy : List UInt8 := [105, 100, 108, 101]
abbrev qew : List UInt8 := [119, 104, 101, 110]
abbrev je : List UInt8 := [99, 104, 111, 111, 115, 101]
abbrev kOr : List UInt8 := [111, 114]
abbrev kIf : List UInt8 := [105, 102]
abbrev qnm : List UInt8 := [101, 108, 115, 101]
abbrev qnn : List UInt8 := [119, 104, 105, 108, 101]
abbrev qno : List UInt8 := [97, 116, 111, 109, 105, 99]
abbrev qnp : List UInt8 := [115, 107, 105, 112]
abbrev qnq : List UInt8 := [115, 116, 111, 112]
abbrev kLen : List UInt8 := [108, 101, 110]
abbrev sLb : List UInt8 := [91]
abbrev sRb : List UInt8 := [93]
abbrev sLc : List UInt8 := [123]
abbrev sRc : List UInt8 := [125]
abbrev sLp : List UInt8 := [40]
abbrev sRp : List UInt8 := [41]
abbrev qr : List UInt8 := [59]
abbrev sEq : List UInt8 := [61]
abbrev sLt : List UInt8 := [60]
abbrev jae : List UInt8 := [43]
abbrev qex : List UInt8 := [45]
abbrev qfq : List UInt8 := [42]
abbrev jaf : List UInt8 := [47]
abbrev sPct : List UInt8 := [37]
abbrev qqu : List UInt8 := [33]
abbrev sOr2 : List UInt8 := [124, 124]
abbrev qnr : List UInt8 := [38, 38]
abbrev sEq2 : List UInt8 := [61, 61]
inductive Tr where
 | mk (kind : Int) (words : List (List UInt8)) (nums : List Int) (at_ : Int) (l : List Tr)
def Tr.kind : Tr → Int | .mk k _ _ _ _ => k
def Tr.words : Tr → List (List UInt8) | .mk _ w _ _ _ => w
def Tr.nums : Tr → List Int | .mk _ _ n _ _ => n
def Tr.at_ : Tr → Int | .mk _ _ _ a _ => a
def Tr.l : Tr → List Tr | .mk _ _ _ _ l => l
def Tr.none : Tr := .mk 0 [] [] 0 []
structure Ps where
 at_ : Int
 deep : Int := 0
 err : Int := 0
 fat : Int := 0
section
variable (ts : List Lx.Tok)
def tk (p : Ps) : Lx.Tok := ts.getD p.at_.toNat Lx.tok0
def Ps.cells (p : Ps) : List AV := [Lx.toks ts, iv p.at_, iv p.deep, iv p.err, iv p.fat]
def quc (t : Lx.Tok) (s : List UInt8) : Bool := t.s == s && (t.kind == 2 || t.kind == 0 && Go.St.keyF s)
def sees (p : Ps) (s : List UInt8) : Bool := p.err == 0 && quc (tk ts p) s
def adv (p : Ps) : Ps := { p with at_ := p.at_ + 1 }
def bad (p : Ps) (e : Int) : Ps := if p.err = 0 then { p with err := e, fat := (tk ts p).pos } else p
def took (p : Ps) (s : List UInt8) : Ps := if sees ts p s = true then adv p else p
def must (p : Ps) (s : List UInt8) : Ps := if sees ts p s = true then adv p else bad ts p 11
def qhr (p : Ps) : Bool := (tk ts p).kind == 0 && Go.St.nameF (tk ts p).s && p.err == 0
def qac (p : Ps) : List UInt8 := if qhr ts p = true then (tk ts p).s else []
def qe (p : Ps) : Ps := if qhr ts p = true then adv p else bad ts p 11
def qgp (p : Ps) : Bool := (tk ts p).kind == 1 && p.err == 0
def qgq (s : List UInt8) : Int := s.foldl (fun n b => 10 * n + ((b.toNat : Int) - 48)) 0
def numN (p : Ps) : Int := if qgp ts p = true then qgq (tk ts p).s else 0
def numP (p : Ps) : Ps := if qgp ts p = true then adv p else bad ts p 11
def qgr (p : Ps) (s : List UInt8) : Int := if sees ts p s = true then 1 else 0
def inP (p : Ps) : Ps := if 200 < p.deep + 1 then bad ts { p with deep := p.deep + 1 } 12 else { p with deep := p.deep + 1 }
def outP (p : Ps) : Ps := { p with deep := p.deep - 1 }
def binT (sg : Int) (a b : Tr) : Tr := .mk 22 [] [sg] a.at_ [a, b]
def qar (f : Ps → Tr × Ps) (c : Ps → Bool) (sg : Ps → Int) : Nat → Tr → Ps → Tr × Ps
 | 0, a, p => (a, p)
 | n + 1, a, p => if c p = true then qar f c sg n (binT (sg p) a (f (adv p)).1) (f (adv p)).2 else (a, p)
def qlq (f : Ps → Tr × Ps) (s : List UInt8) (sg : Int) (p : Ps) : Tr × Ps :=
 if sees ts (f p).2 s = true then (binT sg (f p).1 (f (adv (f p).2)).1, (f (adv (f p).2)).2) else f p
def qdz (p : Ps) : Bool := sees ts p qfq || (sees ts p jaf || sees ts p sPct)
def qiu (p : Ps) : Int := if sees ts p qfq = true then 6 else if sees ts p jaf = true then 7 else 8
def sumC (p : Ps) : Bool := sees ts p jae || sees ts p qex
def sumS (p : Ps) : Int := if sees ts p jae = true then 4 else 5
def qce (part : Ps → Tr × Ps) (p : Ps) : Tr × Ps := qar part (qdz ts) (qiu ts) ts.length (part p).1 (part p).2
def sumF (part : Ps → Tr × Ps) (p : Ps) : Tr × Ps := qar (qce ts part) (sumC ts) (sumS ts) ts.length (qce ts part p).1 (qce ts part p).2
def qcb (part : Ps → Tr × Ps) (p : Ps) : Tr × Ps := qlq ts (sumF ts part) sLt 3 p
def qdk (part : Ps → Tr × Ps) (p : Ps) : Tr × Ps := qlq ts (qcb ts part) sEq2 2 p
def andF (part : Ps → Tr × Ps) (p : Ps) : Tr × Ps := qar (qdk ts part) (fun p => sees ts p qnr) (fun _ => 1) ts.length (qdk ts part p).1 (qdk ts part p).2
def qea (part : Ps → Tr × Ps) (p : Ps) : Tr × Ps := qar (andF ts part) (fun p => sees ts p sOr2) (fun _ => 0) ts.length (andF ts part p).1 (andF ts part p).2
def ifOk (f : Ps → Tr × Ps) (p : Ps) : List Tr × Ps := if p.err = 0 then ([(f p).1], (f p).2) else ([], p)
def qam : Nat → Ps → Tr × Ps
 | 0, p => (.none, p)
 | n + 1, p =>
  let a := (tk ts p).pos
  if p.err = 0 ∧ (tk ts p).kind = 1 then (.mk 17 [] [numN ts p] a [], numP ts p)
  else if sees ts p kLen = true then (.mk 19 [qac ts (adv p)] [] a [], qe ts (adv p))
  else if sees ts p qex = true ∨ sees ts p qqu = true then
   (.mk (if sees ts p qex = true then 20 else 21) [] [] a (ifOk (qam n) (inP ts (adv p))).1, outP (ifOk (qam n) (inP ts (adv p))).2)
  else if sees ts p sLp = true then
   ((if (inP ts (adv p)).err = 0 then (qea ts (qam n) (inP ts (adv p))).1 else .mk 17 [] [] a []),
    must ts (outP (if (inP ts (adv p)).err = 0 then (qea ts (qam n) (inP ts (adv p))).2 else inP ts (adv p))) sRp)
  else (.mk 18 [qac ts p] [] a [], qe ts p)
def eF (p : Ps) : Tr × Ps := qea ts (qam ts ts.length) p
def jj (stat : Ps → Tr × Ps) : Nat → List Tr → Ps → List Tr × Ps
 | 0, l, p => (l, p)
 | n + 1, l, p => if p.err = 0 then (if sees ts p sRc = true then (l, adv p) else jj stat n (l ++ [(stat p).1]) (stat p).2) else (l, p)
def qt (stat : Ps → Tr × Ps) (p : Ps) : Tr × Ps :=
 (.mk 16 [] [] (tk ts p).pos (jj ts stat ts.length [] (inP ts (must ts p sLc))).1, outP (jj ts stat ts.length [] (inP ts (must ts p sLc))).2)
def orL (blk : Ps → Tr × Ps) : Nat → List Tr → Ps → List Tr × Ps
 | 0, l, p => (l, p)
 | n + 1, l, p => if sees ts p kOr = true then orL blk n (l ++ [(blk (adv p)).1]) (blk (adv p)).2 else (l, p)
def qdl (blk : Ps → Tr × Ps) (a idle : Int) (p : Ps) : Tr × Ps :=
 if sees ts p qdj = true then
  (.mk 8 [qac ts (adv p), qac ts (qe ts (adv p))] [idle] a [], must ts (qe ts (qe ts (adv p))) qr)
 else if sees ts p qew = true then (.mk 9 [] [idle] a [(eF ts (adv p)).1], must ts (eF ts (adv p)).2 qr)
 else
  let q := must ts p je
  let r := orL ts blk ts.length [(blk q).1] (blk q).2
  (.mk 10 [] [idle] a r.1, r.2)
def qd : Nat → Ps → Tr × Ps
 | 0, p => (.none, p)
 | n + 1, p =>
  let a := (tk ts p).pos
  let blk := qt ts (qd n)
  if sees ts p qdy = true ∨ sees ts p qdj = true ∨ sees ts p qew = true ∨ sees ts p je = true then qdl ts blk a (qgr ts p qdy) (took ts p qdy)
  else if sees ts p qnl = true then
   (.mk 7 [qac ts (adv p)] [] a [(eF ts (qe ts (adv p))).1], must ts (eF ts (qe ts (adv p))).2 qr)
  else if sees ts p kIf = true then
   let e := eF ts (adv p)
   let b := blk e.2
   if sees ts b.2 qnm = true then (.mk 11 [] [] a [e.1, b.1, (blk (adv b.2)).1], (blk (adv b.2)).2) else (.mk 11 [] [] a [e.1, b.1], b.2)
  else if sees ts p qnn = true then
   let e := eF ts (adv p)
   (.mk 12 [] [] a [e.1, (blk e.2).1], (blk e.2).2)
  else if sees ts p qno = true then (.mk 13 [] [] a [(blk (adv p)).1], (blk (adv p)).2)
  else if sees ts p qnp = true then (.mk 14 [] [] a [], must ts (adv p) qr)
  else if sees ts p qnq = true then (.mk 15 [] [] a [], must ts (adv p) qr)
  else
   let q := must ts (qe ts p) sEq
   (.mk 6 [qac ts p] [] a [(eF ts q).1], must ts (eF ts q).2 qr)
def sF (p : Ps) : Tr × Ps := qd ts ts.length p
def jt (p : Ps) : Tr × Ps :=
 let w := qe ts (must ts p kVar)
 let q := must ts w kOf
 let r := numP ts q
 let v := if sees ts r sEq = true then (if sees ts (adv r) qex = true then (0 - numN ts (adv (adv r)), numP ts (adv (adv r))) else (numN ts (adv r), numP ts (adv r))) else (0, r)
 (.mk 2 [qac ts (must ts p kVar)] [numN ts q, v.1] (tk ts p).pos [], must ts v.2 qr)
def qbr : Nat → List Tr → Ps → List Tr × Ps
 | 0, l, p => (l, p)
 | n + 1, l, p => if sees ts p kVar = true then qbr n (l ++ [(jt ts p).1]) (jt ts p).2 else (l, p)
def qdm (p : Ps) : Tr × Ps :=
 let q := qe ts (must ts p qz)
 let c := if sees ts q qfq = true then (numN ts (adv q), numP ts (adv q)) else (1, q)
 let r := must ts c.2 sLc
 let v := qbr ts ts.length [] r
 let s := jj ts (sF ts) ts.length v.1 (inP ts v.2)
 (.mk 3 [qac ts (must ts p qz)] [c.1] (tk ts p).pos s.1, outP s.2)
def itemF (p : Ps) : Tr × Ps :=
 let a := (tk ts p).pos
 if sees ts p kVar = true then jt ts p
 else if sees ts p qz = true then qdm ts p
 else if sees ts p qnj = true then
  let q := must ts (qe ts (adv p)) sLb
  let r := must ts (must ts (numP ts q) sRb) kOf
  let u := took ts (numP ts r) qhq
  (.mk 1 [qac ts (adv p)] [numN ts q, numN ts r, qgr ts (numP ts r) qhq, qgr ts u qit] a [], must ts (took ts u qit) qr)
 else if sees ts p qnk = true then (.mk 4 [] [] a [(eF ts (adv p)).1], must ts (eF ts (adv p)).2 qr)
 else (.mk 5 [] [] a [], must ts (must ts p qlp) qr)
def qdn : Nat → List Tr → Ps → List Tr × Ps
 | 0, l, p => (l, p)
 | n + 1, l, p => if p.err = 0 ∧ (tk ts p).kind ≠ 3 then qdn n (l ++ [(itemF ts p).1]) (itemF ts p).2 else (l, p)
def qcp (p : Ps) : Tr × Ps :=
 (.mk 0 [] [] (tk ts p).pos (qdn ts ts.length [] p).1, (qdn ts ts.length [] p).2)
end
mutual
def Tr.cellsA : Tr → List AV
 | .mk k w n a l => [iv k, strs w, ints n, .nils, iv a, .slc 6 l.length fun i => (Tr.cellsL l).getD i []]
def Tr.cellsL : List Tr → List (List AV)
 | [] => []
 | t :: r => t.cellsA :: Tr.cellsL r
end
def qlr (l : List Tr) : AV := .slc 6 l.length fun i => (Tr.cellsL l).getD i []
def Tr.cells (t : Tr) : List AV := [iv t.kind, strs t.words, ints t.nums, .nils, iv t.at_, qlr t.l]
def Tr.av (t : Tr) : AV := .agg t.cells
theorem Tr.cellsA_eq (t : Tr) : t.cellsA = t.cells := by cases t; rfl
theorem Tr.cellsL_get : ∀ (l : List Tr) (i : Nat), i < l.length → (Tr.cellsL l).getD i [] = (l.getD i Tr.none).cells
 | [], i, h => absurd h (Nat.not_lt_zero i)
 | t :: r, 0, _ => by rw [Tr.cellsL]; exact t.cellsA_eq
 | t :: r, i + 1, h => by
  have := Tr.cellsL_get r i (by simpa using h)
  rw [Tr.cellsL]
  simpa using this
mutual
def Tr.size : Tr → Nat
 | .mk _ _ _ _ l => 1 + Tr.sizeL l
def Tr.sizeL : List Tr → Nat
 | [] => 0
 | t :: r => t.size + Tr.sizeL r
end
def jm : Nat → List Tr → List Int
 | _, [] => []
 | n, t :: r => (n : Int) :: jm (n + t.size) r
mutual
def layT : Nat → Tr → List Nd
 | n, .mk k w ns a l => ⟨k, w, ns, jm (n + 1) l, a⟩ :: layL (n + 1) l
def layL : Nat → List Tr → List Nd
 | _, [] => []
 | n, t :: r => layT n t ++ layL (n + t.size) r
end
mutual
def deepT : Tr → Int → Int
 | .mk _ _ _ a l, n => if 20 < n then a else deepL l n
def deepL : List Tr → Int → Int
 | [], _ => -1
 | t :: r, n => if 0 ≤ deepT t (n + 1) then deepT t (n + 1) else deepL r n
end
def qns (ts : List Lx.Tok) : List Nd × (Int × Int) :=
 let r := qcp ts ⟨0, 0, 0, 0⟩
 if r.2.err ≠ 0 then ([], (r.2.err, r.2.fat))
 else if 800 < (layT 0 r.1).length then ([], (12, 0))
 else if 0 ≤ deepT r.1 1 then ([], (12, deepT r.1 1))
 else (layT 0 r.1, (0, 0))
def qnt (s : List UInt8) : List Nd × (Int × Int) := if (Lx.lexAll s).2.1 ≠ 0 then ([], (Lx.lexAll s).2) else qns (Lx.lexAll s).1
def jmu (r : List Nd × (Int × Int)) : AV := .tup [jq r.1, flt r.2.1 r.2.2]
end Pa
end Go.Proofs.YtdoaagphhjggbaaGreat
