/- Some texts of the library, one behind the other. -/
import Derived.Test.YtdoaagphhjggbaaGreatQ20
import Derived.Test.YtdoaagphhjggbaaGreatQ2
section
/- Contracts: which trees are right: the whole; which are small. -/
namespace Go.Proofs.YtdoaagphhjggbaaGreat
open List renaming getD_eq_getElem?_getD → zd
open Go Go.Sx Go.RowKit Go.St
set_option maxRecDepth 100000
set_option maxHeartbeats 4000000
theorem qmk (l : List Nd) (hl : l.length ≤ 9223372036854775807) (hz : ∀ n ∈ l, NdSz n) : Con Tryz.prog 40 [jt l] (.bool (qhf l)) := by
 by_cases h0 : (decide (l.length = 0) || decide (800 < l.length) || (l.getD 0 Nd.none).kind != 0) = true
 ·have hr : qhf l = false := by unfold qhf; rw [h0]; rfl
  rw [hr]
  simp only [Bool.or_eq_true, decide_eq_true_eq, bne_iff_ne, ne_eq] at h0
  refine qd (T := tab Tryz.prog) (C := {}) 300 (fun _ => rfl) Tryz.func40 rfl (by kernel_rfl) (by kernel_rfl) (fun c0 rdb => ?_)
  (repeat' ((conv => whnf); first | refine zO ?_ | refine Ob.auto ?_ | (refine Ob.intro (by ((intro h; simp at h; have := List.length_pos_iff.2 h.1; exact ⟨by simp [h], by omega, by omega⟩))) ?_) | (refine zP 300 ?_) | (apply zB <;> intro hb <;> (try simp [-zd] at hb) <;> try (exfalso; omega)) | refine Ob.intro ?_ ?_))
  ·exact Le.refl _
  ·exfalso
   have := List.length_pos_iff.2 hb.1.1
   omega
 ·have h0' : (decide (l.length = 0) || decide (800 < l.length) || (l.getD 0 Nd.none).kind != 0) = false := by simpa using h0
  simp only [Bool.or_eq_true, decide_eq_true_eq, bne_iff_ne, ne_eq, not_or, Decidable.not_not] at h0
  have hr : qhf l = (((walkF l 20 0).2 && (walkF l 20 0).1 == l.length) && l.all (nodeB l)) := by unfold qhf; rw [h0']; rfl
  rw [hr]
  refine qd (T := tab Tryz.prog) (C := {}) 300 (fun _ => rfl) Tryz.func40 rfl (by kernel_rfl) (by kernel_rfl) (fun c0 rdb => ?_)
  (repeat' ((conv => whnf); first | refine zO ?_ | refine Ob.auto ?_ | refine zC 300 (qmj l hl hz 20 0 1 (by omega) (by omega) (by omega) (by omega)) ?_ | refine zG 300 (fun hg => qmj l hl hz 20 0 1 (by omega) (by omega) (by omega) (by omega)) ?_ | refine zX (qmj l hl hz 20 0 1 (by omega) (by omega) (by omega) (by omega)) ?_ | refine zY (fun hg => qmj l hl hz 20 0 1 (by omega) (by omega) (by omega) (by omega)) ?_ | refine zE 300 (qmj l hl hz 20 0 1 (by omega) (by omega) (by omega) (by omega)) ?_ | refine zF 300 (fun hg => qmj l hl hz 20 0 1 (by omega) (by omega) (by omega) (by omega)) ?_ | (refine zP 300 ?_) | (apply zB <;> intro hb <;> (try simp [-zd] at hb) <;> try (exfalso; omega)) | refine Ob.intro ?_ ?_))
  ·exfalso; rcases hb with (hb | hb) | hb
   ·rw [hb] at h0; simp at h0
   ·omega
   ·omega
  ·refine Le.of_eq (congrArg AV.bool ?_)
   rcases hb with hb | hb
   ·rw [hb]; rfl
   ·rw [show ((walkF l 20 0).1 == (l.length : Int)) = false from beq_eq_false_iff_ne.2 hb, Bool.and_false]; rfl
  ·have hw : ((walkF l 20 0).2 && (walkF l 20 0).1 == (l.length : Int)) = true := by rw [hb.1, hb.2]; simp
   have hk : ∀ j : Nat, j < l.length → ∀ k ∈ (l.getD j Nd.none).kids, 0 ≤ k ∧ k < l.length := fun j hj k hk => by
    have := (qal l 20 0 l.length (Int.le_refl _) (Prod.ext hb.2 hb.1)).2 j (by omega) (by omega) k hk
    omega
   ((conv => whnf); refine qp (fun _ => rfl) 300 1 (fun i : Nat => [(5, iv i)]) (fun _ => []) (fun i => i ≤ l.length ∧ ∀ j, j < i → nodeB l (l.getD j Nd.none) = true) (fun i => l.length - i) (0) (⟨by omega, fun j hj => absurd hj (Nat.not_lt_zero j)⟩) qa qa (fun _ => rfl) (by kernel_rfl) ?_; (conv => whnf))
   intro i hi
   (repeat' ((conv => whnf); first | refine zO ?_ | refine Ob.auto ?_ | refine zI ?_ | refine zC 300 (qmi l (l.getD i Nd.none) (hz _ (qj l i Nd.none (by omega))) (hk i (by omega))) ?_ | refine zG 300 (fun hg => qmi l (l.getD i Nd.none) (hz _ (qj l i Nd.none (by omega))) (hk i (by omega))) ?_ | refine zX (qmi l (l.getD i Nd.none) (hz _ (qj l i Nd.none (by omega))) (hk i (by omega))) ?_ | refine zY (fun hg => qmi l (l.getD i Nd.none) (hz _ (qj l i Nd.none (by omega))) (hk i (by omega))) ?_ | refine zE 300 (qmi l (l.getD i Nd.none) (hz _ (qj l i Nd.none (by omega))) (hk i (by omega))) ?_ | refine zF 300 (fun hg => qmi l (l.getD i Nd.none) (hz _ (qj l i Nd.none (by omega))) (hk i (by omega))) ?_ | (refine zP 300 ?_) | (apply zB <;> intro hb <;> (try simp [-zd] at hb) <;> try (exfalso; omega)) | refine Ob.intro ?_ ?_))
   ·refine Le.of_eq (congrArg AV.bool ?_)
    rw [hw, qoq (q := nodeB l) Nd.none (j := i) (by omega) hb]; rfl
   ·((conv => whnf); refine ⟨i + 1, ⟨by omega, qao hi.2 hb⟩, ⟨qa, qa⟩, ⟨qa, qa⟩, ?_⟩; (first | omega | (dsimp only; omega) | skip))
   ·refine Le.of_eq (congrArg AV.bool ?_)
    rw [hw, qop (q := nodeB l) Nd.none (fun j hj => hi.2 j (by omega))]; rfl
def qjh : List Nd → Int → Int
 | [], n => n
 | x :: r, n => if n ≤ 1500 then qjh r (IntKind.i64.wrap (IntKind.i64.wrap (IntKind.i64.wrap (n + x.words.length) + x.nums.length) + x.kids.length)) else n
theorem qml (l : List Nd) (hl : l.length ≤ 9223372036854775807) : Con Tryz.prog 39 [jt l] (.bool (decide (qjh l l.length ≤ 1500))) := by
 refine qd (T := tab Tryz.prog) (C := {wraps := [18, 19, 20, 21, 22, 23, 24, 25, 26, 27, 28, 29, 30, 31, 32, 33, 34, 35, 36, 37, 38]}) 300 (fun _ => rfl) Tryz.func39 rfl (by kernel_rfl) (by kernel_rfl) (fun c0 rdb => ?_)
 (repeat' ((conv => whnf); first | refine zO ?_ | refine Ob.auto ?_ | (refine zP 300 ?_) | (apply zB <;> intro hb <;> (try simp [-zd] at hb) <;> try (exfalso; omega)) | refine Ob.intro ?_ ?_))
 ((conv => whnf); refine qp (fun _ => rfl) 300 1 (fun g : Nat × Int => [(4, iv g.1), (3, iv g.2)]) (fun _ => []) (fun g => g.1 ≤ l.length ∧ qjh l l.length = qjh (l.drop g.1) g.2) (fun g => l.length - g.1) ((0, (l.length : Int))) (⟨by simp, rfl⟩) qa qa (fun _ => rfl) (by kernel_rfl) ?_; (conv => whnf))
 rintro ⟨i, n⟩ ⟨hi, hs⟩
 simp only at hi hs
 (repeat' ((conv => whnf); first | refine zO ?_ | refine Ob.auto ?_ | refine zI ?_ | (refine zP 300 ?_) | (apply zB <;> intro hb <;> (try simp [-zd] at hb) <;> try (exfalso; omega)) | refine Ob.intro ?_ ?_))
 ·rw [qkr l i Nd.none (by omega), qjh, if_pos (by omega)] at hs
  ((conv => whnf); refine ⟨(i + 1, IntKind.i64.wrap (IntKind.i64.wrap (IntKind.i64.wrap (n + (l.getD i Nd.none).words.length) + (l.getD i Nd.none).nums.length) + (l.getD i Nd.none).kids.length)), ⟨by simp only; omega, hs⟩, ⟨qa, qa⟩, ⟨qa, qa⟩, ?_⟩; (first | omega | (dsimp only; omega) | skip))
 ·refine Le.of_eq (congrArg AV.bool ?_)
  by_cases hl : i < l.length
  ·rw [qkr l i Nd.none (by omega), qjh, if_neg (by omega)] at hs
   rw [hs]
  ·obtain rfl : i = l.length := by omega
   rw [List.drop_length, qjh] at hs
   rw [hs]
end Go.Proofs.YtdoaagphhjggbaaGreat
end
section
/- Names, bounds and automata by the document's answer, in plain Lean. -/
namespace Go.St
open Go Go.Sx
def qt (l : List Nd) (i : Int) : Int := (l.getD i.toNat Nd.none).kind
def qba (at_ : Int) : List Int → Int → Int
 | [], o => o
 | k :: r, o => qba at_ r (if k ≤ at_ then k else o)
def itemF (l : List Nd) (at_ : Int) : Int := qba at_ (l.getD 0 Nd.none).kids 0
def inF (l : List (List UInt8)) (s : List UInt8) : Bool := l.any (· == s)
def qgd (n : Nd) : List UInt8 := n.words.getD 0 []
def qpl (l : List Nd) (item kind : Int) (out : List (List UInt8)) (i : Nat) : List (List UInt8) :=
 if (l.getD i Nd.none).kind = kind then
  (if (itemF l i == (i : Int) || itemF l i == item) = true then (if inF out (qgd (l.getD i Nd.none)) = true then out else out ++ [qgd (l.getD i Nd.none)]) else out)
 else out
def qge (l : List Nd) (item kind : Int) (i : Nat) : List (List UInt8) := (List.range i).foldl (qpl l item kind) []
def qaq (l : List Nd) (at_ : Int) (kind : Int) : List (List UInt8) := qge l (itemF l at_) kind at_.toNat
def badF (l : List Nd) (i : Nat) : Bool :=
 if (l.getD i Nd.none).kind = 1 ∨ (l.getD i Nd.none).kind = 2 ∨ (l.getD i Nd.none).kind = 3 then
  inF (qaq l i 1) (qgd (l.getD i Nd.none)) || inF (qaq l i 2) (qgd (l.getD i Nd.none)) || inF (qaq l i 3) (qgd (l.getD i Nd.none))
 else if (l.getD i Nd.none).kind = 6 ∨ (l.getD i Nd.none).kind = 18 then !inF (qaq l i 2) (qgd (l.getD i Nd.none))
 else if (l.getD i Nd.none).kind = 7 ∨ (l.getD i Nd.none).kind = 19 then !inF (qaq l i 1) (qgd (l.getD i Nd.none))
 else if (l.getD i Nd.none).kind = 8 then !inF (qaq l i 1) (qgd (l.getD i Nd.none)) || !inF (qaq l i 2) ((l.getD i Nd.none).words.getD 1 [])
 else false
def qih (l : List Nd) : Int × Int := if Go.St.idx (badF l) (List.range l.length) < 0 then (0, 0) else (20, (l.getD (Go.St.idx (badF l) (List.range l.length)).toNat Nd.none).at_)
def qgf (l : List Nd) (at_ : Int) : Int := if qt l (itemF l at_) = 3 then (l.getD (itemF l at_).toNat Nd.none).nums.getD 0 0 else 1
def qii (l : List Nd) (kind : Int) (n : Int) (i : Nat) : Int :=
 if n < 100 then (if (l.getD i Nd.none).kind = kind then (if kind = 1 then n + 1 else n + min (qgf l i) 100) else n) else n
def sumF (l : List Nd) (kind : Int) (i : Nat) : Int := (List.range i).foldl (qii l kind) 0
def qpm (l : List Nd) (at_ : Int) : Nat → Int → Bool
 | 0, _ => false
 | f + 1, a => (l.getD a.toNat Nd.none).kids.any fun k => k == at_ || qpm l at_ f k
def qbo (l : List Nd) (i : Nat) : Int :=
 if (l.getD i Nd.none).kind = 1 then
  (if ((l.getD i Nd.none).nums.getD 0 0 < 1 ∨ 3 < (l.getD i Nd.none).nums.getD 0 0) ∨ ((l.getD i Nd.none).nums.getD 1 0 < 1 ∨ 8 < (l.getD i Nd.none).nums.getD 1 0) ∨ 3 < sumF l 1 (i + 1) then 22 else 0)
 else if (l.getD i Nd.none).kind = 2 then
  (if ((l.getD i Nd.none).nums.getD 0 0 < 1 ∨ 8 < (l.getD i Nd.none).nums.getD 0 0) ∨ trim ((l.getD i Nd.none).nums.getD 1 0) ((l.getD i Nd.none).nums.getD 0 0) ≠ (l.getD i Nd.none).nums.getD 1 0 ∨ 8 < sumF l 2 (i + 1) then 22 else 0)
 else if (l.getD i Nd.none).kind = 3 then (if (l.getD i Nd.none).nums.getD 0 0 < 1 ∨ 4 < sumF l 3 (i + 1) then 22 else 0)
 else if (l.getD i Nd.none).kind = 13 then (if ((List.range i).any fun j => (l.getD j Nd.none).kind == 13 && qpm l i l.length j) = true then 21 else 0)
 else if (l.getD i Nd.none).kind = 17 then (if 127 < (l.getD i Nd.none).nums.getD 0 0 then 22 else 0)
 else 0
def qby (l : List Nd) : Int × Int :=
 if (qih l).1 ≠ 0 then qih l
 else if Go.St.idx (fun i => qbo l i != 0) (List.range l.length) < 0 then (0, 0)
 else (qbo l (Go.St.idx (fun i => qbo l i != 0) (List.range l.length)).toNat, (l.getD (Go.St.idx (fun i => qbo l i != 0) (List.range l.length)).toNat Nd.none).at_)
def qh (p : Pr) : Pr := { p with places := p.places + 1, rest := p.rest ++ [false] }
def putF (p : Pr) (frm to act node expr v c : Int) : Pr := { p with edges := p.edges ++ [⟨frm, to, act, expr, v, c, false, node⟩] }
def qcm (l : List (List UInt8)) (s : List UInt8) : Int := if Go.St.idx (· == s) l < 0 then 0 else Go.St.idx (· == s) l
def qab (p : Pr) (at_ idle : Int) : Pr := { p with rest := if idle = 1 then p.rest.set at_.toNat true else p.rest }
def qfi (l : List Ch) (s : List UInt8) : Int := if Go.St.idx (fun c : Ch => c.name == s) l < 0 then 0 else Go.St.idx (fun c : Ch => c.name == s) l
def qbf (st : Pr → Int → Int → Int → Pr) (node : Int) : Pr → List Int → Int → Int → Pr
 | p, [], frm, to => putF p frm to 0 node (-1) (-1) (-1)
 | p, [k], frm, to => st p k frm to
 | p, k :: k' :: r, frm, to => qbf st node (st (qh p) k frm p.places) (k' :: r) p.places to
def qij (l : List Nd) (blk : Pr → Int → Int → Int → Pr) (frm to : Int) (p : Pr) (k : Int) : Pr :=
 if (l.getD k.toNat Nd.none).kids.length ≠ 0 ∧ qt l ((l.getD k.toNat Nd.none).kids.getD 0 0) = 12 then
  blk (putF (qh p) frm p.places 0 k (-1) (-1) (-1)) k p.places to
 else blk p k frm to
def qem (to : Int) (e : Ed) : Ed := { e with keep := e.to != to && e.to != 1 }
def qe (l : List Nd) (cs : List Ch) : Nat → Pr → Int → Int → Int → Pr
  | 0, p, _, _, _ => p
  | f + 1, p, a, frm, to =>
    let n := l.getD a.toNat Nd.none
    let blk := fun (p : Pr) (b frm to : Int) => qbf (qe l cs f) b p (l.getD b.toNat Nd.none).kids frm to
    if n.kind = 6 then putF p frm to 1 a (n.kids.getD 0 0) (p.vars.getD (qcm p.names (n.words.getD 0 [])).toNat 0) (-1)
    else if n.kind = 7 then putF p frm to 2 a (n.kids.getD 0 0) (-1) (qfi cs (n.words.getD 0 []))
    else if n.kind = 8 then putF (qab p frm (n.nums.getD 0 0)) frm to 3 a (-1) (p.vars.getD (qcm p.names (n.words.getD 1 [])).toNat 0) (qfi cs (n.words.getD 0 []))
    else if n.kind = 9 then putF (qab p frm (n.nums.getD 0 0)) frm to 4 a (n.kids.getD 0 0) (-1) (-1)
    else if n.kind = 10 then n.kids.foldl (qij l blk frm to) (qab p frm (n.nums.getD 0 0))
    else if n.kind = 11 then
      (let q := blk (putF (qh p) frm p.places 4 a (n.kids.getD 0 0) (-1) (-1)) (n.kids.getD 1 0) p.places to
       if n.kids.length = 2 then putF q frm to 5 a (n.kids.getD 0 0) (-1) (-1)
       else blk (putF (qh q) frm q.places 5 a (n.kids.getD 0 0) (-1) (-1)) (n.kids.getD 2 0) q.places to)
    else if n.kind = 12 then blk (putF (putF (qh p) frm p.places 4 a (n.kids.getD 0 0) (-1) (-1)) frm to 5 a (n.kids.getD 0 0) (-1) (-1)) (n.kids.getD 1 0) p.places frm
    else if n.kind = 13 then
      (let q := blk p (n.kids.getD 0 0) frm to
       { q with edges := q.edges.take p.edges.length ++ (q.edges.drop p.edges.length).map (qem to) })
    else if n.kind = 15 then putF p frm 1 0 a (-1) (-1) (-1)
    else putF p frm to 0 a (-1) (-1) (-1)
def qji (l : List Nd) (m : Md) (k : Int) : Md :=
 let n := l.getD k.toNat Nd.none
 if n.kind = 1 then { m with chans := m.chans ++ [⟨n.words.getD 0 [], n.nums.getD 0 0, n.nums.getD 1 0, n.nums.getD 2 0 == 1, n.nums.getD 3 0 == 1⟩] }
 else if n.kind = 2 then { m with vars := m.vars ++ [⟨n.words.getD 0 [], n.nums.getD 0 0, n.nums.getD 1 0⟩] }
 else if n.kind = 4 then { m with safe := m.safe ++ [n.kids.getD 0 0] }
 else if n.kind = 5 then { m with dead := true }
 else m
def qfj (l : List Nd) (x : Pr × List Vr) (k : Int) : Pr × List Vr :=
 let n := l.getD k.toNat Nd.none
 ({ x.1 with locals := x.1.locals ++ [(x.2.length : Int)], names := x.1.names ++ [n.words.getD 0 []], vars := x.1.vars ++ [(x.2.length : Int)] }, x.2 ++ [⟨n.words.getD 0 [], n.nums.getD 0 0, n.nums.getD 1 0⟩])
def qks (l : List Nd) (vs : List Vr) (seen : Nat) (k c : Int) : Pr :=
 { name := (l.getD k.toNat Nd.none).words.getD 0 [], copy := c, places := 2, rest := [false, true], names := (vs.take seen).map (·.name), vars := (List.range seen).map fun (i : Nat) => (i : Int), edges := [] }
def qen (l : List Nd) (cs : List Ch) (k : Int) (seen : Nat) (x : List Vr × List Pr) (c : Nat) : List Vr × List Pr :=
 let n := l.getD k.toNat Nd.none
 let y := (n.kids.take (varsN l n)).foldl (qfj l) (qks l x.1 seen k c, x.1)
 (y.2, x.2 ++ [qbf (qe l cs 20) k y.1 (n.kids.drop (varsN l n)) 0 1])
def qdw (l : List Nd) (cs : List Ch) (x : Nat × List Vr × List Pr) (k : Int) : Nat × List Vr × List Pr :=
 let n := l.getD k.toNat Nd.none
 let seen := if n.kind = 2 then x.1 + 1 else x.1
 (seen, if n.kind = 3 then (List.range (n.nums.getD 0 0).toNat).foldl (qen l cs k seen) x.2 else x.2)
def qdh (l : List Nd) : Md := (l.getD 0 Nd.none).kids.foldl (qji l) { tree := l }
def qhg (l : List Nd) : Md :=
 let m := qdh l
 let y := (l.getD 0 Nd.none).kids.foldl (qdw l m.chans) (0, m.vars, [])
 { m with globals := m.vars.length, vars := y.2.1, procs := y.2.2 }
end Go.St
end
