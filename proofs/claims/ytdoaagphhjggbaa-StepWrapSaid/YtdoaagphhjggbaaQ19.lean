/- Some texts of the library, one behind the other. -/
import Derived.Test.YtdoaagphhjggbaaQPaL
import Derived.Test.YtdoaagphhjggbaaQ18
import Derived.Test.YtdoaagphhjggbaaQLexQ2
import Derived.Test.YtdoaagphhjggbaaQPa0
import Derived.Test.YtdoaagphhjggbaaQ7
import Derived.Test.YtdoaagphhjggbaaQ4
import Derived.Test.YtdoaagphhjggbaaQ2
section
/- The contract of the document's parser. -/
namespace Go.Proofs.Ytdoaagphhjggbaa
open Go Go.Sx Go.RowKit Go.St Pa
set_option maxRecDepth 100000
set_option maxHeartbeats 8000000

theorem jav (s : List UInt8) (hs : s.length ≤ 1000000) : Con Try.prog 15 [.str s] (jko (qoj s)) := by
 refine qi (T := tab Try.prog) (C := {}) 300 (fun _ => rfl) Try.func15 rfl (by kernel_rfl) (by kernel_rfl) (fun c0 rdb => ?_)
 (repeat' ((conv => whnf); first | refine zA ?_ | refine zO ?_ | refine Ob.auto ?_ | refine zC 300 (qlj s hs) ?_ | refine zG 300 (fun hg => qlj s hs) ?_ | (refine CallY.con (qlj s hs) (by rfl) leA ?_) | (refine CallZ.con (fun hg => qlj s hs) qe (by rfl) ?_) | refine zE 300 (qlj s hs) ?_ | refine zF 300 (fun hg => qlj s hs) ?_ | refine zD 300 ?_ | (apply zB <;> intro hb <;> (try simp [-List.getD_eq_getElem?_getD] at hb) <;> try (exfalso; omega)) | refine Ob.intro ?_ ?_))
 ·have he : (Lx.lexAll s).2.1 ≠ 0 := by assumption
  have e : qoj s = ([], (Lx.lexAll s).2) := if_pos he
  rw [e]
  exact Le.tup ⟨Le.nils _ _, Le.refl _, trivial⟩
 have he : (Lx.lexAll s).2.1 = 0 := by assumption
 obtain ⟨ht, h0⟩ := jmq he
 have e : qoj s = qoi (Lx.lexAll s).1 := if_neg (by rw [he]; decide)
 rw [e]
 generalize hts : (Lx.lexAll s).1 = ts at ht h0 ⊢
 have hP : Pre ts ts.length ⟨0, 0, 0, 0⟩ := ⟨⟨Int.le_refl _, by simp only; omega⟩, by simp, by simp⟩
 ((conv => whnf); refine zT 300 [2] (jls ht hP) qa ?_)
 (repeat' ((conv => whnf); first | refine zA ?_ | refine zO ?_ | refine Ob.auto ?_ | refine zD 300 ?_ | (apply zB <;> intro hb <;> (try simp [-List.getD_eq_getElem?_getD] at hb) <;> try (exfalso; omega)) | refine Ob.intro ?_ ?_))
 ·have hn : (qcs ts ⟨0, 0, 0, 0⟩).2.err ≠ 0 := by assumption
  have e : qoi ts = ([], ((qcs ts ⟨0, 0, 0, 0⟩).2.err, (qcs ts ⟨0, 0, 0, 0⟩).2.fat)) := if_pos hn
  rw [e]
  exact Le.tup ⟨Le.nils _ _, Le.refl _, trivial⟩
 have hn : (qcs ts ⟨0, 0, 0, 0⟩).2.err = 0 := by assumption
 have hsz : (qcs ts ⟨0, 0, 0, 0⟩).1.size ≤ 100000 := by
  have := jml ht hP.at_ hn
  have := ht.len
  omega
 have e2 : qoi ts = if 800 < (layT 0 (qcs ts ⟨0, 0, 0, 0⟩).1).length then ([], (12, 0)) else if 0 ≤ deepT (qcs ts ⟨0, 0, 0, 0⟩).1 1 then ([], (12, deepT (qcs ts ⟨0, 0, 0, 0⟩).1 1)) else (layT 0 (qcs ts ⟨0, 0, 0, 0⟩).1, (0, 0)) := if_neg (fun h => h hn)
 rw [e2]
 generalize (qcs ts ⟨0, 0, 0, 0⟩).1 = t at hsz ⊢
 (conv => whnf)
 refine qkt (fun _ => rfl) 300 [] (jmb t hsz) (by kernel_rfl) leA trivial (by exact qb rfl) (rowsM _) (by kernel_rfl) ?_
 (repeat' ((conv => whnf); first | refine zA ?_ | refine zO ?_ | refine Ob.auto ?_ | refine zC 300 (qll _ t 1 (Nat.le_refl _) hsz (by decide) (by decide)) ?_ | refine zG 300 (fun hg => qll _ t 1 (Nat.le_refl _) hsz (by decide) (by decide)) ?_ | (refine CallY.con (qll _ t 1 (Nat.le_refl _) hsz (by decide) (by decide)) (by rfl) leA ?_) | (refine CallZ.con (fun hg => qll _ t 1 (Nat.le_refl _) hsz (by decide) (by decide)) qe (by rfl) ?_) | refine zE 300 (qll _ t 1 (Nat.le_refl _) hsz (by decide) (by decide)) ?_ | refine zF 300 (fun hg => qll _ t 1 (Nat.le_refl _) hsz (by decide) (by decide)) ?_ | refine zD 300 ?_ | (apply zB <;> intro hb <;> (try simp [-List.getD_eq_getElem?_getD] at hb) <;> try (exfalso; omega)) | refine Ob.intro ?_ ?_))
 ·have hb8 : 800 < (layT 0 t).length := by omega
  rw [if_pos hb8]
  exact Le.tup ⟨Le.nils _ _, Le.refl _, trivial⟩
 ·have hb8 : ¬ 800 < (layT 0 t).length := by omega
  rw [if_neg hb8, if_pos (by assumption)]
  exact Le.tup ⟨Le.nils _ _, Le.refl _, trivial⟩
 ·exact ⟨⟨trivial, ⟨rfl, rfl⟩, fun k hk => ⟨trivial, trivial, trivial, ⟨hk, ⟨rfl, rfl⟩, trivial⟩, trivial, trivial⟩⟩, ⟨trivial, trivial, trivial⟩, trivial⟩
 ·have hb8 : ¬ 800 < (layT 0 t).length := by omega
  rw [if_neg hb8, if_neg (by omega)]
  refine Le.tup ⟨Le.slcL rfl (fun k hk => ?_), Le.refl _, trivial⟩
  exact ⟨Le.refl _, Le.refl _, Le.refl _, Le.refl _, Le.refl _, trivial⟩

end Go.Proofs.Ytdoaagphhjggbaa
end
section
/- Texts of their own, parsed by the plain parser: with fuel, so that the kernel can go through. -/
namespace Go.Proofs.Ytdoaagphhjggbaa
namespace Pa
open Go Go.Sx

def lexF : Nat → List UInt8 → Nat → Except Nat (List Lx.Tok)
 | 0, _, p => .error p
 | _ + 1, [], p => .ok [⟨3, [], p⟩]
 | n + 1, b :: r, p => if Lx.blankB b then lexF n r (p + 1) else if Lx.slash2 (b :: r) then lexF n (r.drop (Lx.lineN r)) (p + 1 + Lx.lineN r) else if Lx.firstN (b :: r) = 0 then .error p
  else (lexF n (r.drop (Lx.firstN (b :: r) - 1)) (p + Lx.firstN (b :: r))).map (⟨Lx.firstK (b :: r), (b :: r).take (Lx.firstN (b :: r)), p⟩ :: ·)

theorem qrf : ∀ (n : Nat) (l : List UInt8) (p : Nat), l.length < n → lexF n l p = Lx.lexR l p
 | 0, _, _, h => absurd h (Nat.not_lt_zero _)
 | n + 1, [], p, _ => by rw [Lx.lexR_nil]; rfl
 | n + 1, b :: r, p, h => by
  have hr : r.length < n := by simpa using h
  rw [Lx.lexR_cons, lexF, qrf n r _ hr, qrf n (r.drop (Lx.lineN r)) _ (by rw [List.length_drop]; omega), qrf n (r.drop (Lx.firstN (b :: r) - 1)) _ (by rw [List.length_drop]; omega)]

def qoq (s : List UInt8) : List Nd × (Int × Int) :=
 match lexF (s.length + 1) s 0 with
 | .ok ts => qoi ts
 | .error p => ([], (10, p))

theorem jaw {s : List UInt8} {r : List Nd × (Int × Int)} (h : qoq s = r) (hs : s.length ≤ 4000) : qoj s = r := by
 unfold qoq at h
 rw [qrf _ _ _ (Nat.lt_succ_self _)] at h
 have hn : ¬ 4000 < s.length := by omega
 unfold qoj Lx.lexAll
 split at h
 ·rename_i ts hts
  rw [hts, if_neg hn]
  exact h
 ·rename_i p hp
  rw [hp, if_neg hn]
  exact h

end Pa
end Go.Proofs.Ytdoaagphhjggbaa
end
section
/- Contracts: which trees are right: the node. -/
namespace Go.Proofs.Ytdoaagphhjggbaa
open Go Go.Sx Go.RowKit Go.St
set_option maxRecDepth 100000
set_option maxHeartbeats 4000000

end Go.Proofs.Ytdoaagphhjggbaa
end
section
/- Trees that are right, in plain Lean: their order. -/
namespace Go.St
open Go Go.Sx

def walkL (w : Int → Int × Bool) (len : Int) : List Int → Int → Int × Bool
 | [], next => (next, true)
 | k :: ks, next => if k ≠ next ∨ len ≤ next then (next, false) else if (w next).2 = false then ((w next).1, false) else walkL w len ks (w next).1

def walkF (l : List Nd) : Nat → Int → Int × Bool
 | 0, at_ => (at_, false)
 | f + 1, at_ => walkL (walkF l f) l.length (l.getD at_.toNat Nd.none).kids (at_ + 1)

theorem qey (l : List Nd) (w : Int → Int × Bool)
  (hw : ∀ a n, 0 ≤ a → w a = (n, true) → (a < n ∧ (a < l.length → n ≤ l.length)) ∧ ∀ j : Nat, a ≤ j → (j : Int) < n → ∀ k ∈ (l.getD j Nd.none).kids, (j : Int) < k ∧ k < n) :
  ∀ (ks : List Int) (next n : Int), 0 ≤ next → walkL w l.length ks next = (n, true) →
   (next ≤ n ∧ (next ≤ l.length → n ≤ l.length)) ∧ (∀ k ∈ ks, next ≤ k ∧ k < n) ∧ ∀ j : Nat, next ≤ j → (j : Int) < n → ∀ k ∈ (l.getD j Nd.none).kids, (j : Int) < k ∧ k < n
 | [], next, n, _, h => by
  simp only [walkL, Prod.mk.injEq, and_true] at h
  subst h
  exact ⟨⟨Int.le_refl _, id⟩, (fun k hk => by cases hk), fun j h1 h2 => by omega⟩
 | k :: ks, next, n, h0, h => by
  rw [walkL] at h
  split at h
  ·simp at h
  ·rename_i hk
   split at h
   ·simp at h
   ·rename_i hb
    have hwn : w next = ((w next).1, true) := by
     cases hx : w next with
     | mk a b => rw [hx] at hb; cases b <;> simp_all
    obtain ⟨h1, h2⟩ := hw next _ h0 hwn
    have hk1 : k = next ∧ next < l.length := by omega
    obtain ⟨h3, h4, h5⟩ := qey l w hw ks (w next).1 n (by omega) h
    refine ⟨⟨by omega, fun _ => h3.2 (h1.2 hk1.2)⟩, fun q hq => ?_, fun j hj1 hj2 q hq => ?_⟩
    ·rcases List.mem_cons.1 hq with rfl | hq
     ·omega
     ·have := h4 q hq; omega
    ·by_cases hj : (j : Int) < (w next).1
     ·have := h2 j hj1 hj q hq; omega
     ·exact h5 j (by omega) hj2 q hq

theorem qap (l : List Nd) : ∀ (f : Nat) (a n : Int), 0 ≤ a → walkF l f a = (n, true) → (a < n ∧ (a < l.length → n ≤ l.length)) ∧ ∀ j : Nat, a ≤ j → (j : Int) < n → ∀ k ∈ (l.getD j Nd.none).kids, (j : Int) < k ∧ k < n
 | 0, a, n, _, h => by simp [walkF] at h
 | f + 1, a, n, h0, h => by
  rw [walkF] at h
  obtain ⟨h1, h2, h3⟩ := qey l (walkF l f) (qap l f) _ _ n (by omega) h
  refine ⟨⟨by omega, fun ha => h1.2 (by omega)⟩, fun j hj1 hj2 k hk => ?_⟩
  by_cases hj : (j : Int) = a
  ·have : a.toNat = j := by omega
   rw [this] at h2
   have := h2 k hk
   omega
  ·exact h3 j (by omega) hj2 k hk

theorem qrg {α : Type} (l : List α) (i : Nat) (d : α) (h : i < l.length) : l.drop i = l.getD i d :: l.drop (i + 1) := by
 rw [List.drop_eq_getElem_cons h, List.getD_eq_getElem?_getD, List.getElem?_eq_getElem h]; rfl

def qlm (l : List Nd) : Bool :=
 !(decide (l.length = 0) || decide (800 < l.length) || (l.getD 0 Nd.none).kind != 0) && ((walkF l 20 0).2 && (walkF l 20 0).1 == l.length) && l.all (nodeB l)

structure TreeOk (l : List Nd) : Prop where
 len : 1 ≤ l.length ∧ l.length ≤ 800
 root : (l.getD 0 Nd.none).kind = 0
 kids : ∀ j : Nat, j < l.length → ∀ k ∈ (l.getD j Nd.none).kids, (j : Int) < k ∧ k < l.length
 node : ∀ j : Nat, j < l.length → nodeB l (l.getD j Nd.none) = true

theorem jmr {l : List Nd} (h : qlm l = true) : TreeOk l := by
 unfold qlm at h
 simp only [Bool.and_eq_true, Bool.not_eq_true', Bool.or_eq_false_iff, decide_eq_false_iff_not, bne_eq_false_iff_eq, beq_iff_eq] at h
 obtain ⟨⟨⟨⟨h1, h2⟩, h3⟩, h4, h5⟩, h6⟩ := h
 have hw : walkF l 20 0 = ((l.length : Int), true) := by rw [← h5]; exact Prod.ext rfl h4
 obtain ⟨_, hk⟩ := qap l 20 0 _ (Int.le_refl _) hw
 exact ⟨by omega, h3, fun j hj k hkk => hk j (by omega) (by omega) k hkk, fun j hj => (qla _ _ Nd.none).1 h6 j hj⟩

end Go.St
end
section
/- Contracts: which trees are right: the order; the whole. -/
namespace Go.Proofs.Ytdoaagphhjggbaa
open Go Go.Sx Go.RowKit Go.St
set_option maxRecDepth 100000
set_option maxHeartbeats 4000000

end Go.Proofs.Ytdoaagphhjggbaa
end
section
/- Contracts: which trees are right: the whole; which are small. -/
namespace Go.Proofs.Ytdoaagphhjggbaa
open Go Go.Sx Go.RowKit Go.St
set_option maxRecDepth 100000
set_option maxHeartbeats 4000000

end Go.Proofs.Ytdoaagphhjggbaa
end
section
/- Names, bounds and automata by the document's answer, in plain Lean. -/
namespace Go.St
open Go Go.Sx

def qq (l : List Nd) (i : Int) : Int := (l.getD i.toNat Nd.none).kind

def qbb (at_ : Int) : List Int → Int → Int
 | [], o => o
 | k :: r, o => qbb at_ r (if k ≤ at_ then k else o)
def itemF (l : List Nd) (at_ : Int) : Int := qbb at_ (l.getD 0 Nd.none).kids 0

def inF (l : List (List UInt8)) (s : List UInt8) : Bool := l.any (· == s)
def qfr (n : Nd) : List UInt8 := n.words.getD 0 []

def qor (l : List Nd) (item kind : Int) (out : List (List UInt8)) (i : Nat) : List (List UInt8) :=
 if (l.getD i Nd.none).kind = kind then
  (if (itemF l i == (i : Int) || itemF l i == item) = true then (if inF out (qfr (l.getD i Nd.none)) = true then out else out ++ [qfr (l.getD i Nd.none)]) else out)
 else out
def qfs (l : List Nd) (item kind : Int) (i : Nat) : List (List UInt8) := (List.range i).foldl (qor l item kind) []
def qaq (l : List Nd) (at_ : Int) (kind : Int) : List (List UInt8) := qfs l (itemF l at_) kind at_.toNat

def badF (l : List Nd) (i : Nat) : Bool :=
 if (l.getD i Nd.none).kind = 1 ∨ (l.getD i Nd.none).kind = 2 ∨ (l.getD i Nd.none).kind = 3 then
  inF (qaq l i 1) (qfr (l.getD i Nd.none)) || inF (qaq l i 2) (qfr (l.getD i Nd.none)) || inF (qaq l i 3) (qfr (l.getD i Nd.none))
 else if (l.getD i Nd.none).kind = 6 ∨ (l.getD i Nd.none).kind = 18 then !inF (qaq l i 2) (qfr (l.getD i Nd.none))
 else if (l.getD i Nd.none).kind = 7 ∨ (l.getD i Nd.none).kind = 19 then !inF (qaq l i 1) (qfr (l.getD i Nd.none))
 else if (l.getD i Nd.none).kind = 8 then !inF (qaq l i 1) (qfr (l.getD i Nd.none)) || !inF (qaq l i 2) ((l.getD i Nd.none).words.getD 1 [])
 else false

def qhm (l : List Nd) : Int × Int := if Go.St.idx (badF l) (List.range l.length) < 0 then (0, 0) else (20, (l.getD (Go.St.idx (badF l) (List.range l.length)).toNat Nd.none).at_)

def qft (l : List Nd) (at_ : Int) : Int := if qq l (itemF l at_) = 3 then (l.getD (itemF l at_).toNat Nd.none).nums.getD 0 0 else 1

def qhn (l : List Nd) (kind : Int) (n : Int) (i : Nat) : Int :=
 if n < 100 then (if (l.getD i Nd.none).kind = kind then (if kind = 1 then n + 1 else n + min (qft l i) 100) else n) else n
def sumF (l : List Nd) (kind : Int) (i : Nat) : Int := (List.range i).foldl (qhn l kind) 0

def qos (l : List Nd) (at_ : Int) : Nat → Int → Bool
 | 0, _ => false
 | f + 1, a => (l.getD a.toNat Nd.none).kids.any fun k => k == at_ || qos l at_ f k

def qbp (l : List Nd) (i : Nat) : Int :=
 if (l.getD i Nd.none).kind = 1 then
  (if ((l.getD i Nd.none).nums.getD 0 0 < 1 ∨ 3 < (l.getD i Nd.none).nums.getD 0 0) ∨ ((l.getD i Nd.none).nums.getD 1 0 < 1 ∨ 8 < (l.getD i Nd.none).nums.getD 1 0) ∨ 3 < sumF l 1 (i + 1) then 22 else 0)
 else if (l.getD i Nd.none).kind = 2 then
  (if ((l.getD i Nd.none).nums.getD 0 0 < 1 ∨ 8 < (l.getD i Nd.none).nums.getD 0 0) ∨ trim ((l.getD i Nd.none).nums.getD 1 0) ((l.getD i Nd.none).nums.getD 0 0) ≠ (l.getD i Nd.none).nums.getD 1 0 ∨ 8 < sumF l 2 (i + 1) then 22 else 0)
 else if (l.getD i Nd.none).kind = 3 then (if (l.getD i Nd.none).nums.getD 0 0 < 1 ∨ 4 < sumF l 3 (i + 1) then 22 else 0)
 else if (l.getD i Nd.none).kind = 13 then (if ((List.range i).any fun j => (l.getD j Nd.none).kind == 13 && qos l i l.length j) = true then 21 else 0)
 else if (l.getD i Nd.none).kind = 17 then (if 127 < (l.getD i Nd.none).nums.getD 0 0 then 22 else 0)
 else 0

def qei (l : List Nd) : Int × Int :=
 if (qhm l).1 ≠ 0 then qhm l
 else if Go.St.idx (fun i => qbp l i != 0) (List.range l.length) < 0 then (0, 0)
 else (qbp l (Go.St.idx (fun i => qbp l i != 0) (List.range l.length)).toNat, (l.getD (Go.St.idx (fun i => qbp l i != 0) (List.range l.length)).toNat Nd.none).at_)

def qg (p : Pr) : Pr := { p with places := p.places + 1, rest := p.rest ++ [false] }
def putF (p : Pr) (frm to act node expr v c : Int) : Pr := { p with edges := p.edges ++ [⟨frm, to, act, expr, v, c, false, node⟩] }
def qci (l : List (List UInt8)) (s : List UInt8) : Int := if Go.St.idx (· == s) l < 0 then 0 else Go.St.idx (· == s) l
def qac (p : Pr) (at_ idle : Int) : Pr := { p with rest := if idle = 1 then p.rest.set at_.toNat true else p.rest }
def qez (l : List Ch) (s : List UInt8) : Int := if Go.St.idx (fun c : Ch => c.name == s) l < 0 then 0 else Go.St.idx (fun c : Ch => c.name == s) l

def qbh (st : Pr → Int → Int → Int → Pr) (node : Int) : Pr → List Int → Int → Int → Pr
 | p, [], frm, to => putF p frm to 0 node (-1) (-1) (-1)
 | p, [k], frm, to => st p k frm to
 | p, k :: k' :: r, frm, to => qbh st node (st (qg p) k frm p.places) (k' :: r) p.places to

def qho (l : List Nd) (blk : Pr → Int → Int → Int → Pr) (frm to : Int) (p : Pr) (k : Int) : Pr :=
 if (l.getD k.toNat Nd.none).kids.length ≠ 0 ∧ qq l ((l.getD k.toNat Nd.none).kids.getD 0 0) = 12 then
  blk (putF (qg p) frm p.places 0 k (-1) (-1) (-1)) k p.places to
 else blk p k frm to

def qej (to : Int) (e : Ed) : Ed := { e with keep := e.to != to && e.to != 1 }

def qc (l : List Nd) (cs : List Ch) : Nat → Pr → Int → Int → Int → Pr
  | 0, p, _, _, _ => p
  | f + 1, p, a, frm, to =>
    let n := l.getD a.toNat Nd.none
    let blk := fun (p : Pr) (b frm to : Int) => qbh (qc l cs f) b p (l.getD b.toNat Nd.none).kids frm to
    if n.kind = 6 then putF p frm to 1 a (n.kids.getD 0 0) (p.vars.getD (qci p.names (n.words.getD 0 [])).toNat 0) (-1)
    else if n.kind = 7 then putF p frm to 2 a (n.kids.getD 0 0) (-1) (qez cs (n.words.getD 0 []))
    else if n.kind = 8 then putF (qac p frm (n.nums.getD 0 0)) frm to 3 a (-1) (p.vars.getD (qci p.names (n.words.getD 1 [])).toNat 0) (qez cs (n.words.getD 0 []))
    else if n.kind = 9 then putF (qac p frm (n.nums.getD 0 0)) frm to 4 a (n.kids.getD 0 0) (-1) (-1)
    else if n.kind = 10 then n.kids.foldl (qho l blk frm to) (qac p frm (n.nums.getD 0 0))
    else if n.kind = 11 then
      (let q := blk (putF (qg p) frm p.places 4 a (n.kids.getD 0 0) (-1) (-1)) (n.kids.getD 1 0) p.places to
       if n.kids.length = 2 then putF q frm to 5 a (n.kids.getD 0 0) (-1) (-1)
       else blk (putF (qg q) frm q.places 5 a (n.kids.getD 0 0) (-1) (-1)) (n.kids.getD 2 0) q.places to)
    else if n.kind = 12 then blk (putF (putF (qg p) frm p.places 4 a (n.kids.getD 0 0) (-1) (-1)) frm to 5 a (n.kids.getD 0 0) (-1) (-1)) (n.kids.getD 1 0) p.places frm
    else if n.kind = 13 then
      (let q := blk p (n.kids.getD 0 0) frm to
       { q with edges := q.edges.take p.edges.length ++ (q.edges.drop p.edges.length).map (qej to) })
    else if n.kind = 15 then putF p frm 1 0 a (-1) (-1) (-1)
    else putF p frm to 0 a (-1) (-1) (-1)

def qim (l : List Nd) (m : Md) (k : Int) : Md :=
 let n := l.getD k.toNat Nd.none
 if n.kind = 1 then { m with chans := m.chans ++ [⟨n.words.getD 0 [], n.nums.getD 0 0, n.nums.getD 1 0, n.nums.getD 2 0 == 1, n.nums.getD 3 0 == 1⟩] }
 else if n.kind = 2 then { m with vars := m.vars ++ [⟨n.words.getD 0 [], n.nums.getD 0 0, n.nums.getD 1 0⟩] }
 else if n.kind = 4 then { m with safe := m.safe ++ [n.kids.getD 0 0] }
 else if n.kind = 5 then { m with dead := true }
 else m

def qfa (l : List Nd) (x : Pr × List Vr) (k : Int) : Pr × List Vr :=
 let n := l.getD k.toNat Nd.none
 ({ x.1 with locals := x.1.locals ++ [(x.2.length : Int)], names := x.1.names ++ [n.words.getD 0 []], vars := x.1.vars ++ [(x.2.length : Int)] }, x.2 ++ [⟨n.words.getD 0 [], n.nums.getD 0 0, n.nums.getD 1 0⟩])

def qjx (l : List Nd) (vs : List Vr) (seen : Nat) (k c : Int) : Pr :=
 { name := (l.getD k.toNat Nd.none).words.getD 0 [], copy := c, places := 2, rest := [false, true], names := (vs.take seen).map (·.name), vars := (List.range seen).map fun (i : Nat) => (i : Int), edges := [] }

def qek (l : List Nd) (cs : List Ch) (k : Int) (seen : Nat) (x : List Vr × List Pr) (c : Nat) : List Vr × List Pr :=
 let n := l.getD k.toNat Nd.none
 let y := (n.kids.take (varsN l n)).foldl (qfa l) (qjx l x.1 seen k c, x.1)
 (y.2, x.2 ++ [qbh (qc l cs 20) k y.1 (n.kids.drop (varsN l n)) 0 1])

def qds (l : List Nd) (cs : List Ch) (x : Nat × List Vr × List Pr) (k : Int) : Nat × List Vr × List Pr :=
 let n := l.getD k.toNat Nd.none
 let seen := if n.kind = 2 then x.1 + 1 else x.1
 (seen, if n.kind = 3 then (List.range (n.nums.getD 0 0).toNat).foldl (qek l cs k seen) x.2 else x.2)

def qde (l : List Nd) : Md := (l.getD 0 Nd.none).kids.foldl (qim l) { tree := l }
def qjy (l : List Nd) : Md :=
 let m := qde l
 let y := (l.getD 0 Nd.none).kids.foldl (qds l m.chans) (0, m.vars, [])
 { m with globals := m.vars.length, vars := y.2.1, procs := y.2.2 }

end Go.St
end
