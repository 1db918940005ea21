/- Some texts of the library, one behind the other. -/
import Derived.Test.YtdoaagphhjggbaaQ7
import Derived.Test.YtdoaagphhjggbaaQPaL
import Derived.Test.YtdoaagphhjggbaaQPaB
import Derived.Test.YtdoaagphhjggbaaQLexQ2
import Derived.Test.YtdoaagphhjggbaaQPa0
import Derived.Test.YtdoaagphhjggbaaQ4
import Derived.Test.YtdoaagphhjggbaaQ2
section
namespace Go.Proofs.Ytdoaagphhjggbaa
namespace Pa
open Go Go.Sx
theorem jlq : ∀ b : UInt8, Lx.digB b = true → 48 ≤ b.toNat ∧ b.toNat ≤ 57 := by
 have h : ∀ b : Fin 256, Lx.digB (UInt8.ofNat b) = true → 48 ≤ b.val ∧ b.val ≤ 57 := by decide +kernel
 intro b hb
 have := h ⟨b.toNat, b.toNat_lt⟩
 simp only [UInt8.ofNat_toNat] at this
 exact this hb
theorem jaa (p : UInt8 → Bool) : ∀ l : List UInt8, ∀ b ∈ l.take (Lx.spanN p l), p b = true
 | [], b, h => by simp at h
 | x :: r, b, h => by
  rw [Lx.spanN] at h
  split at h
  ·rename_i hx
   rw [Nat.add_comm, List.take_succ_cons] at h
   rcases List.mem_cons.1 h with rfl | h
   ·exact hx
   ·exact jaa p r b h
  ·simp at h
theorem jlr (l : List UInt8) : Lx.firstK l ≠ 3 := by
 unfold Lx.firstK
 split
 ·decide
 ·split
  ·decide
  ·split <;> decide
theorem jls {l : List UInt8} (h : Lx.firstK l = 1) (h0 : Lx.firstN l ≠ 0) : (l.take (Lx.firstN l)).length ≤ 6 ∧ ∀ b ∈ l.take (Lx.firstN l), 48 ≤ b.toNat ∧ b.toNat ≤ 57 := by
 cases l with
 | nil => simp [Lx.firstK] at h
 | cons x r =>
  unfold Lx.firstK at h
  unfold Lx.firstN at h0 ⊢
  simp only at h h0 ⊢
  split at h
  ·simp at h
  ·rename_i h2
   rw [if_neg h2] at h0 ⊢
   split at h
   ·rename_i h3
    rw [if_pos h3] at h0 ⊢
    split at h0
    ·exact absurd rfl h0
    ·rename_i h6
     rw [if_neg h6]
     refine ⟨?_, fun b hb => jlq b (jaa _ _ b hb)⟩
     rw [List.length_take]; omega
   ·simp at h
theorem jlt : ∀ (n : Nat) (l : List UInt8) (p : Nat) (ts : List Lx.Tok), l.length ≤ n → Lx.lexR l p = .ok ts →
  ∃ pre e, ts = pre ++ [⟨3, [], e⟩] ∧ (∀ t ∈ pre, t.kind ≠ 3 ∧ (t.kind = 1 → t.s.length ≤ 6 ∧ ∀ b ∈ t.s, 48 ≤ b.toNat ∧ b.toNat ≤ 57)) ∧ pre.length ≤ l.length := by
 intro n
 induction n with
 | zero =>
  intro l p ts hl h
  obtain rfl : l = [] := List.length_eq_zero_iff.1 (by omega)
  rw [Lx.lexR_nil] at h
  cases h
  exact ⟨[], _, rfl, fun t ht => by simp at ht, Nat.le_refl _⟩
 | succ n ih =>
  intro l p ts hl h
  cases l with
  | nil =>
   rw [Lx.lexR_nil] at h
   cases h
   exact ⟨[], _, rfl, fun t ht => by simp at ht, Nat.le_refl _⟩
  | cons b r =>
   have hr : r.length ≤ n := by simpa using hl
   rw [Lx.lexR_cons] at h
   split at h
   ·obtain ⟨pre, e, h1, h2, h3⟩ := ih r _ ts hr h
    exact ⟨pre, e, h1, h2, by simp; omega⟩
   split at h
   ·obtain ⟨pre, e, h1, h2, h3⟩ := ih (r.drop (Lx.lineN r)) _ ts (by rw [List.length_drop]; omega) h
    exact ⟨pre, e, h1, h2, by rw [List.length_drop] at h3; simp; omega⟩
   split at h
   ·cases h
   ·rename_i h0
    cases hx : Lx.lexR (r.drop (Lx.firstN (b :: r) - 1)) (p + Lx.firstN (b :: r)) with
    | error e => rw [hx] at h; cases h
    | ok ts' =>
     rw [hx] at h
     cases h
     obtain ⟨pre, e, h1, h2, h3⟩ := ih (r.drop (Lx.firstN (b :: r) - 1)) _ ts' (by rw [List.length_drop]; omega) hx
     refine ⟨⟨Lx.firstK (b :: r), (b :: r).take (Lx.firstN (b :: r)), p⟩ :: pre, e, by rw [h1]; rfl, fun t ht => ?_, by rw [List.length_drop] at h3; simp; omega⟩
     rcases List.mem_cons.1 ht with rfl | ht
     ·exact ⟨jlr (b :: r), fun hk => jls (l := b :: r) hk h0⟩
     ·exact h2 t ht
theorem jlu {s : List UInt8} (h : (Lx.lexAll s).2.1 = 0) : ToksOk (Lx.lexAll s).1 ∧ 0 < (Lx.lexAll s).1.length := by
 unfold Lx.lexAll at h ⊢
 split at h
 ·simp at h
 rename_i hs
 rw [if_neg hs]
 split at h
 ·rename_i ts hts
  obtain ⟨pre, e, h1, h2, h3⟩ := jlt _ s 0 ts (Nat.le_refl _) hts
  simp only
  subst h1
  refine ⟨⟨by simp; omega, fun i hi => ?_, fun t ht hk => ?_⟩, by simp⟩
  ·rw [List.getD_eq_getElem?_getD]
   by_cases hip : i < pre.length
   ·rw [List.getElem?_append_left hip, List.getElem?_eq_getElem hip]
    have := (h2 _ (List.getElem_mem hip)).1
    simp only [Option.getD_some, List.length_append, List.length_singleton]
    constructor
    ·intro h; exact absurd h this
    ·intro h; omega
   ·have : i = pre.length := by simp at hi; omega
    subst this
    rw [List.getElem?_append_right (Nat.le_refl _), Nat.sub_self]
    simp
  ·rcases List.mem_append.1 ht with ht | ht
   ·exact (h2 t ht).2 hk
   ·rw [List.mem_singleton] at ht
    subst ht
    simp at hk
 ·simp at h
end Pa
end Go.Proofs.Ytdoaagphhjggbaa
end
section
namespace Go.Proofs.Ytdoaagphhjggbaa
open List renaming getD_eq_getElem?_getD → zd
open Go Go.Sx Go.RowKit Go.St Pa
set_option maxRecDepth 100000
set_option maxHeartbeats 8000000
theorem jab (s : List UInt8) (hs : s.length ≤ 1000000) : Con Try.prog 15 [.str s] (jjp (qmn s)) := by
 refine zK {} 300 Try.func15 (fun c0 rdb => ?_)
 (repeat' ((conv => whnf); first | refine zO ?_ | refine Ob.auto ?_ | refine zC 300 (jkc s hs) ?_ | refine zD 300 ?_ | (apply zB <;> intro hb <;> (try simp [-zd] at hb) <;> try (exfalso; omega))))
 ·have he : (Lx.lexAll s).2.1 ≠ 0 := by assumption
  have e : qmn s = ([], (Lx.lexAll s).2) := if_pos he
  rw [e]
  exact Le.tup ⟨Le.nils _ _, Le.refl _, trivial⟩
 have he : (Lx.lexAll s).2.1 = 0 := by assumption
 obtain ⟨ht, h0⟩ := jlu he
 have e : qmn s = qmm (Lx.lexAll s).1 := if_neg (by rw [he]; decide)
 rw [e]
 generalize hts : (Lx.lexAll s).1 = ts at ht h0 ⊢
 have hP : Pre ts ts.length ⟨0, 0, 0, 0⟩ := ⟨⟨Int.le_refl _, by simp only; omega⟩, by simp, by simp⟩
 ((conv => whnf); refine zT 300 [2] (jkv ht hP) qa ?_)
 (repeat' ((conv => whnf); first | refine zO ?_ | refine Ob.auto ?_ | refine zD 300 ?_ | (apply zB <;> intro hb <;> (try simp [-zd] at hb) <;> try (exfalso; omega))))
 ·have hn : (qcb ts ⟨0, 0, 0, 0⟩).2.err ≠ 0 := by assumption
  have e : qmm ts = ([], ((qcb ts ⟨0, 0, 0, 0⟩).2.err, (qcb ts ⟨0, 0, 0, 0⟩).2.fat)) := if_pos hn
  rw [e]
  exact Le.tup ⟨Le.nils _ _, Le.refl _, trivial⟩
 have hn : (qcb ts ⟨0, 0, 0, 0⟩).2.err = 0 := by assumption
 have hsz : (qcb ts ⟨0, 0, 0, 0⟩).1.size ≤ 100000 := by
  have := jlp ht hP.at_ hn
  have := ht.len
  omega
 have e2 : qmm ts = if 800 < (layT 0 (qcb ts ⟨0, 0, 0, 0⟩).1).length then ([], (12, 0)) else if 0 ≤ deepT (qcb ts ⟨0, 0, 0, 0⟩).1 1 then ([], (12, deepT (qcb ts ⟨0, 0, 0, 0⟩).1 1)) else (layT 0 (qcb ts ⟨0, 0, 0, 0⟩).1, (0, 0)) := if_neg (fun h => h hn)
 rw [e2]
 generalize (qcb ts ⟨0, 0, 0, 0⟩).1 = t at hsz ⊢
 (conv => whnf)
 refine qhe (fun _ => rfl) 300 [] (jlf t hsz) (by kernel_rfl) leA trivial (by exact qb rfl) (rowsM _) (by kernel_rfl) ?_
 (repeat' ((conv => whnf); first | refine Ob.auto ?_ | refine zC 300 (jky _ t 1 (Nat.le_refl _) hsz (by decide) (by decide)) ?_ | (apply zB <;> intro hb <;> (try simp [-zd] at hb) <;> try (exfalso; omega)) | refine Ob.intro ?_ ?_ | fail))
 ·have hb8 : 800 < (layT 0 t).length := by omega
  rw [if_pos hb8]
  exact Le.tup ⟨Le.nils _ _, Le.refl _, trivial⟩
 ·have hb8 : ¬ 800 < (layT 0 t).length := by omega
  rw [if_neg hb8, if_pos (by assumption)]
  exact Le.tup ⟨Le.nils _ _, Le.refl _, trivial⟩
 ·exact ⟨⟨trivial, ⟨rfl, rfl⟩, fun k hk => ⟨trivial, trivial, trivial, ⟨hk, ⟨rfl, rfl⟩, trivial⟩, trivial, trivial⟩⟩, ⟨trivial, trivial, trivial⟩, trivial⟩
 ·have hb8 : ¬ 800 < (layT 0 t).length := by omega
  rw [if_neg hb8, if_neg (by omega)]
  refine Le.tup ⟨Le.slcL rfl (fun k hk => ?_), Le.refl _, trivial⟩
  exact ⟨Le.refl _, Le.refl _, Le.refl _, Le.refl _, Le.refl _, trivial⟩
end Go.Proofs.Ytdoaagphhjggbaa
end
section
namespace Go.Proofs.Ytdoaagphhjggbaa
namespace Pa
open Go Go.Sx
def lexF : Nat → List UInt8 → Nat → Except Nat (List Lx.Tok)
 | 0, _, p => .error p
 | _ + 1, [], p => .ok [⟨3, [], p⟩]
 | n + 1, b :: r, p => if Lx.blankB b then lexF n r (p + 1) else if Lx.slash2 (b :: r) then lexF n (r.drop (Lx.lineN r)) (p + 1 + Lx.lineN r) else if Lx.firstN (b :: r) = 0 then .error p
  else (lexF n (r.drop (Lx.firstN (b :: r) - 1)) (p + Lx.firstN (b :: r))).map (⟨Lx.firstK (b :: r), (b :: r).take (Lx.firstN (b :: r)), p⟩ :: ·)
theorem qph : ∀ (n : Nat) (l : List UInt8) (p : Nat), l.length < n → lexF n l p = Lx.lexR l p
 | 0, _, _, h => absurd h (Nat.not_lt_zero _)
 | n + 1, [], p, _ => by rw [Lx.lexR_nil]; rfl
 | n + 1, b :: r, p, h => by
  have hr : r.length < n := by simpa using h
  rw [Lx.lexR_cons, lexF, qph n r _ hr, qph n (r.drop (Lx.lineN r)) _ (by rw [List.length_drop]; omega), qph n (r.drop (Lx.firstN (b :: r) - 1)) _ (by rw [List.length_drop]; omega)]
def qmu (s : List UInt8) : List Nd × (Int × Int) :=
 match lexF (s.length + 1) s 0 with
 | .ok ts => qmm ts
 | .error p => ([], (10, p))
theorem jac {s : List UInt8} {r : List Nd × (Int × Int)} (h : qmu s = r) (hs : s.length ≤ 4000) : qmn s = r := by
 unfold qmu at h
 rw [qph _ _ _ (Nat.lt_succ_self _)] at h
 have hn : ¬ 4000 < s.length := by omega
 unfold qmn Lx.lexAll
 split at h
 ·rename_i ts hts
  rw [hts, if_neg hn]
  exact h
 ·rename_i p hp
  rw [hp, if_neg hn]
  exact h
end Pa
end Go.Proofs.Ytdoaagphhjggbaa
end
section
namespace Go.Proofs.Ytdoaagphhjggbaa
open Go Go.Sx Go.RowKit Go.St
set_option maxRecDepth 100000
set_option maxHeartbeats 4000000

end Go.Proofs.Ytdoaagphhjggbaa
end
section
namespace Go.St
open Go Go.Sx
def walkL (w : Int → Int × Bool) (len : Int) : List Int → Int → Int × Bool
 | [], next => (next, true)
 | k :: ks, next => if k ≠ next ∨ len ≤ next then (next, false) else if (w next).2 = false then ((w next).1, false) else walkL w len ks (w next).1
def walkF (l : List Nd) : Nat → Int → Int × Bool
 | 0, at_ => (at_, false)
 | f + 1, at_ => walkL (walkF l f) l.length (l.getD at_.toNat nd0).kids (at_ + 1)
theorem qef (l : List Nd) (w : Int → Int × Bool)
  (hw : ∀ a n, 0 ≤ a → w a = (n, true) → (a < n ∧ (a < l.length → n ≤ l.length)) ∧ ∀ j : Nat, a ≤ j → (j : Int) < n → ∀ k ∈ (l.getD j nd0).kids, (j : Int) < k ∧ k < n) :
  ∀ (ks : List Int) (next n : Int), 0 ≤ next → walkL w l.length ks next = (n, true) →
   (next ≤ n ∧ (next ≤ l.length → n ≤ l.length)) ∧ (∀ k ∈ ks, next ≤ k ∧ k < n) ∧ ∀ j : Nat, next ≤ j → (j : Int) < n → ∀ k ∈ (l.getD j nd0).kids, (j : Int) < k ∧ k < n
 | [], next, n, _, h => by
  simp only [walkL, Prod.mk.injEq, and_true] at h
  subst h
  exact ⟨⟨Int.le_refl _, id⟩, (fun k hk => by cases hk), fun j h1 h2 => by omega⟩
 | k :: ks, next, n, h0, h => by
  rw [walkL] at h
  split at h
  ·simp at h
  ·rename_i hk
   split at h
   ·simp at h
   ·rename_i hb
    have hwn : w next = ((w next).1, true) := by
     cases hx : w next with
     | mk a b => rw [hx] at hb; cases b <;> simp_all
    obtain ⟨h1, h2⟩ := hw next _ h0 hwn
    have hk1 : k = next ∧ next < l.length := by omega
    obtain ⟨h3, h4, h5⟩ := qef l w hw ks (w next).1 n (by omega) h
    refine ⟨⟨by omega, fun _ => h3.2 (h1.2 hk1.2)⟩, fun q hq => ?_, fun j hj1 hj2 q hq => ?_⟩
    ·rcases List.mem_cons.1 hq with rfl | hq
     ·omega
     ·have := h4 q hq; omega
    ·by_cases hj : (j : Int) < (w next).1
     ·have := h2 j hj1 hj q hq; omega
     ·exact h5 j (by omega) hj2 q hq
theorem qae (l : List Nd) : ∀ (f : Nat) (a n : Int), 0 ≤ a → walkF l f a = (n, true) → (a < n ∧ (a < l.length → n ≤ l.length)) ∧ ∀ j : Nat, a ≤ j → (j : Int) < n → ∀ k ∈ (l.getD j nd0).kids, (j : Int) < k ∧ k < n
 | 0, a, n, _, h => by simp [walkF] at h
 | f + 1, a, n, h0, h => by
  rw [walkF] at h
  obtain ⟨h1, h2, h3⟩ := qef l (walkF l f) (qae l f) _ _ n (by omega) h
  refine ⟨⟨by omega, fun ha => h1.2 (by omega)⟩, fun j hj1 hj2 k hk => ?_⟩
  by_cases hj : (j : Int) = a
  ·have : a.toNat = j := by omega
   rw [this] at h2
   have := h2 k hk
   omega
  ·exact h3 j (by omega) hj2 k hk
theorem qpi {α : Type} (l : List α) (i : Nat) (d : α) (h : i < l.length) : l.drop i = l.getD i d :: l.drop (i + 1) := by
 rw [List.drop_eq_getElem_cons h, List.getD_eq_getElem?_getD, List.getElem?_eq_getElem h]; rfl
def qko (l : List Nd) : Bool :=
 !(decide (l.length = 0) || decide (800 < l.length) || (l.getD 0 nd0).kind != 0) && ((walkF l 20 0).2 && (walkF l 20 0).1 == l.length) && l.all (nodeB l)
structure TreeOk (l : List Nd) : Prop where
 len : 1 ≤ l.length ∧ l.length ≤ 800
 root : (l.getD 0 nd0).kind = 0
 kids : ∀ j : Nat, j < l.length → ∀ k ∈ (l.getD j nd0).kids, (j : Int) < k ∧ k < l.length
 node : ∀ j : Nat, j < l.length → nodeB l (l.getD j nd0) = true
theorem jlv {l : List Nd} (h : qko l = true) : TreeOk l := by
 unfold qko at h
 simp only [Bool.and_eq_true, Bool.not_eq_true', Bool.or_eq_false_iff, decide_eq_false_iff_not, bne_eq_false_iff_eq, beq_iff_eq] at h
 obtain ⟨⟨⟨⟨h1, h2⟩, h3⟩, h4, h5⟩, h6⟩ := h
 have hw : walkF l 20 0 = ((l.length : Int), true) := by rw [← h5]; exact Prod.ext rfl h4
 obtain ⟨_, hk⟩ := qae l 20 0 _ (Int.le_refl _) hw
 exact ⟨by omega, h3, fun j hj k hkk => hk j (by omega) (by omega) k hkk, fun j hj => (qke _ _ nd0).1 h6 j hj⟩
end Go.St
end
section
namespace Go.Proofs.Ytdoaagphhjggbaa
open Go Go.Sx Go.RowKit Go.St
set_option maxRecDepth 100000
set_option maxHeartbeats 4000000


end Go.Proofs.Ytdoaagphhjggbaa
end
