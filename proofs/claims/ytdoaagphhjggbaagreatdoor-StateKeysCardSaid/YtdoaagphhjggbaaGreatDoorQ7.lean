/- Some texts of the library, one behind the other. -/
import Derived.Test.YtdoaagphhjggbaaGreatDoorQ5
import Derived.Test.YtdoaagphhjggbaaGreatDoorQ6
import Derived.Test.YtdoaagphhjggbaaGreatDoorQ2
section
namespace Go.St
open Go Go.Sx
def walkL (w : Int → Int × Bool) (len : Int) : List Int → Int → Int × Bool
 | [], next => (next, true)
 | k :: ks, next => if k ≠ next ∨ len ≤ next then (next, false) else if (w next).2 = false then ((w next).1, false) else walkL w len ks (w next).1
def walkF (l : List Nd) : Nat → Int → Int × Bool
 | 0, at_ => (at_, false)
 | f + 1, at_ => walkL (walkF l f) l.length (l.getD at_.toNat nd0).kids (at_ + 1)
theorem qdr (l : List Nd) (w : Int → Int × Bool)
  (hw : ∀ a n, 0 ≤ a → w a = (n, true) → (a < n ∧ (a < l.length → n ≤ l.length)) ∧ ∀ j : Nat, a ≤ j → (j : Int) < n → ∀ k ∈ (l.getD j nd0).kids, (j : Int) < k ∧ k < n) :
  ∀ (ks : List Int) (next n : Int), 0 ≤ next → walkL w l.length ks next = (n, true) →
   (next ≤ n ∧ (next ≤ l.length → n ≤ l.length)) ∧ (∀ k ∈ ks, next ≤ k ∧ k < n) ∧ ∀ j : Nat, next ≤ j → (j : Int) < n → ∀ k ∈ (l.getD j nd0).kids, (j : Int) < k ∧ k < n
 | [], next, n, _, h => by
  simp only [walkL, Prod.mk.injEq, and_true] at h
  subst h
  exact ⟨⟨Int.le_refl _, id⟩, (fun k hk => by cases hk), fun j h1 h2 => by omega⟩
 | k :: ks, next, n, h0, h => by
  rw [walkL] at h
  split at h
  ·simp at h
  ·rename_i hk
   split at h
   ·simp at h
   ·rename_i hb
    have hwn : w next = ((w next).1, true) := by
     cases hx : w next with
     | mk a b => rw [hx] at hb; cases b <;> simp_all
    obtain ⟨h1, h2⟩ := hw next _ h0 hwn
    have hk1 : k = next ∧ next < l.length := by omega
    obtain ⟨h3, h4, h5⟩ := qdr l w hw ks (w next).1 n (by omega) h
    refine ⟨⟨by omega, fun _ => h3.2 (h1.2 hk1.2)⟩, fun q hq => ?_, fun j hj1 hj2 q hq => ?_⟩
    ·rcases List.mem_cons.1 hq with rfl | hq
     ·omega
     ·have := h4 q hq; omega
    ·by_cases hj : (j : Int) < (w next).1
     ·have := h2 j hj1 hj q hq; omega
     ·exact h5 j (by omega) hj2 q hq
theorem jq (l : List Nd) : ∀ (f : Nat) (a n : Int), 0 ≤ a → walkF l f a = (n, true) → (a < n ∧ (a < l.length → n ≤ l.length)) ∧ ∀ j : Nat, a ≤ j → (j : Int) < n → ∀ k ∈ (l.getD j nd0).kids, (j : Int) < k ∧ k < n
 | 0, a, n, _, h => by simp [walkF] at h
 | f + 1, a, n, h0, h => by
  rw [walkF] at h
  obtain ⟨h1, h2, h3⟩ := qdr l (walkF l f) (jq l f) _ _ n (by omega) h
  refine ⟨⟨by omega, fun ha => h1.2 (by omega)⟩, fun j hj1 hj2 k hk => ?_⟩
  by_cases hj : (j : Int) = a
  ·have : a.toNat = j := by omega
   rw [this] at h2
   have := h2 k hk
   omega
  ·exact h3 j (by omega) hj2 k hk
theorem qyj (w : Int → Int × Bool) (len : Int) (hw : ∀ a, 0 ≤ a → a ≤ (w a).1) : ∀ (ks : List Int) (next : Int), 0 ≤ next → next ≤ (walkL w len ks next).1
 | [], next, _ => Int.le_refl _
 | k :: ks, next, h => by
  rw [walkL]
  have := hw next h
  split
  ·exact Int.le_refl _
  split
  ·exact this
  ·have := qyj w len hw ks (w next).1 (by omega); omega
theorem qyk (l : List Nd) : ∀ (f : Nat) (a : Int), 0 ≤ a → a ≤ (walkF l f a).1
 | 0, a, _ => Int.le_refl _
 | f + 1, a, h => by
  rw [walkF]
  have := qyj (walkF l f) l.length (qyk l f) (l.getD a.toNat nd0).kids (a + 1) (by omega)
  omega
theorem qie {α : Type} (l : List α) (i : Nat) (d : α) (h : i < l.length) : l.drop i = l.getD i d :: l.drop (i + 1) := by
 rw [List.drop_eq_getElem_cons h, List.getD_eq_getElem?_getD, List.getElem?_eq_getElem h]; rfl
def qfd (l : List Nd) : Bool :=
 !(decide (l.length = 0) || decide (800 < l.length) || (l.getD 0 nd0).kind != 0) && ((walkF l 20 0).2 && (walkF l 20 0).1 == l.length) && l.all (nodeB l)
structure TreeOk (l : List Nd) : Prop where
 len : 1 ≤ l.length ∧ l.length ≤ 800
 root : (l.getD 0 nd0).kind = 0
 kids : ∀ j : Nat, j < l.length → ∀ k ∈ (l.getD j nd0).kids, (j : Int) < k ∧ k < l.length
 node : ∀ j : Nat, j < l.length → nodeB l (l.getD j nd0) = true
theorem jjl {l : List Nd} (h : qfd l = true) : TreeOk l := by
 unfold qfd at h
 simp only [Bool.and_eq_true, Bool.not_eq_true', Bool.or_eq_false_iff, decide_eq_false_iff_not, bne_eq_false_iff_eq, beq_iff_eq] at h
 obtain ⟨⟨⟨⟨h1, h2⟩, h3⟩, h4, h5⟩, h6⟩ := h
 have hw : walkF l 20 0 = ((l.length : Int), true) := by rw [← h5]; exact Prod.ext rfl h4
 obtain ⟨_, hk⟩ := jq l 20 0 _ (Int.le_refl _) hw
 exact ⟨by omega, h3, fun j hj k hkk => hk j (by omega) (by omega) k hkk, fun j hj => (qjo _ _ nd0).1 h6 j hj⟩
end Go.St
end
section
namespace Go.Proofs.YtdoaagphhjggbaaGreatDoor
open List renaming getD_eq_getElem?_getD → zd
open Go Go.Sx Go.RowKit Go.St
set_option maxRecDepth 100000
set_option maxHeartbeats 4000000
theorem jjm (l : List Nd) (hl : l.length ≤ 9223372036854775807) (hz : ∀ n ∈ l, NdSz n) : ∀ (f : Nat) (a deep : Int), 0 ≤ a → a < l.length → deep + f = 21 → f ≤ 21 → Con Tryz.prog 34 [ji l, iv a, iv deep] (.tup [iv (walkF l f a).1, .bool (walkF l f a).2]) := by
 intro f
 induction f with
 | zero =>
  intro a deep h0 h1 hd hf
  refine zK {} 300 Tryz.func34 (fun c0 rdb => ?_)
  (repeat' ((conv => whnf); first | refine Ob.auto ?_ | (apply zB <;> intro hb <;> (try simp [-zd] at hb) <;> try (exfalso; omega))))
  exact Le.refl _
 | succ f ih =>
  intro a deep h0 h1 hd hf
  have hza := hz _ (qu l a.toNat nd0 (by omega))
  have hkl := hza.lk
  refine zK {} 300 Tryz.func34 (fun c0 rdb => ?_)
  (repeat' ((conv => whnf); first | refine Ob.auto ?_ | (apply zB <;> intro hb <;> (try simp [-zd] at hb) <;> try (exfalso; omega))))
  ((conv => whnf); refine qo (fun _ => rfl) 300 1 (fun g : Nat × Int => [(9, iv g.1), (8, iv g.2)]) (fun _ => []) (fun g => (g.1 ≤ (l.getD a.toNat nd0).kids.length ∧ 0 ≤ g.2) ∧ walkF l (f + 1) a = walkL (walkF l f) l.length ((l.getD a.toNat nd0).kids.drop g.1) g.2) (fun g => (l.getD a.toNat nd0).kids.length - g.1) ((0, a + 1)) (⟨by simp; omega, rfl⟩) qa qa (fun _ => rfl) (by kernel_rfl) ?_; (conv => whnf))
  rintro ⟨i, next⟩ ⟨⟨hi, hn0⟩, hw⟩
  simp only at hi hw hn0
  have hdr := fun h => qie (l.getD a.toNat nd0).kids i 0 h
  have hge := qyk l f next hn0
  (repeat' ((conv => whnf); first | refine Ob.auto ?_ | refine zC 300 (ih next (deep + 1) (by omega) (by omega) (by omega) (by omega)) ?_ | (apply zB <;> intro hb <;> (try simp [-zd] at hb) <;> try (exfalso; omega))))
  ·rw [hdr (by omega), walkL, if_pos (by omega)] at hw
   rw [hw]; exact Le.refl _
  ·rename_i hb1
   rw [hdr (by omega), walkL, if_neg (by omega), if_pos hb] at hw
   rw [hw, hb]; exact Le.refl _
  ·rename_i hb1
   ((conv => whnf); refine ⟨(i + 1, (walkF l f next).1), ⟨⟨by simp only; omega, by simp only; omega⟩, by rw [hdr (by omega), walkL, if_neg (by omega), if_neg (by rw [hb]; decide)] at hw; exact hw⟩, ⟨qa, qa⟩, ⟨qa, qa⟩, ?_⟩; (first | omega | (dsimp only; omega) | skip))
  ·have : i = (l.getD a.toNat nd0).kids.length := by omega
   rw [this, List.drop_length, walkL] at hw
   rw [hw]; exact Le.refl _
theorem qjr (l : List Nd) (hl : l.length ≤ 9223372036854775807) (hz : ∀ n ∈ l, NdSz n) : Con Tryz.prog 16 [ji l] (.bool (qfd l)) := by
 by_cases h0 : (decide (l.length = 0) || decide (800 < l.length) || (l.getD 0 nd0).kind != 0) = true
 ·have hr : qfd l = false := by unfold qfd; rw [h0]; rfl
  rw [hr]
  simp only [Bool.or_eq_true, decide_eq_true_eq, bne_iff_ne, ne_eq] at h0
  refine zK {} 300 Tryz.func16 (fun c0 rdb => ?_)
  (repeat' ((conv => whnf); first | refine Ob.auto ?_ | (refine Ob.intro (by ((intro h; simp at h; have := List.length_pos_iff.2 h.1; exact ⟨by simp [h], by omega, by omega⟩))) ?_) | (apply zB <;> intro hb <;> (try simp [-zd] at hb) <;> try (exfalso; omega))))
  ·exact Le.refl _
  ·exfalso
   have := List.length_pos_iff.2 hb.1.1
   omega
 ·have h0' : (decide (l.length = 0) || decide (800 < l.length) || (l.getD 0 nd0).kind != 0) = false := by simpa using h0
  simp only [Bool.or_eq_true, decide_eq_true_eq, bne_iff_ne, ne_eq, not_or, Decidable.not_not] at h0
  have hr : qfd l = (((walkF l 20 0).2 && (walkF l 20 0).1 == l.length) && l.all (nodeB l)) := by unfold qfd; rw [h0']; rfl
  rw [hr]
  refine zK {} 300 Tryz.func16 (fun c0 rdb => ?_)
  (repeat' ((conv => whnf); first | refine Ob.auto ?_ | refine zC 300 (jjm l hl hz 20 0 1 (by omega) (by omega) (by omega) (by omega)) ?_ | (apply zB <;> intro hb <;> (try simp [-zd] at hb) <;> try (exfalso; omega))))
  ·exfalso; rcases hb with (hb | hb) | hb
   ·rw [hb] at h0; simp at h0
   ·omega
   ·omega
  ·refine Le.of_eq (congrArg AV.bool ?_)
   rcases hb with hb | hb
   ·rw [hb]; rfl
   ·rw [show ((walkF l 20 0).1 == (l.length : Int)) = false from beq_eq_false_iff_ne.2 hb, Bool.and_false]; rfl
  ·have hw : ((walkF l 20 0).2 && (walkF l 20 0).1 == (l.length : Int)) = true := by rw [hb.1, hb.2]; simp
   have hk : ∀ j : Nat, j < l.length → ∀ k ∈ (l.getD j nd0).kids, 0 ≤ k ∧ k < l.length := fun j hj k hk => by
    have := (jq l 20 0 l.length (Int.le_refl _) (Prod.ext hb.2 hb.1)).2 j (by omega) (by omega) k hk
    omega
   ((conv => whnf); refine qo (fun _ => rfl) 300 1 (fun i : Nat => [(5, iv i)]) (fun _ => []) (fun i => i ≤ l.length ∧ ∀ j, j < i → nodeB l (l.getD j nd0) = true) (fun i => l.length - i) (0) (⟨by omega, fun j hj => absurd hj (Nat.not_lt_zero j)⟩) qa qa (fun _ => rfl) (by kernel_rfl) ?_; (conv => whnf))
   intro i hi
   (repeat' ((conv => whnf); first | refine Ob.auto ?_ | refine zC 300 (jjk l (l.getD i nd0) (hz _ (qu l i nd0 (by omega))) (hk i (by omega))) ?_ | (apply zB <;> intro hb <;> (try simp [-zd] at hb) <;> try (exfalso; omega))))
   ·refine Le.of_eq (congrArg AV.bool ?_)
    rw [hw, qos (q := nodeB l) nd0 (j := i) (by omega) hb]; rfl
   ·((conv => whnf); refine ⟨i + 1, ⟨by omega, qaq hi.2 hb⟩, ⟨qa, qa⟩, ⟨qa, qa⟩, ?_⟩; (first | omega | (dsimp only; omega) | skip))
   ·refine Le.of_eq (congrArg AV.bool ?_)
    rw [hw, qor (q := nodeB l) nd0 (fun j hj => hi.2 j (by omega))]; rfl
def qhf : List Nd → Int → Int
 | [], n => n
 | x :: r, n => if n ≤ 1500 then qhf r (IntKind.i64.wrap (IntKind.i64.wrap (IntKind.i64.wrap (n + x.words.length) + x.nums.length) + x.kids.length)) else n
theorem qjs (l : List Nd) (hl : l.length ≤ 9223372036854775807) : Con Tryz.prog 15 [ji l] (.bool (decide (qhf l l.length ≤ 1500))) := by
 refine zK {wraps := [18, 19, 20, 21, 22, 23, 24, 25, 26, 27, 28, 29, 30, 31, 32, 33, 34, 35, 36, 37, 38]} 300 Tryz.func15 (fun c0 rdb => ?_)
 ((conv => whnf); refine qo (fun _ => rfl) 300 1 (fun g : Nat × Int => [(4, iv g.1), (3, iv g.2)]) (fun _ => []) (fun g => g.1 ≤ l.length ∧ qhf l l.length = qhf (l.drop g.1) g.2) (fun g => l.length - g.1) ((0, (l.length : Int))) (⟨by simp, rfl⟩) qa qa (fun _ => rfl) (by kernel_rfl) ?_; (conv => whnf))
 rintro ⟨i, n⟩ ⟨hi, hs⟩
 simp only at hi hs
 (repeat' ((conv => whnf); first | refine zO ?_ | refine Ob.auto ?_ | (refine zP 300 ?_) | (apply zB <;> intro hb <;> (try simp [-zd] at hb) <;> try (exfalso; omega))))
 ·rw [qie l i nd0 (by omega), qhf, if_pos (by omega)] at hs
  ((conv => whnf); refine ⟨(i + 1, IntKind.i64.wrap (IntKind.i64.wrap (IntKind.i64.wrap (n + (l.getD i nd0).words.length) + (l.getD i nd0).nums.length) + (l.getD i nd0).kids.length)), ⟨by simp only; omega, hs⟩, ⟨qa, qa⟩, ⟨qa, qa⟩, ?_⟩; (first | omega | (dsimp only; omega) | skip))
 ·refine Le.of_eq (congrArg AV.bool ?_)
  by_cases hl : i < l.length
  ·rw [qie l i nd0 (by omega), qhf, if_neg (by omega)] at hs
   rw [hs]
  ·obtain rfl : i = l.length := by omega
   rw [List.drop_length, qhf] at hs
   rw [hs]
end Go.Proofs.YtdoaagphhjggbaaGreatDoor
end
