/- Contracts: bounds, by the document's answer. -/
import Derived.Test.YtdoaagphhjggbaaGreatDoorQ10
import Derived.Test.YtdoaagphhjggbaaGreatDoorQ2
namespace Go.Proofs.YtdoaagphhjggbaaGreatDoor
open List renaming getD_eq_getElem?_getD → zd
open Go Go.Sx Go.RowKit Go.St
set_option maxRecDepth 100000
set_option maxHeartbeats 4000000
theorem jjt {α : Type} {q : α → Bool} {L : List α} (d : α) {i : Nat} (hi : i < L.length) (h : q (L.getD i d) = true) : L.any q = true := List.any_eq_true.2 ⟨_, qu L i d hi, h⟩
theorem jju {α : Type} {q : α → Bool} {L : List α} (d : α) (h : ∀ j, j < L.length → q (L.getD j d) = false) : L.any q = false := by
 rw [Bool.eq_false_iff]
 intro h'
 obtain ⟨x, hx, he⟩ := List.any_eq_true.1 h'
 obtain ⟨j, hj, rfl⟩ := List.mem_iff_getElem.1 hx
 have := h j hj
 rw [zd, List.getElem?_eq_getElem hj] at this
 simp only [Option.getD_some] at this
 rw [this] at he; cases he
theorem jjv {q : Nat → Bool} {n i : Nat} (hi : i < n) (h : q i = true) : (List.range n).any q = true := List.any_eq_true.2 ⟨i, List.mem_range.2 hi, h⟩
theorem jjw {q : Nat → Bool} {n : Nat} (h : ∀ j, j < n → q j = false) : (List.range n).any q = false := by
 rw [Bool.eq_false_iff]
 intro h'
 obtain ⟨x, hx, he⟩ := List.any_eq_true.1 h'
 rw [h x (List.mem_range.1 hx)] at he; cases he
theorem qyt {l : List Nd} (ht : Tree l) (a : Int) (h0 : 0 ≤ a) (h1 : a < l.length) : 0 ≤ itemF l a ∧ itemF l a < l.length := by
 have hlen := ht.len
 by_cases h : a = 0
 ·subst h
  have : itemF l 0 = 0 := by
   unfold itemF
   exact qov 0 _ 0 fun k hk => (ht.kids 0 (by omega) k hk).1
  omega
 ·have h2 := ht.item (j := a.toNat) (by omega) (by omega)
  rw [show ((a.toNat : Nat) : Int) = a by omega] at h2
  have := ht.kids 0 (by omega) _ h2.1.1
  omega
theorem jjx (l : List Nd) (ht : Tree l) (i : Nat) (h1 : i < l.length) : Con Tryz.prog 99 [ji l, iv i] (iv (qej l i)) := by
 have hlen := ht.len
 have hk0 := (ht.kidsLen (j := 0) (by omega)).1
 have hit := qyt ht i (by omega) (by omega)
 have hln := (ht.lens (itemF l i).toNat (by omega)).n1
 refine zK {} 300 Tryz.func99 (fun c0 rdb => ?_)
 (repeat' ((conv => whnf); first | refine Ob.auto ?_ | refine zC 300 (qoz l (by omega) (by omega) _) ?_ | (apply zB <;> intro hb <;> (try simp [-zd] at hb) <;> try (exfalso; omega))))
 ·refine Le.of_eq (congrArg (AV.int _) ?_)
  rw [qej, if_pos (by unfold qk; exact hb)]; rfl
 ·refine Le.of_eq (congrArg (AV.int _) ?_)
  rw [qej, if_neg (by unfold qk; exact hb)]
theorem qsj (l : List Nd) (kind : Int) (i : Nat) : sumF l kind (i + 1) = qgg l kind (sumF l kind i) i := by
 unfold sumF
 rw [List.range_succ, List.foldl_append]; rfl
theorem qyu {l : List Nd} (ht : Tree l) (i : Nat) (h1 : i < l.length) : 0 ≤ qej l i := by
 have hit := qyt ht i (by omega) (by omega)
 have hln := (ht.lens (itemF l i).toNat (by omega)).num
 unfold qej qk
 split
 ·exact (hln (by omega)).1
 ·omega
theorem qyv {l : List Nd} (ht : Tree l) (kind : Int) : ∀ i, i ≤ l.length → 0 ≤ sumF l kind i ∧ sumF l kind i ≤ 200
 | 0, _ => by simp [sumF]
 | i + 1, h => by
  have h1 := qyv ht kind i (by omega)
  have h2 := qyu ht i (by omega)
  rw [qsj]
  unfold qgg
  (repeat' split) <;> omega
theorem qyw (l : List Nd) (kind : Int) (i : Nat) (h : 100 ≤ sumF l kind i) : ∀ k, sumF l kind (i + k) = sumF l kind i
 | 0 => rfl
 | k + 1 => by
  have ih := qyw l kind i h k
  rw [show i + (k + 1) = i + k + 1 by omega, qsj, ih]
  unfold qgg
  rw [if_neg (by omega)]
theorem qsk (l : List Nd) (ht : Tree l) (a : Nat) (h1 : a < l.length) (kind : Int) : Con Tryz.prog 79 [ji l, iv a, iv kind] (iv (sumF l kind (a + 1))) := by
 have hlen := ht.len
 refine zK {} 300 Tryz.func79 (fun c0 rdb => ?_)
 ((conv => whnf); refine qo (fun _ => rfl) 300 1 (fun g : Nat × Int => [(8, iv g.1), (7, iv g.2)]) (fun _ => []) (fun g => g.1 ≤ a + 1 ∧ g.2 = sumF l kind g.1) (fun g => a + 1 - g.1) ((0, 0)) (⟨by simp, rfl⟩) qa qa (fun _ => rfl) (by kernel_rfl) ?_; (conv => whnf))
 rintro ⟨i, n⟩ ⟨hi, hn⟩
 simp only at hi hn
 have hsb := qyv ht kind i (by omega)
 have hsu := qsj l kind i
 have hcg : i < l.length → _ := fun h => qyu ht i h
 rw [← hn] at hsu hsb
 unfold qgg at hsu
 (repeat' ((conv => whnf); first | refine Ob.auto ?_ | (refine Ob.intro (by (first | exact ⟨by omega, by omega⟩ | exact qcn (by have := hcg (by omega); simp only [cond_true, cond_false, Bool.cond_decide]; omega) (by have := hcg (by omega); simp only [cond_true, cond_false, Bool.cond_decide]; omega))) ?_) | refine zC 300 (jjx l ht i (by omega)) ?_ | (apply zB <;> intro hb <;> (try simp [-zd] at hb) <;> try (exfalso; omega))))
 ·((conv => whnf); refine ⟨(i + 1, n), ⟨by simp only; omega, by rw [hsu, if_pos (by omega), if_neg (by assumption)]⟩, ⟨qa, qa⟩, ⟨qa, qa⟩, ?_⟩; (first | omega | (dsimp only; omega) | skip))
 ·((conv => whnf); refine ⟨(i + 1, n + 1), ⟨by simp only; omega, by rw [hsu, if_pos (by omega), if_pos (by assumption), if_pos (by assumption)]⟩, ⟨qa, qa⟩, ⟨qa, qa⟩, ?_⟩; (first | omega | (dsimp only; omega) | skip))
 ·((conv => whnf); refine ⟨(i + 1, n + min (qej l i) 100), ⟨by simp only; omega, by rw [hsu, if_pos (by omega), if_pos (by assumption), if_neg (by assumption)]⟩, ⟨qa, qa⟩, ⟨qa, qa⟩, ?_⟩; (first | omega | (dsimp only; omega) | skip))
 ·refine Le.of_eq (congrArg (AV.int _) ?_)
  by_cases hia : i ≤ a
  ·have := qyw l kind i (by omega) (a + 1 - i)
   rw [show i + (a + 1 - i) = a + 1 by omega] at this
   rw [this, hn]
  ·rw [show a + 1 = i by omega, hn]
theorem jjy (l : List Nd) (ht : Tree l) (a : Int) : ∀ (f : Nat) (b : Int), 0 ≤ b → b < l.length → l.length - b.toNat ≤ f → Con Tryz.prog 80 [ji l, iv a, iv b] (.bool (qlq l a f b)) := by
 intro f
 induction f with
 | zero => intro b h0 h1 h2; omega
 | succ f ih =>
  intro b h0 h1 h2
  have hkl := (ht.kidsLen (j := b.toNat) (by omega)).1
  have hk := ht.kids b.toNat (by omega)
  have hkg : ∀ i, i < (l.getD b.toNat nd0).kids.length → b < (l.getD b.toNat nd0).kids.getD i 0 ∧ (l.getD b.toNat nd0).kids.getD i 0 < l.length := fun i hi => by have := hk _ (qu _ i 0 hi); omega
  refine zK {} 300 Tryz.func80 (fun c0 rdb => ?_)
  ((conv => whnf); refine qo (fun _ => rfl) 300 1 (fun i : Nat => [(7, iv i)]) (fun _ => []) (fun i => i ≤ (l.getD b.toNat nd0).kids.length ∧ ∀ j, j < i → ((l.getD b.toNat nd0).kids.getD j 0 == a || qlq l a f ((l.getD b.toNat nd0).kids.getD j 0)) = false) (fun i => (l.getD b.toNat nd0).kids.length - i) (0) (⟨by omega, fun j hj => absurd hj (Nat.not_lt_zero j)⟩) qa qa (fun _ => rfl) (by kernel_rfl) ?_; (conv => whnf))
  intro i hi
  have hki : i < (l.getD b.toNat nd0).kids.length → _ := hkg i
  (repeat' ((conv => whnf); first | refine Ob.auto ?_ | refine zG 300 (fun hg => ih ((l.getD b.toNat nd0).kids.getD i 0) (by omega) (by omega) (by omega)) ?_ | (apply zB <;> intro hb <;> (try simp [-zd] at hb) <;> try (exfalso; omega))))
  ·refine Le.of_eq (congrArg AV.bool ?_)
   exact (jjt 0 (i := i) (by omega) (by rw [Bool.or_eq_true, beq_iff_eq]; exact hb)).symm
  ·((conv => whnf); refine ⟨i + 1, ⟨by omega, qaq hi.2 (by rw [Bool.or_eq_false_iff, beq_eq_false_iff_ne]; exact hb)⟩, ⟨qa, qa⟩, ⟨qa, qa⟩, ?_⟩; (first | omega | (dsimp only; omega) | skip))
  ·refine Le.of_eq (congrArg AV.bool ?_)
   exact (jju 0 (fun j hj => hi.2 j (by omega))).symm
theorem jjz (l : List Nd) (ht : Tree l) (i : Nat) (h1 : i < l.length) : Con Tryz.prog 47 [ji l, iv i] (iv (qay l i)) := by
  have hlen := ht.len
  have hln := ht.lens i h1
  have hn4 := hln.n4
  have hn2 := hln.n2
  have hn1 := hln.n1
  refine zK {} 600 Tryz.func47 (fun c0 rdb => ?_)
  (repeat' ((conv => whnf); first | refine zO ?_ | refine Ob.auto ?_ | refine zG 600 (fun hg => qsk l ht i h1 1) ?_ | refine zY (fun hg => qsk l ht i h1 2) ?_ | refine zG 600 (fun hg => qsk l ht i h1 3) ?_ | refine zY (fun hg => qsh _ _) ?_ | (refine zP 600 ?_) | (apply zB <;> intro hb <;> (try simp [-zd] at hb) <;> try (exfalso; omega))))
  all_goals first
    | (refine Le.of_eq (congrArg iv ?_)
       rw [qay]
       ((repeat (first | rw [if_pos (by omega)] | rw [if_neg (by omega)])) <;> rfl))
    | skip
  ((conv => whnf); refine qo (fun _ => rfl) 600 1 (fun j : Nat => [(7, iv j)]) (fun _ => []) (fun j => j ≤ i ∧ ∀ k, k < j → ((l.getD k nd0).kind == 13 && qlq l i l.length k) = false) (fun j => i - j) (0) (⟨by omega, fun j hj => absurd hj (Nat.not_lt_zero j)⟩) qa qa (fun _ => rfl) (by kernel_rfl) ?_; (conv => whnf))
  intro j hj
  (repeat' ((conv => whnf); first | refine Ob.auto ?_ | refine zG 600 (fun hg => jjy l ht i l.length j (by omega) (by omega) (by omega)) ?_ | (apply zB <;> intro hb <;> (try simp [-zd] at hb) <;> try (exfalso; omega))))
  · refine Le.of_eq (congrArg iv ?_)
    rw [qay, if_neg (by omega), if_neg (by omega), if_neg (by omega), if_pos (by assumption), if_pos (jjv (i := j) (by omega) (by rw [Bool.and_eq_true, beq_iff_eq]; exact hb))]
  · ((conv => whnf); refine ⟨j + 1, ⟨by omega, qaq hj.2 (by rw [Bool.and_eq_false_imp, beq_iff_eq]; exact hb)⟩, ⟨qa, qa⟩, ⟨qa, qa⟩, ?_⟩; (first | omega | (dsimp only; omega) | skip))
  all_goals
    refine Le.of_eq (congrArg iv ?_)
    rw [qay, if_neg (by omega), if_neg (by omega), if_neg (by omega), if_pos (by assumption), if_neg (by rw [jjw (fun k hk => hj.2 k (by omega))]; decide)]
    done
theorem qyx (l : List Nd) (ht : Tree l) : Con Tryz.prog 27 [ji l] (flt (qbh l).1 (qbh l).2) := by
 have hlen := ht.len
 refine zK {} 300 Tryz.func27 (fun c0 rdb => ?_)
 (repeat' ((conv => whnf); first | refine Ob.auto ?_ | refine zC 300 (jjr l ht) ?_ | (apply zB <;> intro hb <;> (try simp [-zd] at hb) <;> try (exfalso; omega))))
 ·refine Le.of_eq ?_
  rw [qbh, if_pos (by omega)]; rfl
 ·((conv => whnf); refine qo (fun _ => rfl) 300 1 (fun i : Nat => [(4, iv i)]) (fun _ => []) (fun i => i ≤ l.length ∧ ∀ j, j < i → (qay l j != 0) = false) (fun i => l.length - i) (0) (⟨by omega, fun j hj => absurd hj (Nat.not_lt_zero j)⟩) qa qa (fun _ => rfl) (by kernel_rfl) ?_; (conv => whnf))
  intro i hi
  have hr : ∀ j, j < (List.range l.length).length → j < l.length := fun j hj => by simpa using hj
  (repeat' ((conv => whnf); first | refine Ob.auto ?_ | refine zC 300 (jjz l ht i (by omega)) ?_ | (apply zB <;> intro hb <;> (try simp [-zd] at hb) <;> try (exfalso; omega))))
  ·rename_i h0 h1
   have h1' : i < l.length := by omega
   have := qgb (fun i => qay l i != 0) (List.range l.length) 0 i (by simpa using h1') (by rw [qge _ _ _ (by omega)]; simpa using hb) (fun j hj => by rw [qge _ _ _ (by omega)]; exact hi.2 j hj)
   refine Le.of_eq ?_
   rw [qbh, if_neg (by omega), this, if_neg (by omega)]; rfl
  ·((conv => whnf); refine ⟨i + 1, ⟨by omega, qaq hi.2 (by simpa using hb)⟩, ⟨qa, qa⟩, ⟨qa, qa⟩, ?_⟩; (first | omega | (dsimp only; omega) | skip))
  ·have := qgc (fun i => qay l i != 0) (List.range l.length) 0 (fun j hj => by have hj' := hr j hj; rw [qge _ _ _ hj']; exact hi.2 j (by omega))
   refine Le.of_eq ?_
   rw [qbh, if_neg (by omega), this, if_pos (by omega)]; rfl
end Go.Proofs.YtdoaagphhjggbaaGreatDoor
