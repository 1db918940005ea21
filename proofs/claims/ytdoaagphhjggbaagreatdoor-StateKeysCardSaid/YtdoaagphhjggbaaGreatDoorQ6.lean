/- Some texts of the library, one behind the other. -/
import Derived.Test.YtdoaagphhjggbaaGreatDoorQ5
import Derived.Test.YtdoaagphhjggbaaGreatDoorQ2
import Derived.Test.YtdoaagphhjggbaaGreatDoorProg
import Derived.KernelRfl
section
namespace Go.Proofs.YtdoaagphhjggbaaGreatDoor
open List renaming getD_eq_getElem?_getD → zd
open Go Go.Sx Go.RowKit Go.St
set_option maxRecDepth 100000
set_option maxHeartbeats 2000000
abbrev bv (n : Int) : AV := .int .u8 n
theorem qyc (c : Int) : Con Tryz.prog 41 [bv c] (.bool (decide (48 ≤ c) && decide (c ≤ 57))) := by
 refine zK {} 300 Tryz.func41 (fun c0 rdb => ?_)
 (repeat' ((conv => whnf); first | refine Ob.auto ?_ | fail))
 exact Le.refl _
theorem qrz (c : Int) : Con Tryz.prog 39 [bv c] (.bool (qln c)) := by
 refine zK {} 300 Tryz.func39 (fun c0 rdb => ?_)
 (repeat' ((conv => whnf); first | refine Ob.auto ?_ | fail))
 exact Le.refl _
theorem qyd (c : Int) : Con Tryz.prog 40 [bv c] (.bool (qlo c)) := by
 refine zK {} 300 Tryz.func40 (fun c0 rdb => ?_)
 (repeat' ((conv => whnf); first | refine Ob.auto ?_ | refine zC 300 (qrz c) ?_ | refine zG 300 (fun hg => qyc c) ?_ | fail))
 exact Le.refl _
theorem jji (f : Nat → List AV) (h : ∀ i, i < 21 → f i = encL (fun s => [.str s]) [] keyL i) : Le (.slc 1 21 f) (strs keyL) := Le.slc rfl h
theorem qye (s : List UInt8) : Con Tryz.prog 91 [.str s] (.bool (keyF s)) := by
 refine zK {} 300 Tryz.func91 (fun c0 rdb => ?_)
 ((conv => whnf); refine qo (fun _ => rfl) 300 1 (fun i : Nat => [(4, iv i), (3, strs keyL)]) (fun _ => []) (fun i => i ≤ keyL.length ∧ ∀ j, j < i → (keyL.getD j [] == s) = false) (fun i => keyL.length - i) (0) (⟨by omega, fun j hj => absurd hj (Nat.not_lt_zero j)⟩) ⟨Le.refl _, jji _ (fun i hi => match i, hi with | 0, _ => rfl | 1, _ => rfl | 2, _ => rfl | 3, _ => rfl | 4, _ => rfl | 5, _ => rfl | 6, _ => rfl | 7, _ => rfl | 8, _ => rfl | 9, _ => rfl | 10, _ => rfl | 11, _ => rfl | 12, _ => rfl | 13, _ => rfl | 14, _ => rfl | 15, _ => rfl | 16, _ => rfl | 17, _ => rfl | 18, _ => rfl | 19, _ => rfl | 20, _ => rfl | n + 21, h => absurd h (by omega)), trivial⟩ qa (fun _ => rfl) (by kernel_rfl) ?_; (conv => whnf))
 intro i hi
 have h21 : keyL.length = 21 := rfl
 (repeat' ((conv => whnf); first | refine Ob.auto ?_ | (apply zB <;> intro hb <;> (try simp [-zd] at hb) <;> try (exfalso; omega))))
 ·refine Le.of_eq (congrArg AV.bool ?_)
  unfold keyF
  exact (List.any_eq_true.2 ⟨keyL.getD i [], qu keyL i [] (by omega), by simpa using hb⟩).symm
 ·((conv => whnf); refine ⟨i + 1, ⟨by omega, qaq hi.2 (beq_eq_false_iff_ne.2 hb)⟩, ⟨qa, qa⟩, ⟨qa, qa⟩, ?_⟩; (first | omega | (dsimp only; omega) | skip))
 ·refine Le.of_eq (congrArg AV.bool ?_)
  unfold keyF
  rw [eq_comm, Bool.eq_false_iff]
  intro h
  obtain ⟨x, hx, he⟩ := List.any_eq_true.1 h
  obtain ⟨j, hj, rfl⟩ := List.mem_iff_getElem.1 hx
  have := hi.2 j (by omega)
  rw [zd, List.getElem?_eq_getElem hj] at this
  simp only [Option.getD_some] at this
  rw [this] at he; cases he
theorem qyf (s : List UInt8) : Con Tryz.prog 86 [.str s] (.bool (nameF s)) := by
 refine zK {} 300 Tryz.func86 (fun c0 rdb => ?_)
 (repeat' ((conv => whnf); first | refine Ob.auto ?_ | (refine Ob.intro (by ((intro h; simp at h ⊢; exact ⟨h, by have := List.length_pos_iff.2 h.1; omega⟩))) ?_) | refine zG 300 (fun hg => qrz _) ?_ | refine zG 300 (fun hg => qye s) ?_ | (apply zB <;> intro hb <;> (try simp [-zd] at hb) <;> try (exfalso; omega))))
 ·refine Le.of_eq (congrArg AV.bool ?_)
  unfold nameF
  have : (decide (s.length = 0) || decide (12 < s.length) || !qln (qak s 0) || keyF s) = true := by
   simp only [Bool.or_eq_true, decide_eq_true_eq, List.length_eq_zero_iff, Bool.not_eq_true']
   rcases hb with ((hb | hb) | hb) | hb
   ·exact .inl (.inl (.inl hb))
   ·exact .inl (.inl (.inr (by omega)))
   ·exact .inl (.inr hb)
   ·exact .inr hb
  rw [this]; rfl
 ·have h0 : (decide (s.length = 0) || decide (12 < s.length) || !qln (qak s 0) || keyF s) = false := by
   simp only [Bool.or_eq_false_iff, decide_eq_false_iff_not, List.length_eq_zero_iff, Bool.not_eq_false']
   exact ⟨⟨⟨hb.1.1.1, by omega⟩, hb.1.2⟩, hb.2⟩
  ((conv => whnf); refine qo (fun _ => rfl) 300 1 (fun i : Nat => [(3, iv i)]) (fun _ => []) (fun i => i ≤ s.length ∧ ∀ j, j < i → qlo (qak s j) = true) (fun i => s.length - i) (0) (⟨by omega, fun j hj => absurd hj (Nat.not_lt_zero j)⟩) qa qa (fun _ => rfl) (by kernel_rfl) ?_; (conv => whnf))
  intro i hi
  (repeat' ((conv => whnf); first | refine Ob.auto ?_ | refine zC 300 (qyd _) ?_ | (apply zB <;> intro hb <;> (try simp [-zd] at hb) <;> try (exfalso; omega))))
  ·refine Le.of_eq (congrArg AV.bool ?_)
   unfold nameF
   rw [h0, qry (q := fun i => qlo (qak s i)) (i := i) (by omega) hb]; rfl
  ·((conv => whnf); refine ⟨i + 1, ⟨by omega, qaq hi.2 hb⟩, ⟨qa, qa⟩, ⟨qa, qa⟩, ?_⟩; (first | omega | (dsimp only; omega) | skip))
  ·refine Le.of_eq (congrArg AV.bool ?_)
   unfold nameF
   rw [h0, qjq (q := fun i => qlo (qak s i)) (fun j hj => hi.2 j (by omega))]; rfl
theorem qsa (k a b : Int) : Con Tryz.prog 65 [iv k, iv a, iv b] (.bool (inK k a b)) := by
 refine zK {} 300 Tryz.func65 (fun c0 rdb => ?_)
 (repeat' ((conv => whnf); first | refine Ob.auto ?_ | fail))
 exact Le.refl _
theorem qsb (l : List Nd) (n : Nd) (i : Int) (h0 : 0 ≤ i) (h1 : i < n.kids.length) (hk : ∀ k ∈ n.kids, 0 ≤ k ∧ k < l.length) : Con Tryz.prog 66 [ji l, .agg n.cells, iv i] (iv (kidK l n i.toNat)) := by
 have hki := hk _ (qu n.kids i.toNat 0 (by omega))
 refine zK {} 300 Tryz.func66 (fun c0 rdb => ?_)
 (repeat' ((conv => whnf); first | refine Ob.auto ?_ | fail))
 exact Le.refl _
theorem qyg (n : Nd) (hn : NdSz n) (c most : Int) : Con Tryz.prog 63 [.agg n.cells, iv c, iv most] (.bool (numsB n c most)) := by
 have hl := hn.ln
 refine zK {} 300 Tryz.func63 (fun c0 rdb => ?_)
 ((conv => whnf); refine qo (fun _ => rfl) 300 1 (fun i : Nat => [(7, iv i)]) (fun _ => []) (fun i => i ≤ n.nums.length ∧ ∀ j, j < i → (decide (0 ≤ n.nums.getD j 0) && decide (n.nums.getD j 0 ≤ most)) = true) (fun i => n.nums.length - i) (0) (⟨by omega, fun j hj => absurd hj (Nat.not_lt_zero j)⟩) qa qa (fun _ => rfl) (by kernel_rfl) ?_; (conv => whnf))
 intro i hi
 (repeat' ((conv => whnf); first | refine Ob.auto ?_ | (apply zB <;> intro hb <;> (try simp [-zd] at hb) <;> try (exfalso; omega))))
 ·refine Le.of_eq (congrArg AV.bool ?_)
  unfold numsB
  rw [qos (q := fun x => decide (0 ≤ x) && decide (x ≤ most)) 0 (j := i) (by omega) (by simp only [Bool.and_eq_false_iff, decide_eq_false_iff_not]; omega)]; rfl
 ·((conv => whnf); refine ⟨i + 1, ⟨by omega, qaq hi.2 (by simp only [Bool.and_eq_true, decide_eq_true_eq]; omega)⟩, ⟨qa, qa⟩, ⟨qa, qa⟩, ?_⟩; (first | omega | (dsimp only; omega) | skip))
 ·refine Le.of_eq (congrArg AV.bool ?_)
  unfold numsB
  rw [qor (q := fun x => decide (0 ≤ x) && decide (x ≤ most)) 0 (fun j hj => hi.2 j (by omega))]; rfl
theorem qyh (n : Nd) (hn : NdSz n) (c : Int) : Con Tryz.prog 62 [.agg n.cells, iv c] (.bool (wordsB n c)) := by
 have hl := hn.lw
 refine zK {} 300 Tryz.func62 (fun c0 rdb => ?_)
 ((conv => whnf); refine qo (fun _ => rfl) 300 1 (fun i : Nat => [(5, iv i)]) (fun _ => []) (fun i => i ≤ n.words.length ∧ ∀ j, j < i → nameF (n.words.getD j []) = true) (fun i => n.words.length - i) (0) (⟨by omega, fun j hj => absurd hj (Nat.not_lt_zero j)⟩) qa qa (fun _ => rfl) (by kernel_rfl) ?_; (conv => whnf))
 intro i hi
 (repeat' ((conv => whnf); first | refine Ob.auto ?_ | refine zC 300 (qyf _) ?_ | (apply zB <;> intro hb <;> (try simp [-zd] at hb) <;> try (exfalso; omega))))
 ·refine Le.of_eq (congrArg AV.bool ?_)
  unfold wordsB
  rw [qos (q := nameF) [] (j := i) (by omega) hb]; rfl
 ·((conv => whnf); refine ⟨i + 1, ⟨by omega, qaq hi.2 hb⟩, ⟨qa, qa⟩, ⟨qa, qa⟩, ?_⟩; (first | omega | (dsimp only; omega) | skip))
 ·refine Le.of_eq (congrArg AV.bool ?_)
  unfold wordsB
  rw [qor (q := nameF) [] (fun j hj => hi.2 j (by omega))]; rfl
theorem qyi (l : List Nd) (n : Nd) (hn : NdSz n) (hk : ∀ k ∈ n.kids, 0 ≤ k ∧ k < l.length) (frm : Nat) (hf : frm ≤ n.kids.length) (a b : Int) : Con Tryz.prog 64 [ji l, .agg n.cells, iv frm, iv a, iv b] (.bool (allB l n frm a b)) := by
 have hl := hn.lk
 refine zK {} 300 Tryz.func64 (fun c0 rdb => ?_)
 ((conv => whnf); refine qo (fun _ => rfl) 300 1 (fun i : Nat => [(11, iv i)]) (fun _ => []) (fun i => (frm ≤ i ∧ i ≤ n.kids.length) ∧ ∀ j, j < i → (decide (j < frm) || inK (kidK l n j) a b) = true) (fun i => n.kids.length - i) (frm) (⟨by omega, fun j hj => by simp [hj]⟩) qa qa (fun _ => rfl) (by kernel_rfl) ?_; (conv => whnf))
 intro i hi
 (repeat' ((conv => whnf); first | refine Ob.auto ?_ | refine zC 300 (qsb l n i (by omega) (by omega) hk) ?_ | refine zC 300 (qsa _ _ _) ?_ | (apply zB <;> intro hb <;> (try simp [-zd] at hb) <;> try (exfalso; omega))))
 ·refine Le.of_eq (congrArg AV.bool ?_)
  exact (qry (i := i) (by omega) (by simp only [Bool.or_eq_false_iff, decide_eq_false_iff_not]; exact ⟨by omega, hb⟩)).symm
 ·((conv => whnf); refine ⟨i + 1, ⟨by omega, qaq hi.2 (by rw [Bool.or_eq_true]; exact .inr hb)⟩, ⟨qa, qa⟩, ⟨qa, qa⟩, ?_⟩; (first | omega | (dsimp only; omega) | skip))
 ·refine Le.of_eq (congrArg AV.bool ?_)
  exact (qjq (fun j hj => hi.2 j (by omega))).symm
theorem jjj (l : List Nd) (n : Nd) (hn : NdSz n) (hk : ∀ k ∈ n.kids, 0 ≤ k ∧ k < l.length) (first least most : Int) (hf : (0 ≤ first ∧ first ≤ 100000) ∧ (0 ≤ least ∧ least ≤ 100000) ∧ (0 ≤ most ∧ most ≤ 100000)) : Con Tryz.prog 67 [ji l, .agg n.cells, iv first, iv least, iv most] (.bool (exprsB l n first least most)) := by
 have hl := hn.lk
 refine zK {} 300 Tryz.func67 (fun c0 rdb => ?_)
 ((conv => whnf); refine qo (fun _ => rfl) 300 1 (fun i : Nat => [(12, iv i)]) (fun _ => []) (fun i => i ≤ n.kids.length ∧ ∀ j, j < i → (!(decide ((j : Int) < first) && !inK (kidK l n j) 17 22 || decide (first ≤ (j : Int)) && kidK l n j != 16)) = true) (fun i => n.kids.length - i) (0) (⟨by omega, fun j hj => absurd hj (Nat.not_lt_zero j)⟩) qa qa (fun _ => rfl) (by kernel_rfl) ?_; (conv => whnf))
 intro i hi
 (repeat' ((conv => whnf); first | refine Ob.auto ?_ | refine zG 300 (fun hg => qsb l n i (by omega) (by omega) hk) ?_ | refine zG 300 (fun hg => qsa _ _ _) ?_ | (apply zB <;> intro hb <;> (try simp [-zd] at hb) <;> try (exfalso; omega))))
 ·refine Le.of_eq (congrArg AV.bool ?_)
  unfold exprsB
  rw [qry (i := i) (by omega) (by
   simp only [Bool.not_eq_false', Bool.or_eq_true, Bool.and_eq_true, decide_eq_true_eq, Bool.not_eq_true', bne_iff_ne, ne_eq]
   exact hb)]; rfl
 ·((conv => whnf); refine ⟨i + 1, ⟨by omega, qaq hi.2 (by
   simp only [Bool.not_eq_true', Bool.or_eq_false_iff, Bool.and_eq_false_imp, decide_eq_true_eq, Bool.not_eq_false', bne_eq_false_iff_eq]
   exact hb)⟩, ⟨qa, qa⟩, ⟨qa, qa⟩, ?_⟩; (first | omega | (dsimp only; omega) | skip))
 ·refine Le.of_eq (congrArg AV.bool ?_)
  unfold exprsB
  rw [qjq (fun j hj => hi.2 j (by omega))]; rfl
end Go.Proofs.YtdoaagphhjggbaaGreatDoor
end
section
namespace Go.Proofs.YtdoaagphhjggbaaGreatDoor
open Go Go.Sx Go.RowKit Go.St
set_option maxRecDepth 100000
set_option maxHeartbeats 4000000
theorem jjk (l : List Nd) (n : Nd) (hn : NdSz n) (hk : ∀ k ∈ n.kids, 0 ≤ k ∧ k < l.length) : Con Tryz.prog 35 [ji l, .agg n.cells] (.bool (nodeB l n)) := by
 have hl := hn.lk
 refine zK {} 600 Tryz.func35 (fun c0 rdb => ?_)
 (repeat' ((conv => whnf); first | refine Ob.auto ?_ | (refine Ob.intro (by ((intro h; refine ⟨h, ?_⟩; simp only [Bool.and_eq_true, numsB, beq_iff_eq] at h; omega))) ?_) | refine zC 600 (qyh n hn _) ?_ | refine zG 600 (fun hg => qyg n hn _ _) ?_ | refine zG 600 (fun hg => qyi l n hn hk 0 (by omega) _ _) ?_ | refine zG 600 (fun hg => jjj l n hn hk _ _ _ (by omega)) ?_ | refine zG 600 (fun hg => qsa _ _ _) ?_ | (apply zB <;> intro hb <;> (try simp [-List.getD_eq_getElem?_getD] at hb) <;> try (exfalso; omega))))
 all_goals first
  | (refine Le.of_eq (congrArg AV.bool ?_); rw [nodeB]; ((repeat (first | rw [if_pos (by omega)] | rw [if_neg (by omega)])) <;> rfl))
  | skip
 ((conv => whnf); refine qo (fun _ => rfl) 600 1 (fun i : Nat => [(6, iv i)]) (fun _ => []) (fun i => i ≤ n.kids.length ∧ ∀ j, j < i → kidK l n j = 2) (fun i => n.kids.length - i) (0) (⟨by omega, fun j hj => absurd hj (Nat.not_lt_zero j)⟩) qa qa (fun _ => rfl) (by kernel_rfl) ?_; (conv => whnf))
 intro i hi
 (repeat' ((conv => whnf); first | refine Ob.auto ?_ | (refine qvu (fun _ => rfl) 600 (fun hg => qsb l n i (by omega) (by first | omega | (have := of_decide_eq_true hg; omega)) hk) (by rfl) qga (by kernel_rfl) ?_) | refine zC 600 (qyh n hn _) ?_ | refine zG 600 (fun hg => qyg n hn _ _) ?_ | refine zG 600 (fun hg => qyi l n hn hk i (by omega) _ _) ?_ | (apply zB <;> intro hb <;> (try simp [-List.getD_eq_getElem?_getD] at hb) <;> try (exfalso; omega))))
 ·((conv => whnf); refine ⟨i + 1, ⟨by omega, qaq hi.2 hb.2⟩, ⟨qa, qa⟩, ⟨qa, qa⟩, ?_⟩; (first | omega | (dsimp only; omega) | skip))
 ·rename_i h3
  refine Le.of_eq (congrArg AV.bool ?_)
  rw [nodeB, if_neg (by omega), if_neg (by omega), if_neg (by omega), if_pos (by omega), qya l n i hi.1 hi.2 (by omega)]
end Go.Proofs.YtdoaagphhjggbaaGreatDoor
end
