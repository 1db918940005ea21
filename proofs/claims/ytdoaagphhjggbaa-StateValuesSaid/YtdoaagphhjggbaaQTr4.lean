/- Contracts: which trees are right: the whole; which are small. -/
import Derived.Test.YtdoaagphhjggbaaQTr2
import Derived.Test.YtdoaagphhjggbaaQTr3
namespace Go.Proofs.Ytdoaagphhjggbaa
open Go Go.Sx Go.RowKit Go.St
set_option maxRecDepth 100000
set_option maxHeartbeats 4000000

theorem right_con (l : List Nd) (hl : l.length ≤ 9223372036854775807) (hz : ∀ n ∈ l, NdSz n) : Con Try.prog 27 [treeV l] (.bool (rightB l)) := by
  by_cases h0 : (decide (l.length = 0) || decide (800 < l.length) || (l.getD 0 Nd.none).kind != 0) = true
  · have hr : rightB l = false := by unfold rightB; rw [h0]; rfl
    rw [hr]
    simp only [Bool.or_eq_true, decide_eq_true_eq, bne_iff_ne, ne_eq] at h0
    refine con_of_exec (T := tab Try.prog) (C := {}) 300 (fun _ => rfl) Try.func27 rfl (by kernel_rfl) (by kernel_rfl) (fun c0 rdb => ?_)
    (repeat' ((conv => whnf); first | (refine Ob.intro (OrdG.intro (by kernel_rfl)) ?_) | (refine Ob.auto ?_) | (refine Ob.intro (by ((intro h; simp at h; have := List.length_pos_iff.2 h.1; exact ⟨by simp [h], by omega, by omega⟩))) ?_) | (refine draw_x (fun _ => rfl) (by kernel_rfl) 300 ?_) | (refine Br.intro (fun hb => ?_) (fun hb => ?_) <;> (try simp [-List.getD_eq_getElem?_getD] at hb) <;> (try (exfalso; omega))) | (refine Ob.intro ?_ ?_)))
    · exact Le.refl _
    · exfalso
      have := List.length_pos_iff.2 hb.1.1
      omega
  · have h0' : (decide (l.length = 0) || decide (800 < l.length) || (l.getD 0 Nd.none).kind != 0) = false := by simpa using h0
    simp only [Bool.or_eq_true, decide_eq_true_eq, bne_iff_ne, ne_eq, not_or, Decidable.not_not] at h0
    have hr : rightB l = (((walkF l 20 0).2 && (walkF l 20 0).1 == l.length) && l.all (nodeB l)) := by unfold rightB; rw [h0']; rfl
    rw [hr]
    refine con_of_exec (T := tab Try.prog) (C := {}) 300 (fun _ => rfl) Try.func27 rfl (by kernel_rfl) (by kernel_rfl) (fun c0 rdb => ?_)
    (repeat' ((conv => whnf); first | (refine Ob.intro (OrdG.intro (by kernel_rfl)) ?_) | (refine Ob.auto ?_) | (refine call_eq (fun _ => rfl) 300 (walk_con l hl hz 20 0 1 (by omega) (by omega) (by omega) (by omega)) (by rfl) (by kernel_rfl) ?_) | (refine gcall_eq (fun _ => rfl) 300 (fun hg => walk_con l hl hz 20 0 1 (by omega) (by omega) (by omega) (by omega)) (by rfl) rflsA (by kernel_rfl) ?_) | (refine CallX.intro _ (callOb (walk_con l hl hz 20 0 1 (by omega) (by omega) (by omega) (by omega)) (by rfl)) ?_) | (refine CallX.intro _ (callObG (fun hg => walk_con l hl hz 20 0 1 (by omega) (by omega) (by omega) (by omega)) rflsA (by rfl)) ?_) | (refine call_lend (fun _ => rfl) 300 (walk_con l hl hz 20 0 1 (by omega) (by omega) (by omega) (by omega)) holdA (by repeat' (first | exact trivial | exact Le.refl _ | (refine And.intro ?_ ?_))) (by rfl) (by kernel_rfl) ?_) | (refine gcall_lend (fun _ => rfl) 300 (fun hg => walk_con l hl hz 20 0 1 (by omega) (by omega) (by omega) (by omega)) (fun hg => holdA) (fun hg => (by repeat' (first | exact trivial | exact Le.refl _ | exact Le.cnd hg | (refine And.intro ?_ ?_)))) (by rfl) (by kernel_rfl) ?_) | (refine draw_x (fun _ => rfl) (by kernel_rfl) 300 ?_) | (refine Br.intro (fun hb => ?_) (fun hb => ?_) <;> (try simp [-List.getD_eq_getElem?_getD] at hb) <;> (try (exfalso; omega))) | (refine Ob.intro ?_ ?_)))
    · exfalso; rcases hb with (hb | hb) | hb
      · rw [hb] at h0; simp at h0
      · omega
      · omega
    · refine Le.of_eq (congrArg AV.bool ?_)
      rcases hb with hb | hb
      · rw [hb]; rfl
      · rw [show ((walkF l 20 0).1 == (l.length : Int)) = false from beq_eq_false_iff_ne.2 hb, Bool.and_false]; rfl
    · have hw : ((walkF l 20 0).2 && (walkF l 20 0).1 == (l.length : Int)) = true := by rw [hb.1, hb.2]; simp
      have hk : ∀ j : Nat, j < l.length → ∀ k ∈ (l.getD j Nd.none).kids, 0 ≤ k ∧ k < l.length := fun j hj k hk => by
        have := (walkF_good l 20 0 l.length (Int.le_refl _) (Prod.ext hb.2 hb.1)).2 j (by omega) (by omega) k hk
        omega
      ((conv => whnf); refine loop_auto (fun _ => rfl) 300 1 (fun i : Nat => [(5, iv i)]) (fun _ => []) (fun i => i ≤ l.length ∧ ∀ j, j < i → nodeB l (l.getD j Nd.none) = true) (fun i => l.length - i) (0) (⟨by omega, fun j hj => absurd hj (Nat.not_lt_zero j)⟩) subtA subtA (fun _ => rfl) (by kernel_rfl) ?_; (conv => whnf))
      intro i hi
      (repeat' ((conv => whnf); first | (refine Ob.intro (OrdG.intro (by kernel_rfl)) ?_) | (refine Ob.auto ?_) | (refine Ob.intro (by (exact ⟨by omega, by omega⟩)) ?_) | (refine call_eq (fun _ => rfl) 300 (node_con l (l.getD i Nd.none) (hz _ (getD_mem l i Nd.none (by omega))) (hk i (by omega))) (by rfl) (by kernel_rfl) ?_) | (refine gcall_eq (fun _ => rfl) 300 (fun hg => node_con l (l.getD i Nd.none) (hz _ (getD_mem l i Nd.none (by omega))) (hk i (by omega))) (by rfl) rflsA (by kernel_rfl) ?_) | (refine CallX.intro _ (callOb (node_con l (l.getD i Nd.none) (hz _ (getD_mem l i Nd.none (by omega))) (hk i (by omega))) (by rfl)) ?_) | (refine CallX.intro _ (callObG (fun hg => node_con l (l.getD i Nd.none) (hz _ (getD_mem l i Nd.none (by omega))) (hk i (by omega))) rflsA (by rfl)) ?_) | (refine call_lend (fun _ => rfl) 300 (node_con l (l.getD i Nd.none) (hz _ (getD_mem l i Nd.none (by omega))) (hk i (by omega))) holdA (by repeat' (first | exact trivial | exact Le.refl _ | (refine And.intro ?_ ?_))) (by rfl) (by kernel_rfl) ?_) | (refine gcall_lend (fun _ => rfl) 300 (fun hg => node_con l (l.getD i Nd.none) (hz _ (getD_mem l i Nd.none (by omega))) (hk i (by omega))) (fun hg => holdA) (fun hg => (by repeat' (first | exact trivial | exact Le.refl _ | exact Le.cnd hg | (refine And.intro ?_ ?_)))) (by rfl) (by kernel_rfl) ?_) | (refine draw_x (fun _ => rfl) (by kernel_rfl) 300 ?_) | (refine Br.intro (fun hb => ?_) (fun hb => ?_) <;> (try simp [-List.getD_eq_getElem?_getD] at hb) <;> (try (exfalso; omega))) | (refine Ob.intro ?_ ?_)))
      · refine Le.of_eq (congrArg AV.bool ?_)
        rw [hw, all_no (q := nodeB l) Nd.none (j := i) (by omega) hb]; rfl
      · ((conv => whnf); refine ⟨i + 1, ⟨by omega, upto_succ hi.2 hb⟩, ⟨subtA, subtA⟩, ⟨subtA, subtA⟩, ?_⟩; (first | omega | (dsimp only; omega) | skip))
      · refine Le.of_eq (congrArg AV.bool ?_)
        rw [hw, all_upto (q := nodeB l) Nd.none (fun j hj => hi.2 j (by omega))]; rfl

/-- The nodes, words, numbers, kids, as the machine adds them, up to too many. -/
def smallF : List Nd → Int → Int
  | [], n => n
  | x :: r, n => if n ≤ 1500 then smallF r (IntKind.i64.wrap (IntKind.i64.wrap (IntKind.i64.wrap (n + x.words.length) + x.nums.length) + x.kids.length)) else n

theorem small_con (l : List Nd) (hl : l.length ≤ 9223372036854775807) : Con Try.prog 26 [treeV l] (.bool (decide (smallF l l.length ≤ 1500))) := by
  refine con_of_exec (T := tab Try.prog) (C := {wraps := [18, 19, 20, 21, 22, 23, 24, 25, 26, 27, 28, 29, 30, 31, 32, 33, 34, 35, 36, 37, 38]}) 300 (fun _ => rfl) Try.func26 rfl (by kernel_rfl) (by kernel_rfl) (fun c0 rdb => ?_)
  (repeat' ((conv => whnf); first | (refine Ob.intro (OrdG.intro (by kernel_rfl)) ?_) | (refine Ob.auto ?_) | (refine draw_x (fun _ => rfl) (by kernel_rfl) 300 ?_) | (refine Br.intro (fun hb => ?_) (fun hb => ?_) <;> (try simp [-List.getD_eq_getElem?_getD] at hb) <;> (try (exfalso; omega))) | (refine Ob.intro ?_ ?_)))
  ((conv => whnf); refine loop_auto (fun _ => rfl) 300 1 (fun g : Nat × Int => [(4, iv g.1), (3, iv g.2)]) (fun _ => []) (fun g => g.1 ≤ l.length ∧ smallF l l.length = smallF (l.drop g.1) g.2) (fun g => l.length - g.1) ((0, (l.length : Int))) (⟨by simp, rfl⟩) subtA subtA (fun _ => rfl) (by kernel_rfl) ?_; (conv => whnf))
  rintro ⟨i, n⟩ ⟨hi, hs⟩
  simp only at hi hs
  (repeat' ((conv => whnf); first | (refine Ob.intro (OrdG.intro (by kernel_rfl)) ?_) | (refine Ob.auto ?_) | (refine Ob.intro (by (exact ⟨by omega, by omega⟩)) ?_) | (refine draw_x (fun _ => rfl) (by kernel_rfl) 300 ?_) | (refine Br.intro (fun hb => ?_) (fun hb => ?_) <;> (try simp [-List.getD_eq_getElem?_getD] at hb) <;> (try (exfalso; omega))) | (refine Ob.intro ?_ ?_)))
  · rw [drop_getD l i Nd.none (by omega), smallF, if_pos (by omega)] at hs
    ((conv => whnf); refine ⟨(i + 1, IntKind.i64.wrap (IntKind.i64.wrap (IntKind.i64.wrap (n + (l.getD i Nd.none).words.length) + (l.getD i Nd.none).nums.length) + (l.getD i Nd.none).kids.length)), ⟨by simp only; omega, hs⟩, ⟨subtA, subtA⟩, ⟨subtA, subtA⟩, ?_⟩; (first | omega | (dsimp only; omega) | skip))
  · refine Le.of_eq (congrArg AV.bool ?_)
    by_cases hl : i < l.length
    · rw [drop_getD l i Nd.none (by omega), smallF, if_neg (by omega)] at hs
      rw [hs]
    · obtain rfl : i = l.length := by omega
      rw [List.drop_length, smallF] at hs
      rw [hs]

end Go.Proofs.Ytdoaagphhjggbaa
