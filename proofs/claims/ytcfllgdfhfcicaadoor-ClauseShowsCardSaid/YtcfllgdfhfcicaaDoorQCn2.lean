/- Contracts: which literals, which clauses a closure picks (written by gen_cn.py). -/
import Derived.Test.YtcfllgdfhfcicaaDoorQCn1
set_option linter.unusedSimpArgs false
set_option linter.unusedVariables false
namespace Go.Proofs.YtcfllgdfhfcicaaDoor
open Go Go.Sx Go.RowKit Go.St Go.Cl
set_option maxRecDepth 100000
set_option maxHeartbeats 4000000

theorem indexR_con  (l : List (Int)) (hl : l.length ≤ 1000000) : Con Tryd.prog 54 [ints l, .fn 36 []] (iv (idx (fun x => !litB x) l)) := by
  refine con_of_exec (T := tab Tryd.prog) (C := {}) 300 (fun _ => rfl) Tryd.func54 rfl (by kernel_rfl) (by kernel_rfl) (fun c0 rdb => ?_)
  (repeat' ((conv => whnf); first | (refine AltG.none (by kernel_rfl) (EndG.go ?_)) | (refine Ob.intro (OrdG.intro (by kernel_rfl)) ?_) | (refine Ob.auto ?_) | (refine draw3n (fun _ => rfl) (by kernel_rfl) 300 (by rfl) ?_) | (refine Br.intro (fun hb => ?_) (fun hb => ?_) <;> (try simp [-List.getD_eq_getElem?_getD] at hb) <;> (try (exfalso; omega))) | (refine Ob.intro ?_ ?_)))
  ((conv => whnf); refine loop_auto (fun _ => rfl) 300 1 (fun i : Nat => [(8, iv i)]) (fun _ => []) (fun i => i ≤ l.length ∧ ∀ j, j < i → (fun x => !litB x) (l.getD j 0) = false) (fun i => l.length - i) (0) (⟨by omega, fun j hj => absurd hj (Nat.not_lt_zero j)⟩) subtA subtA (fun _ => rfl) (by kernel_rfl) ?_; (conv => whnf))
  intro i hi
  by_cases hil : i < l.length
  · have hc := right1_con (l.getD i 0)
    (repeat' ((conv => whnf); first | (refine AltG.none (by kernel_rfl) (EndG.go ?_)) | (refine Ob.intro (OrdG.intro (by kernel_rfl)) ?_) | (refine Ob.auto ?_) | (refine call_eq (fun _ => rfl) 300 (hc) (by rfl) (by kernel_rfl) ?_) | (refine gcall_eq (fun _ => rfl) 300 (fun hg => hc) (by rfl) rflsA (by kernel_rfl) ?_) | (refine CallY.con (hc) (by rfl) leA ?_) | (refine CallZ.con (fun hg => hc) rflsA (by rfl) ?_) | (refine call_lend (fun _ => rfl) 300 (hc) holdA (by repeat' (first | exact trivial | exact Le.refl _ | (refine And.intro ?_ ?_))) (by rfl) (by kernel_rfl) ?_) | (refine gcall_lend (fun _ => rfl) 300 (fun hg => hc) (fun hg => holdA) (fun hg => (by repeat' (first | exact trivial | exact Le.refl _ | exact Le.cnd hg | (refine And.intro ?_ ?_)))) (by rfl) (by kernel_rfl) ?_) | (refine draw3n (fun _ => rfl) (by kernel_rfl) 300 (by rfl) ?_) | (refine Br.intro (fun hb => ?_) (fun hb => ?_) <;> (try simp [-List.getD_eq_getElem?_getD] at hb) <;> (try (exfalso; omega))) | (refine Ob.intro ?_ ?_)))
    · refine Le.of_eq (congrArg (AV.int _) ?_)
      exact (idx_at _ l 0 i (by omega) (by simp [-List.getD_eq_getElem?_getD, hb]) hi.2).symm
    · ((conv => whnf); refine ⟨i + 1, ⟨by omega, upto_succ hi.2 (by first | (simp [-List.getD_eq_getElem?_getD, hb]; done) | (simp [-List.getD_eq_getElem?_getD, ]; exact hb))⟩, ⟨subtA, subtA⟩, ⟨subtA, subtA⟩, ?_⟩; (first | omega | (dsimp only; omega) | skip))
  · (repeat' ((conv => whnf); first | (refine AltG.none (by kernel_rfl) (EndG.go ?_)) | (refine Ob.intro (OrdG.intro (by kernel_rfl)) ?_) | (refine Ob.auto ?_) | (refine draw3n (fun _ => rfl) (by kernel_rfl) 300 (by rfl) ?_) | (refine Br.intro (fun hb => ?_) (fun hb => ?_) <;> (try simp [-List.getD_eq_getElem?_getD] at hb) <;> (try (exfalso; omega))) | (refine Ob.intro ?_ ?_)))
    refine Le.of_eq (congrArg (AV.int _) ?_)
    exact (idx_none _ l 0 (fun j hj => hi.2 j (by omega))).symm

theorem hasR_con  (l : List (Int)) (hl : l.length ≤ 1000000) : Con Tryd.prog 35 [ints l, .fn 36 []] (.bool (l.any fun x => !litB x)) := by
  have hc := indexR_con  l hl
  refine con_of_exec (T := tab Tryd.prog) (C := {}) 300 (fun _ => rfl) Tryd.func35 rfl (by kernel_rfl) (by kernel_rfl) (fun c0 rdb => ?_)
  (repeat' ((conv => whnf); first | (refine AltG.none (by kernel_rfl) (EndG.go ?_)) | (refine Ob.intro (OrdG.intro (by kernel_rfl)) ?_) | (refine Ob.auto ?_) | (refine call_eq (fun _ => rfl) 300 (hc) (by rfl) (by kernel_rfl) ?_) | (refine gcall_eq (fun _ => rfl) 300 (fun hg => hc) (by rfl) rflsA (by kernel_rfl) ?_) | (refine CallY.con (hc) (by rfl) leA ?_) | (refine CallZ.con (fun hg => hc) rflsA (by rfl) ?_) | (refine call_lend (fun _ => rfl) 300 (hc) holdA (by repeat' (first | exact trivial | exact Le.refl _ | (refine And.intro ?_ ?_))) (by rfl) (by kernel_rfl) ?_) | (refine gcall_lend (fun _ => rfl) 300 (fun hg => hc) (fun hg => holdA) (fun hg => (by repeat' (first | exact trivial | exact Le.refl _ | exact Le.cnd hg | (refine And.intro ?_ ?_)))) (by rfl) (by kernel_rfl) ?_) | (refine draw3n (fun _ => rfl) (by kernel_rfl) 300 (by rfl) ?_) | (refine Br.intro (fun hb => ?_) (fun hb => ?_) <;> (try simp [-List.getD_eq_getElem?_getD] at hb) <;> (try (exfalso; omega))) | (refine Ob.intro ?_ ?_)))
  refine Le.of_eq (congrArg AV.bool ?_)
  exact idx_any' _ l

theorem right_con01 (c : List Int) (hl : c.length ≤ 1000000) : Con Tryd.prog 15 [ints c] (.bool (rightB c)) := by
  have hc := hasR_con c hl
  refine con_of_exec (T := tab Tryd.prog) (C := {}) 300 (fun _ => rfl) Tryd.func15 rfl (by kernel_rfl) (by kernel_rfl) (fun c0 rdb => ?_)
  (repeat' ((conv => whnf); first | (refine AltG.none (by kernel_rfl) (EndG.go ?_)) | (refine Ob.intro (OrdG.intro (by kernel_rfl)) ?_) | (refine Ob.auto ?_) | (refine call_eq (fun _ => rfl) 300 (hc) (by rfl) (by kernel_rfl) ?_) | (refine gcall_eq (fun _ => rfl) 300 (fun hg => hc) (by rfl) rflsA (by kernel_rfl) ?_) | (refine CallY.con (hc) (by rfl) leA ?_) | (refine CallZ.con (fun hg => hc) rflsA (by rfl) ?_) | (refine call_lend (fun _ => rfl) 300 (hc) holdA (by repeat' (first | exact trivial | exact Le.refl _ | (refine And.intro ?_ ?_))) (by rfl) (by kernel_rfl) ?_) | (refine gcall_lend (fun _ => rfl) 300 (fun hg => hc) (fun hg => holdA) (fun hg => (by repeat' (first | exact trivial | exact Le.refl _ | exact Le.cnd hg | (refine And.intro ?_ ?_)))) (by rfl) (by kernel_rfl) ?_) | (refine draw3n (fun _ => rfl) (by kernel_rfl) 300 (by rfl) ?_) | (refine Br.intro (fun hb => ?_) (fun hb => ?_) <;> (try simp [-List.getD_eq_getElem?_getD] at hb) <;> (try (exfalso; omega))) | (refine Ob.intro ?_ ?_)))
  refine Le.of_eq (congrArg AV.bool ?_)
  unfold rightB
  rw [all_any]

theorem indexH_con (m : List Bool) (l : List (Int)) (hl : l.length ≤ 1000000) : Con Tryd.prog 54 [ints l, .fn 38 [.rptr [bools m]]] (iv (idx (fun x => litB x && isTrue m x) l)) := by
  refine con_of_exec (T := tab Tryd.prog) (C := {}) 300 (fun _ => rfl) Tryd.func54 rfl (by kernel_rfl) (by kernel_rfl) (fun c0 rdb => ?_)
  (repeat' ((conv => whnf); first | (refine AltG.none (by kernel_rfl) (EndG.go ?_)) | (refine Ob.intro (OrdG.intro (by kernel_rfl)) ?_) | (refine Ob.auto ?_) | (refine draw3n (fun _ => rfl) (by kernel_rfl) 300 (by rfl) ?_) | (refine Br.intro (fun hb => ?_) (fun hb => ?_) <;> (try simp [-List.getD_eq_getElem?_getD] at hb) <;> (try (exfalso; omega))) | (refine Ob.intro ?_ ?_)))
  ((conv => whnf); refine loop_auto (fun _ => rfl) 300 1 (fun i : Nat => [(8, iv i)]) (fun _ => []) (fun i => i ≤ l.length ∧ ∀ j, j < i → (fun x => litB x && isTrue m x) (l.getD j 0) = false) (fun i => l.length - i) (0) (⟨by omega, fun j hj => absurd hj (Nat.not_lt_zero j)⟩) subtA subtA (fun _ => rfl) (by kernel_rfl) ?_; (conv => whnf))
  intro i hi
  by_cases hil : i < l.length
  · have hc := holds1_con m (l.getD i 0)
    (repeat' ((conv => whnf); first | (refine AltG.none (by kernel_rfl) (EndG.go ?_)) | (refine Ob.intro (OrdG.intro (by kernel_rfl)) ?_) | (refine Ob.auto ?_) | (refine call_eq (fun _ => rfl) 300 (hc) (by rfl) (by kernel_rfl) ?_) | (refine gcall_eq (fun _ => rfl) 300 (fun hg => hc) (by rfl) rflsA (by kernel_rfl) ?_) | (refine CallY.con (hc) (by rfl) leA ?_) | (refine CallZ.con (fun hg => hc) rflsA (by rfl) ?_) | (refine call_lend (fun _ => rfl) 300 (hc) holdA (by repeat' (first | exact trivial | exact Le.refl _ | (refine And.intro ?_ ?_))) (by rfl) (by kernel_rfl) ?_) | (refine gcall_lend (fun _ => rfl) 300 (fun hg => hc) (fun hg => holdA) (fun hg => (by repeat' (first | exact trivial | exact Le.refl _ | exact Le.cnd hg | (refine And.intro ?_ ?_)))) (by rfl) (by kernel_rfl) ?_) | (refine draw3n (fun _ => rfl) (by kernel_rfl) 300 (by rfl) ?_) | (refine Br.intro (fun hb => ?_) (fun hb => ?_) <;> (try simp [-List.getD_eq_getElem?_getD] at hb) <;> (try (exfalso; omega))) | (refine Ob.intro ?_ ?_)))
    · refine Le.of_eq (congrArg (AV.int _) ?_)
      exact (idx_at _ l 0 i (by omega) (by simp [-List.getD_eq_getElem?_getD, hb]) hi.2).symm
    · ((conv => whnf); refine ⟨i + 1, ⟨by omega, upto_succ hi.2 (by first | (simp [-List.getD_eq_getElem?_getD, hb]; done) | (simp [-List.getD_eq_getElem?_getD, ]; exact hb))⟩, ⟨subtA, subtA⟩, ⟨subtA, subtA⟩, ?_⟩; (first | omega | (dsimp only; omega) | skip))
  · (repeat' ((conv => whnf); first | (refine AltG.none (by kernel_rfl) (EndG.go ?_)) | (refine Ob.intro (OrdG.intro (by kernel_rfl)) ?_) | (refine Ob.auto ?_) | (refine draw3n (fun _ => rfl) (by kernel_rfl) 300 (by rfl) ?_) | (refine Br.intro (fun hb => ?_) (fun hb => ?_) <;> (try simp [-List.getD_eq_getElem?_getD] at hb) <;> (try (exfalso; omega))) | (refine Ob.intro ?_ ?_)))
    refine Le.of_eq (congrArg (AV.int _) ?_)
    exact (idx_none _ l 0 (fun j hj => hi.2 j (by omega))).symm

theorem hasH_con (m : List Bool) (l : List (Int)) (hl : l.length ≤ 1000000) : Con Tryd.prog 35 [ints l, .fn 38 [.rptr [bools m]]] (.bool (l.any fun x => litB x && isTrue m x)) := by
  have hc := indexH_con m l hl
  refine con_of_exec (T := tab Tryd.prog) (C := {}) 300 (fun _ => rfl) Tryd.func35 rfl (by kernel_rfl) (by kernel_rfl) (fun c0 rdb => ?_)
  (repeat' ((conv => whnf); first | (refine AltG.none (by kernel_rfl) (EndG.go ?_)) | (refine Ob.intro (OrdG.intro (by kernel_rfl)) ?_) | (refine Ob.auto ?_) | (refine call_eq (fun _ => rfl) 300 (hc) (by rfl) (by kernel_rfl) ?_) | (refine gcall_eq (fun _ => rfl) 300 (fun hg => hc) (by rfl) rflsA (by kernel_rfl) ?_) | (refine CallY.con (hc) (by rfl) leA ?_) | (refine CallZ.con (fun hg => hc) rflsA (by rfl) ?_) | (refine call_lend (fun _ => rfl) 300 (hc) holdA (by repeat' (first | exact trivial | exact Le.refl _ | (refine And.intro ?_ ?_))) (by rfl) (by kernel_rfl) ?_) | (refine gcall_lend (fun _ => rfl) 300 (fun hg => hc) (fun hg => holdA) (fun hg => (by repeat' (first | exact trivial | exact Le.refl _ | exact Le.cnd hg | (refine And.intro ?_ ?_)))) (by rfl) (by kernel_rfl) ?_) | (refine draw3n (fun _ => rfl) (by kernel_rfl) 300 (by rfl) ?_) | (refine Br.intro (fun hb => ?_) (fun hb => ?_) <;> (try simp [-List.getD_eq_getElem?_getD] at hb) <;> (try (exfalso; omega))) | (refine Ob.intro ?_ ?_)))
  refine Le.of_eq (congrArg AV.bool ?_)
  exact idx_any' _ l

theorem holds_con01 (c : List Int) (m : List Bool) (hl : c.length ≤ 1000000) : Con Tryd.prog 16 [ints c, bools m] (.bool (holdsB c m)) := by
  have hc := hasH_con m c hl
  refine con_of_exec (T := tab Tryd.prog) (C := {}) 300 (fun _ => rfl) Tryd.func16 rfl (by kernel_rfl) (by kernel_rfl) (fun c0 rdb => ?_)
  (repeat' ((conv => whnf); first | (refine AltG.none (by kernel_rfl) (EndG.go ?_)) | (refine Ob.intro (OrdG.intro (by kernel_rfl)) ?_) | (refine Ob.auto ?_) | (refine call_eq (fun _ => rfl) 300 (hc) (by rfl) (by kernel_rfl) ?_) | (refine gcall_eq (fun _ => rfl) 300 (fun hg => hc) (by rfl) rflsA (by kernel_rfl) ?_) | (refine CallY.con (hc) (by rfl) leA ?_) | (refine CallZ.con (fun hg => hc) rflsA (by rfl) ?_) | (refine call_lend (fun _ => rfl) 300 (hc) holdA (by repeat' (first | exact trivial | exact Le.refl _ | (refine And.intro ?_ ?_))) (by rfl) (by kernel_rfl) ?_) | (refine gcall_lend (fun _ => rfl) 300 (fun hg => hc) (fun hg => holdA) (fun hg => (by repeat' (first | exact trivial | exact Le.refl _ | exact Le.cnd hg | (refine And.intro ?_ ?_)))) (by rfl) (by kernel_rfl) ?_) | (refine draw3n (fun _ => rfl) (by kernel_rfl) 300 (by rfl) ?_) | (refine Br.intro (fun hb => ?_) (fun hb => ?_) <;> (try simp [-List.getD_eq_getElem?_getD] at hb) <;> (try (exfalso; omega))) | (refine Ob.intro ?_ ?_)))
  exact Le.refl _

theorem all1_con (c : List Int) (m : List Bool) (hl : c.length ≤ 1000000) : Con Tryd.prog 40 [ints c, .rptr [bools m]] (.bool (!holdsB c m)) := by
  have hc := holds_con01 c m hl
  refine con_of_exec (T := tab Tryd.prog) (C := {}) 300 (fun _ => rfl) Tryd.func40 rfl (by kernel_rfl) (by kernel_rfl) (fun c0 rdb => ?_)
  (repeat' ((conv => whnf); first | (refine AltG.none (by kernel_rfl) (EndG.go ?_)) | (refine Ob.intro (OrdG.intro (by kernel_rfl)) ?_) | (refine Ob.auto ?_) | (refine call_eq (fun _ => rfl) 300 (hc) (by rfl) (by kernel_rfl) ?_) | (refine gcall_eq (fun _ => rfl) 300 (fun hg => hc) (by rfl) rflsA (by kernel_rfl) ?_) | (refine CallY.con (hc) (by rfl) leA ?_) | (refine CallZ.con (fun hg => hc) rflsA (by rfl) ?_) | (refine call_lend (fun _ => rfl) 300 (hc) holdA (by repeat' (first | exact trivial | exact Le.refl _ | (refine And.intro ?_ ?_))) (by rfl) (by kernel_rfl) ?_) | (refine gcall_lend (fun _ => rfl) 300 (fun hg => hc) (fun hg => holdA) (fun hg => (by repeat' (first | exact trivial | exact Le.refl _ | exact Le.cnd hg | (refine And.intro ?_ ?_)))) (by rfl) (by kernel_rfl) ?_) | (refine draw3n (fun _ => rfl) (by kernel_rfl) 300 (by rfl) ?_) | (refine Br.intro (fun hb => ?_) (fun hb => ?_) <;> (try simp [-List.getD_eq_getElem?_getD] at hb) <;> (try (exfalso; omega))) | (refine Ob.intro ?_ ?_)))
  exact Le.refl _

theorem show1_con (c : List Int) (hl : c.length ≤ 1000000) : Con Tryd.prog 41 [ints c] (.bool (!rightB c)) := by
  have hc := right_con01 c hl
  refine con_of_exec (T := tab Tryd.prog) (C := {}) 300 (fun _ => rfl) Tryd.func41 rfl (by kernel_rfl) (by kernel_rfl) (fun c0 rdb => ?_)
  (repeat' ((conv => whnf); first | (refine AltG.none (by kernel_rfl) (EndG.go ?_)) | (refine Ob.intro (OrdG.intro (by kernel_rfl)) ?_) | (refine Ob.auto ?_) | (refine call_eq (fun _ => rfl) 300 (hc) (by rfl) (by kernel_rfl) ?_) | (refine gcall_eq (fun _ => rfl) 300 (fun hg => hc) (by rfl) rflsA (by kernel_rfl) ?_) | (refine CallY.con (hc) (by rfl) leA ?_) | (refine CallZ.con (fun hg => hc) rflsA (by rfl) ?_) | (refine call_lend (fun _ => rfl) 300 (hc) holdA (by repeat' (first | exact trivial | exact Le.refl _ | (refine And.intro ?_ ?_))) (by rfl) (by kernel_rfl) ?_) | (refine gcall_lend (fun _ => rfl) 300 (fun hg => hc) (fun hg => holdA) (fun hg => (by repeat' (first | exact trivial | exact Le.refl _ | exact Le.cnd hg | (refine And.intro ?_ ?_)))) (by rfl) (by kernel_rfl) ?_) | (refine draw3n (fun _ => rfl) (by kernel_rfl) 300 (by rfl) ?_) | (refine Br.intro (fun hb => ?_) (fun hb => ?_) <;> (try simp [-List.getD_eq_getElem?_getD] at hb) <;> (try (exfalso; omega))) | (refine Ob.intro ?_ ?_)))
  exact Le.refl _

theorem indexA_con (m : List Bool) (l : List (List Int)) (hl : l.length ≤ 1000000) (hm : ∀ c ∈ l, c.length ≤ 1000000) : Con Tryd.prog 55 [listsV l, .fn 40 [.rptr [bools m]]] (iv (idx (fun x => !holdsB x m) l)) := by
  refine con_of_exec (T := tab Tryd.prog) (C := {}) 300 (fun _ => rfl) Tryd.func55 rfl (by kernel_rfl) (by kernel_rfl) (fun c0 rdb => ?_)
  (repeat' ((conv => whnf); first | (refine AltG.none (by kernel_rfl) (EndG.go ?_)) | (refine Ob.intro (OrdG.intro (by kernel_rfl)) ?_) | (refine Ob.auto ?_) | (refine draw3n (fun _ => rfl) (by kernel_rfl) 300 (by rfl) ?_) | (refine Br.intro (fun hb => ?_) (fun hb => ?_) <;> (try simp [-List.getD_eq_getElem?_getD] at hb) <;> (try (exfalso; omega))) | (refine Ob.intro ?_ ?_)))
  ((conv => whnf); refine loop_auto (fun _ => rfl) 300 1 (fun i : Nat => [(8, iv i)]) (fun _ => []) (fun i => i ≤ l.length ∧ ∀ j, j < i → (fun x => !holdsB x m) (l.getD j []) = false) (fun i => l.length - i) (0) (⟨by omega, fun j hj => absurd hj (Nat.not_lt_zero j)⟩) subtA subtA (fun _ => rfl) (by kernel_rfl) ?_; (conv => whnf))
  intro i hi
  by_cases hil : i < l.length
  · have hc := all1_con (l.getD i []) m (hm _ (getD_mem l i [] (by omega)))
    (repeat' ((conv => whnf); first | (refine AltG.none (by kernel_rfl) (EndG.go ?_)) | (refine Ob.intro (OrdG.intro (by kernel_rfl)) ?_) | (refine Ob.auto ?_) | (refine call_eq (fun _ => rfl) 300 (hc) (by rfl) (by kernel_rfl) ?_) | (refine gcall_eq (fun _ => rfl) 300 (fun hg => hc) (by rfl) rflsA (by kernel_rfl) ?_) | (refine CallY.con (hc) (by rfl) leA ?_) | (refine CallZ.con (fun hg => hc) rflsA (by rfl) ?_) | (refine call_lend (fun _ => rfl) 300 (hc) holdA (by repeat' (first | exact trivial | exact Le.refl _ | (refine And.intro ?_ ?_))) (by rfl) (by kernel_rfl) ?_) | (refine gcall_lend (fun _ => rfl) 300 (fun hg => hc) (fun hg => holdA) (fun hg => (by repeat' (first | exact trivial | exact Le.refl _ | exact Le.cnd hg | (refine And.intro ?_ ?_)))) (by rfl) (by kernel_rfl) ?_) | (refine draw3n (fun _ => rfl) (by kernel_rfl) 300 (by rfl) ?_) | (refine Br.intro (fun hb => ?_) (fun hb => ?_) <;> (try simp [-List.getD_eq_getElem?_getD] at hb) <;> (try (exfalso; omega))) | (refine Ob.intro ?_ ?_)))
    · refine Le.of_eq (congrArg (AV.int _) ?_)
      exact (idx_at _ l [] i (by omega) (by simp [-List.getD_eq_getElem?_getD, hb]) hi.2).symm
    · ((conv => whnf); refine ⟨i + 1, ⟨by omega, upto_succ hi.2 (by first | (simp [-List.getD_eq_getElem?_getD, hb]; done) | (simp [-List.getD_eq_getElem?_getD, ]; exact hb))⟩, ⟨subtA, subtA⟩, ⟨subtA, subtA⟩, ?_⟩; (first | omega | (dsimp only; omega) | skip))
  · (repeat' ((conv => whnf); first | (refine AltG.none (by kernel_rfl) (EndG.go ?_)) | (refine Ob.intro (OrdG.intro (by kernel_rfl)) ?_) | (refine Ob.auto ?_) | (refine draw3n (fun _ => rfl) (by kernel_rfl) 300 (by rfl) ?_) | (refine Br.intro (fun hb => ?_) (fun hb => ?_) <;> (try simp [-List.getD_eq_getElem?_getD] at hb) <;> (try (exfalso; omega))) | (refine Ob.intro ?_ ?_)))
    refine Le.of_eq (congrArg (AV.int _) ?_)
    exact (idx_none _ l [] (fun j hj => hi.2 j (by omega))).symm

theorem hasA_con (m : List Bool) (l : List (List Int)) (hl : l.length ≤ 1000000) (hm : ∀ c ∈ l, c.length ≤ 1000000) : Con Tryd.prog 39 [listsV l, .fn 40 [.rptr [bools m]]] (.bool (l.any fun x => !holdsB x m)) := by
  have hc := indexA_con m l hl hm
  refine con_of_exec (T := tab Tryd.prog) (C := {}) 300 (fun _ => rfl) Tryd.func39 rfl (by kernel_rfl) (by kernel_rfl) (fun c0 rdb => ?_)
  (repeat' ((conv => whnf); first | (refine AltG.none (by kernel_rfl) (EndG.go ?_)) | (refine Ob.intro (OrdG.intro (by kernel_rfl)) ?_) | (refine Ob.auto ?_) | (refine call_eq (fun _ => rfl) 300 (hc) (by rfl) (by kernel_rfl) ?_) | (refine gcall_eq (fun _ => rfl) 300 (fun hg => hc) (by rfl) rflsA (by kernel_rfl) ?_) | (refine CallY.con (hc) (by rfl) leA ?_) | (refine CallZ.con (fun hg => hc) rflsA (by rfl) ?_) | (refine call_lend (fun _ => rfl) 300 (hc) holdA (by repeat' (first | exact trivial | exact Le.refl _ | (refine And.intro ?_ ?_))) (by rfl) (by kernel_rfl) ?_) | (refine gcall_lend (fun _ => rfl) 300 (fun hg => hc) (fun hg => holdA) (fun hg => (by repeat' (first | exact trivial | exact Le.refl _ | exact Le.cnd hg | (refine And.intro ?_ ?_)))) (by rfl) (by kernel_rfl) ?_) | (refine draw3n (fun _ => rfl) (by kernel_rfl) 300 (by rfl) ?_) | (refine Br.intro (fun hb => ?_) (fun hb => ?_) <;> (try simp [-List.getD_eq_getElem?_getD] at hb) <;> (try (exfalso; omega))) | (refine Ob.intro ?_ ?_)))
  refine Le.of_eq (congrArg AV.bool ?_)
  exact idx_any' _ l

theorem indexS_con  (l : List (List Int)) (hl : l.length ≤ 1000000) (hm : ∀ c ∈ l, c.length ≤ 1000000) : Con Tryd.prog 55 [listsV l, .fn 41 []] (iv (idx (fun x => !rightB x) l)) := by
  refine con_of_exec (T := tab Tryd.prog) (C := {}) 300 (fun _ => rfl) Tryd.func55 rfl (by kernel_rfl) (by kernel_rfl) (fun c0 rdb => ?_)
  (repeat' ((conv => whnf); first | (refine AltG.none (by kernel_rfl) (EndG.go ?_)) | (refine Ob.intro (OrdG.intro (by kernel_rfl)) ?_) | (refine Ob.auto ?_) | (refine draw3n (fun _ => rfl) (by kernel_rfl) 300 (by rfl) ?_) | (refine Br.intro (fun hb => ?_) (fun hb => ?_) <;> (try simp [-List.getD_eq_getElem?_getD] at hb) <;> (try (exfalso; omega))) | (refine Ob.intro ?_ ?_)))
  ((conv => whnf); refine loop_auto (fun _ => rfl) 300 1 (fun i : Nat => [(8, iv i)]) (fun _ => []) (fun i => i ≤ l.length ∧ ∀ j, j < i → (fun x => !rightB x) (l.getD j []) = false) (fun i => l.length - i) (0) (⟨by omega, fun j hj => absurd hj (Nat.not_lt_zero j)⟩) subtA subtA (fun _ => rfl) (by kernel_rfl) ?_; (conv => whnf))
  intro i hi
  by_cases hil : i < l.length
  · have hc := show1_con (l.getD i []) (hm _ (getD_mem l i [] (by omega)))
    (repeat' ((conv => whnf); first | (refine AltG.none (by kernel_rfl) (EndG.go ?_)) | (refine Ob.intro (OrdG.intro (by kernel_rfl)) ?_) | (refine Ob.auto ?_) | (refine call_eq (fun _ => rfl) 300 (hc) (by rfl) (by kernel_rfl) ?_) | (refine gcall_eq (fun _ => rfl) 300 (fun hg => hc) (by rfl) rflsA (by kernel_rfl) ?_) | (refine CallY.con (hc) (by rfl) leA ?_) | (refine CallZ.con (fun hg => hc) rflsA (by rfl) ?_) | (refine call_lend (fun _ => rfl) 300 (hc) holdA (by repeat' (first | exact trivial | exact Le.refl _ | (refine And.intro ?_ ?_))) (by rfl) (by kernel_rfl) ?_) | (refine gcall_lend (fun _ => rfl) 300 (fun hg => hc) (fun hg => holdA) (fun hg => (by repeat' (first | exact trivial | exact Le.refl _ | exact Le.cnd hg | (refine And.intro ?_ ?_)))) (by rfl) (by kernel_rfl) ?_) | (refine draw3n (fun _ => rfl) (by kernel_rfl) 300 (by rfl) ?_) | (refine Br.intro (fun hb => ?_) (fun hb => ?_) <;> (try simp [-List.getD_eq_getElem?_getD] at hb) <;> (try (exfalso; omega))) | (refine Ob.intro ?_ ?_)))
    · refine Le.of_eq (congrArg (AV.int _) ?_)
      exact (idx_at _ l [] i (by omega) (by simp [-List.getD_eq_getElem?_getD, hb]) hi.2).symm
    · ((conv => whnf); refine ⟨i + 1, ⟨by omega, upto_succ hi.2 (by first | (simp [-List.getD_eq_getElem?_getD, hb]; done) | (simp [-List.getD_eq_getElem?_getD, ]; exact hb))⟩, ⟨subtA, subtA⟩, ⟨subtA, subtA⟩, ?_⟩; (first | omega | (dsimp only; omega) | skip))
  · (repeat' ((conv => whnf); first | (refine AltG.none (by kernel_rfl) (EndG.go ?_)) | (refine Ob.intro (OrdG.intro (by kernel_rfl)) ?_) | (refine Ob.auto ?_) | (refine draw3n (fun _ => rfl) (by kernel_rfl) 300 (by rfl) ?_) | (refine Br.intro (fun hb => ?_) (fun hb => ?_) <;> (try simp [-List.getD_eq_getElem?_getD] at hb) <;> (try (exfalso; omega))) | (refine Ob.intro ?_ ?_)))
    refine Le.of_eq (congrArg (AV.int _) ?_)
    exact (idx_none _ l [] (fun j hj => hi.2 j (by omega))).symm

theorem hasS_con  (l : List (List Int)) (hl : l.length ≤ 1000000) (hm : ∀ c ∈ l, c.length ≤ 1000000) : Con Tryd.prog 39 [listsV l, .fn 41 []] (.bool (l.any fun x => !rightB x)) := by
  have hc := indexS_con  l hl hm
  refine con_of_exec (T := tab Tryd.prog) (C := {}) 300 (fun _ => rfl) Tryd.func39 rfl (by kernel_rfl) (by kernel_rfl) (fun c0 rdb => ?_)
  (repeat' ((conv => whnf); first | (refine AltG.none (by kernel_rfl) (EndG.go ?_)) | (refine Ob.intro (OrdG.intro (by kernel_rfl)) ?_) | (refine Ob.auto ?_) | (refine call_eq (fun _ => rfl) 300 (hc) (by rfl) (by kernel_rfl) ?_) | (refine gcall_eq (fun _ => rfl) 300 (fun hg => hc) (by rfl) rflsA (by kernel_rfl) ?_) | (refine CallY.con (hc) (by rfl) leA ?_) | (refine CallZ.con (fun hg => hc) rflsA (by rfl) ?_) | (refine call_lend (fun _ => rfl) 300 (hc) holdA (by repeat' (first | exact trivial | exact Le.refl _ | (refine And.intro ?_ ?_))) (by rfl) (by kernel_rfl) ?_) | (refine gcall_lend (fun _ => rfl) 300 (fun hg => hc) (fun hg => holdA) (fun hg => (by repeat' (first | exact trivial | exact Le.refl _ | exact Le.cnd hg | (refine And.intro ?_ ?_)))) (by rfl) (by kernel_rfl) ?_) | (refine draw3n (fun _ => rfl) (by kernel_rfl) 300 (by rfl) ?_) | (refine Br.intro (fun hb => ?_) (fun hb => ?_) <;> (try simp [-List.getD_eq_getElem?_getD] at hb) <;> (try (exfalso; omega))) | (refine Ob.intro ?_ ?_)))
  refine Le.of_eq (congrArg AV.bool ?_)
  exact idx_any' _ l

theorem all_con01 (cs : List (List Int)) (m : List Bool) (hl : cs.length ≤ 1000000) (hm : ∀ c ∈ cs, c.length ≤ 1000000) : Con Tryd.prog 18 [listsV cs, bools m] (.bool (allB cs m)) := by
  have hc := hasA_con m cs hl hm
  refine con_of_exec (T := tab Tryd.prog) (C := {}) 300 (fun _ => rfl) Tryd.func18 rfl (by kernel_rfl) (by kernel_rfl) (fun c0 rdb => ?_)
  (repeat' ((conv => whnf); first | (refine AltG.none (by kernel_rfl) (EndG.go ?_)) | (refine Ob.intro (OrdG.intro (by kernel_rfl)) ?_) | (refine Ob.auto ?_) | (refine call_eq (fun _ => rfl) 300 (hc) (by rfl) (by kernel_rfl) ?_) | (refine gcall_eq (fun _ => rfl) 300 (fun hg => hc) (by rfl) rflsA (by kernel_rfl) ?_) | (refine CallY.con (hc) (by rfl) leA ?_) | (refine CallZ.con (fun hg => hc) rflsA (by rfl) ?_) | (refine call_lend (fun _ => rfl) 300 (hc) holdA (by repeat' (first | exact trivial | exact Le.refl _ | (refine And.intro ?_ ?_))) (by rfl) (by kernel_rfl) ?_) | (refine gcall_lend (fun _ => rfl) 300 (fun hg => hc) (fun hg => holdA) (fun hg => (by repeat' (first | exact trivial | exact Le.refl _ | exact Le.cnd hg | (refine And.intro ?_ ?_)))) (by rfl) (by kernel_rfl) ?_) | (refine draw3n (fun _ => rfl) (by kernel_rfl) 300 (by rfl) ?_) | (refine Br.intro (fun hb => ?_) (fun hb => ?_) <;> (try simp [-List.getD_eq_getElem?_getD] at hb) <;> (try (exfalso; omega))) | (refine Ob.intro ?_ ?_)))
  refine Le.of_eq (congrArg AV.bool ?_)
  unfold allB
  rw [all_any]

end Go.Proofs.YtcfllgdfhfcicaaDoor
