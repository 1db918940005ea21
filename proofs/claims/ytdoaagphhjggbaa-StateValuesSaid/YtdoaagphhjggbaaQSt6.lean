/- Contracts: the program's states: the first one, which are the same. -/
import Derived.Test.YtdoaagphhjggbaaQSt5
namespace Go.Proofs.Ytdoaagphhjggbaa
open Go Go.Sx Go.RowKit Go.St
set_option maxRecDepth 100000
set_option maxHeartbeats 2000000

theorem equal_con (a b : List Int) (ha : a.length ≤ 1000000) : Con Try.prog 40 [ints a, ints b] (.bool (a == b)) := by
  refine con_of_exec (T := tab Try.prog) (C := {}) 300 (fun _ => rfl) Try.func40 rfl (by kernel_rfl) (by kernel_rfl) (fun c0 rdb => ?_)
  (repeat' ((conv => whnf); first | (refine Ob.intro (OrdG.intro (by kernel_rfl)) ?_) | (refine Ob.auto ?_) | (refine draw_x (fun _ => rfl) (by kernel_rfl) 300 ?_) | (refine Br.intro (fun hb => ?_) (fun hb => ?_) <;> (try simp [-List.getD_eq_getElem?_getD] at hb) <;> (try (exfalso; omega))) | (refine Ob.intro ?_ ?_)))
  · refine Le.of_eq (congrArg AV.bool ?_)
    exact (beq_eq_false_iff_ne.2 (fun h => by subst h; simp at hb)).symm
  · ((conv => whnf); refine loop_auto (fun _ => rfl) 300 1 (fun i : Nat => [(13, iv i)]) (fun _ => []) (fun i => i ≤ a.length ∧ ∀ j, j < i → a.getD j 0 = b.getD j 0) (fun i => a.length - i) (0) (⟨by omega, fun j hj => absurd hj (Nat.not_lt_zero j)⟩) subtA subtA (fun _ => rfl) (by kernel_rfl) ?_; (conv => whnf))
    intro i hi
    (repeat' ((conv => whnf); first | (refine Ob.intro (OrdG.intro (by kernel_rfl)) ?_) | (refine Ob.auto ?_) | (refine Ob.intro (by (exact ⟨by omega, by omega⟩)) ?_) | (refine draw_x (fun _ => rfl) (by kernel_rfl) 300 ?_) | (refine Br.intro (fun hb => ?_) (fun hb => ?_) <;> (try simp [-List.getD_eq_getElem?_getD] at hb) <;> (try (exfalso; omega))) | (refine Ob.intro ?_ ?_)))
    · rename_i hb2
      refine Le.of_eq (congrArg AV.bool ?_)
      exact (beq_eq_false_iff_ne.2 (fun h => by subst h; simp at hb)).symm
    · rename_i hb2
      ((conv => whnf); refine ⟨i + 1, ⟨by omega, upto_succ hi.2 hb⟩, ⟨subtA, subtA⟩, ⟨subtA, subtA⟩, ?_⟩; (first | omega | (dsimp only; omega) | skip))
    · refine Le.of_eq (congrArg AV.bool ?_)
      exact (beq_iff_eq.2 (eq_of_getD 0 (by omega) (fun j hj => hi.2 j (by omega)))).symm

theorem equalFunc_con (a b : List (List Int)) (ha : a.length ≤ 1000000) (hl : ∀ c ∈ a, c.length ≤ 1000000) : Con Try.prog 41 [slcL (fun l => [ints l]) [] 1 a, slcL (fun l => [ints l]) [] 1 b, .fn 40 []] (.bool (a == b)) := by
  refine con_of_exec (T := tab Try.prog) (C := {}) 300 (fun _ => rfl) Try.func41 rfl (by kernel_rfl) (by kernel_rfl) (fun c0 rdb => ?_)
  (repeat' ((conv => whnf); first | (refine Ob.intro (OrdG.intro (by kernel_rfl)) ?_) | (refine Ob.auto ?_) | (refine draw_x (fun _ => rfl) (by kernel_rfl) 300 ?_) | (refine Br.intro (fun hb => ?_) (fun hb => ?_) <;> (try simp [-List.getD_eq_getElem?_getD] at hb) <;> (try (exfalso; omega))) | (refine Ob.intro ?_ ?_)))
  · refine Le.of_eq (congrArg AV.bool ?_)
    exact (beq_eq_false_iff_ne.2 (fun h => by subst h; simp at hb)).symm
  · ((conv => whnf); refine loop_auto (fun _ => rfl) 300 1 (fun i : Nat => [(17, iv i)]) (fun _ => []) (fun i => i ≤ a.length ∧ ∀ j, j < i → a.getD j [] = b.getD j []) (fun i => a.length - i) (0) (⟨by omega, fun j hj => absurd hj (Nat.not_lt_zero j)⟩) subtA subtA (fun _ => rfl) (by kernel_rfl) ?_; (conv => whnf))
    intro i hi
    have hli : i < a.length → _ := fun h => hl _ (getD_mem a i [] h)
    (repeat' ((conv => whnf); first | (refine Ob.intro (OrdG.intro (by kernel_rfl)) ?_) | (refine Ob.auto ?_) | (refine Ob.intro (by (exact ⟨by omega, by omega⟩)) ?_) | (refine call_eq (fun _ => rfl) 300 (equal_con (a.getD i []) (b.getD i []) (hli (by omega))) (by rfl) (by kernel_rfl) ?_) | (refine gcall_eq (fun _ => rfl) 300 (fun hg => equal_con (a.getD i []) (b.getD i []) (hli (by omega))) (by rfl) rflsA (by kernel_rfl) ?_) | (refine CallX.intro _ (callOb (equal_con (a.getD i []) (b.getD i []) (hli (by omega))) (by rfl)) ?_) | (refine CallX.intro _ (callObG (fun hg => equal_con (a.getD i []) (b.getD i []) (hli (by omega))) rflsA (by rfl)) ?_) | (refine call_lend (fun _ => rfl) 300 (equal_con (a.getD i []) (b.getD i []) (hli (by omega))) holdA (by repeat' (first | exact trivial | exact Le.refl _ | (refine And.intro ?_ ?_))) (by rfl) (by kernel_rfl) ?_) | (refine gcall_lend (fun _ => rfl) 300 (fun hg => equal_con (a.getD i []) (b.getD i []) (hli (by omega))) (fun hg => holdA) (fun hg => (by repeat' (first | exact trivial | exact Le.refl _ | exact Le.cnd hg | (refine And.intro ?_ ?_)))) (by rfl) (by kernel_rfl) ?_) | (refine draw_x (fun _ => rfl) (by kernel_rfl) 300 ?_) | (refine Br.intro (fun hb => ?_) (fun hb => ?_) <;> (try simp [-List.getD_eq_getElem?_getD] at hb) <;> (try (exfalso; omega))) | (refine Ob.intro ?_ ?_)))
    · refine Le.of_eq (congrArg AV.bool ?_)
      exact (beq_eq_false_iff_ne.2 (fun h => by subst h; simp at hb)).symm
    · ((conv => whnf); refine ⟨i + 1, ⟨by omega, upto_succ hi.2 hb⟩, ⟨subtA, subtA⟩, ⟨subtA, subtA⟩, ?_⟩; (first | omega | (dsimp only; omega) | skip))
    · refine Le.of_eq (congrArg AV.bool ?_)
      exact (beq_iff_eq.2 (eq_of_getD [] (by omega) (fun j hj => hi.2 j (by omega)))).symm

theorem same_con (a b : Stt) (hs : SSz a) : Con Try.prog 17 [a.av, b.av] (.bool (sameB a b)) := by
  have h1 := hs.a
  have h2 := hs.v
  have h3 := hs.c
  have h4 := hs.l
  refine con_of_exec (T := tab Try.prog) (C := {}) 300 (fun _ => rfl) Try.func17 rfl (by kernel_rfl) (by kernel_rfl) (fun c0 rdb => ?_)
  (repeat' ((conv => whnf); first | (refine Ob.intro (OrdG.intro (by kernel_rfl)) ?_) | (refine Ob.auto ?_) | (refine call_eq (fun _ => rfl) 300 (equal_con a.at_ b.at_ h1) (by rfl) (by kernel_rfl) ?_) | (refine gcall_eq (fun _ => rfl) 300 (fun hg => equal_con a.at_ b.at_ h1) (by rfl) rflsA (by kernel_rfl) ?_) | (refine CallX.intro _ (callOb (equal_con a.at_ b.at_ h1) (by rfl)) ?_) | (refine CallX.intro _ (callObG (fun hg => equal_con a.at_ b.at_ h1) rflsA (by rfl)) ?_) | (refine call_eq (fun _ => rfl) 300 (equal_con a.vars b.vars h2) (by rfl) (by kernel_rfl) ?_) | (refine gcall_eq (fun _ => rfl) 300 (fun hg => equal_con a.vars b.vars h2) (by rfl) rflsA (by kernel_rfl) ?_) | (refine CallX.intro _ (callOb (equal_con a.vars b.vars h2) (by rfl)) ?_) | (refine CallX.intro _ (callObG (fun hg => equal_con a.vars b.vars h2) rflsA (by rfl)) ?_) | (refine call_eq (fun _ => rfl) 300 (equalFunc_con a.chans b.chans h3 h4) (by rfl) (by kernel_rfl) ?_) | (refine gcall_eq (fun _ => rfl) 300 (fun hg => equalFunc_con a.chans b.chans h3 h4) (by rfl) rflsA (by kernel_rfl) ?_) | (refine CallX.intro _ (callOb (equalFunc_con a.chans b.chans h3 h4) (by rfl)) ?_) | (refine CallX.intro _ (callObG (fun hg => equalFunc_con a.chans b.chans h3 h4) rflsA (by rfl)) ?_) | (refine call_lend (fun _ => rfl) 300 (equal_con a.at_ b.at_ h1) holdA (by repeat' (first | exact trivial | exact Le.refl _ | (refine And.intro ?_ ?_))) (by rfl) (by kernel_rfl) ?_) | (refine gcall_lend (fun _ => rfl) 300 (fun hg => equal_con a.at_ b.at_ h1) (fun hg => holdA) (fun hg => (by repeat' (first | exact trivial | exact Le.refl _ | exact Le.cnd hg | (refine And.intro ?_ ?_)))) (by rfl) (by kernel_rfl) ?_) | (refine call_lend (fun _ => rfl) 300 (equal_con a.vars b.vars h2) holdA (by repeat' (first | exact trivial | exact Le.refl _ | (refine And.intro ?_ ?_))) (by rfl) (by kernel_rfl) ?_) | (refine gcall_lend (fun _ => rfl) 300 (fun hg => equal_con a.vars b.vars h2) (fun hg => holdA) (fun hg => (by repeat' (first | exact trivial | exact Le.refl _ | exact Le.cnd hg | (refine And.intro ?_ ?_)))) (by rfl) (by kernel_rfl) ?_) | (refine call_lend (fun _ => rfl) 300 (equalFunc_con a.chans b.chans h3 h4) holdA (by repeat' (first | exact trivial | exact Le.refl _ | (refine And.intro ?_ ?_))) (by rfl) (by kernel_rfl) ?_) | (refine gcall_lend (fun _ => rfl) 300 (fun hg => equalFunc_con a.chans b.chans h3 h4) (fun hg => holdA) (fun hg => (by repeat' (first | exact trivial | exact Le.refl _ | exact Le.cnd hg | (refine And.intro ?_ ?_)))) (by rfl) (by kernel_rfl) ?_) | (refine draw_x (fun _ => rfl) (by kernel_rfl) 300 ?_) | (refine Br.intro (fun hb => ?_) (fun hb => ?_) <;> (try simp [-List.getD_eq_getElem?_getD] at hb) <;> (try (exfalso; omega))) | (refine Ob.intro ?_ ?_)))
  refine Le.of_eq (congrArg AV.bool ?_)
  rfl

theorem sfirst_con (m : Md) (hm : MOk m) : Con Try.prog 18 [m.av] (firstF m).av := by
  have hsz := hm.sz
  refine con_of_exec (T := tab Try.prog) (C := {}) 300 (fun _ => rfl) Try.func18 rfl (by kernel_rfl) (by kernel_rfl) (fun c0 rdb => ?_)
  (repeat' ((conv => whnf); first | (refine Ob.intro (OrdG.intro (by kernel_rfl)) ?_) | (refine Ob.auto ?_) | (refine Ob.intro (by ((refine ⟨by omega, by omega, by omega, ?_⟩; dsimp only; refine Int.le_trans (Int.mul_le_mul_of_nonneg_right (?_ : _ ≤ (4000001 : Int)) (Int.natCast_nonneg _)) (by decide +kernel); omega))) ?_) | (refine draw3_x (fun _ => rfl) (by kernel_rfl) 300 ?_) | (refine Br.intro (fun hb => ?_) (fun hb => ?_) <;> (try simp [-List.getD_eq_getElem?_getD] at hb) <;> (try (exfalso; omega))) | (refine Ob.intro ?_ ?_)))
  ((conv => whnf); refine loop_auto (fun _ => rfl) 300 1 (fun i : Nat => [(22, iv i)]) (fun i => [(9, .row [] 3 1 0 m.vars.length (fun j => [if j < i then iv (m.vars.getD j Vr.none).value else iv 0]))]) (fun i => i ≤ m.vars.length) (fun i => m.vars.length - i) (0) (by omega) subtA ⟨row_le (fun k _ => by kernel_rfl), trivial⟩ (fun _ => rfl) (by kernel_rfl) ?_; (conv => whnf))
  intro i hi
  (repeat' ((conv => whnf); first | (refine Ob.intro (OrdG.intro (by kernel_rfl)) ?_) | (refine Ob.auto ?_) | (refine Ob.intro (by (exact ⟨by omega, by omega⟩)) ?_) | (refine draw_x (fun _ => rfl) (by kernel_rfl) 300 ?_) | (refine Br.intro (fun hb => ?_) (fun hb => ?_) <;> (try simp [-List.getD_eq_getElem?_getD] at hb) <;> (try (exfalso; omega))) | (refine Ob.intro ?_ ?_)))
  · ((conv => whnf); refine ⟨i + 1, by omega, ⟨subtA, subtA⟩, ⟨subtA, subtA⟩, ?_⟩; (first | omega | (dsimp only; omega) | skip))
  · obtain rfl : i = m.vars.length := by omega
    refine Le.agg ⟨Le.slc (by simp [firstF]) (fun j hj => ?_), Le.slc (by simp [firstF]) (fun j hj => ?_), Le.slcL (by simp [firstF]) (fun j hj => ?_), Le.refl _, trivial⟩
    · show _ = [iv ((firstF m).at_.getD j 0)]
      rw [firstF, getD_rep _ _ _ _ (by simpa using hj)]; kernel_rfl
    · show [if j < m.vars.length then iv (m.vars.getD j Vr.none).value else iv 0] = [iv ((firstF m).vars.getD j 0)]
      rw [if_pos (by simpa using hj), firstF, getD_map _ _ _ _ Vr.none (by simpa using hj)]
    · show LeL [.nils] [ints ((firstF m).chans.getD j [])]
      rw [firstF, getD_rep _ _ _ _ (by simpa using hj)]
      exact ⟨Le.nils _ _, trivial⟩

end Go.Proofs.Ytdoaagphhjggbaa
