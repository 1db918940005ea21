/- Some texts of the library, one behind the other. -/
import Derived.Test.YtdoaagphhjggbaaQ36
import Derived.Test.YtdoaagphhjggbaaQ2
section
/- Contracts: states, by the document's answer: what is safe, what fits, what is the same. -/
namespace Go.Proofs.Ytdoaagphhjggbaa
open Go Go.Sx Go.RowKit Go.St
set_option maxRecDepth 100000
set_option maxHeartbeats 2000000

theorem rfits_con (m : Md) (s : Stt) (hs : SSz s) : Con Try.prog 21 [m.av, s.av] (.bool (fitsB m s)) := by
  have ha := hs.a
  have hv := hs.v
  have hc := hs.c
  refine con_of_exec (T := tab Try.prog) (C := {}) 600 (fun _ => rfl) Try.func21 rfl (by kernel_rfl) (by kernel_rfl) (fun c0 rdb => ?_)
  (repeat' ((conv => whnf); first | refine zO ?_ | refine Ob.auto ?_ | (refine draw_x (fun _ => rfl) (by kernel_rfl) 600 ?_) | (refine Br.intro (fun hb => ?_) (fun hb => ?_) <;> (try simp [-List.getD_eq_getElem?_getD] at hb) <;> (try (exfalso; omega))) | refine Ob.intro ?_ ?_))
  · refine Le.of_eq (congrArg AV.bool ?_)
    exact (fits_no0 (by unfold fits0; omega)).symm
  have h0 : fits0 m s := by unfold fits0; omega
  clear hb
  unfold fits0 at h0
  ((conv => whnf); refine loop_auto (fun _ => rfl) 600 1 (fun i : Nat => [(5, iv i)]) (fun _ => []) (fun i => i ≤ s.at_.length ∧ ∀ j, j < i → fitsA m s j) (fun i => s.at_.length - i) (0) (⟨by omega, fun j hj => absurd hj (Nat.not_lt_zero j)⟩) subtA subtA (fun _ => rfl) (by kernel_rfl) ?_; (conv => whnf))
  intro i hi
  (repeat' ((conv => whnf); first | refine zO ?_ | refine Ob.auto ?_ | (refine draw_x (fun _ => rfl) (by kernel_rfl) 600 ?_) | (refine Br.intro (fun hb => ?_) (fun hb => ?_) <;> (try simp [-List.getD_eq_getElem?_getD] at hb) <;> (try (exfalso; omega))) | refine Ob.intro ?_ ?_))
  · refine Le.of_eq (congrArg AV.bool ?_)
    exact (fits_noA i (by omega) (by omega)).symm
  · ((conv => whnf); refine ⟨i + 1, ⟨by omega, upto_succ hi.2 hb⟩, ⟨subtA, subtA⟩, ⟨subtA, subtA⟩, ?_⟩; (first | omega | (dsimp only; omega) | skip))
  obtain rfl : i = s.at_.length := by omega
  have hA := hi.2
  clear hi hb
  ((conv => whnf); refine loop_auto (fun _ => rfl) 600 2 (fun i : Nat => [(6, iv i)]) (fun _ => []) (fun i => i ≤ s.vars.length ∧ ∀ j, j < i → fitsV m s j) (fun i => s.vars.length - i) (0) (⟨by omega, fun j hj => absurd hj (Nat.not_lt_zero j)⟩) subtA subtA (fun _ => rfl) (by kernel_rfl) ?_; (conv => whnf))
  intro i hi
  (repeat' ((conv => whnf); first | refine zO ?_ | refine Ob.auto ?_ | (refine Ob.intro (by (exact ⟨by omega, by omega⟩)) ?_) | refine zC 600 (rtrim_con _ _) ?_ | refine zG 600 (fun hg => rtrim_con _ _) ?_ | refine zX (rtrim_con _ _) ?_ | refine zY (fun hg => rtrim_con _ _) ?_ | refine zE 600 (rtrim_con _ _) ?_ | refine zF 600 (fun hg => rtrim_con _ _) ?_ | (refine draw_x (fun _ => rfl) (by kernel_rfl) 600 ?_) | (refine Br.intro (fun hb => ?_) (fun hb => ?_) <;> (try simp [-List.getD_eq_getElem?_getD] at hb) <;> (try (exfalso; omega))) | refine Ob.intro ?_ ?_))
  · refine Le.of_eq (congrArg AV.bool ?_)
    exact (fits_noV i (by omega) hb).symm
  · ((conv => whnf); refine ⟨i + 1, ⟨by omega, upto_succ hi.2 hb⟩, ⟨subtA, subtA⟩, ⟨subtA, subtA⟩, ?_⟩; (first | omega | (dsimp only; omega) | skip))
  obtain rfl : i = s.vars.length := by omega
  have hV := hi.2
  clear hi hb
  ((conv => whnf); refine loop_auto (fun _ => rfl) 600 3 (fun i : Nat => [(7, iv i)]) (fun _ => []) (fun i => i ≤ s.chans.length ∧ ∀ j, j < i → fitsL m s j ∧ ∀ k, k < (s.chans.getD j []).length → fitsC m s j k) (fun i => s.chans.length - i) (0) (⟨by omega, fun j hj => absurd hj (Nat.not_lt_zero j)⟩) subtA subtA (fun _ => rfl) (by kernel_rfl) ?_; (conv => whnf))
  intro i hi
  (repeat' ((conv => whnf); first | refine zO ?_ | refine Ob.auto ?_ | (refine Ob.intro (by (exact ⟨by omega, by omega⟩)) ?_) | (refine draw_x (fun _ => rfl) (by kernel_rfl) 600 ?_) | (refine Br.intro (fun hb => ?_) (fun hb => ?_) <;> (try simp [-List.getD_eq_getElem?_getD] at hb) <;> (try (exfalso; omega))) | refine Ob.intro ?_ ?_))
  · refine Le.of_eq (congrArg AV.bool ?_)
    exact (fits_noL i (by omega) (by unfold fitsL; omega)).symm
  · have hL : fitsL m s i := by unfold fitsL; omega
    have hlc := hs.l _ (getD_mem s.chans i [] (by omega))
    ((conv => whnf); refine loop_auto (fun _ => rfl) 600 4 (fun k : Nat => [(8, iv k)]) (fun _ => []) (fun k => k ≤ (s.chans.getD i []).length ∧ ∀ j, j < k → fitsC m s i j) (fun k => (s.chans.getD i []).length - k) (0) (⟨by omega, fun j hj => absurd hj (Nat.not_lt_zero j)⟩) subtA subtA (fun _ => rfl) (by kernel_rfl) ?_; (conv => whnf))
    intro k hk
    (repeat' ((conv => whnf); first | refine zO ?_ | refine Ob.auto ?_ | (refine Ob.intro (by (exact ⟨by omega, by omega⟩)) ?_) | refine zC 600 (rtrim_con _ _) ?_ | refine zG 600 (fun hg => rtrim_con _ _) ?_ | refine zX (rtrim_con _ _) ?_ | refine zY (fun hg => rtrim_con _ _) ?_ | refine zE 600 (rtrim_con _ _) ?_ | refine zF 600 (fun hg => rtrim_con _ _) ?_ | (refine draw_x (fun _ => rfl) (by kernel_rfl) 600 ?_) | (refine Br.intro (fun hb => ?_) (fun hb => ?_) <;> (try simp [-List.getD_eq_getElem?_getD] at hb) <;> (try (exfalso; omega))) | refine Ob.intro ?_ ?_))
    · refine Le.of_eq (congrArg AV.bool ?_)
      exact (fits_noC i k (by omega) (by omega) hb).symm
    · ((conv => whnf); refine ⟨k + 1, ⟨by omega, upto_succ hk.2 hb⟩, ⟨subtA, subtA⟩, ⟨subtA, subtA⟩, ?_⟩; (first | omega | (dsimp only; omega) | skip))
    · ((conv => whnf); refine ⟨i + 1, ⟨by omega, upto_succ hi.2 ⟨hL, fun j hj => hk.2 j (by omega)⟩⟩, ⟨subtA, subtA⟩, ⟨subtA, subtA⟩, ?_⟩; (first | omega | (dsimp only; omega) | skip))
  · refine Le.of_eq (congrArg AV.bool ?_)
    exact ((fitsB_iff m s).2 ⟨h0, hA, hV, fun j hj => hi.2 j (by omega)⟩).symm

end Go.Proofs.Ytdoaagphhjggbaa
end
section
/- Contracts: the program's states. -/
namespace Go.Proofs.Ytdoaagphhjggbaa
open Go Go.Sx Go.RowKit Go.St
set_option maxRecDepth 100000
set_option maxHeartbeats 2000000

theorem fits1_con (x : Int) (c : Ch) : Con Try.prog 43 [iv x, .rptr c.cells] (.bool (!(trim x c.width == x))) := by
  refine con_of_exec (T := tab Try.prog) (C := {}) 300 (fun _ => rfl) Try.func43 rfl (by kernel_rfl) (by kernel_rfl) (fun c0 rdb => ?_)
  (repeat' ((conv => whnf); first | refine zO ?_ | refine Ob.auto ?_ | refine zC 300 (narrow_con _ _) ?_ | refine zG 300 (fun hg => narrow_con _ _) ?_ | refine zX (narrow_con _ _) ?_ | refine zY (fun hg => narrow_con _ _) ?_ | refine zE 300 (narrow_con _ _) ?_ | refine zF 300 (fun hg => narrow_con _ _) ?_ | (refine draw_x (fun _ => rfl) (by kernel_rfl) 300 ?_) | (refine Br.intro (fun hb => ?_) (fun hb => ?_) <;> (try simp [-List.getD_eq_getElem?_getD] at hb) <;> (try (exfalso; omega))) | refine Ob.intro ?_ ?_))
  exact Le.refl _

theorem indexFits_con (l : List Int) (c : Ch) (hl : l.length ≤ 1000000) : Con Try.prog 78 [ints l, .fn 43 [.rptr c.cells]] (iv (idx (fun x => !(trim x c.width == x)) l)) := by
  refine con_of_exec (T := tab Try.prog) (C := {}) 300 (fun _ => rfl) Try.func78 rfl (by kernel_rfl) (by kernel_rfl) (fun c0 rdb => ?_)
  (repeat' ((conv => whnf); first | refine zO ?_ | refine Ob.auto ?_ | (refine draw_x (fun _ => rfl) (by kernel_rfl) 300 ?_) | (refine Br.intro (fun hb => ?_) (fun hb => ?_) <;> (try simp [-List.getD_eq_getElem?_getD] at hb) <;> (try (exfalso; omega))) | refine Ob.intro ?_ ?_))
  ((conv => whnf); refine loop_auto (fun _ => rfl) 300 1 (fun i : Nat => [(8, iv i)]) (fun _ => []) (fun i => i ≤ l.length ∧ ∀ j, j < i → (!(trim (l.getD j 0) c.width == l.getD j 0)) = false) (fun i => l.length - i) (0) (⟨by omega, fun j hj => absurd hj (Nat.not_lt_zero j)⟩) subtA subtA (fun _ => rfl) (by kernel_rfl) ?_; (conv => whnf))
  intro i hi
  (repeat' ((conv => whnf); first | refine zO ?_ | refine Ob.auto ?_ | refine zC 300 (fits1_con _ c) ?_ | refine zG 300 (fun hg => fits1_con _ c) ?_ | refine zX (fits1_con _ c) ?_ | refine zY (fun hg => fits1_con _ c) ?_ | refine zE 300 (fits1_con _ c) ?_ | refine zF 300 (fun hg => fits1_con _ c) ?_ | (refine draw_x (fun _ => rfl) (by kernel_rfl) 300 ?_) | (refine Br.intro (fun hb => ?_) (fun hb => ?_) <;> (try simp [-List.getD_eq_getElem?_getD] at hb) <;> (try (exfalso; omega))) | refine Ob.intro ?_ ?_))
  · refine Le.of_eq (congrArg (AV.int _) ?_)
    exact (idx_at _ l 0 i (by omega) (by simp [-List.getD_eq_getElem?_getD, hb]) hi.2).symm
  · ((conv => whnf); refine ⟨i + 1, ⟨by omega, upto_succ hi.2 (by simp [-List.getD_eq_getElem?_getD, hb])⟩, ⟨subtA, subtA⟩, ⟨subtA, subtA⟩, ?_⟩; (first | omega | (dsimp only; omega) | skip))
  · refine Le.of_eq (congrArg (AV.int _) ?_)
    exact (idx_none _ l 0 (fun j hj => hi.2 j (by omega))).symm

theorem idx_any {α : Type} (q : α → Bool) (l : List α) : decide (0 ≤ Go.St.idx q l) = l.any q := by
  unfold Go.St.idx
  cases h : l.findIdx? q with
  | none =>
    rw [List.findIdx?_eq_none_iff] at h
    have : l.any q = false := by rw [Bool.eq_false_iff]; intro h'; rw [List.any_eq_true] at h'; obtain ⟨x, hx, hq⟩ := h'; rw [h x hx] at hq; cases hq
    rw [this]; rfl
  | some i =>
    rw [List.findIdx?_eq_some_iff_getElem] at h
    obtain ⟨h1, h2, _⟩ := h
    have : l.any q = true := by rw [List.any_eq_true]; exact ⟨_, List.getElem_mem h1, h2⟩
    rw [this]; exact decide_eq_true (by simp)

theorem containsFits_con (l : List Int) (c : Ch) (hl : l.length ≤ 1000000) : Con Try.prog 44 [ints l, .fn 43 [.rptr c.cells]] (.bool (l.any fun x => !(trim x c.width == x))) := by
  refine con_of_exec (T := tab Try.prog) (C := {}) 300 (fun _ => rfl) Try.func44 rfl (by kernel_rfl) (by kernel_rfl) (fun c0 rdb => ?_)
  (repeat' ((conv => whnf); first | refine zO ?_ | refine Ob.auto ?_ | refine zC 300 (indexFits_con l c hl) ?_ | refine zG 300 (fun hg => indexFits_con l c hl) ?_ | refine zX (indexFits_con l c hl) ?_ | refine zY (fun hg => indexFits_con l c hl) ?_ | refine zE 300 (indexFits_con l c hl) ?_ | refine zF 300 (fun hg => indexFits_con l c hl) ?_ | (refine draw_x (fun _ => rfl) (by kernel_rfl) 300 ?_) | (refine Br.intro (fun hb => ?_) (fun hb => ?_) <;> (try simp [-List.getD_eq_getElem?_getD] at hb) <;> (try (exfalso; omega))) | refine Ob.intro ?_ ?_))
  refine Le.of_eq (congrArg AV.bool ?_)
  exact idx_any _ l

theorem fits_con (m : Md) (s : Stt) (hs : SSz s) : Con Try.prog 20 [m.av, s.av] (.bool (fitsB m s)) := by
  have ha := hs.a
  have hv := hs.v
  have hc := hs.c
  refine con_of_exec (T := tab Try.prog) (C := {}) 600 (fun _ => rfl) Try.func20 rfl (by kernel_rfl) (by kernel_rfl) (fun c0 rdb => ?_)
  (repeat' ((conv => whnf); first | refine zO ?_ | refine Ob.auto ?_ | (refine draw_x (fun _ => rfl) (by kernel_rfl) 600 ?_) | (refine Br.intro (fun hb => ?_) (fun hb => ?_) <;> (try simp [-List.getD_eq_getElem?_getD] at hb) <;> (try (exfalso; omega))) | refine Ob.intro ?_ ?_))
  · refine Le.of_eq (congrArg AV.bool ?_)
    exact (fits_no0 (by unfold fits0; omega)).symm
  have h0 : s.at_.length = m.procs.length ∧ s.vars.length = m.vars.length ∧ s.chans.length = m.chans.length := by omega
  clear hb
  ((conv => whnf); refine loop_auto (fun _ => rfl) 600 1 (fun i : Nat => [(41, iv i)]) (fun _ => []) (fun i => i ≤ s.at_.length ∧ ∀ j, j < i → fitsA m s j) (fun i => s.at_.length - i) (0) (⟨by omega, fun j hj => absurd hj (Nat.not_lt_zero j)⟩) subtA subtA (fun _ => rfl) (by kernel_rfl) ?_; (conv => whnf))
  intro i hi
  (repeat' ((conv => whnf); first | refine zO ?_ | refine Ob.auto ?_ | (refine draw_x (fun _ => rfl) (by kernel_rfl) 600 ?_) | (refine Br.intro (fun hb => ?_) (fun hb => ?_) <;> (try simp [-List.getD_eq_getElem?_getD] at hb) <;> (try (exfalso; omega))) | refine Ob.intro ?_ ?_))
  · refine Le.of_eq (congrArg AV.bool ?_)
    exact (fits_noA i (by omega) (by omega)).symm
  · ((conv => whnf); refine ⟨i + 1, ⟨by omega, upto_succ hi.2 hb⟩, ⟨subtA, subtA⟩, ⟨subtA, subtA⟩, ?_⟩; (first | omega | (dsimp only; omega) | skip))
  obtain rfl : i = s.at_.length := by omega
  have hA := hi.2
  clear hi hb
  ((conv => whnf); refine loop_auto (fun _ => rfl) 600 2 (fun i : Nat => [(62, iv i)]) (fun _ => []) (fun i => i ≤ s.vars.length ∧ ∀ j, j < i → fitsV m s j) (fun i => s.vars.length - i) (0) (⟨by omega, fun j hj => absurd hj (Nat.not_lt_zero j)⟩) subtA subtA (fun _ => rfl) (by kernel_rfl) ?_; (conv => whnf))
  intro i hi
  (repeat' ((conv => whnf); first | refine zO ?_ | refine Ob.auto ?_ | (refine Ob.intro (by (exact ⟨by omega, by omega⟩)) ?_) | refine zC 600 (narrow_con _ _) ?_ | refine zG 600 (fun hg => narrow_con _ _) ?_ | refine zX (narrow_con _ _) ?_ | refine zY (fun hg => narrow_con _ _) ?_ | refine zE 600 (narrow_con _ _) ?_ | refine zF 600 (fun hg => narrow_con _ _) ?_ | (refine draw_x (fun _ => rfl) (by kernel_rfl) 600 ?_) | (refine Br.intro (fun hb => ?_) (fun hb => ?_) <;> (try simp [-List.getD_eq_getElem?_getD] at hb) <;> (try (exfalso; omega))) | refine Ob.intro ?_ ?_))
  · refine Le.of_eq (congrArg AV.bool ?_)
    exact (fits_noV i (by omega) hb).symm
  · ((conv => whnf); refine ⟨i + 1, ⟨by omega, upto_succ hi.2 hb⟩, ⟨subtA, subtA⟩, ⟨subtA, subtA⟩, ?_⟩; (first | omega | (dsimp only; omega) | skip))
  obtain rfl : i = s.vars.length := by omega
  have hV := hi.2
  clear hi hb
  ((conv => whnf); refine loop_auto (fun _ => rfl) 600 3 (fun i : Nat => [(80, iv i)]) (fun _ => []) (fun i => i ≤ s.chans.length ∧ ∀ j, j < i → fitsL m s j ∧ ∀ k, k < (s.chans.getD j []).length → fitsC m s j k) (fun i => s.chans.length - i) (0) (⟨by omega, fun j hj => absurd hj (Nat.not_lt_zero j)⟩) subtA subtA (fun _ => rfl) (by kernel_rfl) ?_; (conv => whnf))
  intro i hi
  have hlc : i < s.chans.length → _ := fun h => hs.l _ (getD_mem s.chans i [] h)
  (repeat' ((conv => whnf); first | refine zO ?_ | refine Ob.auto ?_ | (refine Ob.intro (by (exact ⟨by omega, by omega⟩)) ?_) | refine zC 600 (containsFits_con (s.chans.getD i []) (m.chans.getD i Ch.none) (hlc (by omega))) ?_ | refine zG 600 (fun hg => containsFits_con (s.chans.getD i []) (m.chans.getD i Ch.none) (hlc (by omega))) ?_ | refine zX (containsFits_con (s.chans.getD i []) (m.chans.getD i Ch.none) (hlc (by omega))) ?_ | refine zY (fun hg => containsFits_con (s.chans.getD i []) (m.chans.getD i Ch.none) (hlc (by omega))) ?_ | refine zE 600 (containsFits_con (s.chans.getD i []) (m.chans.getD i Ch.none) (hlc (by omega))) ?_ | refine zF 600 (fun hg => containsFits_con (s.chans.getD i []) (m.chans.getD i Ch.none) (hlc (by omega))) ?_ | (refine draw_x (fun _ => rfl) (by kernel_rfl) 600 ?_) | (refine Br.intro (fun hb => ?_) (fun hb => ?_) <;> (try simp [-List.getD_eq_getElem?_getD] at hb) <;> (try (exfalso; omega))) | refine Ob.intro ?_ ?_))
  · refine Le.of_eq (congrArg AV.bool ?_)
    rcases hb with hb | ⟨x, hx, hb⟩
    · exact (fits_noL i (by omega) (by unfold fitsL; omega)).symm
    · obtain ⟨k, hk, hx⟩ := List.mem_iff_getElem.1 hx
      refine (fits_noC i k (by omega) hk ?_).symm
      have : (s.chans.getD i []).getD k 0 = x := by rw [List.getD_eq_getElem?_getD, List.getElem?_eq_getElem hk]; exact hx
      unfold fitsC
      rw [this]; exact hb
  · ((conv => whnf); refine ⟨i + 1, ⟨by omega, upto_succ hi.2 ⟨by unfold fitsL; omega, fun k hk => hb.2 _ (getD_mem _ k 0 hk)⟩⟩, ⟨subtA, subtA⟩, ⟨subtA, subtA⟩, ?_⟩; (first | omega | (dsimp only; omega) | skip))
  · refine Le.of_eq (congrArg AV.bool ?_)
    by_cases hh : -1 ≤ s.holder ∧ s.holder < m.procs.length
    · rw [(fitsB_iff m s).2 ⟨⟨h0.1, h0.2.1, h0.2.2, hh⟩, hA, hV, fun j hj => hi.2 j (by omega)⟩]
      simp [hh]
    · rw [fits_no0 (m := m) (s := s) (by unfold fits0; omega)]
      simp; omega

end Go.Proofs.Ytdoaagphhjggbaa
end
section
/- Contracts: the program's states: the first one, which are the same. -/
namespace Go.Proofs.Ytdoaagphhjggbaa
open Go Go.Sx Go.RowKit Go.St
set_option maxRecDepth 100000
set_option maxHeartbeats 2000000

theorem equal_con (a b : List Int) (ha : a.length ≤ 1000000) : Con Try.prog 40 [ints a, ints b] (.bool (a == b)) := by
  refine con_of_exec (T := tab Try.prog) (C := {}) 300 (fun _ => rfl) Try.func40 rfl (by kernel_rfl) (by kernel_rfl) (fun c0 rdb => ?_)
  (repeat' ((conv => whnf); first | refine zO ?_ | refine Ob.auto ?_ | (refine draw_x (fun _ => rfl) (by kernel_rfl) 300 ?_) | (refine Br.intro (fun hb => ?_) (fun hb => ?_) <;> (try simp [-List.getD_eq_getElem?_getD] at hb) <;> (try (exfalso; omega))) | refine Ob.intro ?_ ?_))
  · refine Le.of_eq (congrArg AV.bool ?_)
    exact (beq_eq_false_iff_ne.2 (fun h => by subst h; simp at hb)).symm
  · ((conv => whnf); refine loop_auto (fun _ => rfl) 300 1 (fun i : Nat => [(13, iv i)]) (fun _ => []) (fun i => i ≤ a.length ∧ ∀ j, j < i → a.getD j 0 = b.getD j 0) (fun i => a.length - i) (0) (⟨by omega, fun j hj => absurd hj (Nat.not_lt_zero j)⟩) subtA subtA (fun _ => rfl) (by kernel_rfl) ?_; (conv => whnf))
    intro i hi
    (repeat' ((conv => whnf); first | refine zO ?_ | refine Ob.auto ?_ | (refine Ob.intro (by (exact ⟨by omega, by omega⟩)) ?_) | (refine draw_x (fun _ => rfl) (by kernel_rfl) 300 ?_) | (refine Br.intro (fun hb => ?_) (fun hb => ?_) <;> (try simp [-List.getD_eq_getElem?_getD] at hb) <;> (try (exfalso; omega))) | refine Ob.intro ?_ ?_))
    · rename_i hb2
      refine Le.of_eq (congrArg AV.bool ?_)
      exact (beq_eq_false_iff_ne.2 (fun h => by subst h; simp at hb)).symm
    · rename_i hb2
      ((conv => whnf); refine ⟨i + 1, ⟨by omega, upto_succ hi.2 hb⟩, ⟨subtA, subtA⟩, ⟨subtA, subtA⟩, ?_⟩; (first | omega | (dsimp only; omega) | skip))
    · refine Le.of_eq (congrArg AV.bool ?_)
      exact (beq_iff_eq.2 (eq_of_getD 0 (by omega) (fun j hj => hi.2 j (by omega)))).symm

theorem equalFunc_con (a b : List (List Int)) (ha : a.length ≤ 1000000) (hl : ∀ c ∈ a, c.length ≤ 1000000) : Con Try.prog 41 [slcL (fun l => [ints l]) [] 1 a, slcL (fun l => [ints l]) [] 1 b, .fn 40 []] (.bool (a == b)) := by
  refine con_of_exec (T := tab Try.prog) (C := {}) 300 (fun _ => rfl) Try.func41 rfl (by kernel_rfl) (by kernel_rfl) (fun c0 rdb => ?_)
  (repeat' ((conv => whnf); first | refine zO ?_ | refine Ob.auto ?_ | (refine draw_x (fun _ => rfl) (by kernel_rfl) 300 ?_) | (refine Br.intro (fun hb => ?_) (fun hb => ?_) <;> (try simp [-List.getD_eq_getElem?_getD] at hb) <;> (try (exfalso; omega))) | refine Ob.intro ?_ ?_))
  · refine Le.of_eq (congrArg AV.bool ?_)
    exact (beq_eq_false_iff_ne.2 (fun h => by subst h; simp at hb)).symm
  · ((conv => whnf); refine loop_auto (fun _ => rfl) 300 1 (fun i : Nat => [(17, iv i)]) (fun _ => []) (fun i => i ≤ a.length ∧ ∀ j, j < i → a.getD j [] = b.getD j []) (fun i => a.length - i) (0) (⟨by omega, fun j hj => absurd hj (Nat.not_lt_zero j)⟩) subtA subtA (fun _ => rfl) (by kernel_rfl) ?_; (conv => whnf))
    intro i hi
    have hli : i < a.length → _ := fun h => hl _ (getD_mem a i [] h)
    (repeat' ((conv => whnf); first | refine zO ?_ | refine Ob.auto ?_ | (refine Ob.intro (by (exact ⟨by omega, by omega⟩)) ?_) | refine zC 300 (equal_con (a.getD i []) (b.getD i []) (hli (by omega))) ?_ | refine zG 300 (fun hg => equal_con (a.getD i []) (b.getD i []) (hli (by omega))) ?_ | refine zX (equal_con (a.getD i []) (b.getD i []) (hli (by omega))) ?_ | refine zY (fun hg => equal_con (a.getD i []) (b.getD i []) (hli (by omega))) ?_ | refine zE 300 (equal_con (a.getD i []) (b.getD i []) (hli (by omega))) ?_ | refine zF 300 (fun hg => equal_con (a.getD i []) (b.getD i []) (hli (by omega))) ?_ | (refine draw_x (fun _ => rfl) (by kernel_rfl) 300 ?_) | (refine Br.intro (fun hb => ?_) (fun hb => ?_) <;> (try simp [-List.getD_eq_getElem?_getD] at hb) <;> (try (exfalso; omega))) | refine Ob.intro ?_ ?_))
    · refine Le.of_eq (congrArg AV.bool ?_)
      exact (beq_eq_false_iff_ne.2 (fun h => by subst h; simp at hb)).symm
    · ((conv => whnf); refine ⟨i + 1, ⟨by omega, upto_succ hi.2 hb⟩, ⟨subtA, subtA⟩, ⟨subtA, subtA⟩, ?_⟩; (first | omega | (dsimp only; omega) | skip))
    · refine Le.of_eq (congrArg AV.bool ?_)
      exact (beq_iff_eq.2 (eq_of_getD [] (by omega) (fun j hj => hi.2 j (by omega)))).symm

theorem same_con (a b : Stt) (hs : SSz a) : Con Try.prog 17 [a.av, b.av] (.bool (sameB a b)) := by
  have h1 := hs.a
  have h2 := hs.v
  have h3 := hs.c
  have h4 := hs.l
  refine con_of_exec (T := tab Try.prog) (C := {}) 300 (fun _ => rfl) Try.func17 rfl (by kernel_rfl) (by kernel_rfl) (fun c0 rdb => ?_)
  (repeat' ((conv => whnf); first | refine zO ?_ | refine Ob.auto ?_ | refine zC 300 (equal_con a.at_ b.at_ h1) ?_ | refine zG 300 (fun hg => equal_con a.at_ b.at_ h1) ?_ | refine zX (equal_con a.at_ b.at_ h1) ?_ | refine zY (fun hg => equal_con a.at_ b.at_ h1) ?_ | refine zC 300 (equal_con a.vars b.vars h2) ?_ | refine zG 300 (fun hg => equal_con a.vars b.vars h2) ?_ | refine zX (equal_con a.vars b.vars h2) ?_ | refine zY (fun hg => equal_con a.vars b.vars h2) ?_ | refine zC 300 (equalFunc_con a.chans b.chans h3 h4) ?_ | refine zG 300 (fun hg => equalFunc_con a.chans b.chans h3 h4) ?_ | refine zX (equalFunc_con a.chans b.chans h3 h4) ?_ | refine zY (fun hg => equalFunc_con a.chans b.chans h3 h4) ?_ | refine zE 300 (equal_con a.at_ b.at_ h1) ?_ | refine zF 300 (fun hg => equal_con a.at_ b.at_ h1) ?_ | refine zE 300 (equal_con a.vars b.vars h2) ?_ | refine zF 300 (fun hg => equal_con a.vars b.vars h2) ?_ | refine zE 300 (equalFunc_con a.chans b.chans h3 h4) ?_ | refine zF 300 (fun hg => equalFunc_con a.chans b.chans h3 h4) ?_ | (refine draw_x (fun _ => rfl) (by kernel_rfl) 300 ?_) | (refine Br.intro (fun hb => ?_) (fun hb => ?_) <;> (try simp [-List.getD_eq_getElem?_getD] at hb) <;> (try (exfalso; omega))) | refine Ob.intro ?_ ?_))
  refine Le.of_eq (congrArg AV.bool ?_)
  rfl

theorem sfirst_con (m : Md) (hm : MOk m) : Con Try.prog 18 [m.av] (firstF m).av := by
  have hsz := hm.sz
  refine con_of_exec (T := tab Try.prog) (C := {}) 300 (fun _ => rfl) Try.func18 rfl (by kernel_rfl) (by kernel_rfl) (fun c0 rdb => ?_)
  (repeat' ((conv => whnf); first | refine zO ?_ | refine Ob.auto ?_ | (refine Ob.intro (by ((refine ⟨by omega, by omega, by omega, ?_⟩; dsimp only; refine Int.le_trans (Int.mul_le_mul_of_nonneg_right (?_ : _ ≤ (4000001 : Int)) (Int.natCast_nonneg _)) (by decide +kernel); omega))) ?_) | (refine draw3_x (fun _ => rfl) (by kernel_rfl) 300 ?_) | (refine Br.intro (fun hb => ?_) (fun hb => ?_) <;> (try simp [-List.getD_eq_getElem?_getD] at hb) <;> (try (exfalso; omega))) | refine Ob.intro ?_ ?_))
  ((conv => whnf); refine loop_auto (fun _ => rfl) 300 1 (fun i : Nat => [(22, iv i)]) (fun i => [(9, .row [] 3 1 0 m.vars.length (fun j => [if j < i then iv (m.vars.getD j Vr.none).value else iv 0]))]) (fun i => i ≤ m.vars.length) (fun i => m.vars.length - i) (0) (by omega) subtA ⟨row_le (fun k _ => by kernel_rfl), trivial⟩ (fun _ => rfl) (by kernel_rfl) ?_; (conv => whnf))
  intro i hi
  (repeat' ((conv => whnf); first | refine zO ?_ | refine Ob.auto ?_ | (refine Ob.intro (by (exact ⟨by omega, by omega⟩)) ?_) | (refine draw_x (fun _ => rfl) (by kernel_rfl) 300 ?_) | (refine Br.intro (fun hb => ?_) (fun hb => ?_) <;> (try simp [-List.getD_eq_getElem?_getD] at hb) <;> (try (exfalso; omega))) | refine Ob.intro ?_ ?_))
  · ((conv => whnf); refine ⟨i + 1, by omega, ⟨subtA, subtA⟩, ⟨subtA, subtA⟩, ?_⟩; (first | omega | (dsimp only; omega) | skip))
  · obtain rfl : i = m.vars.length := by omega
    refine Le.agg ⟨Le.slc (by simp [firstF]) (fun j hj => ?_), Le.slc (by simp [firstF]) (fun j hj => ?_), Le.slcL (by simp [firstF]) (fun j hj => ?_), Le.refl _, trivial⟩
    · show _ = [iv ((firstF m).at_.getD j 0)]
      rw [firstF, getD_rep _ _ _ _ (by simpa using hj)]; kernel_rfl
    · show [if j < m.vars.length then iv (m.vars.getD j Vr.none).value else iv 0] = [iv ((firstF m).vars.getD j 0)]
      rw [if_pos (by simpa using hj), firstF, getD_map _ _ _ _ Vr.none (by simpa using hj)]
    · show LeL [.nils] [ints ((firstF m).chans.getD j [])]
      rw [firstF, getD_rep _ _ _ _ (by simpa using hj)]
      exact ⟨Le.nils _ _, trivial⟩

end Go.Proofs.Ytdoaagphhjggbaa
end
