/- Some texts of the library, one behind the other. -/
import Derived.Test.YtdoaagphhjggbaaGreatQ32
import Derived.Test.YtdoaagphhjggbaaGreatQ5
import Derived.Test.YtdoaagphhjggbaaGreatQ2
section
/- Contract: the first state by the document's answer. -/
namespace Go.Proofs.YtdoaagphhjggbaaGreat
open List renaming getD_eq_getElem?_getD → zd
open Go Go.Sx Go.RowKit Go.St
set_option maxRecDepth 100000
set_option maxHeartbeats 2000000
theorem jpm (m : Md) (hm : MOk m) : Con Tryz.prog 38 [m.av] (qdr m).av := by
 have hsz := hm.sz
 refine qc (T := tab Tryz.prog) (C := {}) 300 (fun _ => rfl) Tryz.func38 rfl (by kernel_rfl) (by kernel_rfl) (fun c0 rdb => ?_)
 (repeat' ((conv => whnf); first | exact trivial))
 refine qbw 2 0 3 1 rfl rfl ?_
 ((conv => whnf); refine qdc (fun _ => rfl) 300 1 [1, 2, 3] [0, 1] (fun i : Nat => [(4, iv i)]) (fun i => [(2, .box 34 [.own 3 0 0 i, .nils, .nils, iv (-1)]), (3, .row [] 3 1 0 i (fun _ => [iv 0]))]) (fun i => i ≤ m.procs.length) (fun i => m.procs.length - i) (0) (by omega) qa qa (fun _ => rfl) (by kernel_rfl) ?_; (conv => whnf))
 intro i hi
 (repeat' ((conv => whnf); first | refine Ob.auto ?_ | (apply zB <;> intro hb <;> (try simp [-zd] at hb) <;> try (exfalso; omega))))
 ·((conv => whnf); refine ⟨i + 1, by omega, ⟨qa, qa⟩, ⟨qa, qa⟩, ?_⟩; (first | omega | (dsimp only; omega) | skip))
 obtain rfl : i = m.procs.length := by omega
 clear hi hb
 refine qbw 2 1 3 1 rfl rfl ?_
 ((conv => whnf); refine qdc (fun _ => rfl) 300 2 [1, 2, 3] [0, 1, 3] (fun i : Nat => [(5, iv i)]) (fun i => [(2, .box 34 [.own 3 0 0 m.procs.length, .own 4 0 0 i, .nils, iv (-1)]), (4, .row [] 3 1 0 i (fun i => [iv (m.vars.getD i Vr.none).value]))]) (fun i => i ≤ m.vars.length) (fun i => m.vars.length - i) (0) (by omega) qa qa (fun _ => rfl) (by kernel_rfl) ?_; (conv => whnf))
 intro i hi
 (repeat' ((conv => whnf); first | refine Ob.auto ?_ | (refine zN 300 ?_) | (apply zB <;> intro hb <;> (try simp [-zd] at hb) <;> try (exfalso; omega))))
 ·((conv => whnf); refine ⟨i + 1, by omega, ⟨qa, qa⟩, ⟨qa, qa⟩, ?_⟩; (first | omega | (dsimp only; omega) | skip))
 obtain rfl : i = m.vars.length := by omega
 clear hi hb
 refine qbw 2 2 23 1 rfl rfl ?_
 ((conv => whnf); refine qdc (fun _ => rfl) 300 3 [1, 2, 3] [0, 1, 3, 4] (fun i : Nat => [(6, iv i)]) (fun i => [(2, .box 34 [.own 3 0 0 m.procs.length, .own 4 0 0 m.vars.length, .own 5 0 0 i, iv (-1)]), (5, .row [] 23 1 0 i (fun i => [.nils]))]) (fun i => i ≤ m.chans.length) (fun i => m.chans.length - i) (0) (by omega) qa qa (fun _ => rfl) (by kernel_rfl) ?_; (conv => whnf))
 intro i hi
 (repeat' ((conv => whnf); first | refine Ob.auto ?_ | (apply zB <;> intro hb <;> (try simp [-zd] at hb) <;> try (exfalso; omega))))
 ·((conv => whnf); refine ⟨i + 1, by omega, ⟨qa, qa⟩, ⟨qa, qa⟩, ?_⟩; (first | omega | (dsimp only; omega) | skip))
 obtain rfl : i = m.chans.length := by omega
 (conv => whnf)
 refine Le.agg ⟨Le.slc (by simp [qdr]) (fun j hj => ?_), Le.slc (by simp [qdr]) (fun j hj => ?_), Le.slcL (by simp [qdr]) (fun j hj => ?_), Le.refl _, trivial⟩
 ·show [iv 0] = [iv ((qdr m).at_.getD j 0)]
  rw [qdr, qzo _ _ _ _ hj]
 ·show [iv (m.vars.getD j Vr.none).value] = [iv ((qdr m).vars.getD j 0)]
  rw [qdr, jlb _ _ _ _ Vr.none hj]
 ·show LeL [.nils] [ints ((qdr m).chans.getD j [])]
  rw [qdr, qzo _ _ _ _ hj]
  exact ⟨Le.nils _ _, trivial⟩
end Go.Proofs.YtdoaagphhjggbaaGreat
end
section
/- Contracts: states, by the document's answer: what is safe, what fits, what is the same. -/
namespace Go.Proofs.YtdoaagphhjggbaaGreat
open List renaming getD_eq_getElem?_getD → zd
open Go Go.Sx Go.RowKit Go.St
set_option maxRecDepth 100000
set_option maxHeartbeats 2000000
theorem jpn (m : Md) (s : Stt) (hs : SSz s) : Con Tryz.prog 25 [m.av, s.av] (.bool (qq m s)) := by
 have ha := hs.a
 have hv := hs.v
 have hc := hs.c
 refine qc (T := tab Tryz.prog) (C := {}) 600 (fun _ => rfl) Tryz.func25 rfl (by kernel_rfl) (by kernel_rfl) (fun c0 rdb => ?_)
 (repeat' ((conv => whnf); first | refine Ob.auto ?_ | (apply zB <;> intro hb <;> (try simp [-zd] at hb) <;> try (exfalso; omega))))
 ·refine Le.of_eq (congrArg AV.bool ?_)
  exact (qto (by unfold qil; omega)).symm
 have h0 : qil m s := by unfold qil; omega
 clear hb
 unfold qil at h0
 ((conv => whnf); refine qn (fun _ => rfl) 600 1 (fun i : Nat => [(5, iv i)]) (fun _ => []) (fun i => i ≤ s.at_.length ∧ ∀ j, j < i → qjt m s j) (fun i => s.at_.length - i) (0) (⟨by omega, fun j hj => absurd hj (Nat.not_lt_zero j)⟩) qa qa (fun _ => rfl) (by kernel_rfl) ?_; (conv => whnf))
 intro i hi
 (repeat' ((conv => whnf); first | refine zO ?_ | refine Ob.auto ?_ | (refine zP 600 ?_) | (apply zB <;> intro hb <;> (try simp [-zd] at hb) <;> try (exfalso; omega))))
 ·refine Le.of_eq (congrArg AV.bool ?_)
  exact (qzk i (by omega) (by omega)).symm
 ·((conv => whnf); refine ⟨i + 1, ⟨by omega, jp hi.2 hb⟩, ⟨qa, qa⟩, ⟨qa, qa⟩, ?_⟩; (first | omega | (dsimp only; omega) | skip))
 obtain rfl : i = s.at_.length := by omega
 have hA := hi.2
 clear hi hb
 ((conv => whnf); refine qn (fun _ => rfl) 600 2 (fun i : Nat => [(6, iv i)]) (fun _ => []) (fun i => i ≤ s.vars.length ∧ ∀ j, j < i → qju m s j) (fun i => s.vars.length - i) (0) (⟨by omega, fun j hj => absurd hj (Nat.not_lt_zero j)⟩) qa qa (fun _ => rfl) (by kernel_rfl) ?_; (conv => whnf))
 intro i hi
 (repeat' ((conv => whnf); first | refine zO ?_ | refine Ob.auto ?_ | refine zX (qex _ _) ?_ | (refine zP 600 ?_) | (apply zB <;> intro hb <;> (try simp [-zd] at hb) <;> try (exfalso; omega))))
 ·refine Le.of_eq (congrArg AV.bool ?_)
  exact (qzl i (by omega) hb).symm
 ·((conv => whnf); refine ⟨i + 1, ⟨by omega, jp hi.2 hb⟩, ⟨qa, qa⟩, ⟨qa, qa⟩, ?_⟩; (first | omega | (dsimp only; omega) | skip))
 obtain rfl : i = s.vars.length := by omega
 have hV := hi.2
 clear hi hb
 ((conv => whnf); refine qn (fun _ => rfl) 600 3 (fun i : Nat => [(7, iv i)]) (fun _ => []) (fun i => i ≤ s.chans.length ∧ ∀ j, j < i → qep m s j ∧ ∀ k, k < (s.chans.getD j []).length → qhj m s j k) (fun i => s.chans.length - i) (0) (⟨by omega, fun j hj => absurd hj (Nat.not_lt_zero j)⟩) qa qa (fun _ => rfl) (by kernel_rfl) ?_; (conv => whnf))
 intro i hi
 (repeat' ((conv => whnf); first | refine zO ?_ | refine Ob.auto ?_ | (refine zP 600 ?_) | (apply zB <;> intro hb <;> (try simp [-zd] at hb) <;> try (exfalso; omega))))
 ·refine Le.of_eq (congrArg AV.bool ?_)
  exact (qzm i (by omega) (by unfold qep; omega)).symm
 ·have hL : qep m s i := by unfold qep; omega
  have hlc := hs.l _ (qj s.chans i [] (by omega))
  ((conv => whnf); refine qn (fun _ => rfl) 600 4 (fun k : Nat => [(8, iv k)]) (fun _ => []) (fun k => k ≤ (s.chans.getD i []).length ∧ ∀ j, j < k → qhj m s i j) (fun k => (s.chans.getD i []).length - k) (0) (⟨by omega, fun j hj => absurd hj (Nat.not_lt_zero j)⟩) qa qa (fun _ => rfl) (by kernel_rfl) ?_; (conv => whnf))
  intro k hk
  (repeat' ((conv => whnf); first | refine zO ?_ | refine Ob.auto ?_ | refine zX (qex _ _) ?_ | (refine zP 600 ?_) | (apply zB <;> intro hb <;> (try simp [-zd] at hb) <;> try (exfalso; omega))))
  ·refine Le.of_eq (congrArg AV.bool ?_)
   exact (qzn i k (by omega) (by omega) hb).symm
  ·((conv => whnf); refine ⟨k + 1, ⟨by omega, jp hk.2 hb⟩, ⟨qa, qa⟩, ⟨qa, qa⟩, ?_⟩; (first | omega | (dsimp only; omega) | skip))
  ·((conv => whnf); refine ⟨i + 1, ⟨by omega, jp hi.2 ⟨hL, fun j hj => hk.2 j (by omega)⟩⟩, ⟨qa, qa⟩, ⟨qa, qa⟩, ?_⟩; (first | omega | (dsimp only; omega) | skip))
 ·refine Le.of_eq (congrArg AV.bool ?_)
  exact ((jj m s).2 ⟨h0, hA, hV, fun j hj => hi.2 j (by omega)⟩).symm
end Go.Proofs.YtdoaagphhjggbaaGreat
end
section
/- Contracts: the program's states. -/
namespace Go.Proofs.YtdoaagphhjggbaaGreat
open List renaming getD_eq_getElem?_getD → zd
open Go Go.Sx Go.RowKit Go.St
set_option maxRecDepth 100000
set_option maxHeartbeats 2000000
theorem jpo (x : Int) (c : Ch) : Con Tryz.prog 73 [iv x, .rptr c.cells] (.bool (!(trim x c.width == x))) := by
 refine qc (T := tab Tryz.prog) (C := {}) 300 (fun _ => rfl) Tryz.func73 rfl (by kernel_rfl) (by kernel_rfl) (fun c0 rdb => ?_)
 (repeat' ((conv => whnf); first | refine Ob.auto ?_ | refine zC 300 (jcb _ _) ?_ | fail))
 exact Le.refl _
theorem jpp (l : List Int) (c : Ch) (hl : l.length ≤ 1000000) : Con Tryz.prog 108 [ints l, .fn 73 [.rptr c.cells]] (iv (idx (fun x => !(trim x c.width == x)) l)) := by
 refine qc (T := tab Tryz.prog) (C := {}) 300 (fun _ => rfl) Tryz.func108 rfl (by kernel_rfl) (by kernel_rfl) (fun c0 rdb => ?_)
 (repeat' ((conv => whnf); first | exact trivial))
 ((conv => whnf); refine qn (fun _ => rfl) 300 1 (fun i : Nat => [(8, iv i)]) (fun _ => []) (fun i => i ≤ l.length ∧ ∀ j, j < i → (!(trim (l.getD j 0) c.width == l.getD j 0)) = false) (fun i => l.length - i) (0) (⟨by omega, fun j hj => absurd hj (Nat.not_lt_zero j)⟩) qa qa (fun _ => rfl) (by kernel_rfl) ?_; (conv => whnf))
 intro i hi
 (repeat' ((conv => whnf); first | refine Ob.auto ?_ | refine zC 300 (jpo _ c) ?_ | (apply zB <;> intro hb <;> (try simp [-zd] at hb) <;> try (exfalso; omega))))
 ·refine Le.of_eq (congrArg (AV.int _) ?_)
  exact (qen _ l 0 i (by omega) (by simp [-zd, hb]) hi.2).symm
 ·((conv => whnf); refine ⟨i + 1, ⟨by omega, jp hi.2 (by simp [-zd, hb])⟩, ⟨qa, qa⟩, ⟨qa, qa⟩, ?_⟩; (first | omega | (dsimp only; omega) | skip))
 ·refine Le.of_eq (congrArg (AV.int _) ?_)
  exact (qeo _ l 0 (fun j hj => hi.2 j (by omega))).symm
theorem jpq {α : Type} (q : α → Bool) (l : List α) : decide (0 ≤ Go.St.idx q l) = l.any q := by
 unfold Go.St.idx
 cases h : l.findIdx? q with
 | none =>
  rw [List.findIdx?_eq_none_iff] at h
  have : l.any q = false := by rw [Bool.eq_false_iff]; intro h'; rw [List.any_eq_true] at h'; obtain ⟨x, hx, hq⟩ := h'; rw [h x hx] at hq; cases hq
  rw [this]; rfl
 | some i =>
  rw [List.findIdx?_eq_some_iff_getElem] at h
  obtain ⟨h1, h2, _⟩ := h
  have : l.any q = true := by rw [List.any_eq_true]; exact ⟨_, List.getElem_mem h1, h2⟩
  rw [this]; exact decide_eq_true (by simp)
theorem jpr (l : List Int) (c : Ch) (hl : l.length ≤ 1000000) : Con Tryz.prog 74 [ints l, .fn 73 [.rptr c.cells]] (.bool (l.any fun x => !(trim x c.width == x))) := by
 refine qc (T := tab Tryz.prog) (C := {}) 300 (fun _ => rfl) Tryz.func74 rfl (by kernel_rfl) (by kernel_rfl) (fun c0 rdb => ?_)
 (repeat' ((conv => whnf); first | refine Ob.auto ?_ | refine zC 300 (jpp l c hl) ?_ | fail))
 refine Le.of_eq (congrArg AV.bool ?_)
 exact jpq _ l
theorem qdv (m : Md) (s : Stt) (hs : SSz s) : Con Tryz.prog 43 [m.av, s.av] (.bool (qq m s)) := by
 have ha := hs.a
 have hv := hs.v
 have hc := hs.c
 refine qc (T := tab Tryz.prog) (C := {}) 600 (fun _ => rfl) Tryz.func43 rfl (by kernel_rfl) (by kernel_rfl) (fun c0 rdb => ?_)
 (repeat' ((conv => whnf); first | refine Ob.auto ?_ | (apply zB <;> intro hb <;> (try simp [-zd] at hb) <;> try (exfalso; omega))))
 ·refine Le.of_eq (congrArg AV.bool ?_)
  exact (qto (by unfold qil; omega)).symm
 have h0 : s.at_.length = m.procs.length ∧ s.vars.length = m.vars.length ∧ s.chans.length = m.chans.length := by omega
 clear hb
 ((conv => whnf); refine qn (fun _ => rfl) 600 1 (fun i : Nat => [(41, iv i)]) (fun _ => []) (fun i => i ≤ s.at_.length ∧ ∀ j, j < i → qjt m s j) (fun i => s.at_.length - i) (0) (⟨by omega, fun j hj => absurd hj (Nat.not_lt_zero j)⟩) qa qa (fun _ => rfl) (by kernel_rfl) ?_; (conv => whnf))
 intro i hi
 (repeat' ((conv => whnf); first | refine Ob.auto ?_ | (apply zB <;> intro hb <;> (try simp [-zd] at hb) <;> try (exfalso; omega))))
 ·refine Le.of_eq (congrArg AV.bool ?_)
  exact (qzk i (by omega) (by omega)).symm
 ·((conv => whnf); refine ⟨i + 1, ⟨by omega, jp hi.2 hb⟩, ⟨qa, qa⟩, ⟨qa, qa⟩, ?_⟩; (first | omega | (dsimp only; omega) | skip))
 obtain rfl : i = s.at_.length := by omega
 have hA := hi.2
 clear hi hb
 ((conv => whnf); refine qn (fun _ => rfl) 600 2 (fun i : Nat => [(62, iv i)]) (fun _ => []) (fun i => i ≤ s.vars.length ∧ ∀ j, j < i → qju m s j) (fun i => s.vars.length - i) (0) (⟨by omega, fun j hj => absurd hj (Nat.not_lt_zero j)⟩) qa qa (fun _ => rfl) (by kernel_rfl) ?_; (conv => whnf))
 intro i hi
 (repeat' ((conv => whnf); first | refine Ob.auto ?_ | refine zC 600 (jcb _ _) ?_ | (apply zB <;> intro hb <;> (try simp [-zd] at hb) <;> try (exfalso; omega))))
 ·refine Le.of_eq (congrArg AV.bool ?_)
  exact (qzl i (by omega) hb).symm
 ·((conv => whnf); refine ⟨i + 1, ⟨by omega, jp hi.2 hb⟩, ⟨qa, qa⟩, ⟨qa, qa⟩, ?_⟩; (first | omega | (dsimp only; omega) | skip))
 obtain rfl : i = s.vars.length := by omega
 have hV := hi.2
 clear hi hb
 ((conv => whnf); refine qn (fun _ => rfl) 600 3 (fun i : Nat => [(80, iv i)]) (fun _ => []) (fun i => i ≤ s.chans.length ∧ ∀ j, j < i → qep m s j ∧ ∀ k, k < (s.chans.getD j []).length → qhj m s j k) (fun i => s.chans.length - i) (0) (⟨by omega, fun j hj => absurd hj (Nat.not_lt_zero j)⟩) qa qa (fun _ => rfl) (by kernel_rfl) ?_; (conv => whnf))
 intro i hi
 have hlc : i < s.chans.length → _ := fun h => hs.l _ (qj s.chans i [] h)
 (repeat' ((conv => whnf); first | refine Ob.auto ?_ | refine zF 600 (fun hg => jpr (s.chans.getD i []) (m.chans.getD i Ch.none) (hlc (by omega))) ?_ | (apply zB <;> intro hb <;> (try simp [-zd] at hb) <;> try (exfalso; omega))))
 ·refine Le.of_eq (congrArg AV.bool ?_)
  rcases hb with hb | ⟨x, hx, hb⟩
  ·exact (qzm i (by omega) (by unfold qep; omega)).symm
  ·obtain ⟨k, hk, hx⟩ := List.mem_iff_getElem.1 hx
   refine (qzn i k (by omega) hk ?_).symm
   have : (s.chans.getD i []).getD k 0 = x := by rw [zd, List.getElem?_eq_getElem hk]; exact hx
   unfold qhj
   rw [this]; exact hb
 ·((conv => whnf); refine ⟨i + 1, ⟨by omega, jp hi.2 ⟨by unfold qep; omega, fun k hk => hb.2 _ (qj _ k 0 hk)⟩⟩, ⟨qa, qa⟩, ⟨qa, qa⟩, ?_⟩; (first | omega | (dsimp only; omega) | skip))
 ·refine Le.of_eq (congrArg AV.bool ?_)
  by_cases hh : -1 ≤ s.holder ∧ s.holder < m.procs.length
  ·rw [(jj m s).2 ⟨⟨h0.1, h0.2.1, h0.2.2, hh⟩, hA, hV, fun j hj => hi.2 j (by omega)⟩]
   simp [hh]
  ·rw [qto (m := m) (s := s) (by unfold qil; omega)]
   simp; omega
end Go.Proofs.YtdoaagphhjggbaaGreat
end
section
/- Contracts: the program's states: the first one, which are the same. -/
namespace Go.Proofs.YtdoaagphhjggbaaGreat
open Go Go.Sx Go.RowKit Go.St
set_option maxRecDepth 100000
set_option maxHeartbeats 2000000
end Go.Proofs.YtdoaagphhjggbaaGreat
end
