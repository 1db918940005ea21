/- Some texts of the library, one behind the other. -/
import Derived.Test.YtdoaagphhjggbaaGreatQ35
import Derived.Test.YtdoaagphhjggbaaGreatQ2
section
/- Contracts: the program's states. -/
namespace Go.Proofs.YtdoaagphhjggbaaGreat
open List renaming getD_eq_getElem?_getD → zd
open Go Go.Sx Go.RowKit Go.St
set_option maxRecDepth 100000
set_option maxHeartbeats 2000000
theorem qmw (x : Int) (c : Ch) : Con Tryz.prog 73 [iv x, .rptr c.cells] (.bool (!(trim x c.width == x))) := by
 refine qd (T := tab Tryz.prog) (C := {}) 300 (fun _ => rfl) Tryz.func73 rfl (by kernel_rfl) (by kernel_rfl) (fun c0 rdb => ?_)
 (repeat' ((conv => whnf); first | refine zO ?_ | refine Ob.auto ?_ | refine zC 300 (qfl _ _) ?_ | refine zG 300 (fun hg => qfl _ _) ?_ | refine zX (qfl _ _) ?_ | refine zY (fun hg => qfl _ _) ?_ | refine zE 300 (qfl _ _) ?_ | refine zF 300 (fun hg => qfl _ _) ?_ | (refine zP 300 ?_) | (apply zB <;> intro hb <;> (try simp [-zd] at hb) <;> try (exfalso; omega)) | refine Ob.intro ?_ ?_))
 exact Le.refl _
theorem qmx (l : List Int) (c : Ch) (hl : l.length ≤ 1000000) : Con Tryz.prog 108 [ints l, .fn 73 [.rptr c.cells]] (iv (idx (fun x => !(trim x c.width == x)) l)) := by
 refine qd (T := tab Tryz.prog) (C := {}) 300 (fun _ => rfl) Tryz.func108 rfl (by kernel_rfl) (by kernel_rfl) (fun c0 rdb => ?_)
 (repeat' ((conv => whnf); first | refine zO ?_ | refine Ob.auto ?_ | (refine zP 300 ?_) | (apply zB <;> intro hb <;> (try simp [-zd] at hb) <;> try (exfalso; omega)) | refine Ob.intro ?_ ?_))
 ((conv => whnf); refine qp (fun _ => rfl) 300 1 (fun i : Nat => [(8, iv i)]) (fun _ => []) (fun i => i ≤ l.length ∧ ∀ j, j < i → (!(trim (l.getD j 0) c.width == l.getD j 0)) = false) (fun i => l.length - i) (0) (⟨by omega, fun j hj => absurd hj (Nat.not_lt_zero j)⟩) qa qa (fun _ => rfl) (by kernel_rfl) ?_; (conv => whnf))
 intro i hi
 (repeat' ((conv => whnf); first | refine zO ?_ | refine Ob.auto ?_ | refine zC 300 (qmw _ c) ?_ | refine zG 300 (fun hg => qmw _ c) ?_ | refine zX (qmw _ c) ?_ | refine zY (fun hg => qmw _ c) ?_ | refine zE 300 (qmw _ c) ?_ | refine zF 300 (fun hg => qmw _ c) ?_ | (refine zP 300 ?_) | (apply zB <;> intro hb <;> (try simp [-zd] at hb) <;> try (exfalso; omega)) | refine Ob.intro ?_ ?_))
 ·refine Le.of_eq (congrArg (AV.int _) ?_)
  exact (qey _ l 0 i (by omega) (by simp [-zd, hb]) hi.2).symm
 ·((conv => whnf); refine ⟨i + 1, ⟨by omega, qao hi.2 (by simp [-zd, hb])⟩, ⟨qa, qa⟩, ⟨qa, qa⟩, ?_⟩; (first | omega | (dsimp only; omega) | skip))
 ·refine Le.of_eq (congrArg (AV.int _) ?_)
  exact (qez _ l 0 (fun j hj => hi.2 j (by omega))).symm
theorem jpp {α : Type} (q : α → Bool) (l : List α) : decide (0 ≤ Go.St.idx q l) = l.any q := by
 unfold Go.St.idx
 cases h : l.findIdx? q with
 | none =>
  rw [List.findIdx?_eq_none_iff] at h
  have : l.any q = false := by rw [Bool.eq_false_iff]; intro h'; rw [List.any_eq_true] at h'; obtain ⟨x, hx, hq⟩ := h'; rw [h x hx] at hq; cases hq
  rw [this]; rfl
 | some i =>
  rw [List.findIdx?_eq_some_iff_getElem] at h
  obtain ⟨h1, h2, _⟩ := h
  have : l.any q = true := by rw [List.any_eq_true]; exact ⟨_, List.getElem_mem h1, h2⟩
  rw [this]; exact decide_eq_true (by simp)
theorem qmy (l : List Int) (c : Ch) (hl : l.length ≤ 1000000) : Con Tryz.prog 74 [ints l, .fn 73 [.rptr c.cells]] (.bool (l.any fun x => !(trim x c.width == x))) := by
 refine qd (T := tab Tryz.prog) (C := {}) 300 (fun _ => rfl) Tryz.func74 rfl (by kernel_rfl) (by kernel_rfl) (fun c0 rdb => ?_)
 (repeat' ((conv => whnf); first | refine zO ?_ | refine Ob.auto ?_ | refine zC 300 (qmx l c hl) ?_ | refine zG 300 (fun hg => qmx l c hl) ?_ | refine zX (qmx l c hl) ?_ | refine zY (fun hg => qmx l c hl) ?_ | refine zE 300 (qmx l c hl) ?_ | refine zF 300 (fun hg => qmx l c hl) ?_ | (refine zP 300 ?_) | (apply zB <;> intro hb <;> (try simp [-zd] at hb) <;> try (exfalso; omega)) | refine Ob.intro ?_ ?_))
 refine Le.of_eq (congrArg AV.bool ?_)
 exact jpp _ l
theorem jp (m : Md) (s : Stt) (hs : SSz s) : Con Tryz.prog 43 [m.av, s.av] (.bool (qw m s)) := by
 have ha := hs.a
 have hv := hs.v
 have hc := hs.c
 refine qd (T := tab Tryz.prog) (C := {}) 600 (fun _ => rfl) Tryz.func43 rfl (by kernel_rfl) (by kernel_rfl) (fun c0 rdb => ?_)
 (repeat' ((conv => whnf); first | refine zO ?_ | refine Ob.auto ?_ | (refine zP 600 ?_) | (apply zB <;> intro hb <;> (try simp [-zd] at hb) <;> try (exfalso; omega)) | refine Ob.intro ?_ ?_))
 ·refine Le.of_eq (congrArg AV.bool ?_)
  exact (qvl (by unfold qrw; omega)).symm
 have h0 : s.at_.length = m.procs.length ∧ s.vars.length = m.vars.length ∧ s.chans.length = m.chans.length := by omega
 clear hb
 ((conv => whnf); refine qp (fun _ => rfl) 600 1 (fun i : Nat => [(41, iv i)]) (fun _ => []) (fun i => i ≤ s.at_.length ∧ ∀ j, j < i → qki m s j) (fun i => s.at_.length - i) (0) (⟨by omega, fun j hj => absurd hj (Nat.not_lt_zero j)⟩) qa qa (fun _ => rfl) (by kernel_rfl) ?_; (conv => whnf))
 intro i hi
 (repeat' ((conv => whnf); first | refine zO ?_ | refine Ob.auto ?_ | (refine zP 600 ?_) | (apply zB <;> intro hb <;> (try simp [-zd] at hb) <;> try (exfalso; omega)) | refine Ob.intro ?_ ?_))
 ·refine Le.of_eq (congrArg AV.bool ?_)
  exact (jlo i (by omega) (by omega)).symm
 ·((conv => whnf); refine ⟨i + 1, ⟨by omega, qao hi.2 hb⟩, ⟨qa, qa⟩, ⟨qa, qa⟩, ?_⟩; (first | omega | (dsimp only; omega) | skip))
 obtain rfl : i = s.at_.length := by omega
 have hA := hi.2
 clear hi hb
 ((conv => whnf); refine qp (fun _ => rfl) 600 2 (fun i : Nat => [(62, iv i)]) (fun _ => []) (fun i => i ≤ s.vars.length ∧ ∀ j, j < i → qlx m s j) (fun i => s.vars.length - i) (0) (⟨by omega, fun j hj => absurd hj (Nat.not_lt_zero j)⟩) qa qa (fun _ => rfl) (by kernel_rfl) ?_; (conv => whnf))
 intro i hi
 (repeat' ((conv => whnf); first | refine zO ?_ | refine Ob.auto ?_ | refine zI ?_ | refine zC 600 (qfl _ _) ?_ | refine zG 600 (fun hg => qfl _ _) ?_ | refine zX (qfl _ _) ?_ | refine zY (fun hg => qfl _ _) ?_ | refine zE 600 (qfl _ _) ?_ | refine zF 600 (fun hg => qfl _ _) ?_ | (refine zP 600 ?_) | (apply zB <;> intro hb <;> (try simp [-zd] at hb) <;> try (exfalso; omega)) | refine Ob.intro ?_ ?_))
 ·refine Le.of_eq (congrArg AV.bool ?_)
  exact (jlp i (by omega) hb).symm
 ·((conv => whnf); refine ⟨i + 1, ⟨by omega, qao hi.2 hb⟩, ⟨qa, qa⟩, ⟨qa, qa⟩, ?_⟩; (first | omega | (dsimp only; omega) | skip))
 obtain rfl : i = s.vars.length := by omega
 have hV := hi.2
 clear hi hb
 ((conv => whnf); refine qp (fun _ => rfl) 600 3 (fun i : Nat => [(80, iv i)]) (fun _ => []) (fun i => i ≤ s.chans.length ∧ ∀ j, j < i → qjc m s j ∧ ∀ k, k < (s.chans.getD j []).length → qkj m s j k) (fun i => s.chans.length - i) (0) (⟨by omega, fun j hj => absurd hj (Nat.not_lt_zero j)⟩) qa qa (fun _ => rfl) (by kernel_rfl) ?_; (conv => whnf))
 intro i hi
 have hlc : i < s.chans.length → _ := fun h => hs.l _ (qj s.chans i [] h)
 (repeat' ((conv => whnf); first | refine zO ?_ | refine Ob.auto ?_ | refine zI ?_ | refine zC 600 (qmy (s.chans.getD i []) (m.chans.getD i Ch.none) (hlc (by omega))) ?_ | refine zG 600 (fun hg => qmy (s.chans.getD i []) (m.chans.getD i Ch.none) (hlc (by omega))) ?_ | refine zX (qmy (s.chans.getD i []) (m.chans.getD i Ch.none) (hlc (by omega))) ?_ | refine zY (fun hg => qmy (s.chans.getD i []) (m.chans.getD i Ch.none) (hlc (by omega))) ?_ | refine zE 600 (qmy (s.chans.getD i []) (m.chans.getD i Ch.none) (hlc (by omega))) ?_ | refine zF 600 (fun hg => qmy (s.chans.getD i []) (m.chans.getD i Ch.none) (hlc (by omega))) ?_ | (refine zP 600 ?_) | (apply zB <;> intro hb <;> (try simp [-zd] at hb) <;> try (exfalso; omega)) | refine Ob.intro ?_ ?_))
 ·refine Le.of_eq (congrArg AV.bool ?_)
  rcases hb with hb | ⟨x, hx, hb⟩
  ·exact (jlq i (by omega) (by unfold qjc; omega)).symm
  ·obtain ⟨k, hk, hx⟩ := List.mem_iff_getElem.1 hx
   refine (jlr i k (by omega) hk ?_).symm
   have : (s.chans.getD i []).getD k 0 = x := by rw [zd, List.getElem?_eq_getElem hk]; exact hx
   unfold qkj
   rw [this]; exact hb
 ·((conv => whnf); refine ⟨i + 1, ⟨by omega, qao hi.2 ⟨by unfold qjc; omega, fun k hk => hb.2 _ (qj _ k 0 hk)⟩⟩, ⟨qa, qa⟩, ⟨qa, qa⟩, ?_⟩; (first | omega | (dsimp only; omega) | skip))
 ·refine Le.of_eq (congrArg AV.bool ?_)
  by_cases hh : -1 ≤ s.holder ∧ s.holder < m.procs.length
  ·rw [(qaa m s).2 ⟨⟨h0.1, h0.2.1, h0.2.2, hh⟩, hA, hV, fun j hj => hi.2 j (by omega)⟩]
   simp [hh]
  ·rw [qvl (m := m) (s := s) (by unfold qrw; omega)]
   simp; omega
end Go.Proofs.YtdoaagphhjggbaaGreat
end
section
/- Contracts: the program's states: the first one, which are the same. -/
namespace Go.Proofs.YtdoaagphhjggbaaGreat
open Go Go.Sx Go.RowKit Go.St
set_option maxRecDepth 100000
set_option maxHeartbeats 2000000
end Go.Proofs.YtdoaagphhjggbaaGreat
end
