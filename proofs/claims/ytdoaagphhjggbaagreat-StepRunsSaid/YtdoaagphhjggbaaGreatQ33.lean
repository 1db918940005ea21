/- Some texts of the library, one behind the other. -/
import Derived.Test.YtdoaagphhjggbaaGreatQ32
import Derived.Test.YtdoaagphhjggbaaGreatQ2
section
/- Contracts: the program's states. -/
namespace Go.Proofs.YtdoaagphhjggbaaGreat
open List renaming getD_eq_getElem?_getD → zd
open Go Go.Sx Go.RowKit Go.St
set_option maxRecDepth 100000
set_option maxHeartbeats 2000000
theorem jot (x : Int) (c : Ch) : Con Tryz.prog 73 [iv x, .rptr c.cells] (.bool (!(trim x c.width == x))) := by
 refine qc (T := tab Tryz.prog) (C := {}) 300 (fun _ => rfl) Tryz.func73 rfl (by kernel_rfl) (by kernel_rfl) (fun c0 rdb => ?_)
 (repeat' ((conv => whnf); first | refine Ob.auto ?_ | refine zC 300 (jbh _ _) ?_ | fail))
 exact Le.refl _
theorem jou (l : List Int) (c : Ch) (hl : l.length ≤ 1000000) : Con Tryz.prog 108 [ints l, .fn 73 [.rptr c.cells]] (iv (idx (fun x => !(trim x c.width == x)) l)) := by
 refine qc (T := tab Tryz.prog) (C := {}) 300 (fun _ => rfl) Tryz.func108 rfl (by kernel_rfl) (by kernel_rfl) (fun c0 rdb => ?_)
 (repeat' ((conv => whnf); first | exact trivial))
 ((conv => whnf); refine qt (fun _ => rfl) 300 1 (fun i : Nat => [(8, iv i)]) (fun _ => []) (fun i => i ≤ l.length ∧ ∀ j, j < i → (!(trim (l.getD j 0) c.width == l.getD j 0)) = false) (fun i => l.length - i) (0) (⟨by omega, fun j hj => absurd hj (Nat.not_lt_zero j)⟩) qa qa (fun _ => rfl) (by kernel_rfl) ?_; (conv => whnf))
 intro i hi
 (repeat' ((conv => whnf); first | refine Ob.auto ?_ | refine zC 300 (jot _ c) ?_ | (apply zB <;> intro hb <;> (try simp [-zd] at hb) <;> try (exfalso; omega))))
 ·refine Le.of_eq (congrArg (AV.int _) ?_)
  exact (qei _ l 0 i (by omega) (by simp [-zd, hb]) hi.2).symm
 ·((conv => whnf); refine ⟨i + 1, ⟨by omega, qaa hi.2 (by simp [-zd, hb])⟩, ⟨qa, qa⟩, ⟨qa, qa⟩, ?_⟩; (first | omega | (dsimp only; omega) | skip))
 ·refine Le.of_eq (congrArg (AV.int _) ?_)
  exact (qej _ l 0 (fun j hj => hi.2 j (by omega))).symm
theorem jov {α : Type} (q : α → Bool) (l : List α) : decide (0 ≤ Go.St.idx q l) = l.any q := by
 unfold Go.St.idx
 cases h : l.findIdx? q with
 | none =>
  rw [List.findIdx?_eq_none_iff] at h
  have : l.any q = false := by rw [Bool.eq_false_iff]; intro h'; rw [List.any_eq_true] at h'; obtain ⟨x, hx, hq⟩ := h'; rw [h x hx] at hq; cases hq
  rw [this]; rfl
 | some i =>
  rw [List.findIdx?_eq_some_iff_getElem] at h
  obtain ⟨h1, h2, _⟩ := h
  have : l.any q = true := by rw [List.any_eq_true]; exact ⟨_, List.getElem_mem h1, h2⟩
  rw [this]; exact decide_eq_true (by simp)
theorem jow (l : List Int) (c : Ch) (hl : l.length ≤ 1000000) : Con Tryz.prog 74 [ints l, .fn 73 [.rptr c.cells]] (.bool (l.any fun x => !(trim x c.width == x))) := by
 refine qc (T := tab Tryz.prog) (C := {}) 300 (fun _ => rfl) Tryz.func74 rfl (by kernel_rfl) (by kernel_rfl) (fun c0 rdb => ?_)
 (repeat' ((conv => whnf); first | refine Ob.auto ?_ | refine zC 300 (jou l c hl) ?_ | fail))
 refine Le.of_eq (congrArg AV.bool ?_)
 exact jov _ l
theorem qdu (m : Md) (s : Stt) (hs : SSz s) : Con Tryz.prog 43 [m.av, s.av] (.bool (qp m s)) := by
 have ha := hs.a
 have hv := hs.v
 have hc := hs.c
 refine qc (T := tab Tryz.prog) (C := {}) 600 (fun _ => rfl) Tryz.func43 rfl (by kernel_rfl) (by kernel_rfl) (fun c0 rdb => ?_)
 (repeat' ((conv => whnf); first | refine Ob.auto ?_ | (apply zB <;> intro hb <;> (try simp [-zd] at hb) <;> try (exfalso; omega))))
 ·refine Le.of_eq (congrArg AV.bool ?_)
  exact (qyw (by unfold qqc; omega)).symm
 have h0 : s.at_.length = m.procs.length ∧ s.vars.length = m.vars.length ∧ s.chans.length = m.chans.length := by omega
 clear hb
 ((conv => whnf); refine qt (fun _ => rfl) 600 1 (fun i : Nat => [(41, iv i)]) (fun _ => []) (fun i => i ≤ s.at_.length ∧ ∀ j, j < i → qkq m s j) (fun i => s.at_.length - i) (0) (⟨by omega, fun j hj => absurd hj (Nat.not_lt_zero j)⟩) qa qa (fun _ => rfl) (by kernel_rfl) ?_; (conv => whnf))
 intro i hi
 (repeat' ((conv => whnf); first | refine Ob.auto ?_ | (apply zB <;> intro hb <;> (try simp [-zd] at hb) <;> try (exfalso; omega))))
 ·refine Le.of_eq (congrArg AV.bool ?_)
  exact (jki i (by omega) (by omega)).symm
 ·((conv => whnf); refine ⟨i + 1, ⟨by omega, qaa hi.2 hb⟩, ⟨qa, qa⟩, ⟨qa, qa⟩, ?_⟩; (first | omega | (dsimp only; omega) | skip))
 obtain rfl : i = s.at_.length := by omega
 have hA := hi.2
 clear hi hb
 ((conv => whnf); refine qt (fun _ => rfl) 600 2 (fun i : Nat => [(62, iv i)]) (fun _ => []) (fun i => i ≤ s.vars.length ∧ ∀ j, j < i → qkr m s j) (fun i => s.vars.length - i) (0) (⟨by omega, fun j hj => absurd hj (Nat.not_lt_zero j)⟩) qa qa (fun _ => rfl) (by kernel_rfl) ?_; (conv => whnf))
 intro i hi
 (repeat' ((conv => whnf); first | refine Ob.auto ?_ | refine zC 600 (jbh _ _) ?_ | (apply zB <;> intro hb <;> (try simp [-zd] at hb) <;> try (exfalso; omega))))
 ·refine Le.of_eq (congrArg AV.bool ?_)
  exact (jkj i (by omega) hb).symm
 ·((conv => whnf); refine ⟨i + 1, ⟨by omega, qaa hi.2 hb⟩, ⟨qa, qa⟩, ⟨qa, qa⟩, ?_⟩; (first | omega | (dsimp only; omega) | skip))
 obtain rfl : i = s.vars.length := by omega
 have hV := hi.2
 clear hi hb
 ((conv => whnf); refine qt (fun _ => rfl) 600 3 (fun i : Nat => [(80, iv i)]) (fun _ => []) (fun i => i ≤ s.chans.length ∧ ∀ j, j < i → qia m s j ∧ ∀ k, k < (s.chans.getD j []).length → qks m s j k) (fun i => s.chans.length - i) (0) (⟨by omega, fun j hj => absurd hj (Nat.not_lt_zero j)⟩) qa qa (fun _ => rfl) (by kernel_rfl) ?_; (conv => whnf))
 intro i hi
 have hlc : i < s.chans.length → _ := fun h => hs.l _ (ql s.chans i [] h)
 (repeat' ((conv => whnf); first | refine Ob.auto ?_ | refine zF 600 (fun hg => jow (s.chans.getD i []) (m.chans.getD i Ch.none) (hlc (by omega))) ?_ | (apply zB <;> intro hb <;> (try simp [-zd] at hb) <;> try (exfalso; omega))))
 ·refine Le.of_eq (congrArg AV.bool ?_)
  rcases hb with hb | ⟨x, hx, hb⟩
  ·exact (jkk i (by omega) (by unfold qia; omega)).symm
  ·obtain ⟨k, hk, hx⟩ := List.mem_iff_getElem.1 hx
   refine (jkl i k (by omega) hk ?_).symm
   have : (s.chans.getD i []).getD k 0 = x := by rw [zd, List.getElem?_eq_getElem hk]; exact hx
   unfold qks
   rw [this]; exact hb
 ·((conv => whnf); refine ⟨i + 1, ⟨by omega, qaa hi.2 ⟨by unfold qia; omega, fun k hk => hb.2 _ (ql _ k 0 hk)⟩⟩, ⟨qa, qa⟩, ⟨qa, qa⟩, ?_⟩; (first | omega | (dsimp only; omega) | skip))
 ·refine Le.of_eq (congrArg AV.bool ?_)
  by_cases hh : -1 ≤ s.holder ∧ s.holder < m.procs.length
  ·rw [(jj m s).2 ⟨⟨h0.1, h0.2.1, h0.2.2, hh⟩, hA, hV, fun j hj => hi.2 j (by omega)⟩]
   simp [hh]
  ·rw [qyw (m := m) (s := s) (by unfold qqc; omega)]
   simp; omega
end Go.Proofs.YtdoaagphhjggbaaGreat
end
section
/- Contracts: the program's states: the first one, which are the same. -/
namespace Go.Proofs.YtdoaagphhjggbaaGreat
open Go Go.Sx Go.RowKit Go.St
set_option maxRecDepth 100000
set_option maxHeartbeats 2000000
end Go.Proofs.YtdoaagphhjggbaaGreat
end
section
/- Contracts: what the program's expressions see of a state. -/
namespace Go.Proofs.YtdoaagphhjggbaaGreat
open List renaming getD_eq_getElem?_getD → zd
open Go Go.Sx Go.RowKit Go.St
set_option maxRecDepth 100000
set_option maxHeartbeats 2000000
theorem jox (v : Vr) (s : List UInt8) : Con Tryz.prog 110 [.agg v.cells, .rptr [.str s]] (.bool (v.name == s)) := by
 refine qc (T := tab Tryz.prog) (C := {}) 300 (fun _ => rfl) Tryz.func110 rfl (by kernel_rfl) (by kernel_rfl) (fun c0 rdb => ?_)
 (repeat' ((conv => whnf); first | refine Ob.auto ?_ | fail))
 exact Le.refl _
theorem joy (v : Ch) (s : List UInt8) : Con Tryz.prog 114 [.agg v.cells, .rptr [.str s]] (.bool (v.name == s)) := by
 refine qc (T := tab Tryz.prog) (C := {}) 300 (fun _ => rfl) Tryz.func114 rfl (by kernel_rfl) (by kernel_rfl) (fun c0 rdb => ?_)
 (repeat' ((conv => whnf); first | refine Ob.auto ?_ | fail))
 exact Le.refl _
theorem joz (l : List Vr) (n : Nat) (hn : n ≤ l.length) (hl : n ≤ 1000000) (s : List UInt8) : Con Tryz.prog 111 [.slc 3 n (encL Vr.cells Vr.none l), .fn 110 [.rptr [.str s]]] (iv (Go.St.idx (fun v : Vr => v.name == s) (l.take n))) := by
 have htk : ∀ j : Nat, j < n → (l.take n).getD j Vr.none = l.getD j Vr.none := fun j hj => by
  rw [zd, List.getElem?_take, if_pos hj, ← zd]
 have hln : (l.take n).length = n := by rw [List.length_take]; omega
 refine qc (T := tab Tryz.prog) (C := {}) 300 (fun _ => rfl) Tryz.func111 rfl (by kernel_rfl) (by kernel_rfl) (fun c0 rdb => ?_)
 (repeat' ((conv => whnf); first | exact trivial))
 ((conv => whnf); refine qt (fun _ => rfl) 300 1 (fun i : Nat => [(8, iv i)]) (fun _ => []) (fun i => i ≤ n ∧ ∀ j, j < i → ((l.getD j Vr.none).name == s) = false) (fun i => n - i) (0) (⟨by omega, fun j hj => absurd hj (Nat.not_lt_zero j)⟩) qa qa (fun _ => rfl) (by kernel_rfl) ?_; (conv => whnf))
 intro i hi
 (repeat' ((conv => whnf); first | refine Ob.auto ?_ | refine zC 300 (jox _ s) ?_ | (apply zB <;> intro hb <;> (try simp [-zd] at hb) <;> try (exfalso; omega))))
 ·refine Le.of_eq (congrArg (AV.int _) ?_)
  exact (qei _ (l.take n) Vr.none i (by omega) (by rw [htk i (by omega)]; exact beq_iff_eq.2 hb) (fun j hj => by rw [htk j (by omega)]; exact hi.2 j hj)).symm
 ·((conv => whnf); refine ⟨i + 1, ⟨by omega, qaa hi.2 (beq_eq_false_iff_ne.2 hb)⟩, ⟨qa, qa⟩, ⟨qa, qa⟩, ?_⟩; (first | omega | (dsimp only; omega) | skip))
 ·refine Le.of_eq (congrArg (AV.int _) ?_)
  exact (qej _ (l.take n) Vr.none (fun j hj => by rw [htk j (by omega)]; exact hi.2 j (by omega))).symm
theorem jpa (l : List Ch) (hl : l.length ≤ 1000000) (s : List UInt8) : Con Tryz.prog 115 [slcL Ch.cells Ch.none 5 l, .fn 114 [.rptr [.str s]]] (iv (Go.St.idx (fun v : Ch => v.name == s) l)) := by
 refine qc (T := tab Tryz.prog) (C := {}) 300 (fun _ => rfl) Tryz.func115 rfl (by kernel_rfl) (by kernel_rfl) (fun c0 rdb => ?_)
 (repeat' ((conv => whnf); first | exact trivial))
 ((conv => whnf); refine qt (fun _ => rfl) 300 1 (fun i : Nat => [(8, iv i)]) (fun _ => []) (fun i => i ≤ l.length ∧ ∀ j, j < i → ((l.getD j Ch.none).name == s) = false) (fun i => l.length - i) (0) (⟨by omega, fun j hj => absurd hj (Nat.not_lt_zero j)⟩) qa qa (fun _ => rfl) (by kernel_rfl) ?_; (conv => whnf))
 intro i hi
 (repeat' ((conv => whnf); first | refine Ob.auto ?_ | refine zC 300 (joy _ s) ?_ | (apply zB <;> intro hb <;> (try simp [-zd] at hb) <;> try (exfalso; omega))))
 ·refine Le.of_eq (congrArg (AV.int _) ?_)
  exact (qei (fun v : Ch => v.name == s) l Ch.none i (by omega) (beq_iff_eq.2 hb) hi.2).symm
 ·((conv => whnf); refine ⟨i + 1, ⟨by omega, qaa hi.2 (beq_eq_false_iff_ne.2 hb)⟩, ⟨qa, qa⟩, ⟨qa, qa⟩, ?_⟩; (first | omega | (dsimp only; omega) | skip))
 ·refine Le.of_eq (congrArg (AV.int _) ?_)
  exact (qej _ l Ch.none (fun j hj => hi.2 j (by omega))).symm
theorem jpb (l : List (List UInt8)) (hl : l.length ≤ 1000000) (s : List UInt8) : Con Tryz.prog 112 [strs l, .str s] (iv (Go.St.idx (· == s) l)) := by
 refine qc (T := tab Tryz.prog) (C := {}) 300 (fun _ => rfl) Tryz.func112 rfl (by kernel_rfl) (by kernel_rfl) (fun c0 rdb => ?_)
 (repeat' ((conv => whnf); first | exact trivial))
 ((conv => whnf); refine qt (fun _ => rfl) 300 1 (fun i : Nat => [(8, iv i)]) (fun _ => []) (fun i => i ≤ l.length ∧ ∀ j, j < i → (l.getD j [] == s) = false) (fun i => l.length - i) (0) (⟨by omega, fun j hj => absurd hj (Nat.not_lt_zero j)⟩) qa qa (fun _ => rfl) (by kernel_rfl) ?_; (conv => whnf))
 intro i hi
 (repeat' ((conv => whnf); first | refine Ob.auto ?_ | (apply zB <;> intro hb <;> (try simp [-zd] at hb) <;> try (exfalso; omega))))
 ·refine Le.of_eq (congrArg (AV.int _) ?_)
  exact (qei (· == s) l [] i (by omega) (beq_iff_eq.2 hb.symm) hi.2).symm
 ·((conv => whnf); refine ⟨i + 1, ⟨by omega, qaa hi.2 (beq_eq_false_iff_ne.2 (Ne.symm hb))⟩, ⟨qa, qa⟩, ⟨qa, qa⟩, ?_⟩; (first | omega | (dsimp only; omega) | skip))
 ·refine Le.of_eq (congrArg (AV.int _) ?_)
  exact (qej _ l [] (fun j hj => hi.2 j (by omega))).symm
def varV (m : Md) (p : Int) (s : Stt) (n : List UInt8) : Int × Bool := if varN m p n < 0 then (0, false) else (s.vars.getD (varN m p n).toNat 0, true)
def lenV (m : Md) (s : Stt) (n : List UInt8) : Int × Bool := if Go.St.idx (fun c : Ch => c.name == n) m.chans < 0 then (0, false) else ((s.chans.getD (Go.St.idx (fun c : Ch => c.name == n) m.chans).toNat []).length, true)
theorem jpc (m : Md) (hm : MOk m) (p : Int) (s : Stt) (hs : SOk m s) (n : List UInt8) : Con Tryz.prog 109 [.str n, .rptr [iv p], .rptr m.cells, .rptr s.cells] (qjg (varV m p s n)) := by
 have hg := hm.glob
 have hsz := hm.sz
 have hvl := hs.vl
 have hcl := hs.cl
 have hvn := qta hm p n
 by_cases hp : 0 ≤ p ∧ p < m.procs.length
 ·have hq := hm.procs _ (ql m.procs p.toNat Pr.none (by omega))
  have hq2 := hm.psz _ (ql m.procs p.toNat Pr.none (by omega))
  have hv : varN m p n = _ := if_pos hp
  have hix := qhz (· == n) (m.procs.getD p.toNat Pr.none).names
  have hqv := fun (h : 0 ≤ Go.St.idx (· == n) (m.procs.getD p.toNat Pr.none).names) => hq.2 _ (ql (m.procs.getD p.toNat Pr.none).vars (Go.St.idx (· == n) (m.procs.getD p.toNat Pr.none).names).toNat 0 (by omega))
  refine qc (T := tab Tryz.prog) (C := {}) 300 (fun _ => rfl) Tryz.func109 rfl (by kernel_rfl) (by kernel_rfl) (fun c0 rdb => ?_)
  (repeat' ((conv => whnf); first | refine zO ?_ | refine Ob.auto ?_ | refine zC 300 (jpb (m.procs.getD p.toNat Pr.none).names (by omega) n) ?_ | (refine zP 300 ?_) | (apply zB <;> intro hb <;> (try simp [-zd] at hb) <;> try (exfalso; omega))))
  ·have := hqv (by omega)
   rw [if_neg (by omega)] at hv
   refine Le.of_eq ?_
   rw [varV, if_neg (by omega), hv]; rfl
  ·rw [if_pos (by omega)] at hv
   refine Le.of_eq ?_
   rw [varV, if_pos (by omega)]; rfl
 ·have hv : varN m p n = _ := if_neg hp
  refine qc (T := tab Tryz.prog) (C := {}) 300 (fun _ => rfl) Tryz.func109 rfl (by kernel_rfl) (by kernel_rfl) (fun c0 rdb => ?_)
  (repeat' ((conv => whnf); first | refine Ob.auto ?_ | refine zE 300 (joz m.vars m.globals.toNat (by omega) (by omega) n) ?_ | (apply zB <;> intro hb <;> (try simp [-zd] at hb) <;> try (exfalso; omega))))
  ·refine Le.of_eq ?_
   rw [varV, if_neg (by omega), hv]; rfl
  ·refine Le.of_eq ?_
   rw [varV, if_pos (by omega)]; rfl
theorem jpd (m : Md) (hm : MOk m) (s : Stt) (hs : SOk m s) (n : List UInt8) : Con Tryz.prog 113 [.str n, .rptr m.cells, .rptr s.cells] (qjg (lenV m s n)) := by
 have hsz := hm.sz
 have hcl := hs.cl
 have hi := qhz (fun c : Ch => c.name == n) m.chans
 refine qc (T := tab Tryz.prog) (C := {}) 300 (fun _ => rfl) Tryz.func113 rfl (by kernel_rfl) (by kernel_rfl) (fun c0 rdb => ?_)
 (repeat' ((conv => whnf); first | refine Ob.auto ?_ | refine zE 300 (jpa m.chans (by omega) n) ?_ | (apply zB <;> intro hb <;> (try simp [-zd] at hb) <;> try (exfalso; omega))))
 ·refine Le.of_eq ?_
  rw [lenV, if_neg (by omega)]; rfl
 ·refine Le.of_eq ?_
  rw [lenV, if_pos (by omega)]; rfl
def jcm (m : Md) (p : Int) (s : Stt) : AV := .agg [jo m.tree, .fn 109 [.rptr [iv p], .rptr m.cells, .rptr s.cells], .fn 113 [.rptr m.cells, .rptr s.cells]]
theorem jcn (m : Md) (p : Int) (s : Stt) : Con Tryz.prog 76 [m.av, iv p, s.av] (jcm m p s) := by
 refine qc (T := tab Tryz.prog) (C := {}) 300 (fun _ => rfl) Tryz.func76 rfl (by kernel_rfl) (by kernel_rfl) (fun c0 rdb => ?_)
 (repeat' ((conv => whnf); first | refine Ob.auto ?_ | fail))
 exact Le.of_eq (by kernel_rfl)
theorem jco (m : Md) (hm : MOk m) (p : Int) (s : Stt) (hs : SOk m s) : ∀ (n : Nat) (k : Int), 0 ≤ k → k < m.tree.length → m.tree.length - k.toNat ≤ n → Con Tryz.prog 77 [jcm m p s, iv k] (qjg (valN m p s n k)) := by
 intro n
 induction n with
 | zero => intro k h0 h1 h2; omega
 | succ n ih =>
  intro k h0 h1 h2
  have hnd := hm.tree k.toNat (by omega)
  have h17 := hnd.num
  have h18 := hnd.word
  have h20 := hnd.un
  have h22 := hnd.bin
  have hsz := hm.sz
  have hvb := qyv hm hs p n
  have hvl := hs.vl
  have hcl := hs.cl
  have hk0 : (m.tree.getD k.toNat Nd.none).kind = 20 ∨ (m.tree.getD k.toNat Nd.none).kind = 21 ∨ (m.tree.getD k.toNat Nd.none).kind = 22 → 0 ≤ (m.tree.getD k.toNat Nd.none).kids.getD 0 0 ∧ (m.tree.getD k.toNat Nd.none).kids.getD 0 0 < m.tree.length ∧ m.tree.length - ((m.tree.getD k.toNat Nd.none).kids.getD 0 0).toNat ≤ n := by omega
  have hk1 : (m.tree.getD k.toNat Nd.none).kind = 22 → 0 ≤ (m.tree.getD k.toNat Nd.none).kids.getD 1 0 ∧ (m.tree.getD k.toNat Nd.none).kids.getD 1 0 < m.tree.length ∧ m.tree.length - ((m.tree.getD k.toNat Nd.none).kids.getD 1 0).toNat ≤ n := by omega
  have hb0 := hvb ((m.tree.getD k.toNat Nd.none).kids.getD 0 0)
  have hb1 := hvb ((m.tree.getD k.toNat Nd.none).kids.getD 1 0)
  refine qc (T := tab Tryz.prog) (C := {}) 600 (fun _ => rfl) Tryz.func77 rfl (by kernel_rfl) (by kernel_rfl) (fun c0 rdb => ?_)
  (repeat' ((conv => whnf); first | refine zO ?_ | refine Ob.auto ?_ | refine zC 600 (qlc _ _) ?_ | refine zX (jpc m hm p s hs _) ?_ | refine zX (jpd m hm s hs _) ?_ | refine zC 600 (jbg _) ?_ | refine zC 600 (jno _ _ _ (by omega) (by omega)) ?_ | refine zX (ih ((m.tree.getD k.toNat Nd.none).kids.getD 0 0) (hk0 (by omega)).1 (hk0 (by omega)).2.1 (hk0 (by omega)).2.2) ?_ | refine zX (ih ((m.tree.getD k.toNat Nd.none).kids.getD 1 0) (hk1 (by omega)).1 (hk1 (by omega)).2.1 (hk1 (by omega)).2.2) ?_ | (refine zP 600 ?_) | (apply zB <;> intro hb <;> (try simp [-zd] at hb) <;> try (exfalso; omega))))
  ·refine Le.of_eq ?_
   rw [valN, if_pos (by assumption)]; rfl
  ·refine Le.of_eq ?_
   rw [valN, if_neg (by assumption), if_pos (by assumption)]; rfl
  ·refine Le.of_eq ?_
   rw [valN, if_neg (by assumption), if_neg (by assumption), if_pos (by assumption)]; rfl
  ·refine Le.of_eq ?_
   rw [valN, if_neg (by assumption), if_neg (by assumption), if_neg (by assumption), if_pos (by assumption)]; rfl
  ·refine Le.of_eq ?_
   rw [qtb m p s n k (by assumption), hb]; rfl
  ·refine Le.of_eq ?_
   rw [qtb m p s n k (by assumption), hb, Bool.true_and]; rfl
  ·refine Le.of_eq ?_
   rw [qtc m p s n k (by assumption), binF, if_neg (fun h => by rcases hb with hb | hb <;> rw [hb] at h <;> simp at h)]; rfl
  ·refine Le.of_eq ?_
   rw [qtc m p s n k (by assumption), binF, if_pos hb]; rfl
  ·refine Le.of_eq ?_
   rw [valN, if_neg (by assumption), if_neg (by assumption), if_neg (by assumption), if_neg (by assumption), if_neg (by assumption), if_neg (by assumption)]; rfl
end Go.Proofs.YtdoaagphhjggbaaGreat
end
section
/- Contracts: the program's expressions, and what is safe. -/
namespace Go.Proofs.YtdoaagphhjggbaaGreat
open List renaming getD_eq_getElem?_getD → zd
open Go Go.Sx Go.RowKit Go.St
set_option maxRecDepth 100000
set_option maxHeartbeats 2000000
theorem qlf {m : Md} {s : Stt} (hm : MOk m) (h : qp m s = true) : SOk m s := by
 obtain ⟨h0, hA, hV, hC⟩ := (jj m s).1 h
 refine ⟨h0.2.1, h0.2.2.1, fun v hv => ?_, fun c hc => ?_⟩
 ·obtain ⟨i, hi, rfl⟩ := List.mem_iff_getElem.1 hv
  have h1 := hV i hi
  have h2 := qsz (s.vars.getD i 0) (m.vars.getD i Vr.none).width
  unfold qkr at h1
  rw [h1] at h2
  rw [zd, List.getElem?_eq_getElem hi] at h2
  simp only [Option.getD_some] at h2
  omega
 ·obtain ⟨i, hi, rfl⟩ := List.mem_iff_getElem.1 hc
  have h1 := (hC i hi).1
  have h2 := hm.chan _ (ql m.chans i Ch.none (by omega))
  unfold qia at h1
  rw [zd, List.getElem?_eq_getElem hi] at h1
  simp only [Option.getD_some] at h1
  omega
def sval (m : Md) (p : Int) (s : Stt) (k : Int) : Int × Bool := if 0 ≤ k ∧ k < m.tree.length ∧ qp m s = true then val m p s k else (0, false)
theorem qvc (m : Md) (hm : MOk m) (p : Int) (s : Stt) (hs : SSz s) (k : Int) : Con Tryz.prog 75 [m.av, iv p, s.av, iv k] (qjg (sval m p s k)) := by
 have hsz := hm.sz
 by_cases hf : 0 ≤ k ∧ k < m.tree.length ∧ qp m s = true
 ·have hso := qlf hm hf.2.2
  refine qc (T := tab Tryz.prog) (C := {}) 300 (fun _ => rfl) Tryz.func75 rfl (by kernel_rfl) (by kernel_rfl) (fun c0 rdb => ?_)
  (repeat' ((conv => whnf); first | refine Ob.auto ?_ | refine zG 300 (fun hg => qdu m s hs) ?_ | refine zC 300 (jcn m p s) ?_ | refine zC 300 (jco m hm p s hso m.tree.length k (by omega) (by omega) (by omega)) ?_ | (apply zB <;> intro hb <;> (try simp [-zd] at hb) <;> try (exfalso; omega))))
  ·exfalso; rcases hb with hb | hb
   ·omega
   ·rw [hf.2.2] at hb; cases hb
  ·refine Le.of_eq ?_
   rw [sval, if_pos hf]; rfl
 ·refine qc (T := tab Tryz.prog) (C := {}) 300 (fun _ => rfl) Tryz.func75 rfl (by kernel_rfl) (by kernel_rfl) (fun c0 rdb => ?_)
  (repeat' ((conv => whnf); first | refine Ob.auto ?_ | refine zG 300 (fun hg => qdu m s hs) ?_ | (apply zB <;> intro hb <;> (try simp [-zd] at hb) <;> try (exfalso; omega))))
  ·refine Le.of_eq ?_
   rw [sval, if_neg hf]; rfl
  ·exact absurd ⟨hb.1.1, hb.1.2, hb.2⟩ hf
theorem jpe (m : Md) (hm : MOk m) (s : Stt) (hs : SSz s) : Con Tryz.prog 47 [m.av, s.av] (.bool (m.safe.isEmpty || qp m s && qmq m s)) := by
 have hsz := hm.sz
 have hsf := hm.safe
 by_cases hf : qp m s = true
 ·have hso := qlf hm hf
  refine qc (T := tab Tryz.prog) (C := {}) 300 (fun _ => rfl) Tryz.func47 rfl (by kernel_rfl) (by kernel_rfl) (fun c0 rdb => ?_)
  (repeat' ((conv => whnf); first | refine Ob.auto ?_ | refine zC 300 (qdu m s hs) ?_ | refine zC 300 (jcn m (-1) s) ?_ | (apply zB <;> intro hb <;> (try simp [-zd] at hb) <;> try (exfalso; omega))))
  ·refine Le.of_eq (congrArg AV.bool ?_)
   simp [hb]
  ·rw [hf] at hb; cases hb
  ·rename_i hne
   have hemp : m.safe.isEmpty = false := by simp [hne]
   ((conv => whnf); refine qt (fun _ => rfl) 300 1 (fun i : Nat => [(24, iv i)]) (fun _ => []) (fun i => i ≤ m.safe.length ∧ ∀ j, j < i → qpy m s (m.safe.getD j 0) = true) (fun i => m.safe.length - i) (0) (⟨by omega, fun j hj => absurd hj (Nat.not_lt_zero j)⟩) qa qa (fun _ => rfl) (by kernel_rfl) ?_; (conv => whnf))
   intro i hi
   have hki : i < m.safe.length → _ := fun h => hsf _ (ql m.safe i 0 h)
   (repeat' ((conv => whnf); first | refine Ob.auto ?_ | refine zC 300 (jco m hm (-1) s hso m.tree.length (m.safe.getD i 0) (hki (by omega)).1 (hki (by omega)).2 (by omega)) ?_ | (apply zB <;> intro hb <;> (try simp [-zd] at hb) <;> try (exfalso; omega))))
   ·refine Le.of_eq (congrArg AV.bool ?_)
    rw [hf, hemp, Bool.false_or, Bool.true_and]
    refine (qqa 0 (j := i) (by omega) ?_).symm
    simp only [qpy, val]
    rcases hb with hb | hb <;> simp [-zd, hb]
   ·((conv => whnf); refine ⟨i + 1, ⟨by omega, qaa hi.2 (by simp only [qpy, val]; simp [-zd, hb])⟩, ⟨qa, qa⟩, ⟨qa, qa⟩, ?_⟩; (first | omega | (dsimp only; omega) | skip))
   ·refine Le.of_eq (congrArg AV.bool ?_)
    rw [hf, hemp, Bool.false_or, Bool.true_and]
    exact (qpz 0 (fun j hj => hi.2 j (by omega))).symm
 ·refine qc (T := tab Tryz.prog) (C := {}) 300 (fun _ => rfl) Tryz.func47 rfl (by kernel_rfl) (by kernel_rfl) (fun c0 rdb => ?_)
  (repeat' ((conv => whnf); first | refine Ob.auto ?_ | refine zC 300 (qdu m s hs) ?_ | (apply zB <;> intro hb <;> (try simp [-zd] at hb) <;> try (exfalso; omega))))
  ·refine Le.of_eq (congrArg AV.bool ?_)
   simp [hb]
  ·rename_i hne
   refine Le.of_eq (congrArg AV.bool ?_)
   simp [hb, hne]
  ·exact absurd hb hf
end Go.Proofs.YtdoaagphhjggbaaGreat
end
