/- Some texts of the library, one behind the other. -/
import Derived.Test.YtdoaagphhjggbaaGreatQ25
import Derived.Test.YtdoaagphhjggbaaGreatQ24
import Derived.Test.YtdoaagphhjggbaaGreatQ2
section
namespace Go.Proofs.YtdoaagphhjggbaaGreat
open List renaming getD_eq_getElem?_getD → zd
open Go Go.Sx Go.RowKit Go.St
set_option maxRecDepth 100000
set_option maxHeartbeats 2000000
theorem jrf (x : Int) (c : Ch) : Con Tryz.prog 73 [iv x, .rptr c.cells] (.bool (!(trim x c.width == x))) := by
 refine zK {} 300 Tryz.func73 (fun c0 rdb => ?_)
 (repeat' ((conv => whnf); first | refine Ob.auto ?_ | refine zC 300 (jcx _ _) ?_ | fail))
 exact Le.refl _
theorem jrg (l : List Int) (c : Ch) (hl : l.length ≤ 1000000) : Con Tryz.prog 108 [ints l, .fn 73 [.rptr c.cells]] (iv (idx (fun x => !(trim x c.width == x)) l)) := by
 refine zK {} 300 Tryz.func108 (fun c0 rdb => ?_)
 ((conv => whnf); refine qj (fun _ => rfl) 300 1 (fun i : Nat => [(8, iv i)]) (fun _ => []) (fun i => i ≤ l.length ∧ ∀ j, j < i → (!(trim (l.getD j 0) c.width == l.getD j 0)) = false) (fun i => l.length - i) (0) (⟨by omega, fun j hj => absurd hj (Nat.not_lt_zero j)⟩) qa qa (fun _ => rfl) (by kernel_rfl) ?_; (conv => whnf))
 intro i hi
 (repeat' ((conv => whnf); first | refine Ob.auto ?_ | refine zC 300 (jrf _ c) ?_ | (apply zB <;> intro hb <;> (try simp [-zd] at hb) <;> try (exfalso; omega))))
 ·refine Le.of_eq (congrArg (AV.int _) ?_)
  exact (qez _ l 0 i (by omega) (by simp [-zd, hb]) hi.2).symm
 ·((conv => whnf); refine ⟨i + 1, ⟨by omega, jm hi.2 (by simp [-zd, hb])⟩, ⟨qa, qa⟩, ⟨qa, qa⟩, ?_⟩; (first | omega | (dsimp only; omega) | skip))
 ·refine Le.of_eq (congrArg (AV.int _) ?_)
  exact (qfa _ l 0 (fun j hj => hi.2 j (by omega))).symm
theorem jrh {α : Type} (q : α → Bool) (l : List α) : decide (0 ≤ Go.St.idx q l) = l.any q := by
 unfold Go.St.idx
 cases h : l.findIdx? q with
 | none =>
  rw [List.findIdx?_eq_none_iff] at h
  have : l.any q = false := by rw [Bool.eq_false_iff]; intro h'; rw [List.any_eq_true] at h'; obtain ⟨x, hx, hq⟩ := h'; rw [h x hx] at hq; cases hq
  rw [this]; rfl
 | some i =>
  rw [List.findIdx?_eq_some_iff_getElem] at h
  obtain ⟨h1, h2, _⟩ := h
  have : l.any q = true := by rw [List.any_eq_true]; exact ⟨_, List.getElem_mem h1, h2⟩
  rw [this]; exact decide_eq_true (by simp)
theorem jri (l : List Int) (c : Ch) (hl : l.length ≤ 1000000) : Con Tryz.prog 74 [ints l, .fn 73 [.rptr c.cells]] (.bool (l.any fun x => !(trim x c.width == x))) := by
 refine zK {} 300 Tryz.func74 (fun c0 rdb => ?_)
 (repeat' ((conv => whnf); first | refine Ob.auto ?_ | refine zC 300 (jrg l c hl) ?_ | fail))
 refine Le.of_eq (congrArg AV.bool ?_)
 exact jrh _ l
theorem qed (m : Md) (s : Stt) (hs : SSz s) : Con Tryz.prog 43 [m.av, s.av] (.bool (qg m s)) := by
 have ha := hs.a
 have hv := hs.v
 have hc := hs.c
 refine zK {} 600 Tryz.func43 (fun c0 rdb => ?_)
 (repeat' ((conv => whnf); first | refine Ob.auto ?_ | (apply zB <;> intro hb <;> (try simp [-zd] at hb) <;> try (exfalso; omega))))
 ·refine Le.of_eq (congrArg AV.bool ?_)
  exact (jan (by unfold qqx; omega)).symm
 have h0 : s.at_.length = m.procs.length ∧ s.vars.length = m.vars.length ∧ s.chans.length = m.chans.length := by omega
 clear hb
 ((conv => whnf); refine qj (fun _ => rfl) 600 1 (fun i : Nat => [(41, iv i)]) (fun _ => []) (fun i => i ≤ s.at_.length ∧ ∀ j, j < i → qkc m s j) (fun i => s.at_.length - i) (0) (⟨by omega, fun j hj => absurd hj (Nat.not_lt_zero j)⟩) qa qa (fun _ => rfl) (by kernel_rfl) ?_; (conv => whnf))
 intro i hi
 (repeat' ((conv => whnf); first | refine Ob.auto ?_ | (apply zB <;> intro hb <;> (try simp [-zd] at hb) <;> try (exfalso; omega))))
 ·refine Le.of_eq (congrArg AV.bool ?_)
  exact (jmu i (by omega) (by omega)).symm
 ·((conv => whnf); refine ⟨i + 1, ⟨by omega, jm hi.2 hb⟩, ⟨qa, qa⟩, ⟨qa, qa⟩, ?_⟩; (first | omega | (dsimp only; omega) | skip))
 obtain rfl : i = s.at_.length := by omega
 have hA := hi.2
 clear hi hb
 ((conv => whnf); refine qj (fun _ => rfl) 600 2 (fun i : Nat => [(62, iv i)]) (fun _ => []) (fun i => i ≤ s.vars.length ∧ ∀ j, j < i → qlo m s j) (fun i => s.vars.length - i) (0) (⟨by omega, fun j hj => absurd hj (Nat.not_lt_zero j)⟩) qa qa (fun _ => rfl) (by kernel_rfl) ?_; (conv => whnf))
 intro i hi
 (repeat' ((conv => whnf); first | refine Ob.auto ?_ | refine zC 600 (jcx _ _) ?_ | (apply zB <;> intro hb <;> (try simp [-zd] at hb) <;> try (exfalso; omega))))
 ·refine Le.of_eq (congrArg AV.bool ?_)
  exact (jmv i (by omega) hb).symm
 ·((conv => whnf); refine ⟨i + 1, ⟨by omega, jm hi.2 hb⟩, ⟨qa, qa⟩, ⟨qa, qa⟩, ?_⟩; (first | omega | (dsimp only; omega) | skip))
 obtain rfl : i = s.vars.length := by omega
 have hV := hi.2
 clear hi hb
 ((conv => whnf); refine qj (fun _ => rfl) 600 3 (fun i : Nat => [(80, iv i)]) (fun _ => []) (fun i => i ≤ s.chans.length ∧ ∀ j, j < i → qit m s j ∧ ∀ k, k < (s.chans.getD j []).length → qlp m s j k) (fun i => s.chans.length - i) (0) (⟨by omega, fun j hj => absurd hj (Nat.not_lt_zero j)⟩) qa qa (fun _ => rfl) (by kernel_rfl) ?_; (conv => whnf))
 intro i hi
 have hlc : i < s.chans.length → _ := fun h => hs.l _ (qi s.chans i [] h)
 (repeat' ((conv => whnf); first | refine Ob.auto ?_ | refine zF 600 (fun hg => jri (s.chans.getD i []) (m.chans.getD i ch0) (hlc (by omega))) ?_ | (apply zB <;> intro hb <;> (try simp [-zd] at hb) <;> try (exfalso; omega))))
 ·refine Le.of_eq (congrArg AV.bool ?_)
  rcases hb with hb | ⟨x, hx, hb⟩
  ·exact (jmw i (by omega) (by unfold qit; omega)).symm
  ·obtain ⟨k, hk, hx⟩ := List.mem_iff_getElem.1 hx
   refine (jmx i k (by omega) hk ?_).symm
   have : (s.chans.getD i []).getD k 0 = x := by rw [zd, List.getElem?_eq_getElem hk]; exact hx
   unfold qlp
   rw [this]; exact hb
 ·((conv => whnf); refine ⟨i + 1, ⟨by omega, jm hi.2 ⟨by unfold qit; omega, fun k hk => hb.2 _ (qi _ k 0 hk)⟩⟩, ⟨qa, qa⟩, ⟨qa, qa⟩, ?_⟩; (first | omega | (dsimp only; omega) | skip))
 ·refine Le.of_eq (congrArg AV.bool ?_)
  by_cases hh : -1 ≤ s.holder ∧ s.holder < m.procs.length
  ·rw [(jc m s).2 ⟨⟨h0.1, h0.2.1, h0.2.2, hh⟩, hA, hV, fun j hj => hi.2 j (by omega)⟩]
   simp [hh]
  ·rw [jan (m := m) (s := s) (by unfold qqx; omega)]
   simp; omega
end Go.Proofs.YtdoaagphhjggbaaGreat
end
section
namespace Go.Proofs.YtdoaagphhjggbaaGreat
open Go Go.Sx Go.RowKit Go.St
set_option maxRecDepth 100000
set_option maxHeartbeats 2000000

end Go.Proofs.YtdoaagphhjggbaaGreat
end
section
namespace Go.Proofs.YtdoaagphhjggbaaGreat
open List renaming getD_eq_getElem?_getD → zd
open Go Go.Sx Go.RowKit Go.St
set_option maxRecDepth 100000
set_option maxHeartbeats 2000000
theorem jrj (v : Vr) (s : List UInt8) : Con Tryz.prog 110 [.agg v.cells, .rptr [.str s]] (.bool (v.name == s)) := by
 refine zK {} 300 Tryz.func110 (fun c0 rdb => ?_)
 (repeat' ((conv => whnf); first | refine Ob.auto ?_ | fail))
 exact Le.refl _
theorem jrk (v : Ch) (s : List UInt8) : Con Tryz.prog 114 [.agg v.cells, .rptr [.str s]] (.bool (v.name == s)) := by
 refine zK {} 300 Tryz.func114 (fun c0 rdb => ?_)
 (repeat' ((conv => whnf); first | refine Ob.auto ?_ | fail))
 exact Le.refl _
theorem jrl (l : List Vr) (n : Nat) (hn : n ≤ l.length) (hl : n ≤ 1000000) (s : List UInt8) : Con Tryz.prog 111 [.slc 3 n (encL Vr.cells vr0 l), .fn 110 [.rptr [.str s]]] (iv (Go.St.idx (fun v : Vr => v.name == s) (l.take n))) := by
 have htk : ∀ j : Nat, j < n → (l.take n).getD j vr0 = l.getD j vr0 := fun j hj => by
  rw [zd, List.getElem?_take, if_pos hj, ← zd]
 have hln : (l.take n).length = n := by rw [List.length_take]; omega
 refine zK {} 300 Tryz.func111 (fun c0 rdb => ?_)
 ((conv => whnf); refine qj (fun _ => rfl) 300 1 (fun i : Nat => [(8, iv i)]) (fun _ => []) (fun i => i ≤ n ∧ ∀ j, j < i → ((l.getD j vr0).name == s) = false) (fun i => n - i) (0) (⟨by omega, fun j hj => absurd hj (Nat.not_lt_zero j)⟩) qa qa (fun _ => rfl) (by kernel_rfl) ?_; (conv => whnf))
 intro i hi
 (repeat' ((conv => whnf); first | refine Ob.auto ?_ | refine zC 300 (jrj _ s) ?_ | (apply zB <;> intro hb <;> (try simp [-zd] at hb) <;> try (exfalso; omega))))
 ·refine Le.of_eq (congrArg (AV.int _) ?_)
  exact (qez _ (l.take n) vr0 i (by omega) (by rw [htk i (by omega)]; exact beq_iff_eq.2 hb) (fun j hj => by rw [htk j (by omega)]; exact hi.2 j hj)).symm
 ·((conv => whnf); refine ⟨i + 1, ⟨by omega, jm hi.2 (beq_eq_false_iff_ne.2 hb)⟩, ⟨qa, qa⟩, ⟨qa, qa⟩, ?_⟩; (first | omega | (dsimp only; omega) | skip))
 ·refine Le.of_eq (congrArg (AV.int _) ?_)
  exact (qfa _ (l.take n) vr0 (fun j hj => by rw [htk j (by omega)]; exact hi.2 j (by omega))).symm
theorem jrm (l : List Ch) (hl : l.length ≤ 1000000) (s : List UInt8) : Con Tryz.prog 115 [slcL Ch.cells ch0 5 l, .fn 114 [.rptr [.str s]]] (iv (Go.St.idx (fun v : Ch => v.name == s) l)) := by
 refine zK {} 300 Tryz.func115 (fun c0 rdb => ?_)
 ((conv => whnf); refine qj (fun _ => rfl) 300 1 (fun i : Nat => [(8, iv i)]) (fun _ => []) (fun i => i ≤ l.length ∧ ∀ j, j < i → ((l.getD j ch0).name == s) = false) (fun i => l.length - i) (0) (⟨by omega, fun j hj => absurd hj (Nat.not_lt_zero j)⟩) qa qa (fun _ => rfl) (by kernel_rfl) ?_; (conv => whnf))
 intro i hi
 (repeat' ((conv => whnf); first | refine Ob.auto ?_ | refine zC 300 (jrk _ s) ?_ | (apply zB <;> intro hb <;> (try simp [-zd] at hb) <;> try (exfalso; omega))))
 ·refine Le.of_eq (congrArg (AV.int _) ?_)
  exact (qez (fun v : Ch => v.name == s) l ch0 i (by omega) (beq_iff_eq.2 hb) hi.2).symm
 ·((conv => whnf); refine ⟨i + 1, ⟨by omega, jm hi.2 (beq_eq_false_iff_ne.2 hb)⟩, ⟨qa, qa⟩, ⟨qa, qa⟩, ?_⟩; (first | omega | (dsimp only; omega) | skip))
 ·refine Le.of_eq (congrArg (AV.int _) ?_)
  exact (qfa _ l ch0 (fun j hj => hi.2 j (by omega))).symm
theorem jrn (l : List (List UInt8)) (hl : l.length ≤ 1000000) (s : List UInt8) : Con Tryz.prog 112 [strs l, .str s] (iv (Go.St.idx (· == s) l)) := by
 refine zK {} 300 Tryz.func112 (fun c0 rdb => ?_)
 ((conv => whnf); refine qj (fun _ => rfl) 300 1 (fun i : Nat => [(8, iv i)]) (fun _ => []) (fun i => i ≤ l.length ∧ ∀ j, j < i → (l.getD j [] == s) = false) (fun i => l.length - i) (0) (⟨by omega, fun j hj => absurd hj (Nat.not_lt_zero j)⟩) qa qa (fun _ => rfl) (by kernel_rfl) ?_; (conv => whnf))
 intro i hi
 (repeat' ((conv => whnf); first | refine Ob.auto ?_ | (apply zB <;> intro hb <;> (try simp [-zd] at hb) <;> try (exfalso; omega))))
 ·refine Le.of_eq (congrArg (AV.int _) ?_)
  exact (qez (· == s) l [] i (by omega) (beq_iff_eq.2 hb.symm) hi.2).symm
 ·((conv => whnf); refine ⟨i + 1, ⟨by omega, jm hi.2 (beq_eq_false_iff_ne.2 (Ne.symm hb))⟩, ⟨qa, qa⟩, ⟨qa, qa⟩, ?_⟩; (first | omega | (dsimp only; omega) | skip))
 ·refine Le.of_eq (congrArg (AV.int _) ?_)
  exact (qfa _ l [] (fun j hj => hi.2 j (by omega))).symm
def varV (m : Md) (p : Int) (s : Stt) (n : List UInt8) : Int × Bool := if varN m p n < 0 then (0, false) else (s.vars.getD (varN m p n).toNat 0, true)
def lenV (m : Md) (s : Stt) (n : List UInt8) : Int × Bool := if Go.St.idx (fun c : Ch => c.name == n) m.chans < 0 then (0, false) else ((s.chans.getD (Go.St.idx (fun c : Ch => c.name == n) m.chans).toNat []).length, true)
theorem jro (m : Md) (hm : MOk m) (p : Int) (s : Stt) (hs : SOk m s) (n : List UInt8) : Con Tryz.prog 109 [.str n, .rptr [iv p], .rptr m.cells, .rptr s.cells] (qjz (varV m p s n)) := by
 have hg := hm.glob
 have hsz := hm.sz
 have hvl := hs.vl
 have hcl := hs.cl
 have hvn := quk hm p n
 by_cases hp : 0 ≤ p ∧ p < m.procs.length
 ·have hq := hm.procs _ (qi m.procs p.toNat pr0 (by omega))
  have hq2 := hm.psz _ (qi m.procs p.toNat pr0 (by omega))
  have hv : varN m p n = _ := if_pos hp
  have hix := qis (· == n) (m.procs.getD p.toNat pr0).names
  have hqv := fun (h : 0 ≤ Go.St.idx (· == n) (m.procs.getD p.toNat pr0).names) => hq.2 _ (qi (m.procs.getD p.toNat pr0).vars (Go.St.idx (· == n) (m.procs.getD p.toNat pr0).names).toNat 0 (by omega))
  refine zK {} 300 Tryz.func109 (fun c0 rdb => ?_)
  (repeat' ((conv => whnf); first | refine zO ?_ | refine Ob.auto ?_ | refine zC 300 (jrn (m.procs.getD p.toNat pr0).names (by omega) n) ?_ | (refine zP 300 ?_) | (apply zB <;> intro hb <;> (try simp [-zd] at hb) <;> try (exfalso; omega))))
  ·have := hqv (by omega)
   rw [if_neg (by omega)] at hv
   refine Le.of_eq ?_
   rw [varV, if_neg (by omega), hv]; rfl
  ·rw [if_pos (by omega)] at hv
   refine Le.of_eq ?_
   rw [varV, if_pos (by omega)]; rfl
 ·have hv : varN m p n = _ := if_neg hp
  refine zK {} 300 Tryz.func109 (fun c0 rdb => ?_)
  (repeat' ((conv => whnf); first | refine Ob.auto ?_ | refine zE 300 (jrl m.vars m.globals.toNat (by omega) (by omega) n) ?_ | (apply zB <;> intro hb <;> (try simp [-zd] at hb) <;> try (exfalso; omega))))
  ·refine Le.of_eq ?_
   rw [varV, if_neg (by omega), hv]; rfl
  ·refine Le.of_eq ?_
   rw [varV, if_pos (by omega)]; rfl
theorem jrp (m : Md) (hm : MOk m) (s : Stt) (hs : SOk m s) (n : List UInt8) : Con Tryz.prog 113 [.str n, .rptr m.cells, .rptr s.cells] (qjz (lenV m s n)) := by
 have hsz := hm.sz
 have hcl := hs.cl
 have hi := qis (fun c : Ch => c.name == n) m.chans
 refine zK {} 300 Tryz.func113 (fun c0 rdb => ?_)
 (repeat' ((conv => whnf); first | refine Ob.auto ?_ | refine zE 300 (jrm m.chans (by omega) n) ?_ | (apply zB <;> intro hb <;> (try simp [-zd] at hb) <;> try (exfalso; omega))))
 ·refine Le.of_eq ?_
  rw [lenV, if_neg (by omega)]; rfl
 ·refine Le.of_eq ?_
  rw [lenV, if_pos (by omega)]; rfl
def jef (m : Md) (p : Int) (s : Stt) : AV := .agg [js m.tree, .fn 109 [.rptr [iv p], .rptr m.cells, .rptr s.cells], .fn 113 [.rptr m.cells, .rptr s.cells]]
theorem jeg (m : Md) (p : Int) (s : Stt) : Con Tryz.prog 76 [m.av, iv p, s.av] (jef m p s) := by
 refine zK {} 300 Tryz.func76 (fun c0 rdb => ?_)
 (repeat' ((conv => whnf); first | refine Ob.auto ?_ | fail))
 exact Le.of_eq (by kernel_rfl)
theorem jeh (m : Md) (hm : MOk m) (p : Int) (s : Stt) (hs : SOk m s) : ∀ (n : Nat) (k : Int), 0 ≤ k → k < m.tree.length → m.tree.length - k.toNat ≤ n → Con Tryz.prog 77 [jef m p s, iv k] (qjz (valN m p s n k)) := by
 intro n
 induction n with
 | zero => intro k h0 h1 h2; omega
 | succ n ih =>
  intro k h0 h1 h2
  have hnd := hm.tree k.toNat (by omega)
  have h17 := hnd.num
  have h18 := hnd.word
  have h20 := hnd.un
  have h22 := hnd.bin
  have hsz := hm.sz
  have hvb := jam hm hs p n
  have hvl := hs.vl
  have hcl := hs.cl
  have hk0 : (m.tree.getD k.toNat nd0).kind = 20 ∨ (m.tree.getD k.toNat nd0).kind = 21 ∨ (m.tree.getD k.toNat nd0).kind = 22 → 0 ≤ (m.tree.getD k.toNat nd0).kids.getD 0 0 ∧ (m.tree.getD k.toNat nd0).kids.getD 0 0 < m.tree.length ∧ m.tree.length - ((m.tree.getD k.toNat nd0).kids.getD 0 0).toNat ≤ n := by omega
  have hk1 : (m.tree.getD k.toNat nd0).kind = 22 → 0 ≤ (m.tree.getD k.toNat nd0).kids.getD 1 0 ∧ (m.tree.getD k.toNat nd0).kids.getD 1 0 < m.tree.length ∧ m.tree.length - ((m.tree.getD k.toNat nd0).kids.getD 1 0).toNat ≤ n := by omega
  have hb0 := hvb ((m.tree.getD k.toNat nd0).kids.getD 0 0)
  have hb1 := hvb ((m.tree.getD k.toNat nd0).kids.getD 1 0)
  refine zK {} 600 Tryz.func77 (fun c0 rdb => ?_)
  (repeat' ((conv => whnf); first | refine zO ?_ | refine Ob.auto ?_ | refine zC 600 (qly _ _) ?_ | refine zX (jro m hm p s hs _) ?_ | refine zX (jrp m hm s hs _) ?_ | refine zC 600 (jcw _) ?_ | refine zC 600 (jqa _ _ _ (by omega) (by omega)) ?_ | refine zX (ih ((m.tree.getD k.toNat nd0).kids.getD 0 0) (hk0 (by omega)).1 (hk0 (by omega)).2.1 (hk0 (by omega)).2.2) ?_ | refine zX (ih ((m.tree.getD k.toNat nd0).kids.getD 1 0) (hk1 (by omega)).1 (hk1 (by omega)).2.1 (hk1 (by omega)).2.2) ?_ | (refine zP 600 ?_) | (apply zB <;> intro hb <;> (try simp [-zd] at hb) <;> try (exfalso; omega))))
  ·refine Le.of_eq ?_
   rw [valN, if_pos (by assumption)]; rfl
  ·refine Le.of_eq ?_
   rw [valN, if_neg (by assumption), if_pos (by assumption)]; rfl
  ·refine Le.of_eq ?_
   rw [valN, if_neg (by assumption), if_neg (by assumption), if_pos (by assumption)]; rfl
  ·refine Le.of_eq ?_
   rw [valN, if_neg (by assumption), if_neg (by assumption), if_neg (by assumption), if_pos (by assumption)]; rfl
  ·refine Le.of_eq ?_
   rw [qul m p s n k (by assumption), hb]; rfl
  ·refine Le.of_eq ?_
   rw [qul m p s n k (by assumption), hb, Bool.true_and]; rfl
  ·refine Le.of_eq ?_
   rw [qum m p s n k (by assumption), binF, if_neg (fun h => by rcases hb with hb | hb <;> rw [hb] at h <;> simp at h)]; rfl
  ·refine Le.of_eq ?_
   rw [qum m p s n k (by assumption), binF, if_pos hb]; rfl
  ·refine Le.of_eq ?_
   rw [valN, if_neg (by assumption), if_neg (by assumption), if_neg (by assumption), if_neg (by assumption), if_neg (by assumption), if_neg (by assumption)]; rfl
theorem qkp {m : Md} {s : Stt} (hm : MOk m) (h : qg m s = true) : SOk m s := by
 obtain ⟨h0, hA, hV, hC⟩ := (jc m s).1 h
 refine ⟨h0.2.1, h0.2.2.1, fun v hv => ?_, fun c hc => ?_⟩
 ·obtain ⟨i, hi, rfl⟩ := List.mem_iff_getElem.1 hv
  have h1 := hV i hi
  have h2 := quj (s.vars.getD i 0) (m.vars.getD i vr0).width
  unfold qlo at h1
  rw [h1] at h2
  rw [zd, List.getElem?_eq_getElem hi] at h2
  simp only [Option.getD_some] at h2
  omega
 ·obtain ⟨i, hi, rfl⟩ := List.mem_iff_getElem.1 hc
  have h1 := (hC i hi).1
  have h2 := hm.chan _ (qi m.chans i ch0 (by omega))
  unfold qit at h1
  rw [zd, List.getElem?_eq_getElem hi] at h1
  simp only [Option.getD_some] at h1
  omega
def sval (m : Md) (p : Int) (s : Stt) (k : Int) : Int × Bool := if 0 ≤ k ∧ k < m.tree.length ∧ qg m s = true then val m p s k else (0, false)
theorem qwm (m : Md) (hm : MOk m) (p : Int) (s : Stt) (hs : SSz s) (k : Int) : Con Tryz.prog 75 [m.av, iv p, s.av, iv k] (qjz (sval m p s k)) := by
 have hsz := hm.sz
 by_cases hf : 0 ≤ k ∧ k < m.tree.length ∧ qg m s = true
 ·have hso := qkp hm hf.2.2
  refine zK {} 300 Tryz.func75 (fun c0 rdb => ?_)
  (repeat' ((conv => whnf); first | refine Ob.auto ?_ | refine zG 300 (fun hg => qed m s hs) ?_ | refine zC 300 (jeg m p s) ?_ | refine zC 300 (jeh m hm p s hso m.tree.length k (by omega) (by omega) (by omega)) ?_ | (apply zB <;> intro hb <;> (try simp [-zd] at hb) <;> try (exfalso; omega))))
  ·exfalso; rcases hb with hb | hb
   ·omega
   ·rw [hf.2.2] at hb; cases hb
  ·refine Le.of_eq ?_
   rw [sval, if_pos hf]; rfl
 ·refine zK {} 300 Tryz.func75 (fun c0 rdb => ?_)
  (repeat' ((conv => whnf); first | refine Ob.auto ?_ | refine zG 300 (fun hg => qed m s hs) ?_ | (apply zB <;> intro hb <;> (try simp [-zd] at hb) <;> try (exfalso; omega))))
  ·refine Le.of_eq ?_
   rw [sval, if_neg hf]; rfl
  ·exact absurd ⟨hb.1.1, hb.1.2, hb.2⟩ hf
theorem jrq (m : Md) (hm : MOk m) (s : Stt) (hs : SSz s) : Con Tryz.prog 47 [m.av, s.av] (.bool (m.safe.isEmpty || qg m s && qln m s)) := by
 have hsz := hm.sz
 have hsf := hm.safe
 by_cases hf : qg m s = true
 ·have hso := qkp hm hf
  refine zK {} 300 Tryz.func47 (fun c0 rdb => ?_)
  (repeat' ((conv => whnf); first | refine Ob.auto ?_ | refine zC 300 (qed m s hs) ?_ | refine zC 300 (jeg m (-1) s) ?_ | (apply zB <;> intro hb <;> (try simp [-zd] at hb) <;> try (exfalso; omega))))
  ·refine Le.of_eq (congrArg AV.bool ?_)
   simp [hb]
  ·rw [hf] at hb; cases hb
  ·rename_i hne
   have hemp : m.safe.isEmpty = false := by simp [hne]
   ((conv => whnf); refine qj (fun _ => rfl) 300 1 (fun i : Nat => [(24, iv i)]) (fun _ => []) (fun i => i ≤ m.safe.length ∧ ∀ j, j < i → qka m s (m.safe.getD j 0) = true) (fun i => m.safe.length - i) (0) (⟨by omega, fun j hj => absurd hj (Nat.not_lt_zero j)⟩) qa qa (fun _ => rfl) (by kernel_rfl) ?_; (conv => whnf))
   intro i hi
   have hki : i < m.safe.length → _ := fun h => hsf _ (qi m.safe i 0 h)
   (repeat' ((conv => whnf); first | refine Ob.auto ?_ | refine zC 300 (jeh m hm (-1) s hso m.tree.length (m.safe.getD i 0) (hki (by omega)).1 (hki (by omega)).2 (by omega)) ?_ | (apply zB <;> intro hb <;> (try simp [-zd] at hb) <;> try (exfalso; omega))))
   ·refine Le.of_eq (congrArg AV.bool ?_)
    rw [hf, hemp, Bool.false_or, Bool.true_and]
    refine (qni 0 (j := i) (by omega) ?_).symm
    simp only [qka, val]
    rcases hb with hb | hb <;> simp [-zd, hb]
   ·((conv => whnf); refine ⟨i + 1, ⟨by omega, jm hi.2 (by simp only [qka, val]; simp [-zd, hb])⟩, ⟨qa, qa⟩, ⟨qa, qa⟩, ?_⟩; (first | omega | (dsimp only; omega) | skip))
   ·refine Le.of_eq (congrArg AV.bool ?_)
    rw [hf, hemp, Bool.false_or, Bool.true_and]
    exact (qnh 0 (fun j hj => hi.2 j (by omega))).symm
 ·refine zK {} 300 Tryz.func47 (fun c0 rdb => ?_)
  (repeat' ((conv => whnf); first | refine Ob.auto ?_ | refine zC 300 (qed m s hs) ?_ | (apply zB <;> intro hb <;> (try simp [-zd] at hb) <;> try (exfalso; omega))))
  ·refine Le.of_eq (congrArg AV.bool ?_)
   simp [hb]
  ·rename_i hne
   refine Le.of_eq (congrArg AV.bool ?_)
   simp [hb, hne]
  ·exact absurd hb hf
set_option maxHeartbeats 4000000
theorem qhf {m : Md} {s : Stt} {p : Nat} {e : Ed} (h1 : s.at_.getD p 0 = e.frm) (h2 : e.expr < 0 ∨ (val m p s e.expr).2 = true) : canB m s p e =
  (if e.act = 2 then decide (qlen s e.chn < room m e.chn) else if e.act = 3 then decide (0 < qlen s e.chn) else if e.act = 4 then !((if e.expr < 0 then 0 else (val m p s e.expr).1) == 0) else if e.act = 5 then (if e.expr < 0 then 0 else (val m p s e.expr).1) == 0 else true) := by
 have h3 : (decide (e.expr < 0) || (val m p s e.expr).2) = true := by
  rcases h2 with h2 | h2
  ·rw [decide_eq_true h2]; rfl
  ·rw [h2, Bool.or_true]
 unfold canB
 rw [beq_iff_eq.2 h1, h3]; rfl
theorem jei (m : Md) (hm : MOk m) (s : Stt) (hf : qg m s = true) (p : Nat) (hp : p < m.procs.length) (e : Ed) {pl : Int} (he : EdOk m.tree.length m.vars.length m.chans.length pl e) :
  Con Tryz.prog 20 [m.av, s.av, iv p, .agg e.cells] (.bool (canB m s p e)) := by
 have hso := qkp hm hf
 have hat : s.at_.length = m.procs.length := ((jc m s).1 hf).1.1
 have hcl := hso.cl
 have hch := he.chn
 have hac := he.act
 have hex : e.expr < m.tree.length := by
  have h1 := he.ex
  have h2 := he.nex
  by_cases h : e.act = 1 ∨ e.act = 2 ∨ e.act = 4 ∨ e.act = 5
  ·exact (h1 h).2
  ·have := h2 (by omega); omega
 refine zK {} 300 Tryz.func20 (fun c0 rdb => ?_)
 (repeat' ((conv => whnf); first | refine zO ?_ | refine Ob.auto ?_ | refine zC 300 (qrv m hm p s hso m.tree.length e.expr (by omega) (by omega) (Nat.sub_le _ _)) ?_ | refine zD 300 ?_ | (apply zB <;> intro hb <;> (try simp [-zd] at hb) <;> try (exfalso; omega))))
 all_goals refine Le.of_eq (congrArg AV.bool ?_)
 ·unfold canB val
  rcases hb with hb | hb
  ·rw [beq_eq_false_iff_ne.2 hb]; try rfl
  ·rw [hb, Bool.or_false, decide_eq_false (by omega), Bool.and_false]; try rfl
 ·have hA : s.at_.getD p 0 = e.frm ∧ (valN m p s m.tree.length e.expr).2 = true := by assumption
  rw [qhf hA.1 (.inr hA.2), if_pos (by assumption)]; try rfl
 ·have hA : s.at_.getD p 0 = e.frm ∧ (valN m p s m.tree.length e.expr).2 = true := by assumption
  rw [qhf hA.1 (.inr hA.2), if_neg (by assumption), if_pos (by assumption)]; try rfl
 ·have hA : s.at_.getD p 0 = e.frm ∧ (valN m p s m.tree.length e.expr).2 = true := by assumption
  rw [qhf hA.1 (.inr hA.2), if_neg (by assumption), if_neg (by assumption), if_pos (by assumption), if_neg (by omega)]; try rfl
 ·have hA : s.at_.getD p 0 = e.frm ∧ (valN m p s m.tree.length e.expr).2 = true := by assumption
  rw [qhf hA.1 (.inr hA.2), if_neg (by assumption), if_neg (by assumption), if_neg (by assumption), if_pos (by assumption), if_neg (by omega)]; try rfl
 ·have hA : s.at_.getD p 0 = e.frm ∧ (valN m p s m.tree.length e.expr).2 = true := by assumption
  rw [qhf hA.1 (.inr hA.2), if_neg (by assumption), if_neg (by assumption), if_neg (by assumption), if_neg (by assumption)]
 ·unfold canB
  rw [beq_eq_false_iff_ne.2 hb]; try rfl
 ·have hA : s.at_.getD p 0 = e.frm := by assumption
  rw [qhf hA (.inl (by assumption)), if_pos (by assumption)]; try rfl
 ·have hA : s.at_.getD p 0 = e.frm := by assumption
  rw [qhf hA (.inl (by assumption)), if_neg (by assumption), if_pos (by assumption)]; try rfl
 ·have hA : s.at_.getD p 0 = e.frm := by assumption
  rw [qhf hA (.inl (by assumption)), if_neg (by assumption), if_neg (by assumption), if_pos (by assumption), if_pos (by assumption)]; try rfl
 ·have hA : s.at_.getD p 0 = e.frm := by assumption
  rw [qhf hA (.inl (by assumption)), if_neg (by assumption), if_neg (by assumption), if_neg (by assumption), if_pos (by assumption), if_pos (by assumption)]; try rfl
 ·have hA : s.at_.getD p 0 = e.frm := by assumption
  rw [qhf hA (.inl (by assumption)), if_neg (by assumption), if_neg (by assumption), if_neg (by assumption), if_neg (by assumption)]
theorem qoq (m : Md) (hM : ModOk m) (s : Stt) (hf : qg m s = true) (p : Nat) (hp : p < m.procs.length) :
  Con Tryz.prog 55 [m.av, s.av, iv p] (.bool (qok m s p)) := by
 have hn := (hM.psz _ (qi m.procs p pr0 hp)).1
 refine zK {} 300 Tryz.func55 (fun c0 rdb => ?_)
 ((conv => whnf); refine qj (fun _ => rfl) 300 1 (fun i : Nat => [(7, iv i), (6, .bool false)]) (fun _ => []) (fun i => i ≤ (edgesOf m p).length ∧ ∀ j, j < i → canB m s p ((edgesOf m p).getD j ed0) = false) (fun i => (edgesOf m p).length - i) (0) (⟨Nat.zero_le _, fun j hj => absurd hj (Nat.not_lt_zero j)⟩) qa qa (fun _ => rfl) (by kernel_rfl) ?_; (conv => whnf))
 intro i hi
 (repeat' ((conv => whnf); first | refine zA ?_ | refine Ob.auto ?_ | (refine CallY.con (jei m hM.ok s hf p hp ((edgesOf m p).getD i ed0) (edOk hM hp (by exact hb))) (by rfl) leA ?_) | (refine zQ 300 ?_) | (apply zB <;> intro hb <;> (try simp [-zd] at hb) <;> try (exfalso; omega))))
 ·have hil : i < (edgesOf m p).length := by assumption
  exact Le.of_eq (congrArg AV.bool (List.any_eq_true.2 ⟨_, qi _ _ _ hil, by assumption⟩).symm)
 ·have hil : i < (edgesOf m p).length := by assumption
  ((conv => whnf); refine ⟨i + 1, ⟨hil, jm hi.2 (by assumption)⟩, ⟨qa, qa⟩, ⟨qa, qa⟩, ?_⟩; (first | omega | (dsimp only; omega) | skip))
 ·have hil : (edgesOf m p).length ≤ i := by assumption
  refine Le.of_eq (congrArg AV.bool ?_)
  unfold qok
  rw [Eq.comm, List.any_eq_false]
  intro e hme
  obtain ⟨j, hj, rfl⟩ := List.mem_iff_getElem.1 hme
  have := hi.2 j (by omega)
  rw [zd, List.getElem?_eq_getElem hj] at this
  simp only [Option.getD_some] at this
  rw [this]; decide
end Go.Proofs.YtdoaagphhjggbaaGreat
end
