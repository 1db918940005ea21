/- Some texts of the library, one behind the other. -/
import Derived.Test.YtdoaagphhjggbaaGreatQ19
import Derived.Test.YtdoaagphhjggbaaGreatQ31
import Derived.Test.YtdoaagphhjggbaaGreatQ22
import Derived.Test.YtdoaagphhjggbaaGreatQ4
import Derived.Test.YtdoaagphhjggbaaGreatQ2
section
/- The text of layer 15, parsed, and its model made: by the general contracts. -/
namespace Go.Proofs.YtdoaagphhjggbaaGreat
open Go Go.Sx Go.RowKit Go.St Pa
set_option maxRecDepth 100000
def quy : List UInt8 := [99, 104, 97, 110, 32, 99, 91, 49, 93, 32, 111, 102, 32, 49, 59, 32, 112, 114, 111, 99, 32, 112, 32, 123, 32, 115, 101, 110, 100, 32, 99, 32, 49, 59, 32, 115, 101, 110, 100, 32, 99, 32, 49, 59, 32, 125]
def qij : List Nd := [⟨0, [], [], [1, 2], 0⟩, ⟨1, [[99]], [1, 1, 0, 0], [], 0⟩, ⟨3, [[112]], [1], [3, 5], 16⟩, ⟨7, [[99]], [], [4], 25⟩, ⟨17, [], [1], [], 32⟩, ⟨7, [[99]], [], [6], 35⟩, ⟨17, [], [1], [], 42⟩]
def model15 : Md := { tree := qij, globals := 0, chans := [⟨[99], 1, 1, false, false⟩], vars := [], procs := [⟨[112], 0, [], 3, [false, true, false], [⟨0, 2, 2, 4, (-1), 0, false, 3⟩, ⟨2, 1, 2, 6, (-1), 0, false, 5⟩], [], []⟩], safe := [], dead := false }
theorem px15 : qud quy = (qij, (0, 0)) := by kernel_rfl
theorem jom : Con Tryz.prog 36 [.str quy] (.tup [jo qij, flt 0 0]) := by
 have h := jna quy (by decide)
 rw [jnb px15 (by decide)] at h
 exact h
theorem jcj : Tree qij := qqo (by decide +kernel)
theorem jck : (qbq qij).1 = 0 := by decide +kernel
theorem jcl : qep qij = model15 := by kernel_rfl
theorem jon : Con Tryz.prog 37 [jo qij] (.tup [model15.av, .bool true]) := by
 have h := jch qij jcj jck
 rw [jcl] at h
 exact h
theorem joo : ModOk model15 := jcl ▸ jce jcj jck
end Go.Proofs.YtdoaagphhjggbaaGreat
end
section
/- Contracts: expressions, by the document's answer. -/
namespace Go.Proofs.YtdoaagphhjggbaaGreat
open List renaming getD_eq_getElem?_getD → zd
open Go Go.Sx Go.RowKit Go.St
set_option maxRecDepth 100000
set_option maxHeartbeats 2000000
theorem jop (m : Md) (hm : MOk m) (p : Int) (s : List UInt8) : Con Tryz.prog 78 [m.av, iv p, .str s] (iv (varN m p s)) := by
 have hg := hm.glob
 have hsz := hm.sz
 refine qc (T := tab Tryz.prog) (C := {}) 300 (fun _ => rfl) Tryz.func78 rfl (by kernel_rfl) (by kernel_rfl) (fun c0 rdb => ?_)
 (repeat' ((conv => whnf); first | refine Ob.auto ?_ | (apply zB <;> intro hb <;> (try simp [-zd] at hb) <;> try (exfalso; omega))))
 ·have hp : 0 ≤ p ∧ p < m.procs.length := by assumption
  have hq := hm.procs _ (ql m.procs p.toNat Pr.none (by omega))
  have hq2 := hm.psz _ (ql m.procs p.toNat Pr.none (by omega))
  have hv : varN m p s = _ := if_pos hp
  ((conv => whnf); refine qhw (fun _ => rfl) 300 1 [2, 3, 7] [0, 1] (fun i : Nat => [(8, iv i)]) (fun _ => []) (fun i => i ≤ (m.procs.getD p.toNat Pr.none).names.length ∧ ∀ j, j < i → ((m.procs.getD p.toNat Pr.none).names.getD j [] == s) = false) (fun i => (m.procs.getD p.toNat Pr.none).names.length - i) (0) (⟨by omega, fun j hj => absurd hj (Nat.not_lt_zero j)⟩) qa qa (fun _ => rfl) (by kernel_rfl) ?_; (conv => whnf))
  intro i hi
  (repeat' ((conv => whnf); first | refine Ob.auto ?_ | (apply zB <;> intro hb <;> (try simp [-zd] at hb) <;> try (exfalso; omega))))
  ·refine Le.of_eq (congrArg (AV.int _) ?_)
   have := qei (· == s) (m.procs.getD p.toNat Pr.none).names [] i (by assumption) (beq_iff_eq.2 (by assumption)) hi.2
   rw [hv, this, if_neg (by omega)]
  ·((conv => whnf); refine ⟨i + 1, ⟨by omega, qaa hi.2 (beq_eq_false_iff_ne.2 (by assumption))⟩, ⟨qa, qa⟩, ⟨qa, qa⟩, ?_⟩; (first | omega | (dsimp only; omega) | skip))
  ·refine Le.of_eq (congrArg (AV.int _) ?_)
   have := qej (· == s) (m.procs.getD p.toNat Pr.none).names [] (fun j hj => hi.2 j (by omega))
   rw [hv, this, if_pos (by omega)]
 ·have hp : ¬ (0 ≤ p ∧ p < m.procs.length) := by omega
  have hv : varN m p s = _ := if_neg hp
  have htk : ∀ j : Nat, (j : Int) < m.globals → (m.vars.take m.globals.toNat).getD j Vr.none = m.vars.getD j Vr.none := fun j hj => by
   rw [zd, List.getElem?_take, if_pos (by omega), ← zd]
  have hl : (m.vars.take m.globals.toNat).length = m.globals.toNat := by rw [List.length_take]; omega
  ((conv => whnf); refine qhw (fun _ => rfl) 300 1 [2, 3] [0] (fun i : Nat => [(9, iv i)]) (fun _ => []) (fun i => (i : Int) ≤ m.globals ∧ ∀ j, j < i → ((m.vars.getD j Vr.none).name == s) = false) (fun i => m.globals.toNat - i) (0) (⟨by omega, fun j hj => absurd hj (Nat.not_lt_zero j)⟩) qa qa (fun _ => rfl) (by kernel_rfl) ?_; (conv => whnf))
  intro i hi
  (repeat' ((conv => whnf); first | refine Ob.auto ?_ | (apply zB <;> intro hb <;> (try simp [-zd] at hb) <;> try (exfalso; omega))))
  ·refine Le.of_eq (congrArg (AV.int _) ?_)
   have := qei (fun v : Vr => v.name == s) (m.vars.take m.globals.toNat) Vr.none i (by omega) (by rw [htk i (by omega)]; exact beq_iff_eq.2 (by assumption)) (fun j hj => by rw [htk j (by omega)]; exact hi.2 j hj)
   rw [hv, this]
  ·((conv => whnf); refine ⟨i + 1, ⟨by omega, qaa hi.2 (beq_eq_false_iff_ne.2 (by assumption))⟩, ⟨qa, qa⟩, ⟨qa, qa⟩, ?_⟩; (first | omega | (dsimp only; omega) | skip))
  ·refine Le.of_eq (congrArg (AV.int _) ?_)
   have := qej (fun v : Vr => v.name == s) (m.vars.take m.globals.toNat) Vr.none (fun j hj => by rw [htk j (by omega)]; exact hi.2 j (by omega))
   rw [hv, this]
theorem quz (m : Md) (hm : MOk m) (p : Int) (s : Stt) (hs : SOk m s) : ∀ (n : Nat) (k : Int), 0 ≤ k → k < m.tree.length → m.tree.length - k.toNat ≤ n → Con Tryz.prog 49 [m.av, iv p, s.av, iv k] (qjg (valN m p s n k)) := by
  intro n
  induction n with
  | zero => intro k h0 h1 h2; omega
  | succ n ih =>
    intro k h0 h1 h2
    have hnd := hm.tree k.toNat (by omega)
    have h17 := hnd.num
    have h18 := hnd.word
    have h20 := hnd.un
    have h22 := hnd.bin
    have hsz := hm.sz
    have hvb := qyv hm hs p n
    have hvl := hs.vl
    have hcl := hs.cl
    refine qc (T := tab Tryz.prog) (C := {}) 600 (fun _ => rfl) Tryz.func49 rfl (by kernel_rfl) (by kernel_rfl) (fun c0 rdb => ?_)
    (repeat' ((conv => whnf); first | refine Ob.auto ?_ | refine zC 600 (qih _ _) ?_ | (apply zB <;> intro hb <;> (try simp [-zd] at hb) <;> try (exfalso; omega))))
    · refine Le.of_eq ?_
      rw [valN, if_pos (by assumption)]; rfl
    · have hvn := qta hm p ((m.tree.getD k.toNat Nd.none).words.getD 0 [])
      ((conv => whnf); refine qix (fun _ => rfl) (by kernel_rfl) 600 [iv (varN m p ((m.tree.getD k.toNat Nd.none).words.getD 0 []))] (by kernel_rfl) ?_)
      (repeat' ((conv => whnf); first | refine Ob.auto ?_ | (refine Ob.intro (by (first | exact ⟨by omega, by omega⟩ | exact ⟨_, jop m hm p _, by rfl, LeL.refl _⟩)) ?_) | (apply zB <;> intro hb <;> (try simp [-zd] at hb) <;> try (exfalso; omega))))
      · refine Le.of_eq ?_
        rw [valN, if_neg (by assumption), if_pos (by assumption), if_pos (by assumption)]; rfl
      · refine Le.of_eq ?_
        rw [valN, if_neg (by assumption), if_pos (by assumption), if_neg (by omega)]; rfl
    · ((conv => whnf); refine qhw (fun _ => rfl) 600 1 [4, 6, 10] [0, 1, 2] (fun i : Nat => [(12, iv i)]) (fun _ => []) (fun i => i ≤ m.chans.length ∧ ∀ j, j < i → ((m.chans.getD j Ch.none).name == (m.tree.getD k.toNat Nd.none).words.getD 0 []) = false) (fun i => m.chans.length - i) (0) (⟨by omega, fun j hj => absurd hj (Nat.not_lt_zero j)⟩) qa qa (fun _ => rfl) (by kernel_rfl) ?_; (conv => whnf))
      intro i hi
      (repeat' ((conv => whnf); first | refine Ob.auto ?_ | (refine zN 600 ?_) | (apply zB <;> intro hb <;> (try simp [-zd] at hb) <;> try (exfalso; omega))))
      · refine Le.of_eq ?_
        have := qei (fun c : Ch => c.name == (m.tree.getD k.toNat Nd.none).words.getD 0 []) m.chans Ch.none i (by omega) (beq_iff_eq.2 (by assumption)) hi.2
        rw [valN, if_neg (by assumption), if_neg (by assumption), if_pos (by assumption), this, if_neg (by omega)]; rfl
      · ((conv => whnf); refine ⟨i + 1, ⟨by omega, qaa hi.2 (beq_eq_false_iff_ne.2 (by assumption))⟩, ⟨qa, qa⟩, ⟨qa, qa⟩, ?_⟩; (first | omega | (dsimp only; omega) | skip))
      · refine Le.of_eq ?_
        have := qej (fun c : Ch => c.name == (m.tree.getD k.toNat Nd.none).words.getD 0 []) m.chans Ch.none (fun j hj => hi.2 j (by omega))
        rw [valN, if_neg (by assumption), if_neg (by assumption), if_pos (by assumption), this, if_pos (by omega)]; rfl
    · have hk := h20 (.inl (by assumption))
      have hb0 := hvb ((m.tree.getD k.toNat Nd.none).kids.getD 0 0)
      ((conv => whnf); refine qix (fun _ => rfl) (by kernel_rfl) 600 [.tup [iv (valN m p s n ((m.tree.getD k.toNat Nd.none).kids.getD 0 0)).1, .bool (valN m p s n ((m.tree.getD k.toNat Nd.none).kids.getD 0 0)).2]] (by kernel_rfl) ?_)
      (repeat' ((conv => whnf); first | refine Ob.auto ?_ | (refine Ob.intro (by (first | exact ⟨by omega, by omega⟩ | exact ⟨_, ih _ (by omega) (by omega) (by omega), by rfl, LeL.refl _⟩)) ?_) | refine zC 600 (qih _ _) ?_ | fail))
      refine Le.of_eq ?_
      rw [valN, if_neg (by assumption), if_neg (by assumption), if_neg (by assumption), if_pos (by assumption)]; rfl
    · have hk := h20 (.inr (by assumption))
      have hb0 := hvb ((m.tree.getD k.toNat Nd.none).kids.getD 0 0)
      have hv := qtb m p s n k (by assumption)
      ((conv => whnf); refine qix (fun _ => rfl) (by kernel_rfl) 600 [.tup [iv (valN m p s n ((m.tree.getD k.toNat Nd.none).kids.getD 0 0)).1, .bool (valN m p s n ((m.tree.getD k.toNat Nd.none).kids.getD 0 0)).2]] (by kernel_rfl) ?_)
      (repeat' ((conv => whnf); first | refine Ob.auto ?_ | (refine Ob.intro (by (first | exact ⟨by omega, by omega⟩ | exact ⟨_, ih _ (by omega) (by omega) (by omega), by rfl, LeL.refl _⟩)) ?_) | refine zC 600 (jbf _) ?_ | fail))
      refine Le.of_eq ?_
      rw [hv]; rfl
    · have hk := h22 (by assumption)
      have hb0 := hvb ((m.tree.getD k.toNat Nd.none).kids.getD 0 0)
      have hb1 := hvb ((m.tree.getD k.toNat Nd.none).kids.getD 1 0)
      have hv := qtc m p s n k (by assumption)
      have hnt : (m.tree.getD k.toNat Nd.none).nums.getD (Int.toNat 0) 0 = (m.tree.getD k.toNat Nd.none).nums.getD 0 0 := rfl
      rw [hv]
      generalize hA : valN m p s n ((m.tree.getD k.toNat Nd.none).kids.getD 0 0) = A at hb0 hv ⊢
      generalize hB : valN m p s n ((m.tree.getD k.toNat Nd.none).kids.getD 1 0) = B at hb1 hv ⊢
      have ihA := ih ((m.tree.getD k.toNat Nd.none).kids.getD 0 0) (by omega) (by omega) (by omega)
      have ihB := ih ((m.tree.getD k.toNat Nd.none).kids.getD 1 0) (by omega) (by omega) (by omega)
      rw [hA] at ihA
      rw [hB] at ihB
      obtain ⟨a, x⟩ := A
      obtain ⟨b, y⟩ := B
      simp only at hb0 hb1
      ((conv => whnf); refine qix (fun _ => rfl) (by kernel_rfl) 600 [.tup [iv a, .bool x]] (by kernel_rfl) ?_)
      (repeat' ((conv => whnf); first | refine Ob.auto ?_ | (refine Ob.intro (by (first | exact ⟨by omega, by omega⟩ | exact ⟨_, ihA, by rfl, LeL.refl _⟩)) ?_) | fail))
      ((conv => whnf); refine qix (fun _ => rfl) (by kernel_rfl) 600 [.tup [iv b, .bool y]] (by kernel_rfl) ?_)
      (repeat' ((conv => whnf); first | refine Ob.auto ?_ | (refine Ob.intro (by (first | exact ⟨by omega, by omega⟩ | exact ⟨_, ihB, by rfl, LeL.refl _⟩ | exact qdm (by omega) (by omega))) ?_) | refine zC 600 (jbf _) ?_ | refine zC 600 (jnn _ _ _ (by omega) (by omega)) ?_ | (apply zB <;> intro hb <;> (try simp [-zd] at hb) <;> try (exfalso; omega))))
      all_goals
        refine Le.of_eq ?_
        clear ih ihA ihB hm hs hnd h17 h18 h20 h22 hvb hA hB hv
        have hs8 := hk.2.2.2
        first
          | (rw [jkg _ hs8 (by assumption)]; rfl)
          | (rw [jkh _ (And.left (by assumption))]
             first
               | (rw [jkf _ _ _ hs8 (by omega) (by omega)]; rfl)
               | (rw [‹(m.tree.getD k.toNat Nd.none).nums.getD 0 0 = _›]; rfl))
    · refine Le.of_eq ?_
      rw [valN, if_neg (by assumption), if_neg (by assumption), if_neg (by assumption), if_neg (by assumption), if_neg (by assumption), if_neg (by assumption)]; rfl
end Go.Proofs.YtdoaagphhjggbaaGreat
end
section
/- Contracts: states, by the document's answer. -/
namespace Go.Proofs.YtdoaagphhjggbaaGreat
open Go Go.Sx Go.RowKit Go.St
set_option maxRecDepth 100000
set_option maxHeartbeats 2000000
end Go.Proofs.YtdoaagphhjggbaaGreat
end
section
/- States in plain Lean, more of them. -/
namespace Go.St
open Go Go.Sx
theorem joq {n n' w : Int} (h : n % 2 ^ wid w = n' % 2 ^ wid w) : trim n w = trim n' w := by
 unfold trim; rw [h]
theorem qva (n w : Int) : trim (trim n w) w = trim n w := by
 refine joq ?_
 have h2 := qge (wid w) (qgd w).2
 have h3 := Int.emod_nonneg n (b := 2 ^ wid w) (by omega)
 have h4 := Int.emod_lt_of_pos n (b := 2 ^ wid w) (by omega)
 unfold trim
 split
 ·rw [Int.sub_emod_right]; exact Int.emod_eq_of_lt h3 h4
 ·exact Int.emod_eq_of_lt h3 h4
end Go.St
end
section
/- Contract: the first state by the document's answer. -/
namespace Go.Proofs.YtdoaagphhjggbaaGreat
open List renaming getD_eq_getElem?_getD → zd
open Go Go.Sx Go.RowKit Go.St
set_option maxRecDepth 100000
set_option maxHeartbeats 2000000
theorem jor (m : Md) (hm : MOk m) : Con Tryz.prog 38 [m.av] (jk m).av := by
 have hsz := hm.sz
 refine qc (T := tab Tryz.prog) (C := {}) 300 (fun _ => rfl) Tryz.func38 rfl (by kernel_rfl) (by kernel_rfl) (fun c0 rdb => ?_)
 (repeat' ((conv => whnf); first | exact trivial))
 refine qcu 2 0 3 1 rfl rfl ?_
 ((conv => whnf); refine qhw (fun _ => rfl) 300 1 [1, 2, 3] [0, 1] (fun i : Nat => [(4, iv i)]) (fun i => [(2, .box 34 [.own 3 0 0 i, .nils, .nils, iv (-1)]), (3, .row [] 3 1 0 i (fun _ => [iv 0]))]) (fun i => i ≤ m.procs.length) (fun i => m.procs.length - i) (0) (by omega) qa qa (fun _ => rfl) (by kernel_rfl) ?_; (conv => whnf))
 intro i hi
 (repeat' ((conv => whnf); first | refine Ob.auto ?_ | (apply zB <;> intro hb <;> (try simp [-zd] at hb) <;> try (exfalso; omega))))
 ·((conv => whnf); refine ⟨i + 1, by omega, ⟨qa, qa⟩, ⟨qa, qa⟩, ?_⟩; (first | omega | (dsimp only; omega) | skip))
 obtain rfl : i = m.procs.length := by omega
 clear hi hb
 refine qcu 2 1 3 1 rfl rfl ?_
 ((conv => whnf); refine qhw (fun _ => rfl) 300 2 [1, 2, 3] [0, 1, 3] (fun i : Nat => [(5, iv i)]) (fun i => [(2, .box 34 [.own 3 0 0 m.procs.length, .own 4 0 0 i, .nils, iv (-1)]), (4, .row [] 3 1 0 i (fun i => [iv (m.vars.getD i Vr.none).value]))]) (fun i => i ≤ m.vars.length) (fun i => m.vars.length - i) (0) (by omega) qa qa (fun _ => rfl) (by kernel_rfl) ?_; (conv => whnf))
 intro i hi
 (repeat' ((conv => whnf); first | refine Ob.auto ?_ | (refine zN 300 ?_) | (apply zB <;> intro hb <;> (try simp [-zd] at hb) <;> try (exfalso; omega))))
 ·((conv => whnf); refine ⟨i + 1, by omega, ⟨qa, qa⟩, ⟨qa, qa⟩, ?_⟩; (first | omega | (dsimp only; omega) | skip))
 obtain rfl : i = m.vars.length := by omega
 clear hi hb
 refine qcu 2 2 23 1 rfl rfl ?_
 ((conv => whnf); refine qhw (fun _ => rfl) 300 3 [1, 2, 3] [0, 1, 3, 4] (fun i : Nat => [(6, iv i)]) (fun i => [(2, .box 34 [.own 3 0 0 m.procs.length, .own 4 0 0 m.vars.length, .own 5 0 0 i, iv (-1)]), (5, .row [] 23 1 0 i (fun i => [.nils]))]) (fun i => i ≤ m.chans.length) (fun i => m.chans.length - i) (0) (by omega) qa qa (fun _ => rfl) (by kernel_rfl) ?_; (conv => whnf))
 intro i hi
 (repeat' ((conv => whnf); first | refine Ob.auto ?_ | (apply zB <;> intro hb <;> (try simp [-zd] at hb) <;> try (exfalso; omega))))
 ·((conv => whnf); refine ⟨i + 1, by omega, ⟨qa, qa⟩, ⟨qa, qa⟩, ?_⟩; (first | omega | (dsimp only; omega) | skip))
 obtain rfl : i = m.chans.length := by omega
 (conv => whnf)
 refine Le.agg ⟨Le.slc (by simp [jk]) (fun j hj => ?_), Le.slc (by simp [jk]) (fun j hj => ?_), Le.slcL (by simp [jk]) (fun j hj => ?_), Le.refl _, trivial⟩
 ·show [iv 0] = [iv ((jk m).at_.getD j 0)]
  rw [jk, qkt _ _ _ _ hj]
 ·show [iv (m.vars.getD j Vr.none).value] = [iv ((jk m).vars.getD j 0)]
  rw [jk, qtd _ _ _ _ Vr.none hj]
 ·show LeL [.nils] [ints ((jk m).chans.getD j [])]
  rw [jk, qkt _ _ _ _ hj]
  exact ⟨Le.nils _ _, trivial⟩
end Go.Proofs.YtdoaagphhjggbaaGreat
end
section
/- Steps in plain Lean: which moves a state has, and what each does. Nothing of the program. -/
namespace Go.St
open Go Go.Sx
structure Mv where
 kind : Int := 0
 proc : Int := 0
 edge : Int := 0
 chn : Int := 0
deriving DecidableEq
def Mv.cells (v : Mv) : List AV := [iv v.kind, iv v.proc, iv v.edge, iv v.chn]
def Mv.av (v : Mv) : AV := .agg v.cells
def jos (l : List Mv) : AV := slcL Mv.cells {} 4 l
def qlen (s : Stt) (c : Int) : Int := (s.chans.getD c.toNat []).length
def room (m : Md) (c : Int) : Int := (m.chans.getD c.toNat Ch.none).room
def canB (m : Md) (s : Stt) (p : Nat) (e : Ed) : Bool :=
  (s.at_.getD p 0 == e.frm) && (decide (e.expr < 0) || (val m p s e.expr).2) &&
  (if e.act = 2 then decide (qlen s e.chn < room m e.chn)
   else if e.act = 3 then decide (0 < qlen s e.chn)
   else if e.act = 4 then !((if e.expr < 0 then 0 else (val m p s e.expr).1) == 0)
   else if e.act = 5 then (if e.expr < 0 then 0 else (val m p s e.expr).1) == 0
   else true)
def qu (m : Md) (p : Nat) : List Ed := (m.procs.getD p Pr.none).edges
def qik (m : Md) (s : Stt) (p : Nat) : List Mv := ((List.range (qu m p).length).filter fun i => canB m s p ((qu m p).getD i Ed.none)).map fun (i : Nat) => ⟨0, p, i, 0⟩
def qle (m : Md) (s : Stt) (c : Nat) : Bool := (m.chans.getD c Ch.none).lossy && decide (0 < qlen s c)
def qju (m : Md) (s : Stt) (c : Nat) : Bool := (m.chans.getD c Ch.none).copying && decide (0 < qlen s c) && decide (qlen s c < room m c)
def qfk (m : Md) (s : Stt) (c : Nat) : List Mv := (if qle m s c = true then [⟨1, 0, 0, c⟩] else []) ++ (if qju m s c = true then [⟨2, 0, 0, c⟩] else [])
def qbv (m : Md) (s : Stt) : List Mv :=
 (List.range m.procs.length).flatMap (fun (p : Nat) => if s.holder ≠ -1 ∧ s.holder ≠ p then [] else qik m s p) ++
 (if s.holder = -1 then (List.range m.chans.length).flatMap (qfk m s) else [])
def qfl (m : Md) (s : Stt) (p : Nat) : Bool := (qu m p).any (canB m s p)
def qm (m : Md) (s : Stt) (p : Nat) (e : Ed) : Stt :=
 let n := if e.expr < 0 then 0 else (val m p s e.expr).1
 let a := { s with at_ := s.at_.set p e.to, holder := -1 }
 if e.act = 1 then { a with vars := s.vars.set e.var.toNat (trim n (m.vars.getD e.var.toNat Vr.none).width) }
 else if e.act = 2 then { a with chans := s.chans.set e.chn.toNat (s.chans.getD e.chn.toNat [] ++ [trim n (m.chans.getD e.chn.toNat Ch.none).width]) }
 else if e.act = 3 then { a with vars := s.vars.set e.var.toNat (trim ((s.chans.getD e.chn.toNat []).getD 0 0) (m.vars.getD e.var.toNat Vr.none).width), chans := s.chans.set e.chn.toNat ((s.chans.getD e.chn.toNat []).drop 1) }
 else a
def qdi (m : Md) (s : Stt) (p : Nat) (e : Ed) : Stt :=
 { qm m s p e with holder := if e.keep = true ∧ qfl m (qm m s p e) p = true then (p : Int) else -1 }
def qbl (m : Md) (s : Stt) (v : Mv) : Stt :=
 if v.kind = 1 then { s with chans := s.chans.set v.chn.toNat ((s.chans.getD v.chn.toNat []).drop 1), holder := -1 }
 else if v.kind = 2 then { s with chans := s.chans.set v.chn.toNat (s.chans.getD v.chn.toNat [] ++ [(s.chans.getD v.chn.toNat []).getD 0 0]), holder := -1 }
 else qdi m s v.proc.toNat ((qu m v.proc.toNat).getD v.edge.toNat Ed.none)
def qvb (m : Md) (s : Stt) : Bool := (List.range m.procs.length).all fun p => (m.procs.getD p Pr.none).rest.getD (s.at_.getD p 0).toNat false
def qqv (m : Md) (s : Stt) : Bool := (qbv m s).isEmpty && !qvb m s
def badB (m : Md) (s : Stt) : Bool := !qmq m s || m.dead && qqv m s
end Go.St
end
section
/- Contracts: states, by the document's answer: what is safe, what fits, what is the same. -/
namespace Go.Proofs.YtdoaagphhjggbaaGreat
open Go Go.Sx Go.RowKit Go.St
set_option maxRecDepth 100000
set_option maxHeartbeats 2000000
end Go.Proofs.YtdoaagphhjggbaaGreat
end
