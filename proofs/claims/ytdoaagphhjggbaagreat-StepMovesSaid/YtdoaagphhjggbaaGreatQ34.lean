/- Some texts of the library, one behind the other. -/
import Derived.Test.YtdoaagphhjggbaaGreatQMk6
import Derived.Test.YtdoaagphhjggbaaGreatQ21
import Derived.Test.YtdoaagphhjggbaaGreatQ20
import Derived.Test.YtdoaagphhjggbaaGreatQ23
import Derived.Test.YtdoaagphhjggbaaGreatQ4
import Derived.Test.YtdoaagphhjggbaaGreatQ2
section
/- Contracts: a tree's model; false: it has none, or is too great. -/
namespace Go.Proofs.YtdoaagphhjggbaaGreat
open Go Go.Sx Go.RowKit Go.St
set_option maxRecDepth 100000
set_option maxHeartbeats 8000000
def mdZ : Md := { tree := [] }
theorem jdx : Le (AV.agg [AV.nils, iv 0, AV.nils, AV.nils, AV.nils, AV.nils, AV.bool false]) mdZ.av :=
 Le.agg ⟨Le.nils _ _, Le.refl _, Le.nils _ _, Le.nils _ _, Le.nils _ _, Le.nils _ _, Le.refl _, trivial⟩
theorem jpf (l : List Nd) (ht : Tree l) (hc : (qby l).1 ≠ 0) : Con Tryz.prog 37 [jt l] (.tup [mdZ.av, .bool false]) := by
 refine qd (T := tab Tryz.prog) (C := {}) 2000 (fun _ => rfl) Tryz.func37 rfl (by kernel_rfl) (by kernel_rfl) (fun c0 rdb => ?_)
 (repeat' ((conv => whnf); first | refine zA ?_ | refine zO ?_ | refine Ob.auto ?_ | refine zI ?_ | refine zC 2000 (qfm l ht) ?_ | refine zG 2000 (fun hg => qfm l ht) ?_ | (refine CallY.con (qfm l ht) (by rfl) leA ?_) | (refine CallZ.con (fun hg => qfm l ht) qc (by rfl) ?_) | refine zE 2000 (qfm l ht) ?_ | refine zF 2000 (fun hg => qfm l ht) ?_ | refine zD 2000 ?_ | (apply zB <;> intro hb <;> (try simp [-List.getD_eq_getElem?_getD] at hb) <;> try (exfalso; omega)) | refine Ob.intro ?_ ?_))
 exact Le.tup ⟨jdx, Le.refl _, trivial⟩
def qgi (l : List Nd) : Md × Bool := if (qjh l l.length ≤ 1500 ∧ qhf l = true) ∧ (qby l).1 = 0 then (qhg l, true) else (mdZ, false)
theorem jpg {l : List Nd} (h : (qgi l).2 = true) : ModOk (qgi l).1 ∧ (qgi l).1 = qhg l ∧ Tree l ∧ (qby l).1 = 0 := by
 unfold qgi at h ⊢
 split
 ·rename_i e
  exact ⟨jdt (qsi e.1.2) e.2, rfl, qsi e.1.2, e.2⟩
 ·rename_i e
  rw [if_neg e] at h; cases h
end Go.Proofs.YtdoaagphhjggbaaGreat
end
section
/- The text of layer 15, parsed, and its model made: by the general contracts. -/
namespace Go.Proofs.YtdoaagphhjggbaaGreat
open Go Go.Sx Go.RowKit Go.St Pa
set_option maxRecDepth 100000
def qwy : List UInt8 := [99, 104, 97, 110, 32, 99, 91, 49, 93, 32, 111, 102, 32, 49, 59, 32, 112, 114, 111, 99, 32, 112, 32, 123, 32, 115, 101, 110, 100, 32, 99, 32, 49, 59, 32, 115, 101, 110, 100, 32, 99, 32, 49, 59, 32, 125]
def qjm : List Nd := [⟨0, [], [], [1, 2], 0⟩, ⟨1, [[99]], [1, 1, 0, 0], [], 0⟩, ⟨3, [[112]], [1], [3, 5], 16⟩, ⟨7, [[99]], [], [4], 25⟩, ⟨17, [], [1], [], 32⟩, ⟨7, [[99]], [], [6], 35⟩, ⟨17, [], [1], [], 42⟩]
def model15 : Md := { tree := qjm, globals := 0, chans := [⟨[99], 1, 1, false, false⟩], vars := [], procs := [⟨[112], 0, [], 3, [false, true, false], [⟨0, 2, 2, 4, (-1), 0, false, 3⟩, ⟨2, 1, 2, 6, (-1), 0, false, 5⟩], [], []⟩], safe := [], dead := false }
theorem px15 : qwi qwy = (qjm, (0, 0)) := by kernel_rfl
theorem qmt : Con Tryz.prog 36 [.str qwy] (.tup [jt qjm, flt 0 0]) := by
 have h := jog qwy (by decide)
 rw [joh px15 (by decide)] at h
 exact h
theorem jdy : Tree qjm := qsi (by decide +kernel)
theorem jdz : (qby qjm).1 = 0 := by decide +kernel
theorem jea : qhg qjm = model15 := by kernel_rfl
theorem qmu : Con Tryz.prog 37 [jt qjm] (.tup [model15.av, .bool true]) := by
 have h := jdw qjm jdy jdz
 rw [jea] at h
 exact h
theorem jph : ModOk model15 := jea ▸ jdt jdy jdz
end Go.Proofs.YtdoaagphhjggbaaGreat
end
section
/- Contracts: expressions, by the document's answer. -/
namespace Go.Proofs.YtdoaagphhjggbaaGreat
open List renaming getD_eq_getElem?_getD → zd
open Go Go.Sx Go.RowKit Go.St
set_option maxRecDepth 100000
set_option maxHeartbeats 2000000
theorem jpi (m : Md) (hm : MOk m) (p : Int) (s : List UInt8) : Con Tryz.prog 78 [m.av, iv p, .str s] (iv (varN m p s)) := by
 have hg := hm.glob
 have hsz := hm.sz
 refine qd (T := tab Tryz.prog) (C := {}) 300 (fun _ => rfl) Tryz.func78 rfl (by kernel_rfl) (by kernel_rfl) (fun c0 rdb => ?_)
 (repeat' ((conv => whnf); first | refine Ob.auto ?_ | (refine zN 300 ?_) | (apply zB <;> intro hb <;> (try simp [-zd] at hb) <;> try (exfalso; omega)) | refine Ob.intro ?_ ?_))
 ·have hp : 0 ≤ p ∧ p < m.procs.length := by assumption
  have hq := hm.procs _ (qj m.procs p.toNat Pr.none (by omega))
  have hq2 := hm.psz _ (qj m.procs p.toNat Pr.none (by omega))
  have hv : varN m p s = _ := if_pos hp
  ((conv => whnf); refine qdp (fun _ => rfl) 300 1 [2, 3, 7] [0, 1] (fun i : Nat => [(8, iv i)]) (fun _ => []) (fun i => i ≤ (m.procs.getD p.toNat Pr.none).names.length ∧ ∀ j, j < i → ((m.procs.getD p.toNat Pr.none).names.getD j [] == s) = false) (fun i => (m.procs.getD p.toNat Pr.none).names.length - i) (0) (⟨by omega, fun j hj => absurd hj (Nat.not_lt_zero j)⟩) qa qa (fun _ => rfl) (by kernel_rfl) ?_; (conv => whnf))
  intro i hi
  (repeat' ((conv => whnf); first | refine Ob.auto ?_ | refine zI ?_ | (refine zN 300 ?_) | (apply zB <;> intro hb <;> (try simp [-zd] at hb) <;> try (exfalso; omega)) | refine Ob.intro ?_ ?_))
  ·refine Le.of_eq (congrArg (AV.int _) ?_)
   have := qey (· == s) (m.procs.getD p.toNat Pr.none).names [] i (by assumption) (beq_iff_eq.2 (by assumption)) hi.2
   rw [hv, this, if_neg (by omega)]
  ·((conv => whnf); refine ⟨i + 1, ⟨by omega, qao hi.2 (beq_eq_false_iff_ne.2 (by assumption))⟩, ⟨qa, qa⟩, ⟨qa, qa⟩, ?_⟩; (first | omega | (dsimp only; omega) | skip))
  ·refine Le.of_eq (congrArg (AV.int _) ?_)
   have := qez (· == s) (m.procs.getD p.toNat Pr.none).names [] (fun j hj => hi.2 j (by omega))
   rw [hv, this, if_pos (by omega)]
 ·have hp : ¬ (0 ≤ p ∧ p < m.procs.length) := by omega
  have hv : varN m p s = _ := if_neg hp
  have htk : ∀ j : Nat, (j : Int) < m.globals → (m.vars.take m.globals.toNat).getD j Vr.none = m.vars.getD j Vr.none := fun j hj => by
   rw [zd, List.getElem?_take, if_pos (by omega), ← zd]
  have hl : (m.vars.take m.globals.toNat).length = m.globals.toNat := by rw [List.length_take]; omega
  ((conv => whnf); refine qdp (fun _ => rfl) 300 1 [2, 3] [0] (fun i : Nat => [(9, iv i)]) (fun _ => []) (fun i => (i : Int) ≤ m.globals ∧ ∀ j, j < i → ((m.vars.getD j Vr.none).name == s) = false) (fun i => m.globals.toNat - i) (0) (⟨by omega, fun j hj => absurd hj (Nat.not_lt_zero j)⟩) qa qa (fun _ => rfl) (by kernel_rfl) ?_; (conv => whnf))
  intro i hi
  (repeat' ((conv => whnf); first | refine Ob.auto ?_ | refine zI ?_ | (refine zN 300 ?_) | (apply zB <;> intro hb <;> (try simp [-zd] at hb) <;> try (exfalso; omega)) | refine Ob.intro ?_ ?_))
  ·refine Le.of_eq (congrArg (AV.int _) ?_)
   have := qey (fun v : Vr => v.name == s) (m.vars.take m.globals.toNat) Vr.none i (by omega) (by rw [htk i (by omega)]; exact beq_iff_eq.2 (by assumption)) (fun j hj => by rw [htk j (by omega)]; exact hi.2 j hj)
   rw [hv, this]
  ·((conv => whnf); refine ⟨i + 1, ⟨by omega, qao hi.2 (beq_eq_false_iff_ne.2 (by assumption))⟩, ⟨qa, qa⟩, ⟨qa, qa⟩, ?_⟩; (first | omega | (dsimp only; omega) | skip))
  ·refine Le.of_eq (congrArg (AV.int _) ?_)
   have := qez (fun v : Vr => v.name == s) (m.vars.take m.globals.toNat) Vr.none (fun j hj => by rw [htk j (by omega)]; exact hi.2 j (by omega))
   rw [hv, this]
theorem qfo (m : Md) (hm : MOk m) (p : Int) (s : Stt) (hs : SOk m s) : ∀ (n : Nat) (k : Int), 0 ≤ k → k < m.tree.length → m.tree.length - k.toNat ≤ n → Con Tryz.prog 49 [m.av, iv p, s.av, iv k] (qkf (valN m p s n k)) := by
  intro n
  induction n with
  | zero => intro k h0 h1 h2; omega
  | succ n ih =>
    intro k h0 h1 h2
    have hnd := hm.tree k.toNat (by omega)
    have h17 := hnd.num
    have h18 := hnd.word
    have h20 := hnd.un
    have h22 := hnd.bin
    have hsz := hm.sz
    have hvb := jau hm hs p n
    have hvl := hs.vl
    have hcl := hs.cl
    refine qd (T := tab Tryz.prog) (C := {}) 600 (fun _ => rfl) Tryz.func49 rfl (by kernel_rfl) (by kernel_rfl) (fun c0 rdb => ?_)
    (repeat' ((conv => whnf); first | refine Ob.auto ?_ | refine zI ?_ | refine zC 600 (qdi _ _) ?_ | refine zG 600 (fun hg => qdi _ _) ?_ | (refine zN 600 ?_) | (apply zB <;> intro hb <;> (try simp [-zd] at hb) <;> try (exfalso; omega)) | refine Ob.intro ?_ ?_))
    · refine Le.of_eq ?_
      rw [valN, if_pos (by assumption)]; rfl
    · have hvn := qvi hm p ((m.tree.getD k.toNat Nd.none).words.getD 0 [])
      ((conv => whnf); refine qhr (fun _ => rfl) (by kernel_rfl) 600 [iv (varN m p ((m.tree.getD k.toNat Nd.none).words.getD 0 []))] (by kernel_rfl) ?_)
      (repeat' ((conv => whnf); first | refine Ob.auto ?_ | (refine Ob.intro (by (first | exact ⟨by omega, by omega⟩ | exact ⟨_, jpi m hm p _, by rfl, LeL.refl _⟩)) ?_) | (refine zN 600 ?_) | (apply zB <;> intro hb <;> (try simp [-zd] at hb) <;> try (exfalso; omega)) | refine Ob.intro ?_ ?_))
      · refine Le.of_eq ?_
        rw [valN, if_neg (by assumption), if_pos (by assumption), if_pos (by assumption)]; rfl
      · refine Le.of_eq ?_
        rw [valN, if_neg (by assumption), if_pos (by assumption), if_neg (by omega)]; rfl
    · ((conv => whnf); refine qdp (fun _ => rfl) 600 1 [4, 6, 10] [0, 1, 2] (fun i : Nat => [(12, iv i)]) (fun _ => []) (fun i => i ≤ m.chans.length ∧ ∀ j, j < i → ((m.chans.getD j Ch.none).name == (m.tree.getD k.toNat Nd.none).words.getD 0 []) = false) (fun i => m.chans.length - i) (0) (⟨by omega, fun j hj => absurd hj (Nat.not_lt_zero j)⟩) qa qa (fun _ => rfl) (by kernel_rfl) ?_; (conv => whnf))
      intro i hi
      (repeat' ((conv => whnf); first | refine Ob.auto ?_ | refine zI ?_ | (refine zN 600 ?_) | (apply zB <;> intro hb <;> (try simp [-zd] at hb) <;> try (exfalso; omega)) | refine Ob.intro ?_ ?_))
      · refine Le.of_eq ?_
        have := qey (fun c : Ch => c.name == (m.tree.getD k.toNat Nd.none).words.getD 0 []) m.chans Ch.none i (by omega) (beq_iff_eq.2 (by assumption)) hi.2
        rw [valN, if_neg (by assumption), if_neg (by assumption), if_pos (by assumption), this, if_neg (by omega)]; rfl
      · ((conv => whnf); refine ⟨i + 1, ⟨by omega, qao hi.2 (beq_eq_false_iff_ne.2 (by assumption))⟩, ⟨qa, qa⟩, ⟨qa, qa⟩, ?_⟩; (first | omega | (dsimp only; omega) | skip))
      · refine Le.of_eq ?_
        have := qez (fun c : Ch => c.name == (m.tree.getD k.toNat Nd.none).words.getD 0 []) m.chans Ch.none (fun j hj => hi.2 j (by omega))
        rw [valN, if_neg (by assumption), if_neg (by assumption), if_pos (by assumption), this, if_pos (by omega)]; rfl
    · have hk := h20 (.inl (by assumption))
      have hb0 := hvb ((m.tree.getD k.toNat Nd.none).kids.getD 0 0)
      ((conv => whnf); refine qhr (fun _ => rfl) (by kernel_rfl) 600 [.tup [iv (valN m p s n ((m.tree.getD k.toNat Nd.none).kids.getD 0 0)).1, .bool (valN m p s n ((m.tree.getD k.toNat Nd.none).kids.getD 0 0)).2]] (by kernel_rfl) ?_)
      (repeat' ((conv => whnf); first | refine Ob.auto ?_ | (refine Ob.intro (by (first | exact ⟨by omega, by omega⟩ | exact ⟨_, ih _ (by omega) (by omega) (by omega), by rfl, LeL.refl _⟩)) ?_) | refine zC 600 (qdi _ _) ?_ | refine zG 600 (fun hg => qdi _ _) ?_ | (refine zN 600 ?_) | (apply zB <;> intro hb <;> (try simp [-zd] at hb) <;> try (exfalso; omega)) | refine Ob.intro ?_ ?_))
      refine Le.of_eq ?_
      rw [valN, if_neg (by assumption), if_neg (by assumption), if_neg (by assumption), if_pos (by assumption)]; rfl
    · have hk := h20 (.inr (by assumption))
      have hb0 := hvb ((m.tree.getD k.toNat Nd.none).kids.getD 0 0)
      have hv := qvj m p s n k (by assumption)
      ((conv => whnf); refine qhr (fun _ => rfl) (by kernel_rfl) 600 [.tup [iv (valN m p s n ((m.tree.getD k.toNat Nd.none).kids.getD 0 0)).1, .bool (valN m p s n ((m.tree.getD k.toNat Nd.none).kids.getD 0 0)).2]] (by kernel_rfl) ?_)
      (repeat' ((conv => whnf); first | refine Ob.auto ?_ | (refine Ob.intro (by (first | exact ⟨by omega, by omega⟩ | exact ⟨_, ih _ (by omega) (by omega) (by omega), by rfl, LeL.refl _⟩)) ?_) | refine zC 600 (qsk _) ?_ | refine zG 600 (fun hg => qsk _) ?_ | (refine zN 600 ?_) | (apply zB <;> intro hb <;> (try simp [-zd] at hb) <;> try (exfalso; omega)) | refine Ob.intro ?_ ?_))
      refine Le.of_eq ?_
      rw [hv]; rfl
    · have hk := h22 (by assumption)
      have hb0 := hvb ((m.tree.getD k.toNat Nd.none).kids.getD 0 0)
      have hb1 := hvb ((m.tree.getD k.toNat Nd.none).kids.getD 1 0)
      have hv := qvk m p s n k (by assumption)
      have hnt : (m.tree.getD k.toNat Nd.none).nums.getD (Int.toNat 0) 0 = (m.tree.getD k.toNat Nd.none).nums.getD 0 0 := rfl
      rw [hv]
      generalize hA : valN m p s n ((m.tree.getD k.toNat Nd.none).kids.getD 0 0) = A at hb0 hv ⊢
      generalize hB : valN m p s n ((m.tree.getD k.toNat Nd.none).kids.getD 1 0) = B at hb1 hv ⊢
      have ihA := ih ((m.tree.getD k.toNat Nd.none).kids.getD 0 0) (by omega) (by omega) (by omega)
      have ihB := ih ((m.tree.getD k.toNat Nd.none).kids.getD 1 0) (by omega) (by omega) (by omega)
      rw [hA] at ihA
      rw [hB] at ihB
      obtain ⟨a, x⟩ := A
      obtain ⟨b, y⟩ := B
      simp only at hb0 hb1
      ((conv => whnf); refine qhr (fun _ => rfl) (by kernel_rfl) 600 [.tup [iv a, .bool x]] (by kernel_rfl) ?_)
      (repeat' ((conv => whnf); first | refine Ob.auto ?_ | (refine Ob.intro (by (first | exact ⟨by omega, by omega⟩ | exact ⟨_, ihA, by rfl, LeL.refl _⟩)) ?_) | (refine zN 600 ?_) | (apply zB <;> intro hb <;> (try simp [-zd] at hb) <;> try (exfalso; omega)) | refine Ob.intro ?_ ?_))
      ((conv => whnf); refine qhr (fun _ => rfl) (by kernel_rfl) 600 [.tup [iv b, .bool y]] (by kernel_rfl) ?_)
      (repeat' ((conv => whnf); first | refine Ob.auto ?_ | (refine Ob.intro (by (first | exact ⟨by omega, by omega⟩ | exact ⟨_, ihB, by rfl, LeL.refl _⟩ | exact ja (by omega) (by omega))) ?_) | refine zC 600 (qsk _) ?_ | refine zG 600 (fun hg => qsk _) ?_ | refine zC 600 (jcy _ _ _ (by omega) (by omega)) ?_ | refine zG 600 (fun hg => jcy _ _ _ (by omega) (by omega)) ?_ | (refine zN 600 ?_) | (apply zB <;> intro hb <;> (try simp [-zd] at hb) <;> try (exfalso; omega)) | refine Ob.intro ?_ ?_))
      all_goals
        refine Le.of_eq ?_
        clear ih ihA ihB hm hs hnd h17 h18 h20 h22 hvb hA hB hv
        have hs8 := hk.2.2.2
        first
          | (rw [jlm _ hs8 (by assumption)]; rfl)
          | (rw [jln _ (And.left (by assumption))]
             first
               | (rw [jll _ _ _ hs8 (by omega) (by omega)]; rfl)
               | (rw [‹(m.tree.getD k.toNat Nd.none).nums.getD 0 0 = _›]; rfl))
    · refine Le.of_eq ?_
      rw [valN, if_neg (by assumption), if_neg (by assumption), if_neg (by assumption), if_neg (by assumption), if_neg (by assumption), if_neg (by assumption)]; rfl
end Go.Proofs.YtdoaagphhjggbaaGreat
end
