/- Some texts of the library, one behind the other. -/
import Derived.Test.YtdoaagphhjggbaaGreatQ19
import Derived.Test.YtdoaagphhjggbaaGreatQ31
import Derived.Test.YtdoaagphhjggbaaGreatQ22
import Derived.Test.YtdoaagphhjggbaaGreatQ4
import Derived.Test.YtdoaagphhjggbaaGreatQ2
section
/- The text of layer 15, parsed, and its model made: by the general contracts. -/
namespace Go.Proofs.YtdoaagphhjggbaaGreat
open Go Go.Sx Go.RowKit Go.St Pa
set_option maxRecDepth 100000
def qvj : List UInt8 := [99, 104, 97, 110, 32, 99, 91, 49, 93, 32, 111, 102, 32, 49, 59, 32, 112, 114, 111, 99, 32, 112, 32, 123, 32, 115, 101, 110, 100, 32, 99, 32, 49, 59, 32, 115, 101, 110, 100, 32, 99, 32, 49, 59, 32, 125]
def qiv : List Nd := [⟨0, [], [], [1, 2], 0⟩, ⟨1, [[99]], [1, 1, 0, 0], [], 0⟩, ⟨3, [[112]], [1], [3, 5], 16⟩, ⟨7, [[99]], [], [4], 25⟩, ⟨17, [], [1], [], 32⟩, ⟨7, [[99]], [], [6], 35⟩, ⟨17, [], [1], [], 42⟩]
def model15 : Md := { tree := qiv, globals := 0, chans := [⟨[99], 1, 1, false, false⟩], vars := [], procs := [⟨[112], 0, [], 3, [false, true, false], [⟨0, 2, 2, 4, (-1), 0, false, 3⟩, ⟨2, 1, 2, 6, (-1), 0, false, 5⟩], [], []⟩], safe := [], dead := false }
theorem px15 : quq qvj = (qiv, (0, 0)) := by kernel_rfl
theorem jpg : Con Tryz.prog 36 [.str qvj] (.tup [jo qiv, flt 0 0]) := by
 have h := jnt qvj (by decide)
 rw [jnu px15 (by decide)] at h
 exact h
theorem jdd : Tree qiv := qqw (by decide +kernel)
theorem jde : (qbs qiv).1 = 0 := by decide +kernel
theorem jdf : qgr qiv = model15 := by kernel_rfl
theorem jph : Con Tryz.prog 37 [jo qiv] (.tup [model15.av, .bool true]) := by
 have h := jdb qiv jdd jde
 rw [jdf] at h
 exact h
theorem jpi : ModOk model15 := jdf ▸ jcy jdd jde
end Go.Proofs.YtdoaagphhjggbaaGreat
end
section
/- Contracts: expressions, by the document's answer. -/
namespace Go.Proofs.YtdoaagphhjggbaaGreat
open List renaming getD_eq_getElem?_getD → zd
open Go Go.Sx Go.RowKit Go.St
set_option maxRecDepth 100000
set_option maxHeartbeats 2000000
theorem jpj (m : Md) (hm : MOk m) (p : Int) (s : List UInt8) : Con Tryz.prog 78 [m.av, iv p, .str s] (iv (varN m p s)) := by
 have hg := hm.glob
 have hsz := hm.sz
 refine qc (T := tab Tryz.prog) (C := {}) 300 (fun _ => rfl) Tryz.func78 rfl (by kernel_rfl) (by kernel_rfl) (fun c0 rdb => ?_)
 (repeat' ((conv => whnf); first | refine Ob.auto ?_ | (apply zB <;> intro hb <;> (try simp [-zd] at hb) <;> try (exfalso; omega))))
 ·have hp : 0 ≤ p ∧ p < m.procs.length := by assumption
  have hq := hm.procs _ (qj m.procs p.toNat Pr.none (by omega))
  have hq2 := hm.psz _ (qj m.procs p.toNat Pr.none (by omega))
  have hv : varN m p s = _ := if_pos hp
  ((conv => whnf); refine qdc (fun _ => rfl) 300 1 [2, 3, 7] [0, 1] (fun i : Nat => [(8, iv i)]) (fun _ => []) (fun i => i ≤ (m.procs.getD p.toNat Pr.none).names.length ∧ ∀ j, j < i → ((m.procs.getD p.toNat Pr.none).names.getD j [] == s) = false) (fun i => (m.procs.getD p.toNat Pr.none).names.length - i) (0) (⟨by omega, fun j hj => absurd hj (Nat.not_lt_zero j)⟩) qa qa (fun _ => rfl) (by kernel_rfl) ?_; (conv => whnf))
  intro i hi
  (repeat' ((conv => whnf); first | refine Ob.auto ?_ | (apply zB <;> intro hb <;> (try simp [-zd] at hb) <;> try (exfalso; omega))))
  ·refine Le.of_eq (congrArg (AV.int _) ?_)
   have := qen (· == s) (m.procs.getD p.toNat Pr.none).names [] i (by assumption) (beq_iff_eq.2 (by assumption)) hi.2
   rw [hv, this, if_neg (by omega)]
  ·((conv => whnf); refine ⟨i + 1, ⟨by omega, jp hi.2 (beq_eq_false_iff_ne.2 (by assumption))⟩, ⟨qa, qa⟩, ⟨qa, qa⟩, ?_⟩; (first | omega | (dsimp only; omega) | skip))
  ·refine Le.of_eq (congrArg (AV.int _) ?_)
   have := qeo (· == s) (m.procs.getD p.toNat Pr.none).names [] (fun j hj => hi.2 j (by omega))
   rw [hv, this, if_pos (by omega)]
 ·have hp : ¬ (0 ≤ p ∧ p < m.procs.length) := by omega
  have hv : varN m p s = _ := if_neg hp
  have htk : ∀ j : Nat, (j : Int) < m.globals → (m.vars.take m.globals.toNat).getD j Vr.none = m.vars.getD j Vr.none := fun j hj => by
   rw [zd, List.getElem?_take, if_pos (by omega), ← zd]
  have hl : (m.vars.take m.globals.toNat).length = m.globals.toNat := by rw [List.length_take]; omega
  ((conv => whnf); refine qdc (fun _ => rfl) 300 1 [2, 3] [0] (fun i : Nat => [(9, iv i)]) (fun _ => []) (fun i => (i : Int) ≤ m.globals ∧ ∀ j, j < i → ((m.vars.getD j Vr.none).name == s) = false) (fun i => m.globals.toNat - i) (0) (⟨by omega, fun j hj => absurd hj (Nat.not_lt_zero j)⟩) qa qa (fun _ => rfl) (by kernel_rfl) ?_; (conv => whnf))
  intro i hi
  (repeat' ((conv => whnf); first | refine Ob.auto ?_ | (apply zB <;> intro hb <;> (try simp [-zd] at hb) <;> try (exfalso; omega))))
  ·refine Le.of_eq (congrArg (AV.int _) ?_)
   have := qen (fun v : Vr => v.name == s) (m.vars.take m.globals.toNat) Vr.none i (by omega) (by rw [htk i (by omega)]; exact beq_iff_eq.2 (by assumption)) (fun j hj => by rw [htk j (by omega)]; exact hi.2 j hj)
   rw [hv, this]
  ·((conv => whnf); refine ⟨i + 1, ⟨by omega, jp hi.2 (beq_eq_false_iff_ne.2 (by assumption))⟩, ⟨qa, qa⟩, ⟨qa, qa⟩, ?_⟩; (first | omega | (dsimp only; omega) | skip))
  ·refine Le.of_eq (congrArg (AV.int _) ?_)
   have := qeo (fun v : Vr => v.name == s) (m.vars.take m.globals.toNat) Vr.none (fun j hj => by rw [htk j (by omega)]; exact hi.2 j (by omega))
   rw [hv, this]
theorem qvk (m : Md) (hm : MOk m) (p : Int) (s : Stt) (hs : SOk m s) : ∀ (n : Nat) (k : Int), 0 ≤ k → k < m.tree.length → m.tree.length - k.toNat ≤ n → Con Tryz.prog 49 [m.av, iv p, s.av, iv k] (qjr (valN m p s n k)) := by
  intro n
  induction n with
  | zero => intro k h0 h1 h2; omega
  | succ n ih =>
    intro k h0 h1 h2
    have hnd := hm.tree k.toNat (by omega)
    have h17 := hnd.num
    have h18 := hnd.word
    have h20 := hnd.un
    have h22 := hnd.bin
    have hsz := hm.sz
    have hvb := qzi hm hs p n
    have hvl := hs.vl
    have hcl := hs.cl
    refine qc (T := tab Tryz.prog) (C := {}) 600 (fun _ => rfl) Tryz.func49 rfl (by kernel_rfl) (by kernel_rfl) (fun c0 rdb => ?_)
    (repeat' ((conv => whnf); first | refine Ob.auto ?_ | refine zC 600 (qex _ _) ?_ | (apply zB <;> intro hb <;> (try simp [-zd] at hb) <;> try (exfalso; omega))))
    · refine Le.of_eq ?_
      rw [valN, if_pos (by assumption)]; rfl
    · have hvn := qtl hm p ((m.tree.getD k.toNat Nd.none).words.getD 0 [])
      ((conv => whnf); refine qha (fun _ => rfl) (by kernel_rfl) 600 [iv (varN m p ((m.tree.getD k.toNat Nd.none).words.getD 0 []))] (by kernel_rfl) ?_)
      (repeat' ((conv => whnf); first | refine Ob.auto ?_ | (refine Ob.intro (by (first | exact ⟨by omega, by omega⟩ | exact ⟨_, jpj m hm p _, by rfl, LeL.refl _⟩)) ?_) | (apply zB <;> intro hb <;> (try simp [-zd] at hb) <;> try (exfalso; omega))))
      · refine Le.of_eq ?_
        rw [valN, if_neg (by assumption), if_pos (by assumption), if_pos (by assumption)]; rfl
      · refine Le.of_eq ?_
        rw [valN, if_neg (by assumption), if_pos (by assumption), if_neg (by omega)]; rfl
    · ((conv => whnf); refine qdc (fun _ => rfl) 600 1 [4, 6, 10] [0, 1, 2] (fun i : Nat => [(12, iv i)]) (fun _ => []) (fun i => i ≤ m.chans.length ∧ ∀ j, j < i → ((m.chans.getD j Ch.none).name == (m.tree.getD k.toNat Nd.none).words.getD 0 []) = false) (fun i => m.chans.length - i) (0) (⟨by omega, fun j hj => absurd hj (Nat.not_lt_zero j)⟩) qa qa (fun _ => rfl) (by kernel_rfl) ?_; (conv => whnf))
      intro i hi
      (repeat' ((conv => whnf); first | refine Ob.auto ?_ | (refine zN 600 ?_) | (apply zB <;> intro hb <;> (try simp [-zd] at hb) <;> try (exfalso; omega))))
      · refine Le.of_eq ?_
        have := qen (fun c : Ch => c.name == (m.tree.getD k.toNat Nd.none).words.getD 0 []) m.chans Ch.none i (by omega) (beq_iff_eq.2 (by assumption)) hi.2
        rw [valN, if_neg (by assumption), if_neg (by assumption), if_pos (by assumption), this, if_neg (by omega)]; rfl
      · ((conv => whnf); refine ⟨i + 1, ⟨by omega, jp hi.2 (beq_eq_false_iff_ne.2 (by assumption))⟩, ⟨qa, qa⟩, ⟨qa, qa⟩, ?_⟩; (first | omega | (dsimp only; omega) | skip))
      · refine Le.of_eq ?_
        have := qeo (fun c : Ch => c.name == (m.tree.getD k.toNat Nd.none).words.getD 0 []) m.chans Ch.none (fun j hj => hi.2 j (by omega))
        rw [valN, if_neg (by assumption), if_neg (by assumption), if_pos (by assumption), this, if_pos (by omega)]; rfl
    · have hk := h20 (.inl (by assumption))
      have hb0 := hvb ((m.tree.getD k.toNat Nd.none).kids.getD 0 0)
      ((conv => whnf); refine qha (fun _ => rfl) (by kernel_rfl) 600 [.tup [iv (valN m p s n ((m.tree.getD k.toNat Nd.none).kids.getD 0 0)).1, .bool (valN m p s n ((m.tree.getD k.toNat Nd.none).kids.getD 0 0)).2]] (by kernel_rfl) ?_)
      (repeat' ((conv => whnf); first | refine Ob.auto ?_ | (refine Ob.intro (by (first | exact ⟨by omega, by omega⟩ | exact ⟨_, ih _ (by omega) (by omega) (by omega), by rfl, LeL.refl _⟩)) ?_) | refine zC 600 (qex _ _) ?_ | fail))
      refine Le.of_eq ?_
      rw [valN, if_neg (by assumption), if_neg (by assumption), if_neg (by assumption), if_pos (by assumption)]; rfl
    · have hk := h20 (.inr (by assumption))
      have hb0 := hvb ((m.tree.getD k.toNat Nd.none).kids.getD 0 0)
      have hv := qtm m p s n k (by assumption)
      ((conv => whnf); refine qha (fun _ => rfl) (by kernel_rfl) 600 [.tup [iv (valN m p s n ((m.tree.getD k.toNat Nd.none).kids.getD 0 0)).1, .bool (valN m p s n ((m.tree.getD k.toNat Nd.none).kids.getD 0 0)).2]] (by kernel_rfl) ?_)
      (repeat' ((conv => whnf); first | refine Ob.auto ?_ | (refine Ob.intro (by (first | exact ⟨by omega, by omega⟩ | exact ⟨_, ih _ (by omega) (by omega) (by omega), by rfl, LeL.refl _⟩)) ?_) | refine zC 600 (jbz _) ?_ | fail))
      refine Le.of_eq ?_
      rw [hv]; rfl
    · have hk := h22 (by assumption)
      have hb0 := hvb ((m.tree.getD k.toNat Nd.none).kids.getD 0 0)
      have hb1 := hvb ((m.tree.getD k.toNat Nd.none).kids.getD 1 0)
      have hv := qtn m p s n k (by assumption)
      have hnt : (m.tree.getD k.toNat Nd.none).nums.getD (Int.toNat 0) 0 = (m.tree.getD k.toNat Nd.none).nums.getD 0 0 := rfl
      rw [hv]
      generalize hA : valN m p s n ((m.tree.getD k.toNat Nd.none).kids.getD 0 0) = A at hb0 hv ⊢
      generalize hB : valN m p s n ((m.tree.getD k.toNat Nd.none).kids.getD 1 0) = B at hb1 hv ⊢
      have ihA := ih ((m.tree.getD k.toNat Nd.none).kids.getD 0 0) (by omega) (by omega) (by omega)
      have ihB := ih ((m.tree.getD k.toNat Nd.none).kids.getD 1 0) (by omega) (by omega) (by omega)
      rw [hA] at ihA
      rw [hB] at ihB
      obtain ⟨a, x⟩ := A
      obtain ⟨b, y⟩ := B
      simp only at hb0 hb1
      ((conv => whnf); refine qha (fun _ => rfl) (by kernel_rfl) 600 [.tup [iv a, .bool x]] (by kernel_rfl) ?_)
      (repeat' ((conv => whnf); first | refine Ob.auto ?_ | (refine Ob.intro (by (first | exact ⟨by omega, by omega⟩ | exact ⟨_, ihA, by rfl, LeL.refl _⟩)) ?_) | fail))
      ((conv => whnf); refine qha (fun _ => rfl) (by kernel_rfl) 600 [.tup [iv b, .bool y]] (by kernel_rfl) ?_)
      (repeat' ((conv => whnf); first | refine Ob.auto ?_ | (refine Ob.intro (by (first | exact ⟨by omega, by omega⟩ | exact ⟨_, ihB, by rfl, LeL.refl _⟩ | exact qct (by omega) (by omega))) ?_) | refine zC 600 (jbz _) ?_ | refine zC 600 (jog _ _ _ (by omega) (by omega)) ?_ | (apply zB <;> intro hb <;> (try simp [-zd] at hb) <;> try (exfalso; omega))))
      all_goals
        refine Le.of_eq ?_
        clear ih ihA ihB hm hs hnd h17 h18 h20 h22 hvb hA hB hv
        have hs8 := hk.2.2.2
        first
          | (rw [jkz _ hs8 (by assumption)]; rfl)
          | (rw [jla _ (And.left (by assumption))]
             first
               | (rw [jky _ _ _ hs8 (by omega) (by omega)]; rfl)
               | (rw [‹(m.tree.getD k.toNat Nd.none).nums.getD 0 0 = _›]; rfl))
    · refine Le.of_eq ?_
      rw [valN, if_neg (by assumption), if_neg (by assumption), if_neg (by assumption), if_neg (by assumption), if_neg (by assumption), if_neg (by assumption)]; rfl
end Go.Proofs.YtdoaagphhjggbaaGreat
end
section
/- Contracts: states, by the document's answer. -/
namespace Go.Proofs.YtdoaagphhjggbaaGreat
open List renaming getD_eq_getElem?_getD → zd
open Go Go.Sx Go.RowKit Go.St
set_option maxRecDepth 100000
set_option maxHeartbeats 2000000
theorem jpk (m : Md) (hm : MOk m) : Trip Tryz.prog 38 [m.av] []
  (.agg [.own 3 0 0 m.procs.length, .own 4 0 0 m.vars.length, .own 5 0 0 m.chans.length, iv (-1)])
  [(3, .row [] 3 1 0 m.procs.length (fun _ => [iv 0])), (4, .row [] 3 1 0 m.vars.length (fun i => [iv (m.vars.getD i Vr.none).value])), (5, .row [] 23 1 0 m.chans.length (fun _ => [.nils]))] 6 := by
 have hsz := hm.sz
 refine qck (T := tab Tryz.prog) (C := {}) 300 (fun _ => rfl) Tryz.func38 rfl (by kernel_rfl) (by kernel_rfl) (fun c0 rdb mpb => ?_)
 (repeat' ((conv => whnf); first | exact trivial))
 refine qbw 2 0 3 1 rfl rfl ?_
 ((conv => whnf); refine qdc (fun _ => rfl) 300 1 [1, 2, 3] [0, 1] (fun i : Nat => [(4, iv i)]) (fun i => [(2, .box 34 [.own 3 0 0 i, .nils, .nils, iv (-1)]), (3, .row [] 3 1 0 i (fun _ => [iv 0]))]) (fun i => i ≤ m.procs.length) (fun i => m.procs.length - i) (0) (by omega) qa qa (fun _ => rfl) (by kernel_rfl) ?_; (conv => whnf))
 intro i hi
 (repeat' ((conv => whnf); first | refine Ob.auto ?_ | (apply zB <;> intro hb <;> (try simp [-zd] at hb) <;> try (exfalso; omega))))
 ·((conv => whnf); refine ⟨i + 1, by omega, ⟨qa, qa⟩, ⟨qa, qa⟩, ?_⟩; (first | omega | (dsimp only; omega) | skip))
 obtain rfl : i = m.procs.length := by omega
 clear hi hb
 refine qbw 2 1 3 1 rfl rfl ?_
 ((conv => whnf); refine qdc (fun _ => rfl) 300 2 [1, 2, 3] [0, 1, 3] (fun i : Nat => [(5, iv i)]) (fun i => [(2, .box 34 [.own 3 0 0 m.procs.length, .own 4 0 0 i, .nils, iv (-1)]), (4, .row [] 3 1 0 i (fun i => [iv (m.vars.getD i Vr.none).value]))]) (fun i => i ≤ m.vars.length) (fun i => m.vars.length - i) (0) (by omega) qa qa (fun _ => rfl) (by kernel_rfl) ?_; (conv => whnf))
 intro i hi
 (repeat' ((conv => whnf); first | refine Ob.auto ?_ | (refine zN 300 ?_) | (apply zB <;> intro hb <;> (try simp [-zd] at hb) <;> try (exfalso; omega))))
 ·((conv => whnf); refine ⟨i + 1, by omega, ⟨qa, qa⟩, ⟨qa, qa⟩, ?_⟩; (first | omega | (dsimp only; omega) | skip))
 obtain rfl : i = m.vars.length := by omega
 clear hi hb
 refine qbw 2 2 23 1 rfl rfl ?_
 ((conv => whnf); refine qdc (fun _ => rfl) 300 3 [1, 2, 3] [0, 1, 3, 4] (fun i : Nat => [(6, iv i)]) (fun i => [(2, .box 34 [.own 3 0 0 m.procs.length, .own 4 0 0 m.vars.length, .own 5 0 0 i, iv (-1)]), (5, .row [] 23 1 0 i (fun i => [.nils]))]) (fun i => i ≤ m.chans.length) (fun i => m.chans.length - i) (0) (by omega) qa qa (fun _ => rfl) (by kernel_rfl) ?_; (conv => whnf))
 intro i hi
 (repeat' ((conv => whnf); first | refine Ob.auto ?_ | (apply zB <;> intro hb <;> (try simp [-zd] at hb) <;> try (exfalso; omega))))
 ·((conv => whnf); refine ⟨i + 1, by omega, ⟨qa, qa⟩, ⟨qa, qa⟩, ?_⟩; (first | omega | (dsimp only; omega) | skip))
 obtain rfl : i = m.chans.length := by omega
 (conv => whnf)
 exact ⟨Le.refl _, qa⟩
theorem jpl (m : Md) (hm : MOk m) (l : List Int) : Con Tryz.prog 12 [m.av, ints l] (qay m l).av := by
 have hsz := hm.sz
 have hpl := hm.place
 have hch := hm.chan
 refine qc (T := tab Tryz.prog) (C := {}) 300 (fun _ => rfl) Tryz.func12 rfl (by kernel_rfl) (by kernel_rfl) (fun c0 rdb => ?_)
 (repeat' ((conv => whnf); first | exact trivial))
 ((conv => whnf); refine zT 300 [] (jpk m hm) qa ?_)
 (repeat' ((conv => whnf); first | refine Ob.auto ?_ | fail))
 ((conv => whnf); refine qdc (fun _ => rfl) 300 1 [1, 2, 4, 5] [0, 1, 6, 7, 8] (fun i : Nat => [(6, iv i), (7, iv i)]) (fun i => [(5, .row [] 3 1 0 m.procs.length (fun j => [if j < i then iv (qbr l j (m.procs.getD j Pr.none).places) else iv 0]))]) (fun i => i ≤ m.procs.length) (fun i => m.procs.length - i) (0) (by omega) qa qa (fun _ => rfl) (by kernel_rfl) ?_; (conv => whnf))
 intro i hi
 (repeat' ((conv => whnf); first | refine Ob.auto ?_ | (apply zB <;> intro hb <;> (try simp [-zd] at hb) <;> try (exfalso; omega))))
 ·have hpi := hpl _ (qj m.procs i Pr.none (by omega))
  ((conv => whnf); refine qha (fun _ => rfl) (by kernel_rfl) 300 [iv (qbr l i (m.procs.getD i Pr.none).places)] (by kernel_rfl) ?_)
  (repeat' ((conv => whnf); first | refine Ob.auto ?_ | (refine Ob.intro (by (first | exact ⟨by omega, by omega⟩ | exact ⟨_, qqz l i (m.procs.getD i Pr.none).places (by omega) (by omega), by rfl, LeL.refl _⟩)) ?_) | fail))
  ((conv => whnf); refine ⟨i + 1, by omega, ⟨qa, qa⟩, ⟨qa, qa⟩, ?_⟩; (first | omega | (dsimp only; omega) | skip))
 obtain rfl : i = m.procs.length := by omega
 clear hi hb
 ((conv => whnf); refine qdc (fun _ => rfl) 300 2 [1, 2, 4, 5] [0, 1, 5, 7, 8] (fun i : Nat => [(6, iv (m.procs.length + i : Nat)), (8, iv i)]) (fun i => [(6, .row [] 3 1 0 m.vars.length (fun j => [if j < i then iv (trim (qbr l (m.procs.length + j : Nat) 256) (m.vars.getD j Vr.none).width) else iv (m.vars.getD j Vr.none).value]))]) (fun i => i ≤ m.vars.length) (fun i => m.vars.length - i) (0) (by omega) qa qa (fun _ => rfl) (by kernel_rfl) ?_; (conv => whnf))
 intro i hi
 (repeat' ((conv => whnf); first | refine Ob.auto ?_ | (apply zB <;> intro hb <;> (try simp [-zd] at hb) <;> try (exfalso; omega))))
 ·((conv => whnf); refine qha (fun _ => rfl) (by kernel_rfl) 300 [iv (qbr l (m.procs.length + i : Nat) 256), iv (trim (qbr l (m.procs.length + i : Nat) 256) (m.vars.getD i Vr.none).width)] (by kernel_rfl) ?_)
  (repeat' ((conv => whnf); first | refine Ob.auto ?_ | (refine Ob.intro (by (first | exact ⟨by omega, by omega⟩ | exact ⟨_, qqz l (m.procs.length + i : Nat) 256 (by omega) (by omega), by rfl, LeL.refl _⟩ | exact ⟨_, qex _ (m.vars.getD i Vr.none).width, by rfl, LeL.refl _⟩)) ?_) | fail))
  ((conv => whnf); refine ⟨i + 1, by omega, ⟨qa, qa⟩, ⟨qa, qa⟩, ?_⟩; (first | omega | (dsimp only; omega) | skip))
 obtain rfl : i = m.vars.length := by omega
 clear hi hb
 refine qym 7 3 1 rfl (fun _ _ => rfl) ?_
 ((conv => whnf); refine qdc (fun _ => rfl) 300 3 [1, 2, 4, 5] [0, 1, 5, 6, 8] (fun i : Nat => [(6, iv (kAt m l i)), (9, iv i)]) (fun i => [(7, .row [9] 23 1 0 m.chans.length (fun k => [.own 9 k 0 (lenQ (nAt m l) i 0 k)])), (9, .fam 3 1 m.chans.length (fun _ => 0) (lenQ (nAt m l) i 0) (fun k q => [iv (qhi m l k q)]))]) (fun i => i ≤ m.chans.length) (fun i => m.chans.length - i) (0) (by omega) qa ⟨qbh (fun k _ => by rw [qyp]), qea (fun _ _ => rfl) (fun k _ => (qyp _ k).symm) (fun k j _ hj => absurd hj (Nat.not_lt_zero _)), trivial⟩ (fun _ => rfl) (by kernel_rfl) ?_; (conv => whnf))
 intro i hi
 have hci : i < m.chans.length → 0 ≤ (m.chans.getD i Ch.none).room ∧ (m.chans.getD i Ch.none).room ≤ 3 := fun h => hch _ (qj m.chans i Ch.none h)
 have hki := qzj m hch l i hi
 (repeat' ((conv => whnf); first | refine Ob.auto ?_ | (refine Ob.intro (by (exact qct (by have := hci (by omega); simp at *; omega) (by have := hci (by omega); simp at *; omega))) ?_) | (apply zB <;> intro hb <;> (try simp [-zd] at hb) <;> try (exfalso; omega)) | refine Ob.intro ?_ ?_ | fail))
 ·have hci := hci (by omega)
  have hpb := qqf l (kAt m l i) ((m.chans.getD i Ch.none).room + 1) (by omega)
  have hni : (nAt m l i : Int) = qbr l (kAt m l i) ((m.chans.getD i Ch.none).room + 1) := by unfold nAt; omega
  refine qxj (fun _ => rfl) 300 (res := iv (nAt m l i)) (by rw [hni]; exact qqz l (kAt m l i) ((m.chans.getD i Ch.none).room + 1) (by omega) (by omega)) (by rfl) (by kernel_rfl) ?_
  (repeat' ((conv => whnf); first | refine Ob.auto ?_ | fail))
  ((conv => whnf); refine qdc (fun _ => rfl) 300 4 [1, 2, 4, 5, 9, 10] [0, 1, 5, 6, 8] (fun q : Nat => [(6, iv (kAt m l i + 1 + q : Nat)), (11, iv q)]) (fun q => [(7, .row [9] 23 1 0 m.chans.length (fun k => [.own 9 k 0 (lenQ (nAt m l) i q k)])), (9, .fam 3 1 m.chans.length (fun _ => 0) (lenQ (nAt m l) i q) (fun k q => [iv (qhi m l k q)]))]) (fun q => q ≤ nAt m l i) (fun q => nAt m l i - q) (0) (by omega) qa qa (fun _ => rfl) (by kernel_rfl) ?_; (conv => whnf))
  intro q hq
  (repeat' ((conv => whnf); first | refine Ob.auto ?_ | (apply zB <;> intro hb <;> (try simp [-zd] at hb) <;> try (exfalso; omega))))
  ·((conv => whnf); refine qaw (fun _ => rfl) (by kernel_rfl) 300 [.con (iv (qbr l (kAt m l i + 1 + q : Nat) 256)), .con (iv (qhi m l i q))] (by kernel_rfl) ?_)
   (repeat' ((conv => whnf); first | refine Ob.auto ?_ | (refine Ob.intro (by (first | exact ⟨by omega, by omega⟩ | exact qct (by omega) (by omega) | exact ⟨_, qqz l (kAt m l i + 1 + q : Nat) 256 (by omega) (by omega), by rfl, LeL.refl _⟩ | exact ⟨_, qex _ (m.chans.getD i Ch.none).width, by rfl, LeL.refl _⟩)) ?_) | refine Ob.intro ?_ ?_ | fail))
   ·have hlq : lenQ (nAt m l) i q (i : Int).toNat = q := qsw _ _ _
    refine ⟨by omega, ⟨rfl, rfl⟩, by omega, ?_⟩
    dsimp only
    refine Nat.le_trans (Nat.mul_le_mul_right _ (?_ : _ ≤ 4000001)) (by decide +kernel); omega
   ·exact ⟨⟨⟨rfl, rfl⟩, by omega⟩, by omega, by simp [upd], by simp [upd]⟩
   ·have hlq : lenQ (nAt m l) i q (i : Int).toNat = q := qsw _ _ _
    ((conv => whnf); refine ⟨q + 1, by omega, ⟨qa, ⟨⟨⟨rfl, rfl, rfl⟩, rfl, rfl, qyn (by simp [qak, qsw]; rfl) (fun j _ hne => by have hne' : j ≠ i := hne; simp [lenQ, hne'])⟩, qea (fun k _ => by simp [upd]) (fun k _ => by rw [hlq]; exact jjt _ _ _ _) (fun k j _ hj => by rw [hlq] at hj ⊢; exact jjv (g := fun k q => [iv (qhi m l k q)]) rfl (fun hk => by subst hk; simpa [upd] using hj)), trivial⟩⟩, ⟨qa, qa⟩, ?_⟩; (first | omega | (dsimp only; omega) | skip))
  ·obtain rfl : q = nAt m l i := by omega
   ((conv => whnf); refine ⟨i + 1, by omega, ⟨qa, ⟨qbh (fun k _ => by rw [qyo]), qea (fun _ _ => rfl) (fun k _ => qyo _ _ _) (fun _ _ _ _ => rfl), trivial⟩⟩, ⟨qa, qa⟩, ?_⟩; (first | omega | (dsimp only; omega) | skip))
 ·exact ⟨⟨trivial, ⟨rfl, rfl⟩, trivial⟩, ⟨trivial, ⟨rfl, rfl⟩, trivial⟩, ⟨trivial, ⟨rfl, rfl⟩, fun k hk => ⟨⟨hk, ⟨rfl, rfl⟩, trivial⟩, trivial⟩⟩, trivial, trivial⟩
 ·obtain rfl : i = m.chans.length := by omega
  refine Le.agg ⟨Le.slc (by simp [qay]) (fun j hj => ?_), Le.slc (by simp [qay]) (fun j hj => ?_), Le.slcL (by simp [qay]) (fun j hj => ?_), Le.refl _, trivial⟩
  ·show [if j < m.procs.length then iv (qbr l j (m.procs.getD j Pr.none).places) else iv 0] = [iv ((qay m l).at_.getD j 0)]
   rw [if_pos hj, qay, qik _ _ _ _ hj]
  ·show [if j < m.vars.length then iv (trim (qbr l (m.procs.length + j : Nat) 256) (m.vars.getD j Vr.none).width) else iv (m.vars.getD j Vr.none).value] = [iv ((qay m l).vars.getD j 0)]
   rw [if_pos hj, qay, qik _ _ _ _ hj]
  ·show LeL [.slc 1 (lenQ (nAt m l) m.chans.length 0 j) (fun q => [iv (qhi m l j q)])] [ints ((qay m l).chans.getD j [])]
   rw [jju _ hj, qay, qik _ _ _ _ hj]
   refine ⟨Le.slc (by simp) (fun q hq => ?_), trivial⟩
   show [iv (qhi m l j q)] = [iv (((List.range (nAt m l j)).map fun q => qhi m l j q).getD q 0)]
   rw [qik _ _ _ _ hq]
end Go.Proofs.YtdoaagphhjggbaaGreat
end
