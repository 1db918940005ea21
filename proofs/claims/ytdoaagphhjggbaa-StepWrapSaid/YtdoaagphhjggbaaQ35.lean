/- Some texts of the library, one behind the other. -/
import Derived.Test.YtdoaagphhjggbaaQSt7
import Derived.Test.YtdoaagphhjggbaaQ33
import Derived.Test.YtdoaagphhjggbaaQMkQ
import Derived.Test.YtdoaagphhjggbaaQ30
import Derived.Test.YtdoaagphhjggbaaQ2
section
/- Contracts: the program's expressions, and what is safe. -/
namespace Go.Proofs.Ytdoaagphhjggbaa
open Go Go.Sx Go.RowKit Go.St
set_option maxRecDepth 100000
set_option maxHeartbeats 2000000

theorem qvm {m : Md} {s : Stt} (hm : MOk m) (h : qy m s = true) : SOk m s := by
 obtain ⟨h0, hA, hV, hC⟩ := (qau m s).1 h
 refine ⟨h0.2.1, h0.2.2.1, fun v hv => ?_, fun c hc => ?_⟩
 ·obtain ⟨i, hi, rfl⟩ := List.mem_iff_getElem.1 hv
  have h1 := hV i hi
  have h2 := qqu (s.vars.getD i 0) (m.vars.getD i Vr.none).width
  unfold qnw at h1
  rw [h1] at h2
  rw [List.getD_eq_getElem?_getD, List.getElem?_eq_getElem hi] at h2
  simp only [Option.getD_some] at h2
  omega
 ·obtain ⟨i, hi, rfl⟩ := List.mem_iff_getElem.1 hc
  have h1 := (hC i hi).1
  have h2 := hm.chan _ (qp m.chans i Ch.none (by omega))
  unfold qjp at h1
  rw [List.getD_eq_getElem?_getD, List.getElem?_eq_getElem hi] at h1
  simp only [Option.getD_some] at h1
  omega

def sval (m : Md) (p : Int) (s : Stt) (k : Int) : Int × Bool := if 0 ≤ k ∧ k < m.tree.length ∧ qy m s = true then val m p s k else (0, false)

theorem qit (m : Md) (hm : MOk m) (p : Int) (s : Stt) (hs : SSz s) (k : Int) : Con Try.prog 12 [m.av, iv p, s.av, iv k] (qkz (sval m p s k)) := by
 have hsz := hm.sz
 by_cases hf : 0 ≤ k ∧ k < m.tree.length ∧ qy m s = true
 ·have hso := qvm hm hf.2.2
  refine qi (T := tab Try.prog) (C := {}) 300 (fun _ => rfl) Try.func12 rfl (by kernel_rfl) (by kernel_rfl) (fun c0 rdb => ?_)
  (repeat' ((conv => whnf); first | refine zO ?_ | refine Ob.auto ?_ | refine zC 300 (js m s hs) ?_ | refine zG 300 (fun hg => js m s hs) ?_ | refine zX (js m s hs) ?_ | refine zY (fun hg => js m s hs) ?_ | refine zC 300 (qfe m p s) ?_ | refine zG 300 (fun hg => qfe m p s) ?_ | refine zX (qfe m p s) ?_ | refine zY (fun hg => qfe m p s) ?_ | refine zC 300 (qff m hm p s hso m.tree.length k (by omega) (by omega) (by omega)) ?_ | refine zG 300 (fun hg => qff m hm p s hso m.tree.length k (by omega) (by omega) (by omega)) ?_ | refine zX (qff m hm p s hso m.tree.length k (by omega) (by omega) (by omega)) ?_ | refine zY (fun hg => qff m hm p s hso m.tree.length k (by omega) (by omega) (by omega)) ?_ | refine zE 300 (js m s hs) ?_ | refine zF 300 (fun hg => js m s hs) ?_ | refine zE 300 (qfe m p s) ?_ | refine zF 300 (fun hg => qfe m p s) ?_ | refine zE 300 (qff m hm p s hso m.tree.length k (by omega) (by omega) (by omega)) ?_ | refine zF 300 (fun hg => qff m hm p s hso m.tree.length k (by omega) (by omega) (by omega)) ?_ | (refine qw (fun _ => rfl) (by kernel_rfl) 300 ?_) | (apply zB <;> intro hb <;> (try simp [-List.getD_eq_getElem?_getD] at hb) <;> try (exfalso; omega)) | refine Ob.intro ?_ ?_))
  ·exfalso; rcases hb with hb | hb
   ·omega
   ·rw [hf.2.2] at hb; cases hb
  ·refine Le.of_eq ?_
   rw [sval, if_pos hf]; rfl
 ·refine qi (T := tab Try.prog) (C := {}) 300 (fun _ => rfl) Try.func12 rfl (by kernel_rfl) (by kernel_rfl) (fun c0 rdb => ?_)
  (repeat' ((conv => whnf); first | refine zO ?_ | refine Ob.auto ?_ | refine zC 300 (js m s hs) ?_ | refine zG 300 (fun hg => js m s hs) ?_ | refine zX (js m s hs) ?_ | refine zY (fun hg => js m s hs) ?_ | refine zE 300 (js m s hs) ?_ | refine zF 300 (fun hg => js m s hs) ?_ | (refine qw (fun _ => rfl) (by kernel_rfl) 300 ?_) | (apply zB <;> intro hb <;> (try simp [-List.getD_eq_getElem?_getD] at hb) <;> try (exfalso; omega)) | refine Ob.intro ?_ ?_))
  ·refine Le.of_eq ?_
   rw [sval, if_neg hf]; rfl
  ·exact absurd ⟨hb.1.1, hb.1.2, hb.2⟩ hf

theorem jnt (m : Md) (hm : MOk m) (s : Stt) (hs : SSz s) : Con Try.prog 13 [m.av, s.av] (.bool (m.safe.isEmpty || qy m s && qnt m s)) := by
 have hsz := hm.sz
 have hsf := hm.safe
 by_cases hf : qy m s = true
 ·have hso := qvm hm hf
  refine qi (T := tab Try.prog) (C := {}) 300 (fun _ => rfl) Try.func13 rfl (by kernel_rfl) (by kernel_rfl) (fun c0 rdb => ?_)
  (repeat' ((conv => whnf); first | refine zO ?_ | refine Ob.auto ?_ | refine zC 300 (js m s hs) ?_ | refine zG 300 (fun hg => js m s hs) ?_ | refine zX (js m s hs) ?_ | refine zY (fun hg => js m s hs) ?_ | refine zC 300 (qfe m (-1) s) ?_ | refine zG 300 (fun hg => qfe m (-1) s) ?_ | refine zX (qfe m (-1) s) ?_ | refine zY (fun hg => qfe m (-1) s) ?_ | refine zE 300 (js m s hs) ?_ | refine zF 300 (fun hg => js m s hs) ?_ | refine zE 300 (qfe m (-1) s) ?_ | refine zF 300 (fun hg => qfe m (-1) s) ?_ | (refine qw (fun _ => rfl) (by kernel_rfl) 300 ?_) | (apply zB <;> intro hb <;> (try simp [-List.getD_eq_getElem?_getD] at hb) <;> try (exfalso; omega)) | refine Ob.intro ?_ ?_))
  ·refine Le.of_eq (congrArg AV.bool ?_)
   simp [hb]
  ·rw [hf] at hb; cases hb
  ·rename_i hne
   have hemp : m.safe.isEmpty = false := by simp [hne]
   ((conv => whnf); refine jf (fun _ => rfl) 300 1 (fun i : Nat => [(24, iv i)]) (fun _ => []) (fun i => i ≤ m.safe.length ∧ ∀ j, j < i → qqv m s (m.safe.getD j 0) = true) (fun i => m.safe.length - i) (0) (⟨by omega, fun j hj => absurd hj (Nat.not_lt_zero j)⟩) qa qa (fun _ => rfl) (by kernel_rfl) ?_; (conv => whnf))
   intro i hi
   have hki : i < m.safe.length → _ := fun h => hsf _ (qp m.safe i 0 h)
   (repeat' ((conv => whnf); first | refine zO ?_ | refine Ob.auto ?_ | refine zC 300 (qff m hm (-1) s hso m.tree.length (m.safe.getD i 0) (hki (by omega)).1 (hki (by omega)).2 (by omega)) ?_ | refine zG 300 (fun hg => qff m hm (-1) s hso m.tree.length (m.safe.getD i 0) (hki (by omega)).1 (hki (by omega)).2 (by omega)) ?_ | refine zX (qff m hm (-1) s hso m.tree.length (m.safe.getD i 0) (hki (by omega)).1 (hki (by omega)).2 (by omega)) ?_ | refine zY (fun hg => qff m hm (-1) s hso m.tree.length (m.safe.getD i 0) (hki (by omega)).1 (hki (by omega)).2 (by omega)) ?_ | refine zE 300 (qff m hm (-1) s hso m.tree.length (m.safe.getD i 0) (hki (by omega)).1 (hki (by omega)).2 (by omega)) ?_ | refine zF 300 (fun hg => qff m hm (-1) s hso m.tree.length (m.safe.getD i 0) (hki (by omega)).1 (hki (by omega)).2 (by omega)) ?_ | (refine qw (fun _ => rfl) (by kernel_rfl) 300 ?_) | (apply zB <;> intro hb <;> (try simp [-List.getD_eq_getElem?_getD] at hb) <;> try (exfalso; omega)) | refine Ob.intro ?_ ?_))
   ·refine Le.of_eq (congrArg AV.bool ?_)
    rw [hf, hemp, Bool.false_or, Bool.true_and]
    refine (jka 0 (j := i) (by omega) ?_).symm
    simp only [qqv, val]
    rcases hb with hb | hb <;> simp [-List.getD_eq_getElem?_getD, hb]
   ·((conv => whnf); refine ⟨i + 1, ⟨by omega, qcb hi.2 (by simp only [qqv, val]; simp [-List.getD_eq_getElem?_getD, hb])⟩, ⟨qa, qa⟩, ⟨qa, qa⟩, ?_⟩; (first | omega | (dsimp only; omega) | skip))
   ·refine Le.of_eq (congrArg AV.bool ?_)
    rw [hf, hemp, Bool.false_or, Bool.true_and]
    exact (jjz 0 (fun j hj => hi.2 j (by omega))).symm
 ·refine qi (T := tab Try.prog) (C := {}) 300 (fun _ => rfl) Try.func13 rfl (by kernel_rfl) (by kernel_rfl) (fun c0 rdb => ?_)
  (repeat' ((conv => whnf); first | refine zO ?_ | refine Ob.auto ?_ | refine zC 300 (js m s hs) ?_ | refine zG 300 (fun hg => js m s hs) ?_ | refine zX (js m s hs) ?_ | refine zY (fun hg => js m s hs) ?_ | refine zE 300 (js m s hs) ?_ | refine zF 300 (fun hg => js m s hs) ?_ | (refine qw (fun _ => rfl) (by kernel_rfl) 300 ?_) | (apply zB <;> intro hb <;> (try simp [-List.getD_eq_getElem?_getD] at hb) <;> try (exfalso; omega)) | refine Ob.intro ?_ ?_))
  ·refine Le.of_eq (congrArg AV.bool ?_)
   simp [hb]
  ·rename_i hne
   refine Le.of_eq (congrArg AV.bool ?_)
   simp [hb, hne]
  ·exact absurd hb hf

end Go.Proofs.Ytdoaagphhjggbaa
end
section
/- Contracts of step: which edges are enabled. -/
namespace Go.Proofs.Ytdoaagphhjggbaa
open Go Go.Sx Go.RowKit Go.St
set_option maxRecDepth 100000
set_option maxHeartbeats 4000000

theorem qel (m : Md) (hm : MOk m) (s : Stt) (hf : qy m s = true) (hs : SSz s) (p : Nat) (hp : p < m.procs.length) (e : Ed) {pl : Int} (he : EdOk m.tree.length m.vars.length m.chans.length pl e) :
  Con Try.prog 51 [m.av, s.av, iv p, .agg e.cells] (.bool (canB m s p e)) := by
 have hso := qvm hm hf
 have hat : s.at_.length = m.procs.length := ((qau m s).1 hf).1.1
 have hcl := hso.cl
 have hch := he.chn
 have hsv : e.act = 1 ∨ e.act = 2 ∨ e.act = 4 ∨ e.act = 5 → sval m p s e.expr = val m p s e.expr ∧ decide (e.expr < 0) = false := fun h => ⟨if_pos ⟨(he.ex h).1, (he.ex h).2, hf⟩, decide_eq_false (by have := he.ex h; omega)⟩
 have hnx : e.act = 0 ∨ e.act = 3 → decide (e.expr < 0) = true := fun h => decide_eq_true (by have := he.nex h; omega)
 have hac := he.act
 refine qi (T := tab Try.prog) (C := {}) 300 (fun _ => rfl) Try.func51 rfl (by kernel_rfl) (by kernel_rfl) (fun c0 rdb => ?_)
 (repeat' ((conv => whnf); first | refine zA ?_ | refine zO ?_ | refine Ob.auto ?_ | (refine Ob.intro (by (exact ⟨by omega, by omega⟩)) ?_) | refine zC 300 (qit m hm p s hs e.expr) ?_ | refine zG 300 (fun hg => qit m hm p s hs e.expr) ?_ | (refine CallY.con (qit m hm p s hs e.expr) (by rfl) leA ?_) | (refine CallZ.con (fun hg => qit m hm p s hs e.expr) qe (by rfl) ?_) | refine zE 300 (qit m hm p s hs e.expr) ?_ | refine zF 300 (fun hg => qit m hm p s hs e.expr) ?_ | refine zD 300 ?_ | (apply zB <;> intro hb <;> (try simp [-List.getD_eq_getElem?_getD] at hb) <;> try (exfalso; omega)) | refine Ob.intro ?_ ?_))
 all_goals refine Le.of_eq (congrArg AV.bool ?_)
 all_goals unfold canB qlen room
 ·have h : (s.at_.getD p 0 == e.frm) = false := by simpa [-List.getD_eq_getElem?_getD] using hb
  rw [h]; rfl
 ·have h : (s.at_.getD p 0 == e.frm) = true := by simp [-List.getD_eq_getElem?_getD, *]
  have h0 : e.act = 0 := by assumption
  rw [h, hnx (.inl h0), if_neg (by omega), if_neg (by omega), if_neg (by omega), if_neg (by omega)]; rfl
 ·have h : (s.at_.getD p 0 == e.frm) = true := by simp [-List.getD_eq_getElem?_getD, *]
  have h0 : e.act = 3 := by assumption
  rw [h, hnx (.inr h0), if_neg (by omega), if_pos h0]; rfl
 ·have h0 : e.act = 2 := by assumption
  have h : decide (((s.chans.getD e.chn.toNat []).length : Int) < (m.chans.getD e.chn.toNat Ch.none).room) = false := decide_eq_false (by omega)
  rw [if_pos h0, h, Bool.and_false]
 ·have h : (s.at_.getD p 0 == e.frm) = true := by simp [-List.getD_eq_getElem?_getD, *]
  have h0 : e.act = 2 := by assumption
  obtain ⟨h1, h2⟩ := hsv (by omega)
  have h3 : decide (((s.chans.getD e.chn.toNat []).length : Int) < (m.chans.getD e.chn.toNat Ch.none).room) = true := decide_eq_true (by omega)
  rw [h, h1, h2, if_pos h0, h3, Bool.and_true]; rfl
 ·have h : (s.at_.getD p 0 == e.frm) = true := by simp [-List.getD_eq_getElem?_getD, *]
  have h0 : e.act = 4 := by assumption
  obtain ⟨h1, h2⟩ := hsv (by omega)
  rw [h, h1, h2, if_neg (by omega), if_neg (by omega), if_pos h0, if_neg (of_decide_eq_false h2)]; rfl
 ·have h : (s.at_.getD p 0 == e.frm) = true := by simp [-List.getD_eq_getElem?_getD, *]
  have h0 : e.act = 5 := by assumption
  obtain ⟨h1, h2⟩ := hsv (by omega)
  rw [h, h1, h2, if_neg (by omega), if_neg (by omega), if_neg (by omega), if_pos h0, if_neg (of_decide_eq_false h2)]; rfl
 ·have h : (s.at_.getD p 0 == e.frm) = true := by simp [-List.getD_eq_getElem?_getD, *]
  have h0 : e.act = 1 := by omega
  obtain ⟨h1, h2⟩ := hsv (by omega)
  rw [h, h1, h2, if_neg (by omega), if_neg (by omega), if_neg (by omega), if_neg (by omega), Bool.and_true]; rfl

theorem qfg (m : Md) (hm : MOk m) (s : Stt) (hcl : s.chans.length = m.chans.length) (c : Nat) (hc : c < m.chans.length) : Con Try.prog 79 [m.av, s.av, iv c] (.bool (qrp m s c)) := by
 refine qi (T := tab Try.prog) (C := {}) 300 (fun _ => rfl) Try.func79 rfl (by kernel_rfl) (by kernel_rfl) (fun c0 rdb => ?_)
 (repeat' ((conv => whnf); first | refine zA ?_ | refine zO ?_ | refine Ob.auto ?_ | (refine Ob.intro (by (exact ⟨by omega, by omega⟩)) ?_) | refine zD 300 ?_ | (apply zB <;> intro hb <;> (try simp [-List.getD_eq_getElem?_getD] at hb) <;> try (exfalso; omega)) | refine Ob.intro ?_ ?_))
 exact Le.refl _

theorem qfh (m : Md) (hm : MOk m) (s : Stt) (hcl : s.chans.length = m.chans.length) (c : Nat) (hc : c < m.chans.length) : Con Try.prog 80 [m.av, s.av, iv c] (.bool (qrq m s c)) := by
 refine qi (T := tab Try.prog) (C := {}) 300 (fun _ => rfl) Try.func80 rfl (by kernel_rfl) (by kernel_rfl) (fun c0 rdb => ?_)
 (repeat' ((conv => whnf); first | refine zA ?_ | refine zO ?_ | refine Ob.auto ?_ | (refine Ob.intro (by (exact ⟨by omega, by omega⟩)) ?_) | refine zD 300 ?_ | (apply zB <;> intro hb <;> (try simp [-List.getD_eq_getElem?_getD] at hb) <;> try (exfalso; omega)) | refine Ob.intro ?_ ?_))
 exact Le.refl _

theorem jch (m : Md) (hm : MOk m) (s : Stt) (hf : qy m s = true) (hs : SSz s) (p : Nat) (hp : p < m.procs.length) {pl : Int} (he : ∀ e ∈ qv m p, EdOk m.tree.length m.vars.length m.chans.length pl e) (hn : (qv m p).length ≤ 40000) :
  Con Try.prog 82 [m.av, s.av, iv p] (.bool (qvk m s p)) := by
 refine qi (T := tab Try.prog) (C := {}) 300 (fun _ => rfl) Try.func82 rfl (by kernel_rfl) (by kernel_rfl) (fun c0 rdb => ?_)
 (repeat' ((conv => whnf); first | refine zA ?_ | refine zO ?_ | refine Ob.auto ?_ | (refine Ob.intro (by (exact ⟨by omega, by omega⟩)) ?_) | refine zD 300 ?_ | (apply zB <;> intro hb <;> (try simp [-List.getD_eq_getElem?_getD] at hb) <;> try (exfalso; omega)) | refine Ob.intro ?_ ?_))
 ((conv => whnf); refine jf (fun _ => rfl) 300 1 (fun i : Nat => [(16, iv i), (6, .bool false)]) (fun _ => []) (fun i => i ≤ (qv m p).length ∧ ∀ j, j < i → canB m s p ((qv m p).getD j Ed.none) = false) (fun i => (qv m p).length - i) (0) (⟨Nat.zero_le _, fun j hj => absurd hj (Nat.not_lt_zero j)⟩) qa qa (fun _ => rfl) (by kernel_rfl) ?_; (conv => whnf))
 intro i hi
 (repeat' ((conv => whnf); first | refine zA ?_ | refine zO ?_ | refine Ob.auto ?_ | (refine Ob.intro (by (exact ⟨by omega, by omega⟩)) ?_) | refine zD 300 ?_ | (apply zB <;> intro hb <;> (try simp [-List.getD_eq_getElem?_getD] at hb) <;> try (exfalso; omega)) | refine Ob.intro ?_ ?_))
 ·have hil : i < (qv m p).length := by assumption
  ((conv => whnf); refine qeg (fun _ => rfl) 300 (qel m hm s hf hs p hp ((qv m p).getD i Ed.none) (he _ (qp _ _ _ hil))) (by rfl) leA (by kernel_rfl) ?_)
  (repeat' ((conv => whnf); first | refine zA ?_ | refine zO ?_ | refine Ob.auto ?_ | (refine Ob.intro (by (exact ⟨by omega, by omega⟩)) ?_) | refine zD 300 ?_ | (apply zB <;> intro hb <;> (try simp [-List.getD_eq_getElem?_getD] at hb) <;> try (exfalso; omega)) | refine Ob.intro ?_ ?_))
  ·exact Le.of_eq (congrArg AV.bool (List.any_eq_true.2 ⟨_, qp _ _ _ hil, by assumption⟩).symm)
  ·((conv => whnf); refine ⟨i + 1, ⟨hil, qcb hi.2 (by assumption)⟩, ⟨qa, qa⟩, ⟨qa, qa⟩, ?_⟩; (first | omega | (dsimp only; omega) | skip))
 ·have hil : (qv m p).length ≤ i := by assumption
  refine Le.of_eq (congrArg AV.bool ?_)
  unfold qvk
  rw [Eq.comm, List.any_eq_false]
  intro e hme
  obtain ⟨j, hj, rfl⟩ := List.mem_iff_getElem.1 hme
  have := hi.2 j (by omega)
  rw [List.getD_eq_getElem?_getD, List.getElem?_eq_getElem hj] at this
  simp only [Option.getD_some] at this
  rw [this]; decide

def qmi (m : Md) (s : Stt) (p e : Int) : Bool := qy m s && decide (0 ≤ p ∧ p < m.procs.length ∧ 0 ≤ e ∧ e < (qv m p.toNat).length) && canB m s p.toNat ((qv m p.toNat).getD e.toNat Ed.none)

theorem jci (m : Md) (hm : MOk m) (s : Stt) (hs : SSz s) (he : ∀ q ∈ m.procs, ∀ e ∈ q.edges, EdOk m.tree.length m.vars.length m.chans.length q.places e) (p e : Int) :
  Con Try.prog 24 [m.av, s.av, iv p, iv e] (.bool (qmi m s p e)) := by
 refine qi (T := tab Try.prog) (C := {}) 300 (fun _ => rfl) Try.func24 rfl (by kernel_rfl) (by kernel_rfl) (fun c0 rdb => ?_)
 (repeat' ((conv => whnf); first | refine zA ?_ | refine zO ?_ | refine Ob.auto ?_ | (refine Ob.intro (by (exact ⟨by omega, by omega⟩)) ?_) | refine zC 300 (js m s hs) ?_ | refine zG 300 (fun hg => js m s hs) ?_ | (refine CallY.con (js m s hs) (by rfl) leA ?_) | (refine CallZ.con (fun hg => js m s hs) qe (by rfl) ?_) | refine zE 300 (js m s hs) ?_ | refine zF 300 (fun hg => js m s hs) ?_ | refine zD 300 ?_ | (apply zB <;> intro hb <;> (try simp [-List.getD_eq_getElem?_getD] at hb) <;> try (exfalso; omega)) | refine Ob.intro ?_ ?_))
 ·refine Le.of_eq (congrArg AV.bool ?_)
  have hb' : ¬ (qy m s = true ∧ 0 ≤ p ∧ p < m.procs.length ∧ 0 ≤ e ∧ e < (qv m p.toNat).length) := fun ⟨h1, h2, h3, h4, h5⟩ => by
   have h5' : e < (m.procs.getD p.toNat Pr.none).edges.length := h5
   rcases hb with (((hb | hb) | hb) | hb) | hb
   ·rw [h1] at hb; cases hb
   all_goals omega
  unfold qmi
  by_cases h1 : qy m s = true
  ·rw [decide_eq_false (fun h => hb' ⟨h1, h⟩), Bool.and_false]; rfl
  ·rw [Bool.not_eq_true] at h1
   rw [h1]; rfl
 ·obtain ⟨⟨⟨⟨hf, h0⟩, h1⟩, h2⟩, h3⟩ := hb
  obtain ⟨P, rfl⟩ := Int.eq_ofNat_of_zero_le h0
  obtain ⟨E, rfl⟩ := Int.eq_ofNat_of_zero_le h2
  have hP : P < m.procs.length := by omega
  have h3' : (E : Int) < (qv m P).length := h3
  have hE : E < (qv m P).length := by omega
  (repeat' ((conv => whnf); first | refine zA ?_ | refine zO ?_ | refine Ob.auto ?_ | (refine Ob.intro (by (exact ⟨by omega, by omega⟩)) ?_) | refine zC 300 (qel m hm s hf hs P hP ((qv m P).getD E Ed.none) (he _ (qp _ _ _ hP) _ (qp _ _ _ hE))) ?_ | refine zG 300 (fun hg => qel m hm s hf hs P hP ((qv m P).getD E Ed.none) (he _ (qp _ _ _ hP) _ (qp _ _ _ hE))) ?_ | (refine CallY.con (qel m hm s hf hs P hP ((qv m P).getD E Ed.none) (he _ (qp _ _ _ hP) _ (qp _ _ _ hE))) (by rfl) leA ?_) | (refine CallZ.con (fun hg => qel m hm s hf hs P hP ((qv m P).getD E Ed.none) (he _ (qp _ _ _ hP) _ (qp _ _ _ hE))) qe (by rfl) ?_) | refine zE 300 (qel m hm s hf hs P hP ((qv m P).getD E Ed.none) (he _ (qp _ _ _ hP) _ (qp _ _ _ hE))) ?_ | refine zF 300 (fun hg => qel m hm s hf hs P hP ((qv m P).getD E Ed.none) (he _ (qp _ _ _ hP) _ (qp _ _ _ hE))) ?_ | refine zD 300 ?_ | (refine qu (fun _ => rfl) (by kernel_rfl) 300 ?_) | (apply zB <;> intro hb <;> (try simp [-List.getD_eq_getElem?_getD] at hb) <;> try (exfalso; omega)) | refine Ob.intro ?_ ?_))
  refine Le.of_eq (congrArg AV.bool ?_)
  unfold qmi
  rw [hf, Int.toNat_natCast, Int.toNat_natCast, decide_eq_true ⟨by omega, by omega, by omega, by omega⟩]
  rfl

end Go.Proofs.Ytdoaagphhjggbaa
end
section
/- Steps in plain Lean: the moves of a state are those that are allowed, and what fits leads to what fits. Nothing of the program. -/
namespace Go.St
open Go Go.Sx

theorem qmj {α : Type} (l : List α) (i j : Nat) (x d : α) : (l.set i x).getD j d = if j = i ∧ i < l.length then x else l.getD j d := by
 rw [List.getD_eq_getElem?_getD, List.getD_eq_getElem?_getD, List.getElem?_set]
 by_cases h : i = j
 ·subst h
  by_cases h2 : i < l.length
  ·rw [if_pos rfl, if_pos h2, if_pos ⟨rfl, h2⟩]; rfl
  ·rw [if_pos rfl, if_neg h2, if_neg (fun h => h2 h.2), List.getElem?_eq_none (by omega)]
 ·rw [if_neg h, if_neg (fun h2 => h h2.1.symm)]

section
variable {m : Md} {s : Stt}

theorem jnu (hf : qy m s = true) (p : Nat) (x : Int) (hx : 0 ≤ x ∧ x < (m.procs.getD p Pr.none).places) : qy m { s with at_ := s.at_.set p x } = true := by
 obtain ⟨h0, hA, hV, hC⟩ := (qau m s).1 hf
 refine (qau m _).2 ⟨⟨by simpa using h0.1, h0.2.1, h0.2.2.1, h0.2.2.2⟩, fun i hi => ?_, hV, hC⟩
 have hi' : i < s.at_.length := by simpa using hi
 have := hA i hi'
 unfold qnv at *
 simp only
 rw [qmj]
 split
 ·rename_i h; rw [h.1]; exact hx
 ·exact this

theorem jcj (hf : qy m s = true) (k : Nat) (x : Int) (hx : trim x (m.vars.getD k Vr.none).width = x) : qy m { s with vars := s.vars.set k x } = true := by
 obtain ⟨h0, hA, hV, hC⟩ := (qau m s).1 hf
 refine (qau m _).2 ⟨⟨h0.1, by simpa using h0.2.1, h0.2.2.1, h0.2.2.2⟩, hA, fun i hi => ?_, hC⟩
 have hi' : i < s.vars.length := by simpa using hi
 have := hV i hi'
 unfold qnw at *
 simp only
 rw [qmj]
 split
 ·rename_i h; rw [h.1]; exact hx
 ·exact this

theorem jck (hf : qy m s = true) (k : Nat) (c : List Int) (hc : (c.length : Int) ≤ (m.chans.getD k Ch.none).room) (hx : ∀ x ∈ c, trim x (m.chans.getD k Ch.none).width = x) : qy m { s with chans := s.chans.set k c } = true := by
 obtain ⟨h0, hA, hV, hC⟩ := (qau m s).1 hf
 refine (qau m _).2 ⟨⟨h0.1, h0.2.1, by simpa using h0.2.2.1, h0.2.2.2⟩, hA, hV, fun i hi => ?_⟩
 have hi' : i < s.chans.length := by simpa using hi
 have := hC i hi'
 unfold qjp qlb at *
 simp only
 rw [qmj]
 split
 ·rename_i h; rw [h.1]; exact ⟨hc, fun q hq => hx _ (qp _ _ _ hq)⟩
 ·exact this

theorem qvn (hf : qy m s = true) (h : Int) (hh : -1 ≤ h ∧ h < m.procs.length) : qy m { s with holder := h } = true := by
 obtain ⟨h0, hA, hV, hC⟩ := (qau m s).1 hf
 exact (qau m _).2 ⟨⟨h0.1, h0.2.1, h0.2.2.1, hh⟩, hA, hV, hC⟩

theorem jcl (hf : qy m s = true) (k : Nat) : ∀ x ∈ s.chans.getD k [], trim x (m.chans.getD k Ch.none).width = x := by
 obtain ⟨h0, hA, hV, hC⟩ := (qau m s).1 hf
 intro x hx
 by_cases hk : k < s.chans.length
 ·obtain ⟨q, hq, rfl⟩ := List.mem_iff_getElem.1 hx
  have := (hC k hk).2 q hq
  unfold qlb at this
  rw [List.getD_eq_getElem?_getD (l := s.chans.getD k []), List.getElem?_eq_getElem hq] at this
  exact this
 ·rw [List.getD_eq_getElem?_getD, List.getElem?_eq_none (by omega)] at hx
  simp at hx

theorem qpq (hf : qy m s = true) {k : Nat} (hk : k < m.chans.length) : ((s.chans.getD k []).length : Int) ≤ (m.chans.getD k Ch.none).room := by
 obtain ⟨h0, _, _, hC⟩ := (qau m s).1 hf
 exact (hC k (by rw [h0.2.2.1]; exact hk)).1

theorem qem (hM : ModOk m) (hf : qy m s = true) : SSz s := by
 have h0 := ((qau m s).1 hf).1
 have hz := hM.sz
 refine ⟨by rw [h0.1]; omega, by rw [h0.2.1]; omega, by rw [h0.2.2.1]; omega, fun c hc => ?_⟩
 obtain ⟨i, hi, rfl⟩ := List.mem_iff_getElem.1 hc
 have hi' : i < m.chans.length := by rw [← h0.2.2.1]; exact hi
 have h1 := qpq hf hi'
 have h2 := hM.ok.chan _ (qp m.chans i Ch.none hi')
 rw [List.getD_eq_getElem?_getD, List.getElem?_eq_getElem hi] at h1
 simp only [Option.getD_some] at h1
 omega

def qdf (m : Md) (s : Stt) (v : Mv) : Bool :=
 if v.kind = 0 then decide (v.chn = 0 ∧ (s.holder = -1 ∨ s.holder = v.proc)) && (decide (0 ≤ v.proc ∧ v.proc < m.procs.length ∧ 0 ≤ v.edge ∧ v.edge < (qv m v.proc.toNat).length) && canB m s v.proc.toNat ((qv m v.proc.toNat).getD v.edge.toNat Ed.none))
 else if v.kind = 1 ∨ v.kind = 2 then decide (s.holder = -1 ∧ v.proc = 0 ∧ v.edge = 0 ∧ 0 ≤ v.chn ∧ v.chn < m.chans.length) && (if v.kind = 1 then qrp m s v.chn.toNat else qrq m s v.chn.toNat)
 else false

theorem edOk (hM : ModOk m) {p : Nat} (hp : p < m.procs.length) {i : Nat} (hi : i < (qv m p).length) : EdOk m.tree.length m.vars.length m.chans.length (m.procs.getD p Pr.none).places ((qv m p).getD i Ed.none) :=
 (hM.pr _ (qp _ _ _ hp)).ed _ (qp _ _ _ hi)

theorem jcm (hM : ModOk m) (hf : qy m s = true) {p : Nat} {e : Ed} (hto : 0 ≤ e.to ∧ e.to < (m.procs.getD p Pr.none).places) (hcn : e.act = 2 → qlen s e.chn < room m e.chn) : qy m (qcf m s p e) = true := by
 have h0 := ((qau m s).1 hf).1
 have ha := qvn (jnu hf p e.to hto) (-1) ⟨Int.le_refl _, by omega⟩
 unfold qcf
 simp only
 split
 ·exact jcj ha _ _ (qro _ _)
 split
 ·rename_i h2
  have := hcn h2
  unfold qlen room at this
  refine jck ha _ _ (by simp only [List.length_append, List.length_singleton]; omega) (fun x hx => ?_)
  rw [List.mem_append, List.mem_singleton] at hx
  rcases hx with hx | rfl
  ·exact jcl hf _ x hx
  ·exact qro _ _
 split
 ·have hb := jcj ha e.var.toNat (trim ((s.chans.getD e.chn.toNat []).getD 0 0) (m.vars.getD e.var.toNat Vr.none).width) (qro _ _)
  refine jck hb _ _ ?_ (fun x hx => jcl hf _ x (List.mem_of_mem_drop hx))
  rw [List.length_drop]
  by_cases hk : e.chn.toNat < m.chans.length
  ·have := qpq hf hk; omega
  ·rw [List.getD_eq_getElem?_getD (l := s.chans), List.getElem?_eq_none (by omega)]
   rw [List.getD_eq_getElem?_getD, List.getElem?_eq_none (by omega)]
   simp [Ch.none]
 ·exact ha

theorem jcn {p : Nat} {e : Ed} (h : canB m s p e = true) (h2 : e.act = 2) : qlen s e.chn < room m e.chn := by
 unfold canB at h
 rw [if_pos h2, Bool.and_eq_true] at h
 exact of_decide_eq_true h.2

def Stt.zero : Stt := ⟨[], [], [], 0⟩

def doB (m : Md) (s : Stt) (v : Mv) : Bool := qy m s && qdf m s v
def qrs (m : Md) (s : Stt) (v : Mv) : Stt := if doB m s v = true then qis m s v else Stt.zero

end

end Go.St
end
