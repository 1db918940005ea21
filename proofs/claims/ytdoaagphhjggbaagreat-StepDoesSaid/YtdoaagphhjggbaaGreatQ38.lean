/- Some texts of the library, one behind the other. -/
import Derived.Test.YtdoaagphhjggbaaGreatQ37
import Derived.Test.YtdoaagphhjggbaaGreatQ32
import Derived.Test.YtdoaagphhjggbaaGreatQ33
import Derived.Test.YtdoaagphhjggbaaGreatQ31
import Derived.Test.YtdoaagphhjggbaaGreatQ5
import Derived.Test.YtdoaagphhjggbaaGreatQ35
import Derived.Test.YtdoaagphhjggbaaGreatQ34
import Derived.Test.YtdoaagphhjggbaaGreatQ2
section
/- Contracts: what is dead, or bad. -/
namespace Go.Proofs.YtdoaagphhjggbaaGreat
open List renaming getD_eq_getElem?_getD → zd
open Go Go.Sx Go.RowKit Go.St
set_option maxRecDepth 100000
set_option maxHeartbeats 4000000
theorem jec (m : Md) (hM : ModOk m) (s : Stt) (hs : SSz s) : Con Tryz.prog 16 [m.av, s.av] (.bool (qq m s && qqk m s)) := by
 have hft := qdv m s hs
 by_cases hf : qq m s = true
 ·have hmv := jeb m hM s hf
  have h0 := (jj m s).1 hf
  have hz := hM.sz
  have hr := fun (q : Pr) hq => (hM.pr q hq).rl
  rw [hf] at hft
  rw [hf, Bool.true_and]
  unfold qqk
  generalize hL : qcb m s = L at hmv
  refine qc (T := tab Tryz.prog) (C := {}) 300 (fun _ => rfl) Tryz.func16 rfl (by kernel_rfl) (by kernel_rfl) (fun c0 rdb => ?_)
  (repeat' ((conv => whnf); first | refine Ob.auto ?_ | refine zC 300 (hft) ?_ | refine zG 300 (fun hg => hmv) ?_ | (apply zB <;> intro hb <;> (try simp [-zd] at hb) <;> try (exfalso; omega))))
  ·rw [show L.isEmpty = false from by cases L with | nil => simp at hb | cons a b => rfl]
   exact Le.refl _
  ·subst hb
   have hat := h0.1.1
   have hfa := h0.2.1
   ((conv => whnf); refine qn (fun _ => rfl) 300 1 (fun i : Nat => [(21, iv i), (4, .bool false)]) (fun _ => []) (fun i => i ≤ m.procs.length ∧ ∀ j, j < i → (m.procs.getD j Pr.none).rest.getD (s.at_.getD j 0).toNat false = true) (fun i => m.procs.length - i) (0) (⟨Nat.zero_le _, fun j hj => absurd hj (Nat.not_lt_zero j)⟩) qa qa (fun _ => rfl) (by kernel_rfl) ?_; (conv => whnf))
   intro i hi
   have hri : i < m.procs.length → 0 ≤ s.at_.getD i 0 ∧ s.at_.getD i 0 < ((m.procs.getD i Pr.none).rest.length : Int) := fun h => by
    have h1 := hfa i (by omega)
    have h2 := hr _ (qj m.procs i Pr.none h)
    unfold qjt at h1
    omega
   (repeat' ((conv => whnf); first | refine zO ?_ | refine Ob.auto ?_ | refine zD 300 ?_ | (apply zB <;> intro hb <;> (try simp [-zd] at hb) <;> try (exfalso; omega))))
   ·rw [show qtp m s = false from qqj (i := i) (by omega) (by assumption)]
    exact Le.refl _
   ·((conv => whnf); refine ⟨i + 1, ⟨by omega, jp hi.2 (by assumption)⟩, ⟨qa, qa⟩, ⟨qa, qa⟩, ?_⟩; (first | omega | (dsimp only; omega) | skip))
   ·rw [show qtp m s = true from qjs fun j hj => hi.2 j (by omega)]
    exact Le.refl _
 ·rw [Bool.not_eq_true] at hf
  rw [hf] at hft
  rw [hf]
  refine qc (T := tab Tryz.prog) (C := {}) 300 (fun _ => rfl) Tryz.func16 rfl (by kernel_rfl) (by kernel_rfl) (fun c0 rdb => ?_)
  (repeat' ((conv => whnf); first | refine Ob.auto ?_ | refine zC 300 (hft) ?_ | refine zG 300 (fun hg => (absurd hg (by decide) : Con Tryz.prog 14 [m.av, s.av] (.slc 4 0 (fun _ => [])))) ?_ | (apply zB <;> intro hb <;> (try simp [-zd] at hb) <;> try (exfalso; omega))))
  exact Le.refl _
theorem jql (m : Md) (hM : ModOk m) (s : Stt) (hs : SSz s) : Con Tryz.prog 18 [m.av, s.av] (.bool (qq m s && badB m s)) := by
 have hft := qdv m s hs
 have hsf := jpz m hM.ok s hs
 have hdd := jec m hM s hs
 by_cases hf : qq m s = true
 ·rw [hf] at hft hsf hdd
  rw [hf, Bool.true_and]
  have e : (m.safe.isEmpty || (true && qmz m s)) = qmz m s := by
   rw [Bool.true_and]
   unfold qmz
   cases m.safe with
   | nil => rfl
   | cons a b => rfl
  rw [e] at hsf
  rw [Bool.true_and] at hdd
  unfold badB
  refine qc (T := tab Tryz.prog) (C := {}) 300 (fun _ => rfl) Tryz.func18 rfl (by kernel_rfl) (by kernel_rfl) (fun c0 rdb => ?_)
  (repeat' ((conv => whnf); first | refine Ob.auto ?_ | refine zC 300 (hft) ?_ | refine zC 300 (hsf) ?_ | refine zG 300 (fun hg => hdd) ?_ | (apply zB <;> intro hb <;> (try simp [-zd] at hb) <;> try (exfalso; omega))))
  exact Le.refl _
 ·rw [Bool.not_eq_true] at hf
  rw [hf] at hft
  rw [hf]
  refine qc (T := tab Tryz.prog) (C := {}) 300 (fun _ => rfl) Tryz.func18 rfl (by kernel_rfl) (by kernel_rfl) (fun c0 rdb => ?_)
  (repeat' ((conv => whnf); first | refine Ob.auto ?_ | refine zC 300 (hft) ?_ | (apply zB <;> intro hb <;> (try simp [-zd] at hb) <;> try (exfalso; omega))))
  exact Le.refl _
end Go.Proofs.YtdoaagphhjggbaaGreat
end
section
/- The example of layer 15. -/
namespace Go.Proofs.YtdoaagphhjggbaaGreat
open Go Go.Sx Go.RowKit Go.St
set_option maxRecDepth 100000
set_option maxHeartbeats 2000000
def st15 : Stt := qgt model15 (qdr model15) {}
theorem do_15 : doB model15 (qdr model15) {} = true := by decide +kernel
theorem jqm : qq model15 (qdr model15) = true := by decide +kernel
theorem jed : qq model15 st15 = true := by decide +kernel
theorem jqn : qlo model15 st15 0 1 = false := by decide +kernel
theorem jqo : (qq model15 st15 && qqk model15 st15) = true := by decide +kernel
theorem jqp : (qq model15 st15 && badB model15 st15) = false := by decide +kernel
theorem jqq : qcb model15 st15 = [] := by decide +kernel
theorem jqr : Con Tryz.prog 10 [] (.bool true) := by
 have hm := jpi
 have s0 := qbt hm jqm
 have s1 := qbt hm jed
 have h1 := jpm model15 hm.ok
 have h2 := qvo model15 hm (qdr model15) s0 {}
 rw [do_15] at h2
 have h3 := jdm model15 hm.ok st15 s1 (fun q hq => (hm.pr q hq).ed) 0 1
 rw [jqn] at h3
 have h4 := jec model15 hm st15 s1
 rw [jqo] at h4
 have h5 := jql model15 hm st15 s1
 rw [jqp] at h5
 have h6 := jeb model15 hm st15 jed
 rw [jqq] at h6
 refine qc (T := tab Tryz.prog) (C := {}) 300 (fun _ => rfl) Tryz.func10 rfl (by kernel_rfl) (by kernel_rfl) (fun c0 rdb => ?_)
 (repeat' ((conv => whnf); first | refine zO ?_ | refine Ob.auto ?_ | refine zC 300 (jpg) ?_ | refine zC 300 (jph) ?_ | refine zX (h1) ?_ | refine zX (h2) ?_ | refine zG 300 (fun hg => h3) ?_ | refine zG 300 (fun hg => h4) ?_ | refine zG 300 (fun hg => h5) ?_ | refine zG 300 (fun hg => h6) ?_ | (refine zR 300 ?_) | fail))
 exact Le.refl _
end Go.Proofs.YtdoaagphhjggbaaGreat
end
section
/- Contract: a tree's model, as the laws of chapter 15 make it. -/
namespace Go.Proofs.YtdoaagphhjggbaaGreat
open Go Go.Sx Go.RowKit Go.St
set_option maxRecDepth 100000
set_option maxHeartbeats 8000000
theorem jqs (l : List Nd) (hl : l.length ≤ 9223372036854775807) (hz : ∀ n ∈ l, NdSz n) : Con Tryz.prog 11 [jo l] (.tup [(qfr l).1.av, .bool (qfr l).2]) := by
 have hm : Tree l → Con Tryz.prog 37 [jo l] (.tup [(if (qbs l).1 = 0 then qgr l else mdZ).av, .bool (decide ((qbs l).1 = 0))]) := fun ht => by
  by_cases h : (qbs l).1 = 0
  ·rw [if_pos h, decide_eq_true h]; exact jdb l ht h
  ·rw [if_neg h, decide_eq_false h]; exact jpe l ht h
 refine qc (T := tab Tryz.prog) (C := {}) 300 (fun _ => rfl) Tryz.func11 rfl (by kernel_rfl) (by kernel_rfl) (fun c0 rdb => ?_)
 (repeat' ((conv => whnf); first | refine Ob.auto ?_ | refine zC 300 (jnz l hl) ?_ | refine zG 300 (fun hg => jny l hl hz) ?_ | (apply zB <;> intro hb <;> (try simp [-List.getD_eq_getElem?_getD] at hb) <;> try (exfalso; omega))))
 ·have e : qfr l = (mdZ, false) := if_neg fun h => by
   rcases hb with hb | hb
   ·omega
   ·rw [hb] at h; simp at h
  rw [e]
  exact Le.tup ⟨jdc, Le.refl _, trivial⟩
 ·((conv => whnf); refine qei (fun _ => rfl) 300 (hm (qqw hb.2)) (by rfl) leA (by kernel_rfl) ?_)
  (repeat' ((conv => whnf); first | refine Ob.auto ?_ | fail))
  have e : qfr l = (if (qbs l).1 = 0 then qgr l else mdZ, decide ((qbs l).1 = 0)) := by
   unfold qfr
   by_cases h : (qbs l).1 = 0
   ·rw [if_pos ⟨hb, h⟩, if_pos h, decide_eq_true h]
   ·rw [if_neg (fun g => h g.2), if_neg h, decide_eq_false h]
  rw [e]
  exact Le.refl _
end Go.Proofs.YtdoaagphhjggbaaGreat
end
section
/- Contracts: moves by the document's answer. -/
namespace Go.Proofs.YtdoaagphhjggbaaGreat
open List renaming getD_eq_getElem?_getD → zd
open Go Go.Sx Go.RowKit Go.St
set_option maxRecDepth 100000
set_option maxHeartbeats 4000000
theorem qgv {m : Md} {s : Stt} {p : Nat} {e : Ed} (h1 : s.at_.getD p 0 = e.frm) (h2 : e.expr < 0 ∨ (val m p s e.expr).2 = true) : canB m s p e =
  (if e.act = 2 then decide (qlen s e.chn < room m e.chn) else if e.act = 3 then decide (0 < qlen s e.chn) else if e.act = 4 then !((if e.expr < 0 then 0 else (val m p s e.expr).1) == 0) else if e.act = 5 then (if e.expr < 0 then 0 else (val m p s e.expr).1) == 0 else true) := by
 have h3 : (decide (e.expr < 0) || (val m p s e.expr).2) = true := by
  rcases h2 with h2 | h2
  ·rw [decide_eq_true h2]; rfl
  ·rw [h2, Bool.or_true]
 unfold canB
 rw [beq_iff_eq.2 h1, h3]; rfl
theorem jee (m : Md) (hm : MOk m) (s : Stt) (hf : qq m s = true) (p : Nat) (hp : p < m.procs.length) (e : Ed) {pl : Int} (he : EdOk m.tree.length m.vars.length m.chans.length pl e) :
  Con Tryz.prog 20 [m.av, s.av, iv p, .agg e.cells] (.bool (canB m s p e)) := by
 have hso := qln hm hf
 have hat : s.at_.length = m.procs.length := ((jj m s).1 hf).1.1
 have hcl := hso.cl
 have hch := he.chn
 have hac := he.act
 have hex : e.expr < m.tree.length := by
  have h1 := he.ex
  have h2 := he.nex
  by_cases h : e.act = 1 ∨ e.act = 2 ∨ e.act = 4 ∨ e.act = 5
  ·exact (h1 h).2
  ·have := h2 (by omega); omega
 refine qc (T := tab Tryz.prog) (C := {}) 300 (fun _ => rfl) Tryz.func20 rfl (by kernel_rfl) (by kernel_rfl) (fun c0 rdb => ?_)
 (repeat' ((conv => whnf); first | refine zO ?_ | refine Ob.auto ?_ | refine zC 300 (qvk m hm p s hso m.tree.length e.expr (by omega) (by omega) (Nat.sub_le _ _)) ?_ | refine zD 300 ?_ | (apply zB <;> intro hb <;> (try simp [-zd] at hb) <;> try (exfalso; omega))))
 all_goals refine Le.of_eq (congrArg AV.bool ?_)
 ·unfold canB val
  rcases hb with hb | hb
  ·rw [beq_eq_false_iff_ne.2 hb]; try rfl
  ·rw [hb, Bool.or_false, decide_eq_false (by omega), Bool.and_false]; try rfl
 ·have hA : s.at_.getD p 0 = e.frm ∧ (valN m p s m.tree.length e.expr).2 = true := by assumption
  rw [qgv hA.1 (.inr hA.2), if_pos (by assumption)]; try rfl
 ·have hA : s.at_.getD p 0 = e.frm ∧ (valN m p s m.tree.length e.expr).2 = true := by assumption
  rw [qgv hA.1 (.inr hA.2), if_neg (by assumption), if_pos (by assumption)]; try rfl
 ·have hA : s.at_.getD p 0 = e.frm ∧ (valN m p s m.tree.length e.expr).2 = true := by assumption
  rw [qgv hA.1 (.inr hA.2), if_neg (by assumption), if_neg (by assumption), if_pos (by assumption), if_neg (by omega)]; try rfl
 ·have hA : s.at_.getD p 0 = e.frm ∧ (valN m p s m.tree.length e.expr).2 = true := by assumption
  rw [qgv hA.1 (.inr hA.2), if_neg (by assumption), if_neg (by assumption), if_neg (by assumption), if_pos (by assumption), if_neg (by omega)]; try rfl
 ·have hA : s.at_.getD p 0 = e.frm ∧ (valN m p s m.tree.length e.expr).2 = true := by assumption
  rw [qgv hA.1 (.inr hA.2), if_neg (by assumption), if_neg (by assumption), if_neg (by assumption), if_neg (by assumption)]
 ·unfold canB
  rw [beq_eq_false_iff_ne.2 hb]; try rfl
 ·have hA : s.at_.getD p 0 = e.frm := by assumption
  rw [qgv hA (.inl (by assumption)), if_pos (by assumption)]; try rfl
 ·have hA : s.at_.getD p 0 = e.frm := by assumption
  rw [qgv hA (.inl (by assumption)), if_neg (by assumption), if_pos (by assumption)]; try rfl
 ·have hA : s.at_.getD p 0 = e.frm := by assumption
  rw [qgv hA (.inl (by assumption)), if_neg (by assumption), if_neg (by assumption), if_pos (by assumption), if_pos (by assumption)]; try rfl
 ·have hA : s.at_.getD p 0 = e.frm := by assumption
  rw [qgv hA (.inl (by assumption)), if_neg (by assumption), if_neg (by assumption), if_neg (by assumption), if_pos (by assumption), if_pos (by assumption)]; try rfl
 ·have hA : s.at_.getD p 0 = e.frm := by assumption
  rw [qgv hA (.inl (by assumption)), if_neg (by assumption), if_neg (by assumption), if_neg (by assumption), if_neg (by assumption)]
theorem qoj (m : Md) (hM : ModOk m) (s : Stt) (hf : qq m s = true) (p : Nat) (hp : p < m.procs.length) :
  Con Tryz.prog 55 [m.av, s.av, iv p] (.bool (qne m s p)) := by
 have hn := (hM.psz _ (qj m.procs p Pr.none hp)).1
 refine qc (T := tab Tryz.prog) (C := {}) 300 (fun _ => rfl) Tryz.func55 rfl (by kernel_rfl) (by kernel_rfl) (fun c0 rdb => ?_)
 (repeat' ((conv => whnf); first | exact trivial))
 ((conv => whnf); refine qn (fun _ => rfl) 300 1 (fun i : Nat => [(7, iv i), (6, .bool false)]) (fun _ => []) (fun i => i ≤ (qr m p).length ∧ ∀ j, j < i → canB m s p ((qr m p).getD j Ed.none) = false) (fun i => (qr m p).length - i) (0) (⟨Nat.zero_le _, fun j hj => absurd hj (Nat.not_lt_zero j)⟩) qa qa (fun _ => rfl) (by kernel_rfl) ?_; (conv => whnf))
 intro i hi
 (repeat' ((conv => whnf); first | refine zA ?_ | refine Ob.auto ?_ | (refine CallY.con (jee m hM.ok s hf p hp ((qr m p).getD i Ed.none) (edOk hM hp (by exact hb))) (by rfl) leA ?_) | (refine zQ 300 ?_) | (apply zB <;> intro hb <;> (try simp [-zd] at hb) <;> try (exfalso; omega))))
 ·have hil : i < (qr m p).length := by assumption
  exact Le.of_eq (congrArg AV.bool (List.any_eq_true.2 ⟨_, qj _ _ _ hil, by assumption⟩).symm)
 ·have hil : i < (qr m p).length := by assumption
  ((conv => whnf); refine ⟨i + 1, ⟨hil, jp hi.2 (by assumption)⟩, ⟨qa, qa⟩, ⟨qa, qa⟩, ?_⟩; (first | omega | (dsimp only; omega) | skip))
 ·have hil : (qr m p).length ≤ i := by assumption
  refine Le.of_eq (congrArg AV.bool ?_)
  unfold qne
  rw [Eq.comm, List.any_eq_false]
  intro e hme
  obtain ⟨j, hj, rfl⟩ := List.mem_iff_getElem.1 hme
  have := hi.2 j (by omega)
  rw [zd, List.getElem?_eq_getElem hj] at this
  simp only [Option.getD_some] at this
  rw [this]; decide
end Go.Proofs.YtdoaagphhjggbaaGreat
end
section
/- Contracts: all moves by the document's answer. -/
namespace Go.Proofs.YtdoaagphhjggbaaGreat
open List renaming getD_eq_getElem?_getD → zd
open Go Go.Sx Go.RowKit Go.St
set_option maxRecDepth 100000
set_option maxHeartbeats 4000000
theorem qrk (m : Md) (s : Stt) (c : Nat) : qeb m s c = (if (m.chans.getD c Ch.none).lossy = true ∧ 0 < (s.chans.getD c []).length then [⟨1, 0, 0, c⟩] else []) ++ (if ((m.chans.getD c Ch.none).copying = true ∧ 0 < (s.chans.getD c []).length) ∧ ((s.chans.getD c []).length : Int) < (m.chans.getD c Ch.none).room then [⟨2, 0, 0, c⟩] else []) := by
 unfold qeb qjw qim qlen room
 simp only [Int.toNat_natCast, Bool.and_eq_true, decide_eq_true_eq, Int.natCast_pos]
theorem jqt (m : Md) (hM : ModOk m) (s : Stt) (hf : qq m s = true) : Con Tryz.prog 15 [m.av, s.av] (qzs (qcb m s)) := by
 have hs := qbt hM hf
 have h0 := ((jj m s).1 hf).1
 have hz := hM.sz
 have hpl := qrj m hM s
 have hcl := h0.2.2.1
 have hpz := hM.psz
 have hh := h0.2.2.2.1
 refine qc (T := tab Tryz.prog) (C := {owns := [(5, (51, 4))]}) 300 (fun _ => rfl) Tryz.func15 rfl (by kernel_rfl) (by kernel_rfl) (fun c0 rdb => ?_)
 (repeat' ((conv => whnf); first | exact trivial))
 ((conv => whnf); refine qn (fun _ => rfl) 300 1 (fun i : Nat => [(6, iv i), (5, .own 2 0 0 (qp m s i).length)]) (fun i => [(2, .row [] 51 4 0 (qp m s i).length (encL Mv.cells {} (qp m s i)))]) (fun i => i ≤ m.procs.length) (fun i => m.procs.length - i) (0) (Nat.zero_le _) qa ⟨qbh (fun k hk => absurd hk (Nat.not_lt_zero k)), trivial⟩ (fun _ => rfl) (by kernel_rfl) ?_; (conv => whnf))
 intro i hi
 have hpi := hpl i hi
 (repeat' ((conv => whnf); first | refine Ob.auto ?_ | (apply zB <;> intro hb <;> (try simp [-zd] at hb) <;> try (exfalso; omega))))
 ·have hp1 : qp m s (i + 1) = qp m s i := by rw [qoi, if_pos ⟨by omega, by omega⟩, List.append_nil]
  ((conv => whnf); refine ⟨i + 1, by omega, ⟨⟨Le.refl _, qgu hp1.symm 2, trivial⟩, ⟨qey Mv.cells {} hp1.symm, trivial⟩⟩, ⟨qa, qa⟩, ?_⟩; (first | omega | (dsimp only; omega) | skip))
 ·have hp1 : qp m s (i + 1) = qp m s i ++ qhl m s i := by rw [qoi, if_neg (fun h => by omega)]
  have hil : i < m.procs.length := by assumption
  have hpe := (hpz _ (qj m.procs i Pr.none hil)).1
  have hel : (qr m i).length ≤ 40000 := hpe
  have he0 : qp m s i ++ qbj m s i 0 = qp m s i := List.append_nil _
  ((conv => whnf); refine qn (fun _ => rfl) 300 2 (fun j : Nat => [(7, iv j), (5, .own 2 0 0 (qp m s i ++ qbj m s i j).length)]) (fun j => [(2, .row [] 51 4 0 (qp m s i ++ qbj m s i j).length (encL Mv.cells {} (qp m s i ++ qbj m s i j)))]) (fun j => j ≤ (qr m i).length) (fun j => (qr m i).length - j) (0) (Nat.zero_le _) ⟨Le.refl _, qgu he0.symm 2, trivial⟩ ⟨qey Mv.cells {} he0.symm, trivial⟩ (fun _ => rfl) (by kernel_rfl) ?_; (conv => whnf))
  intro j hj
  have hen := qvp m s i j
  have hsum : (qp m s i ++ qbj m s i j).length ≤ 200000 := by rw [List.length_append]; omega
  generalize hL : qp m s i ++ qbj m s i j = L at hsum ⊢
  (repeat' ((conv => whnf); first | refine Ob.auto ?_ | (apply zB <;> intro hb <;> (try simp [-zd] at hb) <;> try (exfalso; omega))))
  ·have hjl : j < (qr m i).length := by assumption
   ((conv => whnf); refine zQ 300 ?_)
   (repeat' ((conv => whnf); first | refine zA ?_ | refine Ob.auto ?_ | (refine CallY.con (jee m hM.ok s hf i hil ((qr m i).getD j Ed.none) (edOk hM hil hjl)) (by rfl) leA ?_) | (apply zB <;> intro hb <;> (try simp [-zd] at hb) <;> try (exfalso; omega))))
   ·have hE : L ++ [⟨0, i, j, 0⟩] = qp m s i ++ qbj m s i (j + 1) := by rw [qrh, if_pos hb, ← List.append_assoc, hL]
    ((conv => whnf); refine ⟨j + 1, hjl, ⟨⟨Le.refl _, qlu hE 2, trivial⟩, ⟨qlt Mv.cells {} hE rfl, trivial⟩⟩, ⟨qa, qa⟩, ?_⟩; (first | omega | (dsimp only; omega) | skip))
   ·have hE : L = qp m s i ++ qbj m s i (j + 1) := by rw [qrh, if_neg (by rw [hb]; decide), List.append_nil, hL]
    ((conv => whnf); refine ⟨j + 1, hjl, ⟨⟨Le.refl _, qgu hE 2, trivial⟩, ⟨qey Mv.cells {} hE, trivial⟩⟩, ⟨qa, qa⟩, ?_⟩; (first | omega | (dsimp only; omega) | skip))
  ·have hjl : (qr m i).length ≤ j := by assumption
   obtain rfl : j = (qr m i).length := by omega
   rw [jdy, ← hp1] at hL
   ((conv => whnf); refine ⟨i + 1, hil, ⟨⟨Le.refl _, qgu hL.symm 2, trivial⟩, ⟨qey Mv.cells {} hL.symm, trivial⟩⟩, ⟨qa, qa⟩, ?_⟩; (first | omega | (dsimp only; omega) | skip))
 ·obtain rfl : i = m.procs.length := by omega
  have he0 : qp m s m.procs.length ++ qaq m s 0 = qp m s m.procs.length := List.append_nil _
  ((conv => whnf); refine qn (fun _ => rfl) 300 2 (fun c : Nat => [(8, iv c), (5, .own 2 0 0 (qp m s m.procs.length ++ qaq m s c).length)]) (fun c => [(2, .row [] 51 4 0 (qp m s m.procs.length ++ qaq m s c).length (encL Mv.cells {} (qp m s m.procs.length ++ qaq m s c)))]) (fun c => c ≤ m.chans.length ∧ (s.holder = -1 ∨ c = 0)) (fun c => m.chans.length - c) (0) (⟨Nat.zero_le _, .inr rfl⟩) ⟨Le.refl _, qgu he0.symm 2, trivial⟩ ⟨qey Mv.cells {} he0.symm, trivial⟩ (fun _ => rfl) (by kernel_rfl) ?_; (conv => whnf))
  rintro c ⟨hc, hc2⟩
  have hcn := qri m s c
  have hsum : (qp m s m.procs.length ++ qaq m s c).length ≤ 200000 := by rw [List.length_append]; omega
  generalize hL : qp m s m.procs.length ++ qaq m s c = L at hsum ⊢
  (repeat' ((conv => whnf); first | refine Ob.auto ?_ | (apply zB <;> intro hb <;> (try simp [-zd] at hb) <;> try (exfalso; omega))))
  ·have hE : L ++ [⟨1, 0, 0, c⟩, ⟨2, 0, 0, c⟩] = qp m s m.procs.length ++ qaq m s (c + 1) := by rw [qhw, ← List.append_assoc, hL]; rw [qrk, if_pos (by assumption), if_pos (by assumption)]; rfl
   ((conv => whnf); refine ⟨c + 1, ⟨by omega, .inl (by omega)⟩, ⟨⟨Le.refl _, jea hE 2, trivial⟩, ⟨jdz Mv.cells {} hE rfl rfl, trivial⟩⟩, ⟨qa, qa⟩, ?_⟩; (first | omega | (dsimp only; omega) | skip))
  ·have hE : L ++ [⟨1, 0, 0, c⟩] = qp m s m.procs.length ++ qaq m s (c + 1) := by rw [qhw, ← List.append_assoc, hL]; rw [qrk, if_pos (by assumption), if_neg (fun h => by have := (by assumption : (m.chans.getD c Ch.none).copying = true → 0 < (s.chans.getD c []).length → (m.chans.getD c Ch.none).room ≤ ((s.chans.getD c []).length : Int)) h.1.1 h.1.2; omega)]; rfl
   ((conv => whnf); refine ⟨c + 1, ⟨by omega, .inl (by omega)⟩, ⟨⟨Le.refl _, qlu hE 2, trivial⟩, ⟨qlt Mv.cells {} hE rfl, trivial⟩⟩, ⟨qa, qa⟩, ?_⟩; (first | omega | (dsimp only; omega) | skip))
  ·have hE : L ++ [⟨2, 0, 0, c⟩] = qp m s m.procs.length ++ qaq m s (c + 1) := by rw [qhw, ← List.append_assoc, hL]; rw [qrk, if_neg (fun h => by have e := (by assumption : (m.chans.getD c Ch.none).lossy = true → s.chans.getD c [] = []) h.1; rw [e] at h; exact absurd h.2 (Nat.lt_irrefl 0)), if_pos (by assumption)]; rfl
   ((conv => whnf); refine ⟨c + 1, ⟨by omega, .inl (by omega)⟩, ⟨⟨Le.refl _, qlu hE 2, trivial⟩, ⟨qlt Mv.cells {} hE rfl, trivial⟩⟩, ⟨qa, qa⟩, ?_⟩; (first | omega | (dsimp only; omega) | skip))
  ·have hE : L = qp m s m.procs.length ++ qaq m s (c + 1) := by rw [qhw, ← List.append_assoc, hL]; rw [qrk, if_neg (fun h => by have e := (by assumption : (m.chans.getD c Ch.none).lossy = true → s.chans.getD c [] = []) h.1; rw [e] at h; exact absurd h.2 (Nat.lt_irrefl 0)), if_neg (fun h => by have := (by assumption : (m.chans.getD c Ch.none).copying = true → 0 < (s.chans.getD c []).length → (m.chans.getD c Ch.none).room ≤ ((s.chans.getD c []).length : Int)) h.1.1 h.1.2; omega)]; simp
   ((conv => whnf); refine ⟨c + 1, ⟨by omega, .inl (by omega)⟩, ⟨⟨Le.refl _, qgu hE 2, trivial⟩, ⟨qey Mv.cells {} hE, trivial⟩⟩, ⟨qa, qa⟩, ?_⟩; (first | omega | (dsimp only; omega) | skip))
  ·have hmv : qcb m s = qp m s m.procs.length ++ qaq m s c := by
    unfold qcb
    by_cases hho : s.holder = -1
    ·obtain rfl : c = m.chans.length := by omega
     rw [if_pos hho]; rfl
    ·obtain rfl : c = 0 := hc2.resolve_left hho
     rw [if_neg hho]; rfl
   rw [hmv, hL]
   exact Le.refl _
end Go.Proofs.YtdoaagphhjggbaaGreat
end
section
/- Contracts: what is dead, or bad, by the document's answer; which lists of moves are the same. -/
namespace Go.Proofs.YtdoaagphhjggbaaGreat
open Go Go.Sx Go.RowKit Go.St
set_option maxRecDepth 100000
set_option maxHeartbeats 4000000
end Go.Proofs.YtdoaagphhjggbaaGreat
end
