/- Some texts of the library, one behind the other. -/
import Derived.Test.YtdoaagphhjggbaaGreatQ34
import Derived.Test.YtdoaagphhjggbaaGreatQ35
import Derived.Test.YtdoaagphhjggbaaGreatQ38
import Derived.Test.YtdoaagphhjggbaaGreatQ37
import Derived.Test.YtdoaagphhjggbaaGreatQ41
import Derived.Test.YtdoaagphhjggbaaGreatQ2
section
/- Contract: a tree's model, as the laws of chapter 15 make it. -/
namespace Go.Proofs.YtdoaagphhjggbaaGreat
open Go Go.Sx Go.RowKit Go.St
set_option maxRecDepth 100000
set_option maxHeartbeats 8000000
theorem qnk (l : List Nd) (hl : l.length ≤ 9223372036854775807) (hz : ∀ n ∈ l, NdSz n) : Con Tryz.prog 11 [jt l] (.tup [(qgi l).1.av, .bool (qgi l).2]) := by
 have hm : Tree l → Con Tryz.prog 37 [jt l] (.tup [(if (qby l).1 = 0 then qhg l else mdZ).av, .bool (decide ((qby l).1 = 0))]) := fun ht => by
  by_cases h : (qby l).1 = 0
  ·rw [if_pos h, decide_eq_true h]; exact jdw l ht h
  ·rw [if_neg h, decide_eq_false h]; exact jpf l ht h
 refine qd (T := tab Tryz.prog) (C := {}) 300 (fun _ => rfl) Tryz.func11 rfl (by kernel_rfl) (by kernel_rfl) (fun c0 rdb => ?_)
 (repeat' ((conv => whnf); first | refine zA ?_ | refine zO ?_ | refine Ob.auto ?_ | refine zI ?_ | refine zC 300 (qml l hl) ?_ | refine zG 300 (fun hg => qml l hl) ?_ | (refine CallY.con (qml l hl) (by rfl) leA ?_) | (refine CallZ.con (fun hg => qml l hl) qc (by rfl) ?_) | refine zC 300 (qmk l hl hz) ?_ | refine zG 300 (fun hg => qmk l hl hz) ?_ | (refine CallY.con (qmk l hl hz) (by rfl) leA ?_) | (refine CallZ.con (fun hg => qmk l hl hz) qc (by rfl) ?_) | refine zE 300 (qml l hl) ?_ | refine zF 300 (fun hg => qml l hl) ?_ | refine zE 300 (qmk l hl hz) ?_ | refine zF 300 (fun hg => qmk l hl hz) ?_ | refine zD 300 ?_ | (apply zB <;> intro hb <;> (try simp [-List.getD_eq_getElem?_getD] at hb) <;> try (exfalso; omega)) | refine Ob.intro ?_ ?_))
 ·have e : qgi l = (mdZ, false) := if_neg fun h => by
   rcases hb with hb | hb
   ·omega
   ·rw [hb] at h; simp at h
  rw [e]
  exact Le.tup ⟨jdx, Le.refl _, trivial⟩
 ·((conv => whnf); refine qeu (fun _ => rfl) 300 (hm (qsi hb.2)) (by rfl) leA (by kernel_rfl) ?_)
  (repeat' ((conv => whnf); first | refine zA ?_ | refine zO ?_ | refine Ob.auto ?_ | refine zD 300 ?_ | (apply zB <;> intro hb <;> (try simp [-List.getD_eq_getElem?_getD] at hb) <;> try (exfalso; omega)) | refine Ob.intro ?_ ?_))
  have e : qgi l = (if (qby l).1 = 0 then qhg l else mdZ, decide ((qby l).1 = 0)) := by
   unfold qgi
   by_cases h : (qby l).1 = 0
   ·rw [if_pos ⟨hb, h⟩, if_pos h, decide_eq_true h]
   ·rw [if_neg (fun g => h g.2), if_neg h, decide_eq_false h]
  rw [e]
  exact Le.refl _
end Go.Proofs.YtdoaagphhjggbaaGreat
end
section
/- Contracts: moves by the document's answer. -/
namespace Go.Proofs.YtdoaagphhjggbaaGreat
open Go Go.Sx Go.RowKit Go.St
set_option maxRecDepth 100000
set_option maxHeartbeats 4000000
theorem qhj {m : Md} {s : Stt} {p : Nat} {e : Ed} (h1 : s.at_.getD p 0 = e.frm) (h2 : e.expr < 0 ∨ (val m p s e.expr).2 = true) : canB m s p e =
  (if e.act = 2 then decide (qlen s e.chn < room m e.chn) else if e.act = 3 then decide (0 < qlen s e.chn) else if e.act = 4 then !((if e.expr < 0 then 0 else (val m p s e.expr).1) == 0) else if e.act = 5 then (if e.expr < 0 then 0 else (val m p s e.expr).1) == 0 else true) := by
 have h3 : (decide (e.expr < 0) || (val m p s e.expr).2) = true := by
  rcases h2 with h2 | h2
  ·rw [decide_eq_true h2]; rfl
  ·rw [h2, Bool.or_true]
 unfold canB
 rw [beq_iff_eq.2 h1, h3]; rfl
theorem qky (m : Md) (hm : MOk m) (s : Stt) (hf : qw m s = true) (p : Nat) (hp : p < m.procs.length) (e : Ed) {pl : Int} (he : EdOk m.tree.length m.vars.length m.chans.length pl e) :
  Con Tryz.prog 20 [m.av, s.av, iv p, .agg e.cells] (.bool (canB m s p e)) := by
 have hso := qpu hm hf
 have hat : s.at_.length = m.procs.length := ((qaa m s).1 hf).1.1
 have hcl := hso.cl
 have hch := he.chn
 have hac := he.act
 have hex : e.expr < m.tree.length := by
  have h1 := he.ex
  have h2 := he.nex
  by_cases h : e.act = 1 ∨ e.act = 2 ∨ e.act = 4 ∨ e.act = 5
  ·exact (h1 h).2
  ·have := h2 (by omega); omega
 refine qd (T := tab Tryz.prog) (C := {}) 300 (fun _ => rfl) Tryz.func20 rfl (by kernel_rfl) (by kernel_rfl) (fun c0 rdb => ?_)
 (repeat' ((conv => whnf); first | refine zA ?_ | refine zO ?_ | refine Ob.auto ?_ | refine zI ?_ | refine zC 300 (qfo m hm p s hso m.tree.length e.expr (by omega) (by omega) (Nat.sub_le _ _)) ?_ | refine zG 300 (fun hg => qfo m hm p s hso m.tree.length e.expr (by omega) (by omega) (Nat.sub_le _ _)) ?_ | (refine CallY.con (qfo m hm p s hso m.tree.length e.expr (by omega) (by omega) (Nat.sub_le _ _)) (by rfl) leA ?_) | (refine CallZ.con (fun hg => qfo m hm p s hso m.tree.length e.expr (by omega) (by omega) (Nat.sub_le _ _)) qc (by rfl) ?_) | refine zE 300 (qfo m hm p s hso m.tree.length e.expr (by omega) (by omega) (Nat.sub_le _ _)) ?_ | refine zF 300 (fun hg => qfo m hm p s hso m.tree.length e.expr (by omega) (by omega) (Nat.sub_le _ _)) ?_ | refine zD 300 ?_ | (apply zB <;> intro hb <;> (try simp [-List.getD_eq_getElem?_getD] at hb) <;> try (exfalso; omega)) | refine Ob.intro ?_ ?_))
 all_goals refine Le.of_eq (congrArg AV.bool ?_)
 ·unfold canB val
  rcases hb with hb | hb
  ·rw [beq_eq_false_iff_ne.2 hb]; try rfl
  ·rw [hb, Bool.or_false, decide_eq_false (by omega), Bool.and_false]; try rfl
 ·have hA : s.at_.getD p 0 = e.frm ∧ (valN m p s m.tree.length e.expr).2 = true := by assumption
  rw [qhj hA.1 (.inr hA.2), if_pos (by assumption)]; try rfl
 ·have hA : s.at_.getD p 0 = e.frm ∧ (valN m p s m.tree.length e.expr).2 = true := by assumption
  rw [qhj hA.1 (.inr hA.2), if_neg (by assumption), if_pos (by assumption)]; try rfl
 ·have hA : s.at_.getD p 0 = e.frm ∧ (valN m p s m.tree.length e.expr).2 = true := by assumption
  rw [qhj hA.1 (.inr hA.2), if_neg (by assumption), if_neg (by assumption), if_pos (by assumption), if_neg (by omega)]; try rfl
 ·have hA : s.at_.getD p 0 = e.frm ∧ (valN m p s m.tree.length e.expr).2 = true := by assumption
  rw [qhj hA.1 (.inr hA.2), if_neg (by assumption), if_neg (by assumption), if_neg (by assumption), if_pos (by assumption), if_neg (by omega)]; try rfl
 ·have hA : s.at_.getD p 0 = e.frm ∧ (valN m p s m.tree.length e.expr).2 = true := by assumption
  rw [qhj hA.1 (.inr hA.2), if_neg (by assumption), if_neg (by assumption), if_neg (by assumption), if_neg (by assumption)]
 ·unfold canB
  rw [beq_eq_false_iff_ne.2 hb]; try rfl
 ·have hA : s.at_.getD p 0 = e.frm := by assumption
  rw [qhj hA (.inl (by assumption)), if_pos (by assumption)]; try rfl
 ·have hA : s.at_.getD p 0 = e.frm := by assumption
  rw [qhj hA (.inl (by assumption)), if_neg (by assumption), if_pos (by assumption)]; try rfl
 ·have hA : s.at_.getD p 0 = e.frm := by assumption
  rw [qhj hA (.inl (by assumption)), if_neg (by assumption), if_neg (by assumption), if_pos (by assumption), if_pos (by assumption)]; try rfl
 ·have hA : s.at_.getD p 0 = e.frm := by assumption
  rw [qhj hA (.inl (by assumption)), if_neg (by assumption), if_neg (by assumption), if_neg (by assumption), if_pos (by assumption), if_pos (by assumption)]; try rfl
 ·have hA : s.at_.getD p 0 = e.frm := by assumption
  rw [qhj hA (.inl (by assumption)), if_neg (by assumption), if_neg (by assumption), if_neg (by assumption), if_neg (by assumption)]
end Go.Proofs.YtdoaagphhjggbaaGreat
end
section
/- Contracts: all moves by the document's answer. -/
namespace Go.Proofs.YtdoaagphhjggbaaGreat
open List renaming getD_eq_getElem?_getD → zd
open Go Go.Sx Go.RowKit Go.St
set_option maxRecDepth 100000
set_option maxHeartbeats 4000000
theorem qsz (m : Md) (s : Stt) (c : Nat) : qgj m s c = (if (m.chans.getD c Ch.none).lossy = true ∧ 0 < (s.chans.getD c []).length then [⟨1, 0, 0, c⟩] else []) ++ (if ((m.chans.getD c Ch.none).copying = true ∧ 0 < (s.chans.getD c []).length) ∧ ((s.chans.getD c []).length : Int) < (m.chans.getD c Ch.none).room then [⟨2, 0, 0, c⟩] else []) := by
 unfold qgj qps qpt qlen room
 simp only [Int.toNat_natCast, Bool.and_eq_true, decide_eq_true_eq, Int.natCast_pos]
theorem jev (m : Md) (hM : ModOk m) (s : Stt) (hf : qw m s = true) : Con Tryz.prog 15 [m.av, s.av] (qpr (qcs m s)) := by
 have hs := qdx hM hf
 have h0 := ((qaa m s).1 hf).1
 have hz := hM.sz
 have hpl := qsx m hM s
 have hcl := h0.2.2.1
 have hpz := hM.psz
 have hh := h0.2.2.2.1
 refine qd (T := tab Tryz.prog) (C := {owns := [(5, (51, 4))]}) 300 (fun _ => rfl) Tryz.func15 rfl (by kernel_rfl) (by kernel_rfl) (fun c0 rdb => ?_)
 (repeat' ((conv => whnf); first | refine zA ?_ | refine zO ?_ | refine Ob.auto ?_ | refine zI ?_ | refine zD 300 ?_ | (apply zB <;> intro hb <;> (try simp [-zd] at hb) <;> try (exfalso; omega)) | refine Ob.intro ?_ ?_))
 ((conv => whnf); refine qp (fun _ => rfl) 300 1 (fun i : Nat => [(6, iv i), (5, .own 2 0 0 (qq m s i).length)]) (fun i => [(2, .row [] 51 4 0 (qq m s i).length (encL Mv.cells {} (qq m s i)))]) (fun i => i ≤ m.procs.length) (fun i => m.procs.length - i) (0) (Nat.zero_le _) qa ⟨qch (fun k hk => absurd hk (Nat.not_lt_zero k)), trivial⟩ (fun _ => rfl) (by kernel_rfl) ?_; (conv => whnf))
 intro i hi
 have hpi := hpl i hi
 (repeat' ((conv => whnf); first | refine zA ?_ | refine zO ?_ | refine Ob.auto ?_ | refine zI ?_ | refine zD 300 ?_ | (apply zB <;> intro hb <;> (try simp [-zd] at hb) <;> try (exfalso; omega)) | refine Ob.intro ?_ ?_))
 ·have hp1 : qq m s (i + 1) = qq m s i := by rw [qpx, if_pos ⟨by omega, by omega⟩, List.append_nil]
  ((conv => whnf); refine ⟨i + 1, by omega, ⟨⟨Le.refl _, qhi hp1.symm 2, trivial⟩, ⟨qft Mv.cells {} hp1.symm, trivial⟩⟩, ⟨qa, qa⟩, ?_⟩; (first | omega | (dsimp only; omega) | skip))
 ·have hp1 : qq m s (i + 1) = qq m s i ++ qkv m s i := by rw [qpx, if_neg (fun h => by omega)]
  have hil : i < m.procs.length := by assumption
  have hpe := (hpz _ (qj m.procs i Pr.none hil)).1
  have hel : (qm m i).length ≤ 40000 := hpe
  have he0 : qq m s i ++ qbp m s i 0 = qq m s i := List.append_nil _
  ((conv => whnf); refine qp (fun _ => rfl) 300 2 (fun j : Nat => [(7, iv j), (5, .own 2 0 0 (qq m s i ++ qbp m s i j).length)]) (fun j => [(2, .row [] 51 4 0 (qq m s i ++ qbp m s i j).length (encL Mv.cells {} (qq m s i ++ qbp m s i j)))]) (fun j => j ≤ (qm m i).length) (fun j => (qm m i).length - j) (0) (Nat.zero_le _) ⟨Le.refl _, qhi he0.symm 2, trivial⟩ ⟨qft Mv.cells {} he0.symm, trivial⟩ (fun _ => rfl) (by kernel_rfl) ?_; (conv => whnf))
  intro j hj
  have hen := qxd m s i j
  have hsum : (qq m s i ++ qbp m s i j).length ≤ 200000 := by rw [List.length_append]; omega
  generalize hL : qq m s i ++ qbp m s i j = L at hsum ⊢
  (repeat' ((conv => whnf); first | refine zA ?_ | refine zO ?_ | refine Ob.auto ?_ | refine zI ?_ | refine zD 300 ?_ | (apply zB <;> intro hb <;> (try simp [-zd] at hb) <;> try (exfalso; omega)) | refine Ob.intro ?_ ?_))
  ·have hjl : j < (qm m i).length := by assumption
   ((conv => whnf); refine zQ 300 ?_)
   (repeat' ((conv => whnf); first | refine zA ?_ | refine zO ?_ | refine Ob.auto ?_ | refine zI ?_ | refine zC 300 (qky m hM.ok s hf i hil ((qm m i).getD j Ed.none) (edOk hM hil hjl)) ?_ | refine zG 300 (fun hg => qky m hM.ok s hf i hil ((qm m i).getD j Ed.none) (edOk hM hil hjl)) ?_ | (refine CallY.con (qky m hM.ok s hf i hil ((qm m i).getD j Ed.none) (edOk hM hil hjl)) (by rfl) leA ?_) | (refine CallZ.con (fun hg => qky m hM.ok s hf i hil ((qm m i).getD j Ed.none) (edOk hM hil hjl)) qc (by rfl) ?_) | refine zE 300 (qky m hM.ok s hf i hil ((qm m i).getD j Ed.none) (edOk hM hil hjl)) ?_ | refine zF 300 (fun hg => qky m hM.ok s hf i hil ((qm m i).getD j Ed.none) (edOk hM hil hjl)) ?_ | refine zD 300 ?_ | (apply zB <;> intro hb <;> (try simp [-zd] at hb) <;> try (exfalso; omega)) | refine Ob.intro ?_ ?_))
   ·have hE : L ++ [⟨0, i, j, 0⟩] = qq m s i ++ qbp m s i (j + 1) := by rw [qsv, if_pos hb, ← List.append_assoc, hL]
    ((conv => whnf); refine ⟨j + 1, hjl, ⟨⟨Le.refl _, qni hE 2, trivial⟩, ⟨qnh Mv.cells {} hE rfl, trivial⟩⟩, ⟨qa, qa⟩, ?_⟩; (first | omega | (dsimp only; omega) | skip))
   ·have hE : L = qq m s i ++ qbp m s i (j + 1) := by rw [qsv, if_neg (by rw [hb]; decide), List.append_nil, hL]
    ((conv => whnf); refine ⟨j + 1, hjl, ⟨⟨Le.refl _, qhi hE 2, trivial⟩, ⟨qft Mv.cells {} hE, trivial⟩⟩, ⟨qa, qa⟩, ?_⟩; (first | omega | (dsimp only; omega) | skip))
  ·have hjl : (qm m i).length ≤ j := by assumption
   obtain rfl : j = (qm m i).length := by omega
   rw [jer, ← hp1] at hL
   ((conv => whnf); refine ⟨i + 1, hil, ⟨⟨Le.refl _, qhi hL.symm 2, trivial⟩, ⟨qft Mv.cells {} hL.symm, trivial⟩⟩, ⟨qa, qa⟩, ?_⟩; (first | omega | (dsimp only; omega) | skip))
 ·obtain rfl : i = m.procs.length := by omega
  have he0 : qq m s m.procs.length ++ qaw m s 0 = qq m s m.procs.length := List.append_nil _
  ((conv => whnf); refine qp (fun _ => rfl) 300 2 (fun c : Nat => [(8, iv c), (5, .own 2 0 0 (qq m s m.procs.length ++ qaw m s c).length)]) (fun c => [(2, .row [] 51 4 0 (qq m s m.procs.length ++ qaw m s c).length (encL Mv.cells {} (qq m s m.procs.length ++ qaw m s c)))]) (fun c => c ≤ m.chans.length ∧ (s.holder = -1 ∨ c = 0)) (fun c => m.chans.length - c) (0) (⟨Nat.zero_le _, .inr rfl⟩) ⟨Le.refl _, qhi he0.symm 2, trivial⟩ ⟨qft Mv.cells {} he0.symm, trivial⟩ (fun _ => rfl) (by kernel_rfl) ?_; (conv => whnf))
  rintro c ⟨hc, hc2⟩
  have hcn := qsw m s c
  have hsum : (qq m s m.procs.length ++ qaw m s c).length ≤ 200000 := by rw [List.length_append]; omega
  generalize hL : qq m s m.procs.length ++ qaw m s c = L at hsum ⊢
  (repeat' ((conv => whnf); first | refine zA ?_ | refine zO ?_ | refine Ob.auto ?_ | refine zI ?_ | refine zD 300 ?_ | (apply zB <;> intro hb <;> (try simp [-zd] at hb) <;> try (exfalso; omega)) | refine Ob.intro ?_ ?_))
  ·have hE : L ++ [⟨1, 0, 0, c⟩, ⟨2, 0, 0, c⟩] = qq m s m.procs.length ++ qaw m s (c + 1) := by rw [qim, ← List.append_assoc, hL]; rw [qsz, if_pos (by assumption), if_pos (by assumption)]; rfl
   ((conv => whnf); refine ⟨c + 1, ⟨by omega, .inl (by omega)⟩, ⟨⟨Le.refl _, jet hE 2, trivial⟩, ⟨jes Mv.cells {} hE rfl rfl, trivial⟩⟩, ⟨qa, qa⟩, ?_⟩; (first | omega | (dsimp only; omega) | skip))
  ·have hE : L ++ [⟨1, 0, 0, c⟩] = qq m s m.procs.length ++ qaw m s (c + 1) := by rw [qim, ← List.append_assoc, hL]; rw [qsz, if_pos (by assumption), if_neg (fun h => by have := (by assumption : (m.chans.getD c Ch.none).copying = true → 0 < (s.chans.getD c []).length → (m.chans.getD c Ch.none).room ≤ ((s.chans.getD c []).length : Int)) h.1.1 h.1.2; omega)]; rfl
   ((conv => whnf); refine ⟨c + 1, ⟨by omega, .inl (by omega)⟩, ⟨⟨Le.refl _, qni hE 2, trivial⟩, ⟨qnh Mv.cells {} hE rfl, trivial⟩⟩, ⟨qa, qa⟩, ?_⟩; (first | omega | (dsimp only; omega) | skip))
  ·have hE : L ++ [⟨2, 0, 0, c⟩] = qq m s m.procs.length ++ qaw m s (c + 1) := by rw [qim, ← List.append_assoc, hL]; rw [qsz, if_neg (fun h => by have e := (by assumption : (m.chans.getD c Ch.none).lossy = true → s.chans.getD c [] = []) h.1; rw [e] at h; exact absurd h.2 (Nat.lt_irrefl 0)), if_pos (by assumption)]; rfl
   ((conv => whnf); refine ⟨c + 1, ⟨by omega, .inl (by omega)⟩, ⟨⟨Le.refl _, qni hE 2, trivial⟩, ⟨qnh Mv.cells {} hE rfl, trivial⟩⟩, ⟨qa, qa⟩, ?_⟩; (first | omega | (dsimp only; omega) | skip))
  ·have hE : L = qq m s m.procs.length ++ qaw m s (c + 1) := by rw [qim, ← List.append_assoc, hL]; rw [qsz, if_neg (fun h => by have e := (by assumption : (m.chans.getD c Ch.none).lossy = true → s.chans.getD c [] = []) h.1; rw [e] at h; exact absurd h.2 (Nat.lt_irrefl 0)), if_neg (fun h => by have := (by assumption : (m.chans.getD c Ch.none).copying = true → 0 < (s.chans.getD c []).length → (m.chans.getD c Ch.none).room ≤ ((s.chans.getD c []).length : Int)) h.1.1 h.1.2; omega)]; simp
   ((conv => whnf); refine ⟨c + 1, ⟨by omega, .inl (by omega)⟩, ⟨⟨Le.refl _, qhi hE 2, trivial⟩, ⟨qft Mv.cells {} hE, trivial⟩⟩, ⟨qa, qa⟩, ?_⟩; (first | omega | (dsimp only; omega) | skip))
  ·have hmv : qcs m s = qq m s m.procs.length ++ qaw m s c := by
    unfold qcs
    by_cases hho : s.holder = -1
    ·obtain rfl : c = m.chans.length := by omega
     rw [if_pos hho]; rfl
    ·obtain rfl : c = 0 := hc2.resolve_left hho
     rw [if_neg hho]; rfl
   rw [hmv, hL]
   exact Le.refl _
end Go.Proofs.YtdoaagphhjggbaaGreat
end
section
/- Contracts: what is dead, or bad, by the document's answer; which lists of moves are the same. -/
namespace Go.Proofs.YtdoaagphhjggbaaGreat
open List renaming getD_eq_getElem?_getD → zd
open Go Go.Sx Go.RowKit Go.St
set_option maxRecDepth 100000
set_option maxHeartbeats 4000000
def qta (m : Md) (s : Stt) (i : Nat) : Bool := (List.range i).all fun j => (m.procs.getD j Pr.none).rest.getD (s.at_.getD j 0).toNat false
theorem jql (m : Md) (s : Stt) (i : Nat) : qta m s (i + 1) = (qta m s i && (m.procs.getD i Pr.none).rest.getD (s.at_.getD i 0).toNat false) := by
 unfold qta
 rw [List.range_succ, List.all_append]; simp
theorem jew (m : Md) (hM : ModOk m) (s : Stt) (hf : qw m s = true) : Con Tryz.prog 17 [m.av, s.av] (.bool (qmv m s)) := by
 have hmv := jev m hM s hf
 have h0 := (qaa m s).1 hf
 have hz := hM.sz
 have hr := fun (q : Pr) hq => (hM.pr q hq).rl
 have hat := h0.1.1
 have hfa := h0.2.1
 unfold qmv
 refine qd (T := tab Tryz.prog) (C := {}) 300 (fun _ => rfl) Tryz.func17 rfl (by kernel_rfl) (by kernel_rfl) (fun c0 rdb => ?_)
 (repeat' ((conv => whnf); first | refine zA ?_ | refine zO ?_ | refine Ob.auto ?_ | refine zI ?_ | refine zD 300 ?_ | (apply zB <;> intro hb <;> (try simp [-zd] at hb) <;> try (exfalso; omega)) | refine Ob.intro ?_ ?_))
 ((conv => whnf); refine qp (fun _ => rfl) 300 1 (fun i : Nat => [(6, iv i), (5, .bool (qta m s i))]) (fun _ => []) (fun i => i ≤ m.procs.length) (fun i => m.procs.length - i) (0) (Nat.zero_le _) qa qa (fun _ => rfl) (by kernel_rfl) ?_; (conv => whnf))
 intro i hi
 have hri : i < m.procs.length → 0 ≤ s.at_.getD i 0 ∧ s.at_.getD i 0 < ((m.procs.getD i Pr.none).rest.length : Int) := fun h => by
  have h1 := hfa i (by omega)
  have h2 := hr _ (qj m.procs i Pr.none h)
  unfold qki at h1
  omega
 (repeat' ((conv => whnf); first | refine zA ?_ | refine zO ?_ | refine Ob.auto ?_ | (refine Ob.intro (by (first | exact ⟨by omega, by omega⟩ | exact hri (by omega) | (intro h; exact ⟨by omega, by omega⟩) | (intro h; exact hri (by omega)) | (intro h; exact ⟨h, by omega, by omega⟩) | (intro h; exact ⟨h, hri (by omega)⟩))) ?_) | refine zC 300 (hmv) ?_ | refine zG 300 (fun hg => hmv) ?_ | (refine CallY.con (hmv) (by rfl) leA ?_) | (refine CallZ.con (fun hg => hmv) qc (by rfl) ?_) | refine zE 300 (hmv) ?_ | refine zF 300 (fun hg => hmv) ?_ | refine zD 300 ?_ | (apply zB <;> intro hb <;> (try simp [-zd] at hb) <;> try (exfalso; omega)) | refine Ob.intro ?_ ?_))
 ·((conv => whnf); refine ⟨i + 1, by omega, ⟨⟨Le.refl _, Le.of_eq (congrArg AV.bool (jql m s i).symm), trivial⟩, qa⟩, ⟨qa, qa⟩, ?_⟩; (first | omega | (dsimp only; omega) | skip))
 ·obtain rfl : i = m.procs.length := by omega
  refine Le.of_eq (congrArg AV.bool ?_)
  have e : (((qcs m s).length : Int) == 0) = (qcs m s).isEmpty := by
   cases qcs m s with
   | nil => rfl
   | cons a b => simp; omega
  rw [e]; rfl
theorem jqm (m : Md) (hM : ModOk m) (s : Stt) (hf : qw m s = true) : Con Tryz.prog 19 [m.av, s.av] (.bool (badB m s)) := by
 have hsf := jpo m hM.ok s (qpu hM.ok hf)
 have hdd := jew m hM s hf
 unfold badB
 refine qd (T := tab Tryz.prog) (C := {}) 300 (fun _ => rfl) Tryz.func19 rfl (by kernel_rfl) (by kernel_rfl) (fun c0 rdb => ?_)
 (repeat' ((conv => whnf); first | refine zA ?_ | refine zO ?_ | refine Ob.auto ?_ | refine zC 300 (hsf) ?_ | refine zG 300 (fun hg => hsf) ?_ | (refine CallY.con (hsf) (by rfl) leA ?_) | (refine CallZ.con (fun hg => hsf) qc (by rfl) ?_) | refine zC 300 (hdd) ?_ | refine zG 300 (fun hg => hdd) ?_ | (refine CallY.con (hdd) (by rfl) leA ?_) | (refine CallZ.con (fun hg => hdd) qc (by rfl) ?_) | refine zE 300 (hsf) ?_ | refine zF 300 (fun hg => hsf) ?_ | refine zE 300 (hdd) ?_ | refine zF 300 (fun hg => hdd) ?_ | refine zD 300 ?_ | (apply zB <;> intro hb <;> (try simp [-zd] at hb) <;> try (exfalso; omega)) | refine Ob.intro ?_ ?_))
 exact Le.refl _
theorem jqn {a b : Mv} (h : a.kind = b.kind ∧ a.proc = b.proc ∧ a.edge = b.edge ∧ a.chn = b.chn) : a = b := by
 cases a; cases b; simp_all
theorem jqo (a b : List Mv) (ha : a.length ≤ 1000000) : Con Tryz.prog 13 [qpr a, qpr b] (.bool (decide (a = b))) := by
 refine qd (T := tab Tryz.prog) (C := {}) 300 (fun _ => rfl) Tryz.func13 rfl (by kernel_rfl) (by kernel_rfl) (fun c0 rdb => ?_)
 (repeat' ((conv => whnf); first | refine zA ?_ | refine zO ?_ | refine Ob.auto ?_ | refine zD 300 ?_ | (apply zB <;> intro hb <;> (try simp [-zd] at hb) <;> try (exfalso; omega)) | refine Ob.intro ?_ ?_))
 ·refine Le.of_eq (congrArg AV.bool ?_)
  exact (decide_eq_false (fun h => by subst h; simp at hb)).symm
 ·((conv => whnf); refine qp (fun _ => rfl) 300 1 (fun i : Nat => [(5, iv i)]) (fun _ => []) (fun i => i ≤ a.length ∧ ∀ j, j < i → a.getD j {} = b.getD j {}) (fun i => a.length - i) (0) (⟨by omega, fun j hj => absurd hj (Nat.not_lt_zero j)⟩) qa qa (fun _ => rfl) (by kernel_rfl) ?_; (conv => whnf))
  intro i hi
  (repeat' ((conv => whnf); first | refine zA ?_ | refine zO ?_ | refine Ob.auto ?_ | refine zI ?_ | refine zD 300 ?_ | (apply zB <;> intro hb <;> (try simp [-zd] at hb) <;> try (exfalso; omega)) | refine Ob.intro ?_ ?_))
  ·refine Le.of_eq (congrArg AV.bool ?_)
   exact (decide_eq_false (fun h => by subst h; simp at hb)).symm
  ·((conv => whnf); refine ⟨i + 1, ⟨by omega, qao hi.2 (jqn hb)⟩, ⟨qa, qa⟩, ⟨qa, qa⟩, ?_⟩; (first | omega | (dsimp only; omega) | skip))
  ·refine Le.of_eq (congrArg AV.bool ?_)
   exact (decide_eq_true (jlt {} (by omega) (fun j hj => hi.2 j (by omega)))).symm
end Go.Proofs.YtdoaagphhjggbaaGreat
end
