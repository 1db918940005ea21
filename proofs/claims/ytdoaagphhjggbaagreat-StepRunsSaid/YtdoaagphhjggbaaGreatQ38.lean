/- Some texts of the library, one behind the other. -/
import Derived.Test.YtdoaagphhjggbaaGreatQ32
import Derived.Test.YtdoaagphhjggbaaGreatQ34
import Derived.Test.YtdoaagphhjggbaaGreatQ33
import Derived.Test.YtdoaagphhjggbaaGreatQ35
import Derived.Test.YtdoaagphhjggbaaGreatQ2
section
/- Contracts: moves by the document's answer. -/
namespace Go.Proofs.YtdoaagphhjggbaaGreat
open List renaming getD_eq_getElem?_getD → zd
open Go Go.Sx Go.RowKit Go.St
set_option maxRecDepth 100000
set_option maxHeartbeats 4000000
theorem qgo {m : Md} {s : Stt} {p : Nat} {e : Ed} (h1 : s.at_.getD p 0 = e.frm) (h2 : e.expr < 0 ∨ (val m p s e.expr).2 = true) : canB m s p e =
  (if e.act = 2 then decide (qlen s e.chn < room m e.chn) else if e.act = 3 then decide (0 < qlen s e.chn) else if e.act = 4 then !((if e.expr < 0 then 0 else (val m p s e.expr).1) == 0) else if e.act = 5 then (if e.expr < 0 then 0 else (val m p s e.expr).1) == 0 else true) := by
 have h3 : (decide (e.expr < 0) || (val m p s e.expr).2) = true := by
  rcases h2 with h2 | h2
  ·rw [decide_eq_true h2]; rfl
  ·rw [h2, Bool.or_true]
 unfold canB
 rw [beq_iff_eq.2 h1, h3]; rfl
theorem jqa (m : Md) (hm : MOk m) (s : Stt) (hf : qp m s = true) (p : Nat) (hp : p < m.procs.length) (e : Ed) {pl : Int} (he : EdOk m.tree.length m.vars.length m.chans.length pl e) :
  Con Tryz.prog 20 [m.av, s.av, iv p, .agg e.cells] (.bool (canB m s p e)) := by
 have hso := qlf hm hf
 have hat : s.at_.length = m.procs.length := ((jj m s).1 hf).1.1
 have hcl := hso.cl
 have hch := he.chn
 have hac := he.act
 have hex : e.expr < m.tree.length := by
  have h1 := he.ex
  have h2 := he.nex
  by_cases h : e.act = 1 ∨ e.act = 2 ∨ e.act = 4 ∨ e.act = 5
  ·exact (h1 h).2
  ·have := h2 (by omega); omega
 refine qc (T := tab Tryz.prog) (C := {}) 300 (fun _ => rfl) Tryz.func20 rfl (by kernel_rfl) (by kernel_rfl) (fun c0 rdb => ?_)
 (repeat' ((conv => whnf); first | refine zO ?_ | refine Ob.auto ?_ | refine zC 300 (quz m hm p s hso m.tree.length e.expr (by omega) (by omega) (Nat.sub_le _ _)) ?_ | refine zD 300 ?_ | (apply zB <;> intro hb <;> (try simp [-zd] at hb) <;> try (exfalso; omega))))
 all_goals refine Le.of_eq (congrArg AV.bool ?_)
 ·unfold canB val
  rcases hb with hb | hb
  ·rw [beq_eq_false_iff_ne.2 hb]; try rfl
  ·rw [hb, Bool.or_false, decide_eq_false (by omega), Bool.and_false]; try rfl
 ·have hA : s.at_.getD p 0 = e.frm ∧ (valN m p s m.tree.length e.expr).2 = true := by assumption
  rw [qgo hA.1 (.inr hA.2), if_pos (by assumption)]; try rfl
 ·have hA : s.at_.getD p 0 = e.frm ∧ (valN m p s m.tree.length e.expr).2 = true := by assumption
  rw [qgo hA.1 (.inr hA.2), if_neg (by assumption), if_pos (by assumption)]; try rfl
 ·have hA : s.at_.getD p 0 = e.frm ∧ (valN m p s m.tree.length e.expr).2 = true := by assumption
  rw [qgo hA.1 (.inr hA.2), if_neg (by assumption), if_neg (by assumption), if_pos (by assumption), if_neg (by omega)]; try rfl
 ·have hA : s.at_.getD p 0 = e.frm ∧ (valN m p s m.tree.length e.expr).2 = true := by assumption
  rw [qgo hA.1 (.inr hA.2), if_neg (by assumption), if_neg (by assumption), if_neg (by assumption), if_pos (by assumption), if_neg (by omega)]; try rfl
 ·have hA : s.at_.getD p 0 = e.frm ∧ (valN m p s m.tree.length e.expr).2 = true := by assumption
  rw [qgo hA.1 (.inr hA.2), if_neg (by assumption), if_neg (by assumption), if_neg (by assumption), if_neg (by assumption)]
 ·unfold canB
  rw [beq_eq_false_iff_ne.2 hb]; try rfl
 ·have hA : s.at_.getD p 0 = e.frm := by assumption
  rw [qgo hA (.inl (by assumption)), if_pos (by assumption)]; try rfl
 ·have hA : s.at_.getD p 0 = e.frm := by assumption
  rw [qgo hA (.inl (by assumption)), if_neg (by assumption), if_pos (by assumption)]; try rfl
 ·have hA : s.at_.getD p 0 = e.frm := by assumption
  rw [qgo hA (.inl (by assumption)), if_neg (by assumption), if_neg (by assumption), if_pos (by assumption), if_pos (by assumption)]; try rfl
 ·have hA : s.at_.getD p 0 = e.frm := by assumption
  rw [qgo hA (.inl (by assumption)), if_neg (by assumption), if_neg (by assumption), if_neg (by assumption), if_pos (by assumption), if_pos (by assumption)]; try rfl
 ·have hA : s.at_.getD p 0 = e.frm := by assumption
  rw [qgo hA (.inl (by assumption)), if_neg (by assumption), if_neg (by assumption), if_neg (by assumption), if_neg (by assumption)]
theorem qob (m : Md) (hM : ModOk m) (s : Stt) (hf : qp m s = true) (p : Nat) (hp : p < m.procs.length) :
  Con Tryz.prog 55 [m.av, s.av, iv p] (.bool (qfl m s p)) := by
 have hn := (hM.psz _ (ql m.procs p Pr.none hp)).1
 refine qc (T := tab Tryz.prog) (C := {}) 300 (fun _ => rfl) Tryz.func55 rfl (by kernel_rfl) (by kernel_rfl) (fun c0 rdb => ?_)
 (repeat' ((conv => whnf); first | exact trivial))
 ((conv => whnf); refine qt (fun _ => rfl) 300 1 (fun i : Nat => [(7, iv i), (6, .bool false)]) (fun _ => []) (fun i => i ≤ (qu m p).length ∧ ∀ j, j < i → canB m s p ((qu m p).getD j Ed.none) = false) (fun i => (qu m p).length - i) (0) (⟨Nat.zero_le _, fun j hj => absurd hj (Nat.not_lt_zero j)⟩) qa qa (fun _ => rfl) (by kernel_rfl) ?_; (conv => whnf))
 intro i hi
 (repeat' ((conv => whnf); first | refine zA ?_ | refine Ob.auto ?_ | (refine CallY.con (jqa m hM.ok s hf p hp ((qu m p).getD i Ed.none) (edOk hM hp (by exact hb))) (by rfl) leA ?_) | (refine zQ 300 ?_) | (apply zB <;> intro hb <;> (try simp [-zd] at hb) <;> try (exfalso; omega))))
 ·have hil : i < (qu m p).length := by assumption
  exact Le.of_eq (congrArg AV.bool (List.any_eq_true.2 ⟨_, ql _ _ _ hil, by assumption⟩).symm)
 ·have hil : i < (qu m p).length := by assumption
  ((conv => whnf); refine ⟨i + 1, ⟨hil, qaa hi.2 (by assumption)⟩, ⟨qa, qa⟩, ⟨qa, qa⟩, ?_⟩; (first | omega | (dsimp only; omega) | skip))
 ·have hil : (qu m p).length ≤ i := by assumption
  refine Le.of_eq (congrArg AV.bool ?_)
  unfold qfl
  rw [Eq.comm, List.any_eq_false]
  intro e hme
  obtain ⟨j, hj, rfl⟩ := List.mem_iff_getElem.1 hme
  have := hi.2 j (by omega)
  rw [zd, List.getElem?_eq_getElem hj] at this
  simp only [Option.getD_some] at this
  rw [this]; decide
end Go.Proofs.YtdoaagphhjggbaaGreat
end
section
/- Contracts: a state's clone, by the document's answer. -/
namespace Go.Proofs.YtdoaagphhjggbaaGreat
open Go Go.Sx Go.RowKit Go.St
set_option maxRecDepth 100000
set_option maxHeartbeats 4000000
theorem jdi (s : Stt) (hs : SSz s) : Trip Tryz.prog 54 [s.av] [] (.agg [.own 2 0 0 s.at_.length, .own 6 0 0 s.vars.length, .own 15 0 0 s.chans.length, iv s.holder])
  [(2, .row [] 3 1 0 s.at_.length (encL (fun n => [iv n]) 0 s.at_)), (6, .row [] 3 1 0 s.vars.length (encL (fun n => [iv n]) 0 s.vars)), (15, .row [] 23 1 0 s.chans.length (encL (fun c => [ints c]) [] s.chans))] 16 := by
 have ha := hs.a
 have hv := hs.v
 have hc := hs.c
 have hl := hs.l
 refine qcs (T := tab Tryz.prog) (C := {lit := true}) 300 (fun _ => rfl) Tryz.func54 rfl (by kernel_rfl) (by kernel_rfl) (fun c0 rdb mpb => ?_)
 (repeat' ((conv => whnf); first | refine zO ?_ | refine Ob.auto ?_ | refine zD 300 ?_ | fail))
 refine qcu 13 2 23 1 rfl rfl ?_
 ((conv => whnf); refine jqb (fun _ => rfl) 300 1 (fun i : Nat => [(4, iv i)]) (fun i => [(13, .box 34 [.own 2 0 0 s.at_.length, .own 6 0 0 s.vars.length, .own 15 0 0 i, iv s.holder]), (15, .row [] 23 1 0 i (encL (fun c => [ints c]) [] s.chans))]) (fun i => i ≤ s.chans.length) (fun i => s.chans.length - i) (0) (Nat.zero_le _) qa ⟨⟨rfl, Le.of_eq (congrArg (AV.own 2 0 0) (Nat.zero_add _)), Le.of_eq (congrArg (AV.own 6 0 0) (Nat.zero_add _)), Le.refl _, Le.refl _, trivial⟩, qbp (fun k hk => absurd hk (Nat.not_lt_zero k)), trivial⟩ (fun _ => rfl) (by kernel_rfl) ?_; (conv => whnf))
 intro i hi
 have hli : i < s.chans.length → _ := fun h => hl _ (ql s.chans i [] h)
 (repeat' ((conv => whnf); first | refine zO ?_ | refine Ob.auto ?_ | refine zD 300 ?_ | (apply zB <;> intro hb <;> (try simp [-List.getD_eq_getElem?_getD] at hb) <;> try (exfalso; omega)) | refine Ob.intro ?_ ?_ | fail))
 ·have hli : (s.chans.getD (i : Int).toNat []).length ≤ 1000000 := hli (by omega)
  refine ⟨⟨rfl, rfl⟩, by omega, ?_⟩
  dsimp only
  refine Nat.le_trans (Nat.mul_le_mul_right _ (?_ : _ ≤ 4000001)) (by decide +kernel); omega
 ·have hli := hli (by omega)
  ((conv => whnf); refine ⟨i + 1, by omega, ⟨_, TurnR.melt [0, 1, 2, 6, 13, 15] 15 rfl (fun k hk => ?_), ⟨qa, ⟨?_, ⟨⟨rfl, rfl, rfl⟩, rfl, rfl, fun k hk => ?_⟩, trivial⟩⟩, ⟨qa, qa⟩⟩, ?_⟩; (first | omega | (dsimp only; omega) | skip))
  ·show allP _ (if k < i then _ else _)
   by_cases h : k < i
   ·rw [if_pos h]; exact ⟨trivial, trivial⟩
   ·obtain rfl : k = i := by omega
    rw [if_neg h, if_pos hk, Nat.sub_self]; exact ⟨⟨trivial, ⟨rfl, rfl⟩, trivial⟩, trivial⟩
  ·exact ⟨rfl, Le.refl _, Le.refl _, Le.refl _, Le.refl _, trivial⟩
  ·show LeL (List.map _ (if k < i then _ else _)) _
   by_cases h : k < i
   ·rw [if_pos h]; exact LeL.refl _
   ·obtain rfl : k = i := by omega
    rw [if_neg h, if_pos hk, Nat.sub_self]
    exact ⟨Le.slc (by simp) (fun q hq => qil (by simpa using hq)), trivial⟩
  ·omega
 ·obtain rfl : i = s.chans.length := by omega
  refine ⟨Le.refl _, ⟨⟨rfl, rfl, by simp⟩, rfl, by simp, fun q hq => LeL.of_eq (qil (by simpa using hq))⟩, ⟨⟨rfl, rfl, by simp⟩, rfl, by simp, fun q hq => LeL.of_eq (qil (by simpa using hq))⟩, ⟨⟨rfl, rfl, rfl⟩, rfl, rfl, fun q hq => LeL.refl _⟩, trivial⟩
theorem jdj (s : Stt) (hs : SSz s) : Trip Tryz.prog 54 [s.av] [] (.agg [.own 2 0 0 s.at_.length, .own 6 0 0 s.vars.length, .own 15 0 0 s.chans.length, iv s.holder])
  [(2, .row [] 3 1 0 s.at_.length (encL (fun n => [iv n]) 0 s.at_)), (6, .row [] 3 1 0 s.vars.length (encL (fun n => [iv n]) 0 s.vars)), (15, .row [16] 23 1 0 s.chans.length (fun k => [.own 16 k 1 (s.chans.getD k []).length])),
   (16, .fam 3 1 s.chans.length (fun _ => 1) (fun k => (s.chans.getD k []).length) (fun k => encL (fun n => [iv n]) 0 (s.chans.getD k [])))] 17 := by
 have ha := hs.a
 have hv := hs.v
 have hc := hs.c
 have hl := hs.l
 refine qcs (T := tab Tryz.prog) (C := {lit := true}) 300 (fun _ => rfl) Tryz.func54 rfl (by kernel_rfl) (by kernel_rfl) (fun c0 rdb mpb => ?_)
 (repeat' ((conv => whnf); first | refine zO ?_ | refine Ob.auto ?_ | refine zD 300 ?_ | fail))
 refine qcu 13 2 23 1 rfl rfl ?_
 refine jag 15 3 1 rfl ?_
 ((conv => whnf); refine jcv (fun _ => rfl) 300 1 (fun i : Nat => [(4, iv i)]) (fun i => [(13, .box 34 [.own 2 0 0 s.at_.length, .own 6 0 0 s.vars.length, .own 15 0 0 i, iv s.holder]), (15, .row [16] 23 1 0 i (fun k => [.own 16 k 1 (s.chans.getD k []).length])), (16, .fam 3 1 i (fun _ => 1) (fun k => (s.chans.getD k []).length) (fun k => encL (fun n => [iv n]) 0 (s.chans.getD k [])))]) (fun i => i ≤ s.chans.length) (fun i => s.chans.length - i) (0) (Nat.zero_le _) qa ⟨⟨rfl, Le.of_eq (congrArg (AV.own 2 0 0) (Nat.zero_add _)), Le.of_eq (congrArg (AV.own 6 0 0) (Nat.zero_add _)), Le.refl _, Le.refl _, trivial⟩, qbp (fun k hk => absurd hk (Nat.not_lt_zero k)), qfy (fun k hk => absurd hk (Nat.not_lt_zero k)) (fun k hk => absurd hk (Nat.not_lt_zero k)) (fun k _ hk => absurd hk (Nat.not_lt_zero k)), trivial⟩ (fun _ => rfl) (by kernel_rfl) ?_; (conv => whnf))
 intro i hi
 have hli : i < s.chans.length → _ := fun h => hl _ (ql s.chans i [] h)
 (repeat' ((conv => whnf); first | refine zO ?_ | refine Ob.auto ?_ | refine zD 300 ?_ | (apply zB <;> intro hb <;> (try simp [-List.getD_eq_getElem?_getD] at hb) <;> try (exfalso; omega)) | refine Ob.intro ?_ ?_ | fail))
 ·have hli : (s.chans.getD (i : Int).toNat []).length ≤ 1000000 := hli (by omega)
  refine ⟨⟨rfl, rfl⟩, by omega, ?_⟩
  dsimp only
  refine Nat.le_trans (Nat.mul_le_mul_right _ (?_ : _ ≤ 4000001)) (by decide +kernel); omega
 ·have hli := hli (by omega)
  ((conv => whnf); refine ⟨i + 1, by omega, ⟨_, Turn.join 15 16 19 rfl rfl rfl (by decide) (by exact (if_neg (Nat.lt_irrefl i)).trans ((if_pos (Nat.lt_succ_self i)).trans (by rw [Nat.sub_self]; rfl))) (fun k hk => ⟨_, _, if_pos hk⟩), ⟨qa, ⟨?_, qbp (fun k hk => ?_), qfy (fun k hk => ?_) (fun k hk => ?_) (fun k j hk hj => ?_), trivial⟩⟩, ⟨qa, qa⟩⟩, ?_⟩; (first | omega | (dsimp only; omega) | skip))
  ·exact ⟨rfl, Le.refl _, Le.refl _, Le.refl _, Le.refl _, trivial⟩
  ·by_cases hki : k = i
   ·subst hki
    refine (if_pos rfl).trans ?_
    simp
   ·refine (if_neg hki).trans ?_
    exact if_pos (by omega)
  ·show Go.Sx.upd _ _ _ k = 1
   unfold Go.Sx.upd
   by_cases hki : k = i
   ·subst hki; simp
   ·rw [if_neg hki]; exact if_pos (by omega)
  ·show Go.Sx.upd _ _ _ k = _
   unfold Go.Sx.upd
   by_cases hki : k = i
   ·subst hki; simp
   ·rw [if_neg hki]; exact if_pos (by omega)
  ·have hj : j < Go.Sx.upd (fun k => if k < i then (s.chans.getD k []).length else 0) i (0 + (s.chans.getD (i : Int).toNat []).length) k := hj
   unfold Go.Sx.upd at hj
   show Go.Sx.upd (α := Nat → List AV) _ _ _ k j = _
   unfold Go.Sx.upd
   by_cases hki : k = i
   ·subst hki
    rw [if_pos rfl] at hj
    rw [if_pos rfl]
    exact qil (by simpa using hj)
   ·rw [if_neg hki]
  ·omega
 ·obtain rfl : i = s.chans.length := by omega
  refine ⟨Le.refl _, ⟨⟨rfl, rfl, by simp⟩, rfl, by simp, fun q hq => LeL.of_eq (qil (by simpa using hq))⟩, ⟨⟨rfl, rfl, by simp⟩, rfl, by simp, fun q hq => LeL.of_eq (qil (by simpa using hq))⟩, qbp (fun _ _ => rfl), qfy (fun _ _ => rfl) (fun _ _ => rfl) (fun _ _ _ _ => rfl), trivial⟩
end Go.Proofs.YtdoaagphhjggbaaGreat
end
