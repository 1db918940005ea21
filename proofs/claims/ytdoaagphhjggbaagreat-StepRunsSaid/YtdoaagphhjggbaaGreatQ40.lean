/- Some texts of the library, one behind the other. -/
import Derived.Test.YtdoaagphhjggbaaGreatQSr5
import Derived.Test.YtdoaagphhjggbaaGreatQ33
import Derived.Test.YtdoaagphhjggbaaGreatQ29
import Derived.Test.YtdoaagphhjggbaaGreatQ32
import Derived.Test.YtdoaagphhjggbaaGreatQ2
section
/- Contracts: what a move that sends or copies does, by the document's answer. -/
namespace Go.Proofs.YtdoaagphhjggbaaGreat
open List renaming getD_eq_getElem?_getD → zd
open Go Go.Sx Go.RowKit Go.St
set_option maxRecDepth 100000
set_option maxHeartbeats 4000000
theorem jqf (m : Md) (hM : ModOk m) (s : Stt) (c : Nat) (hf : qp m s = true) (h : jp m s ⟨2, 0, 0, c⟩ = true) : Con Tryz.prog 24 [m.av, s.av, (⟨2, 0, 0, c⟩ : Mv).av] (qbl m s ⟨2, 0, 0, c⟩).av := by
 have hs := qbw hM hf
 unfold jp at h
 rw [if_neg (by simp), if_pos (.inr rfl), Bool.and_eq_true] at h
 obtain ⟨h2, h3⟩ := h
 have h2 := of_decide_eq_true h2
 simp only at h2
 have hcl := ((jj m s).1 hf).1.2.2.1
 have hq : 0 < (s.chans.getD c []).length := by
  unfold qju qlen at h3
  simp only [Int.toNat_natCast] at h3
  rw [if_neg (by decide)] at h3
  simp only [Bool.and_eq_true, decide_eq_true_eq] at h3
  omega
 have hcc : c < s.chans.length := by omega
 have hl := hs.l _ (ql s.chans c [] hcc)
 refine qc (T := tab Tryz.prog) (C := {}) 300 (fun _ => rfl) Tryz.func24 rfl (by kernel_rfl) (by kernel_rfl) (fun c0 rdb => ?_)
 (repeat' ((conv => whnf); first | exact trivial))
 ((conv => whnf); refine qhv (fun _ => rfl) 300 [] (jdj s hs) (by kernel_rfl) leA qa (by exact qb rfl) (by exact qlj ⟨fun _ _ => rfl, trivial⟩) (by kernel_rfl) ?_)
 (repeat' ((conv => whnf); first | refine zO ?_ | refine Ob.auto ?_ | refine zD 300 ?_ | (apply zB <;> intro hb <;> (try simp [-zd] at hb) <;> try (exfalso; omega)) | refine Ob.intro ?_ ?_ | fail))
 ·refine ⟨hcc, ⟨rfl, rfl⟩, show (s.chans.getD c []).length + 1 ≤ _ by omega, ?_⟩
  refine Nat.le_trans (Nat.mul_le_mul_right _ (show (s.chans.getD c []).length + 1 ≤ 4000001 by omega)) ?_
  dsimp only; decide +kernel
 ·exact ⟨⟨⟨rfl, rfl⟩, hcc⟩, hcc, by simp [upd], by simp [upd]⟩
 ·refine ⟨⟨trivial, ⟨rfl, rfl⟩, trivial⟩, ⟨trivial, ⟨rfl, rfl⟩, trivial⟩, ⟨trivial, ⟨rfl, rfl⟩, fun k hk => ?_⟩, trivial, trivial⟩
  show allP _ (if k = c then _ else _)
  by_cases hkc : k = c
  ·rw [if_pos hkc]
   exact ⟨⟨hcc, ⟨(if_pos rfl).symm, (if_pos rfl).symm⟩, trivial⟩, trivial⟩
  ·rw [if_neg hkc]
   exact ⟨⟨hk, ⟨(if_neg hkc).symm, (if_neg hkc).symm⟩, trivial⟩, trivial⟩
 have hst : qbl m s ⟨2, 0, 0, c⟩ = { s with chans := s.chans.set c (s.chans.getD c [] ++ [(s.chans.getD c []).getD 0 0]), holder := -1 } := (if_neg (by simp)).trans (if_pos rfl)
 rw [hst]
 refine Le.agg ⟨Le.refl _, Le.refl _, Le.slcL (by simp) (fun j hj => ?_), Le.of_eq (congrArg (AV.int _) h2.1), trivial⟩
 rw [← qbx (fun c => [ints c]) [] s.chans c _ hcc j]
 show LeL (List.map _ (if j = c then _ else _)) _
 by_cases hjc : j = c
 ·rw [if_pos hjc, if_pos hjc]
  refine ⟨Le.slc (show (s.chans.getD c []).length + 1 = _ by rw [List.length_append, List.length_singleton]) (fun q hq => ?_), trivial⟩
  have hq' : q < (s.chans.getD c []).length + 1 := hq
  refine (congrFun (if_pos rfl) q).trans ?_
  exact qlk rfl hq'
 ·rw [if_neg hjc, if_neg hjc]
  refine ⟨Le.slc rfl (fun q hq => congrFun (if_neg hjc) q), trivial⟩
theorem jqg (m : Md) (hM : ModOk m) (s : Stt) (P E : Nat) (hf : qp m s = true) (h : jp m s ⟨0, P, E, 0⟩ = true) (ha : ((m.procs.getD P Pr.none).edges.getD E Ed.none).act = 2) : Con Tryz.prog 24 [m.av, s.av, (⟨0, P, E, 0⟩ : Mv).av] (qdi m s P ((m.procs.getD P Pr.none).edges.getD E Ed.none)).av := by
 have hs := qbw hM hf
 unfold jp at h
 rw [if_pos rfl, Bool.and_eq_true, Bool.and_eq_true] at h
 obtain ⟨h2, h3, h4⟩ := h
 have h3 := of_decide_eq_true h3
 simp only at h3
 have h5 : P < m.procs.length := by omega
 have h6 : E < (m.procs.getD P Pr.none).edges.length := by have := h3.2.2.2; rw [Int.toNat_natCast] at this; exact Int.ofNat_lt.1 this
 have hed : EdOk m.tree.length m.vars.length m.chans.length (m.procs.getD P Pr.none).places ((m.procs.getD P Pr.none).edges.getD E Ed.none) := edOk hM h5 h6
 have h4 : canB m s P ((m.procs.getD P Pr.none).edges.getD E Ed.none) = true := h4
 have hso := qlf hM.ok hf
 have hat : s.at_.length = m.procs.length := ((jj m s).1 hf).1.1
 have hex := hed.ex (.inr (.inl ha))
 have hch := hed.chn (.inl ha)
 have hto := hed.to
 have hcl := ((jj m s).1 hf).1.2.2.1
 have hT := qnt hM hf (p := P) hto (qnu h4)
 have hA : ∀ j, (if j = P then [iv ((m.procs.getD P Pr.none).edges.getD E Ed.none).to] else encL (fun n => [iv n]) 0 s.at_ j) = encL (fun n => [iv n]) 0 (s.at_.set P ((m.procs.getD P Pr.none).edges.getD E Ed.none).to) j := qbx (fun n => [iv n]) 0 s.at_ P ((m.procs.getD P Pr.none).edges.getD E Ed.none).to (by omega)
 refine qc (T := tab Tryz.prog) (C := {}) 300 (fun _ => rfl) Tryz.func24 rfl (by kernel_rfl) (by kernel_rfl) (fun c0 rdb => ?_)
 (repeat' ((conv => whnf); first | exact trivial))
 ((conv => whnf); refine qhv (fun _ => rfl) 300 [] (jdj s hs) (by kernel_rfl) leA qa (by exact qb rfl) (by exact qlj ⟨fun _ _ => rfl, trivial⟩) (by kernel_rfl) ?_)
 (repeat' ((conv => whnf); first | refine zO ?_ | refine Ob.auto ?_ | refine zC 300 (quz m hM.ok P s hso m.tree.length ((m.procs.getD P Pr.none).edges.getD E Ed.none).expr (by omega) (by omega) (Nat.sub_le _ _)) ?_ | refine zD 300 ?_ | (apply zB <;> intro hb <;> (try simp [-zd] at hb) <;> try (exfalso; omega))))
 ((conv => whnf); refine qaz (fun _ => rfl) (by kernel_rfl) 300 [.con (iv (trim (valN m P s m.tree.length ((m.procs.getD P Pr.none).edges.getD E Ed.none).expr).1 (m.chans.getD ((m.procs.getD P Pr.none).edges.getD E Ed.none).chn.toNat Ch.none).width))] (by kernel_rfl) ?_)
 have hcc : ((m.procs.getD P Pr.none).edges.getD E Ed.none).chn.toNat < s.chans.length := by omega
 have hl := hs.l _ (ql s.chans ((m.procs.getD P Pr.none).edges.getD E Ed.none).chn.toNat [] hcc)
 (repeat' ((conv => whnf); first | refine Ob.auto ?_ | (refine Ob.intro (by (first | exact ⟨by omega, by omega⟩ | exact ⟨_, qih (valN m P s m.tree.length ((m.procs.getD P Pr.none).edges.getD E Ed.none).expr).1 (m.chans.getD ((m.procs.getD P Pr.none).edges.getD E Ed.none).chn.toNat Ch.none).width, by rfl, LeL.refl _⟩)) ?_) | refine Ob.intro ?_ ?_ | fail))
 ·refine ⟨hcc, ⟨rfl, rfl⟩, show (s.chans.getD ((m.procs.getD P Pr.none).edges.getD E Ed.none).chn.toNat []).length + 1 ≤ _ by omega, ?_⟩
  refine Nat.le_trans (Nat.mul_le_mul_right _ (show (s.chans.getD ((m.procs.getD P Pr.none).edges.getD E Ed.none).chn.toNat []).length + 1 ≤ 4000001 by omega)) ?_
  dsimp only; decide +kernel
 ·exact ⟨⟨⟨rfl, rfl⟩, hcc⟩, hcc, by simp [upd], by simp [upd]⟩
 have hTe : qm m s P ((m.procs.getD P Pr.none).edges.getD E Ed.none) = ⟨s.at_.set P ((m.procs.getD P Pr.none).edges.getD E Ed.none).to, s.vars, s.chans.set ((m.procs.getD P Pr.none).edges.getD E Ed.none).chn.toNat (s.chans.getD ((m.procs.getD P Pr.none).edges.getD E Ed.none).chn.toNat [] ++ [trim (valN m P s m.tree.length ((m.procs.getD P Pr.none).edges.getD E Ed.none).expr).1 (m.chans.getD ((m.procs.getD P Pr.none).edges.getD E Ed.none).chn.toNat Ch.none).width]), -1⟩ := by
  unfold qm val; simp only; rw [if_neg (by omega), if_pos ha, if_neg (by omega)]
 (conv => whnf)
 refine qoc (fun _ => rfl) 300 (fun hg => qob m hM (qm m s P ((m.procs.getD P Pr.none).edges.getD E Ed.none)) hT P h5) (fun hg => ⟨fun _ => ?_, fun _ => ?_, fun _ => trivial, trivial⟩) (fun hg => And.intro (by exact Le.cnd hg) (And.intro (Le.trans (by exact Le.cnd hg) ?_) (And.intro (by exact Le.cnd hg) trivial))) (by rfl) (by kernel_rfl) ?_
 ·exact qfb
 ·refine ⟨⟨trivial, ⟨rfl, rfl⟩, trivial⟩, ⟨trivial, ⟨rfl, rfl⟩, trivial⟩, ⟨trivial, ⟨rfl, rfl⟩, fun k hk => ?_⟩, trivial, trivial⟩
  show allP _ (if k = ((m.procs.getD P Pr.none).edges.getD E Ed.none).chn.toNat then _ else _)
  by_cases hkc : k = ((m.procs.getD P Pr.none).edges.getD E Ed.none).chn.toNat
  ·rw [if_pos hkc]
   exact ⟨⟨hcc, ⟨(if_pos rfl).symm, (if_pos rfl).symm⟩, trivial⟩, trivial⟩
  ·rw [if_neg hkc]
   exact ⟨⟨hk, ⟨(if_neg hkc).symm, (if_neg hkc).symm⟩, trivial⟩, trivial⟩
 ·rw [hTe]
  exact Le.agg ⟨Le.slc (by simp) (fun j hj => hA j), Le.refl _, Le.slcL (by simp) (fun j hj => by
   rw [← qbx (fun c => [ints c]) [] s.chans ((m.procs.getD P Pr.none).edges.getD E Ed.none).chn.toNat _ hcc j]
   show LeL (List.map _ (if j = ((m.procs.getD P Pr.none).edges.getD E Ed.none).chn.toNat then _ else _)) _
   by_cases hjc : j = ((m.procs.getD P Pr.none).edges.getD E Ed.none).chn.toNat
   ·rw [if_pos hjc, if_pos hjc]
    refine ⟨Le.slc (show (s.chans.getD ((m.procs.getD P Pr.none).edges.getD E Ed.none).chn.toNat []).length + 1 = _ by rw [List.length_append, List.length_singleton]) (fun q hq => ?_), trivial⟩
    have hq' : q < (s.chans.getD ((m.procs.getD P Pr.none).edges.getD E Ed.none).chn.toNat []).length + 1 := hq
    refine (congrFun (if_pos rfl) q).trans ?_
    exact qlk rfl hq'
   ·rw [if_neg hjc, if_neg hjc]
    refine ⟨Le.slc rfl (fun q hq => congrFun (if_neg hjc) q), trivial⟩), Le.refl _, trivial⟩
 (repeat' ((conv => whnf); first | refine Ob.auto ?_ | (apply zB <;> intro hb <;> (try simp [-zd] at hb) <;> try (exfalso; omega)) | refine Ob.intro ?_ ?_ | fail))
 ·refine ⟨⟨trivial, ⟨rfl, rfl⟩, trivial⟩, ⟨trivial, ⟨rfl, rfl⟩, trivial⟩, ⟨trivial, ⟨rfl, rfl⟩, fun k hk => ?_⟩, trivial, trivial⟩
  show allP _ (if k = ((m.procs.getD P Pr.none).edges.getD E Ed.none).chn.toNat then _ else _)
  by_cases hkc : k = ((m.procs.getD P Pr.none).edges.getD E Ed.none).chn.toNat
  ·rw [if_pos hkc]
   exact ⟨⟨hcc, ⟨(if_pos rfl).symm, (if_pos rfl).symm⟩, trivial⟩, trivial⟩
  ·rw [if_neg hkc]
   exact ⟨⟨hk, ⟨(if_neg hkc).symm, (if_neg hkc).symm⟩, trivial⟩, trivial⟩
 ·refine Le.agg ⟨?_, ?_, ?_, Le.of_eq (congrArg (AV.int _) (if_pos hb).symm), trivial⟩
  ·show Le _ (ints (qm m s P ((m.procs.getD P Pr.none).edges.getD E Ed.none)).at_)
   rw [hTe]; exact Le.slc (by simp) (fun j hj => hA j)
  ·show Le _ (ints (qm m s P ((m.procs.getD P Pr.none).edges.getD E Ed.none)).vars)
   rw [hTe]; exact Le.refl _
  ·show Le _ (slcL (fun l => [ints l]) [] 1 (qm m s P ((m.procs.getD P Pr.none).edges.getD E Ed.none)).chans)
   rw [hTe]
   exact Le.slcL (by simp) (fun j hj => by
    rw [← qbx (fun c => [ints c]) [] s.chans ((m.procs.getD P Pr.none).edges.getD E Ed.none).chn.toNat _ hcc j]
    show LeL (List.map _ (if j = ((m.procs.getD P Pr.none).edges.getD E Ed.none).chn.toNat then _ else _)) _
    by_cases hjc : j = ((m.procs.getD P Pr.none).edges.getD E Ed.none).chn.toNat
    ·rw [if_pos hjc, if_pos hjc]
     refine ⟨Le.slc (show (s.chans.getD ((m.procs.getD P Pr.none).edges.getD E Ed.none).chn.toNat []).length + 1 = _ by rw [List.length_append, List.length_singleton]) (fun q hq => ?_), trivial⟩
     have hq' : q < (s.chans.getD ((m.procs.getD P Pr.none).edges.getD E Ed.none).chn.toNat []).length + 1 := hq
     refine (congrFun (if_pos rfl) q).trans ?_
     exact qlk rfl hq'
    ·rw [if_neg hjc, if_neg hjc]
     refine ⟨Le.slc rfl (fun q hq => congrFun (if_neg hjc) q), trivial⟩)
 ·refine ⟨⟨trivial, ⟨rfl, rfl⟩, trivial⟩, ⟨trivial, ⟨rfl, rfl⟩, trivial⟩, ⟨trivial, ⟨rfl, rfl⟩, fun k hk => ?_⟩, trivial, trivial⟩
  show allP _ (if k = ((m.procs.getD P Pr.none).edges.getD E Ed.none).chn.toNat then _ else _)
  by_cases hkc : k = ((m.procs.getD P Pr.none).edges.getD E Ed.none).chn.toNat
  ·rw [if_pos hkc]
   exact ⟨⟨hcc, ⟨(if_pos rfl).symm, (if_pos rfl).symm⟩, trivial⟩, trivial⟩
  ·rw [if_neg hkc]
   exact ⟨⟨hk, ⟨(if_neg hkc).symm, (if_neg hkc).symm⟩, trivial⟩, trivial⟩
 ·refine Le.agg ⟨?_, ?_, ?_, Le.of_eq (congrArg (AV.int _) (if_neg (fun h => by have := hb h.1; rw [h.2] at this; cases this)).symm), trivial⟩
  ·show Le _ (ints (qm m s P ((m.procs.getD P Pr.none).edges.getD E Ed.none)).at_)
   rw [hTe]; exact Le.slc (by simp) (fun j hj => hA j)
  ·show Le _ (ints (qm m s P ((m.procs.getD P Pr.none).edges.getD E Ed.none)).vars)
   rw [hTe]; exact Le.refl _
  ·show Le _ (slcL (fun l => [ints l]) [] 1 (qm m s P ((m.procs.getD P Pr.none).edges.getD E Ed.none)).chans)
   rw [hTe]
   exact Le.slcL (by simp) (fun j hj => by
    rw [← qbx (fun c => [ints c]) [] s.chans ((m.procs.getD P Pr.none).edges.getD E Ed.none).chn.toNat _ hcc j]
    show LeL (List.map _ (if j = ((m.procs.getD P Pr.none).edges.getD E Ed.none).chn.toNat then _ else _)) _
    by_cases hjc : j = ((m.procs.getD P Pr.none).edges.getD E Ed.none).chn.toNat
    ·rw [if_pos hjc, if_pos hjc]
     refine ⟨Le.slc (show (s.chans.getD ((m.procs.getD P Pr.none).edges.getD E Ed.none).chn.toNat []).length + 1 = _ by rw [List.length_append, List.length_singleton]) (fun q hq => ?_), trivial⟩
     have hq' : q < (s.chans.getD ((m.procs.getD P Pr.none).edges.getD E Ed.none).chn.toNat []).length + 1 := hq
     refine (congrFun (if_pos rfl) q).trans ?_
     exact qlk rfl hq'
    ·rw [if_neg hjc, if_neg hjc]
     refine ⟨Le.slc rfl (fun q hq => congrFun (if_neg hjc) q), trivial⟩)
theorem jdk (m : Md) (hM : ModOk m) (s : Stt) (v : Mv) (hf : qp m s = true) (h : jp m s v = true) : Con Tryz.prog 24 [m.av, s.av, v.av] (qbl m s v).av := by
 by_cases hk : v.kind = 1
 ·exact jqd m hM s v hf h hk
 ·have h' := h
  unfold jp at h
  split at h
  ·rename_i h0
   rw [Bool.and_eq_true, Bool.and_eq_true] at h
   obtain ⟨ha, hb, _⟩ := h
   have h2 := of_decide_eq_true ha
   have h3 := of_decide_eq_true hb
   clear ha hb
   obtain ⟨k, p, e, c⟩ := v
   simp only at h0 h2 h3
   obtain ⟨P, rfl⟩ := Int.eq_ofNat_of_zero_le h3.1
   obtain ⟨E, rfl⟩ := Int.eq_ofNat_of_zero_le h3.2.2.1
   obtain ⟨h2, _⟩ := h2
   subst h0 h2
   have hst : qbl m s ⟨0, P, E, 0⟩ = qdi m s P ((m.procs.getD P Pr.none).edges.getD E Ed.none) := rfl
   rw [hst]
   by_cases ha : ((m.procs.getD P Pr.none).edges.getD E Ed.none).act = 2
   ·exact jqg m hM s P E hf h' ha
   ·exact jqe m hM s P E hf h' ha
  ·split at h
   ·rename_i h0
    rw [Bool.and_eq_true] at h
    obtain ⟨ha, _⟩ := h
    have h2 := of_decide_eq_true ha
    clear ha
    obtain ⟨k, p, e, c⟩ := v
    simp only at h0 h2 hk
    obtain ⟨C, rfl⟩ := Int.eq_ofNat_of_zero_le h2.2.2.2.1
    obtain rfl : k = 2 := by omega
    obtain rfl : p = 0 := h2.2.1
    obtain rfl : e = 0 := h2.2.2.1
    exact jqf m hM s C hf h'
   ·cases h
end Go.Proofs.YtdoaagphhjggbaaGreat
end
section
/- Contract: the program's first state (for the seats without state.Same). -/
namespace Go.Proofs.YtdoaagphhjggbaaGreat
open Go Go.Sx Go.RowKit Go.St
set_option maxRecDepth 100000
set_option maxHeartbeats 2000000
theorem jqh (m : Md) (hm : MOk m) : Con Tryz.prog 26 [m.av] (jk m).av := by
 have hsz := hm.sz
 refine qc (T := tab Tryz.prog) (C := {}) 300 (fun _ => rfl) Tryz.func26 rfl (by kernel_rfl) (by kernel_rfl) (fun c0 rdb => ?_)
 (repeat' ((conv => whnf); first | refine zO ?_ | refine Ob.auto ?_ | (refine Ob.intro (by ((refine ⟨by omega, by omega, by omega, ?_⟩; dsimp only; refine Int.le_trans (Int.mul_le_mul_of_nonneg_right (?_ : _ ≤ (4000001 : Int)) (Int.natCast_nonneg _)) (by decide +kernel); omega))) ?_) | (refine zR 300 ?_) | fail))
 ((conv => whnf); refine qt (fun _ => rfl) 300 1 (fun i : Nat => [(22, iv i)]) (fun i => [(9, .row [] 3 1 0 m.vars.length (fun j => [if j < i then iv (m.vars.getD j Vr.none).value else iv 0]))]) (fun i => i ≤ m.vars.length) (fun i => m.vars.length - i) (0) (by omega) qa ⟨qbp (fun k _ => by kernel_rfl), trivial⟩ (fun _ => rfl) (by kernel_rfl) ?_; (conv => whnf))
 intro i hi
 (repeat' ((conv => whnf); first | refine Ob.auto ?_ | (apply zB <;> intro hb <;> (try simp [-List.getD_eq_getElem?_getD] at hb) <;> try (exfalso; omega))))
 ·((conv => whnf); refine ⟨i + 1, by omega, ⟨qa, qa⟩, ⟨qa, qa⟩, ?_⟩; (first | omega | (dsimp only; omega) | skip))
 ·obtain rfl : i = m.vars.length := by omega
  refine Le.agg ⟨Le.slc (by simp [jk]) (fun j hj => ?_), Le.slc (by simp [jk]) (fun j hj => ?_), Le.slcL (by simp [jk]) (fun j hj => ?_), Le.refl _, trivial⟩
  ·show _ = [iv ((jk m).at_.getD j 0)]
   rw [jk, qkt _ _ _ _ (by simpa using hj)]; kernel_rfl
  ·show [if j < m.vars.length then iv (m.vars.getD j Vr.none).value else iv 0] = [iv ((jk m).vars.getD j 0)]
   rw [if_pos (by simpa using hj), jk, qtd _ _ _ _ Vr.none (by simpa using hj)]
  ·show LeL [.nils] [ints ((jk m).chans.getD j [])]
   rw [jk, qkt _ _ _ _ (by simpa using hj)]
   exact ⟨Le.nils _ _, trivial⟩
end Go.Proofs.YtdoaagphhjggbaaGreat
end
section
/- The first values of a model's variables fit; so does its first state. Plain Lean. -/
namespace Go.St
open Go Go.Sx
def VFit (vs : List Vr) : Prop := ∀ v ∈ vs, trim v.value v.width = v.value
theorem VFit.snoc {vs : List Vr} {v : Vr} (h : VFit vs) (hv : trim v.value v.width = v.value) : VFit (vs ++ [v]) := fun u hu => by
 rcases List.mem_append.1 hu with hu | hu
 ·exact h u hu
 ·rw [List.mem_singleton] at hu
  rw [hu]; exact hv
theorem qod {α β : Type} {f : β → α → β} {P : β → Prop} : ∀ (l : List α) (b : β), (∀ a ∈ l, ∀ b, P b → P (f b a)) → P b → P (l.foldl f b)
 | [], _, _, h => h
 | a :: r, b, hf, h => qod r (f b a) (fun a' ha' => hf a' (List.mem_cons_of_mem _ ha')) (hf a (List.mem_cons_self ..) b h)
section
variable {l : List Nd} (ht : Tree l) (hw : ∀ i, i < l.length → qbb l i = 0)
include hw
theorem jdl {k : Int} (h0 : 0 ≤ k) (h1 : k < l.length) (h2 : (l.getD k.toNat Nd.none).kind = 2) : trim ((l.getD k.toNat Nd.none).nums.getD 1 0) ((l.getD k.toNat Nd.none).nums.getD 0 0) = (l.getD k.toNat Nd.none).nums.getD 1 0 := by
 have := hw k.toNat (by omega)
 unfold qbb at this
 rw [if_neg (by omega), if_pos h2] at this
 split at this
 ·omega
 ·rename_i hn
  exact Classical.byContradiction fun hc => hn (.inr (.inl hc))
include ht
theorem jqi (k : Int) (hk : k ∈ (l.getD 0 Nd.none).kids) (m : Md) (h : VFit m.vars) : VFit (qgm l m k).vars := by
 have hb := ht.kids 0 (by have := ht.len; omega) k hk
 unfold qgm
 simp only
 split
 ·exact h
 split
 ·exact h.snoc (jdl hw (by omega) hb.2 (by assumption))
 split
 ·exact h
 split <;> exact h
theorem jqj {n : Nat} (hn : n < l.length) (k : Int) (hk : k ∈ (l.getD n Nd.none).kids.take (varsN l (l.getD n Nd.none))) (x : Pr × List Vr) (h : VFit x.2) : VFit (qdt l x k).2 := by
 have hb := ht.kids n hn k (List.mem_of_mem_take hk)
 obtain ⟨i, hi, rfl⟩ := List.mem_iff_getElem.1 hk
 have hi' : i < varsN l (l.getD n Nd.none) := by rw [List.length_take] at hi; omega
 have h2 := (quf l (l.getD n Nd.none)).2 i hi'
 unfold qdt
 simp only
 refine h.snoc (jdl hw (by omega) hb.2 ?_)
 unfold kidK at h2
 rw [List.getElem_take]
 rw [List.getElem_take] at hb
 rw [List.getD_eq_getElem?_getD (l := (l.getD n Nd.none).kids), List.getElem?_eq_getElem (by rw [List.length_take] at hi; omega)] at h2
 exact h2
theorem jqk (cs : List Ch) {k : Int} (h0 : 0 ≤ k) (h1 : k < l.length) (seen : Nat) (c : Nat) (x : List Vr × List Pr) (h : VFit x.1) : VFit (qdh l cs k seen x c).1 := by
 unfold qdh
 simp only
 exact qod (P := fun y : Pr × List Vr => VFit y.2) _ _ (fun a ha b hb => jqj ht hw (n := k.toNat) (by omega) a ha b hb) h
theorem jql (cs : List Ch) (k : Int) (hk : k ∈ (l.getD 0 Nd.none).kids) (x : Nat × List Vr × List Pr) (h : VFit x.2.1) : VFit (qcj l cs x k).2.1 := by
 have hb := ht.kids 0 (by have := ht.len; omega) k hk
 unfold qcj
 simp only
 split
 ·exact qod (P := fun y : List Vr × List Pr => VFit y.1) _ _ (fun c _ b hb' => jqk ht hw cs (by omega) hb.2 _ c b hb') h
 ·exact h
theorem jqm : VFit (qep l).vars := by
 have h1 : VFit (qck l).vars := qod (P := fun m : Md => VFit m.vars) _ _ (fun k hk m hm => jqi ht hw k hk m hm) (fun v hv => by cases hv)
 unfold qep
 simp only
 exact qod (P := fun x : Nat × List Vr × List Pr => VFit x.2.1) _ _ (fun k hk x hx => jql ht hw _ k hk x hx) h1
end
theorem jqn {m : Md} (hm : MOk m) (hv : VFit m.vars) : qp m (jk m) = true := by
 refine (jj m _).2 ⟨⟨by simp [jk], by simp [jk], by simp [jk], by simp [jk], by simp only [jk]; omega⟩, fun i hi => ?_, fun i hi => ?_, fun i hi => ?_⟩
 ·have hi' : i < m.procs.length := by simpa [jk] using hi
  have hp := hm.place _ (ql m.procs i Pr.none hi')
  unfold qkq
  rw [jk, qkt _ _ _ _ hi']
  omega
 ·have hi' : i < m.vars.length := by simpa [jk] using hi
  unfold qkr
  rw [jk, qtd _ _ _ _ Vr.none hi']
  exact hv _ (ql m.vars i Vr.none hi')
 ·have hi' : i < m.chans.length := by simpa [jk] using hi
  have hc := hm.chan _ (ql m.chans i Ch.none hi')
  have hg : (jk m).chans.getD i [] = [] := by rw [jk, qkt _ _ _ _ hi']
  refine ⟨?_, fun k hk => ?_⟩
  ·unfold qia
   rw [hg]; exact hc.1
  ·rw [hg] at hk; simp at hk
end Go.St
end
